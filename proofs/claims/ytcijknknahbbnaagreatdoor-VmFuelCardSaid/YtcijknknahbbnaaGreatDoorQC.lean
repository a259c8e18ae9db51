/- Texts joined. -/
import Derived.Scope
import Derived.Test.YtcijknknahbbnaaGreatDoorQB
import Derived.Recover
import Derived.DataReads
import Derived.ChangeOld
import Derived.FnData
import Derived.MakeChecks
import Derived.OpenShut
import Derived.Shelf.Vars
/- Regions in their text's order, code, functions. -/
set_option linter.unusedSimpArgs false
set_option linter.unusedVariables false
namespace Go.Am
open Go Go.RowKit
theorem jE{P:Program}{ops:Array Oper}{Q Q':Exit→Act→World→Prop}(hq:∀e a w,Q e a w→Q' e a w):∀(l:List Oper) (a:Act) (w:World),wpList P ops Q l a w→wpList P ops Q' l a w
 | [],a,w,h=>hq _ _ _ h
 |o::l,a,w,h=>by
  unfold wpList at h⊢
  split
  ·rename_i hw
   rw[if_pos hw]at h
   rcases h with h| ⟨h1,a0,w0,h2⟩
   ·left
    unfold Oper.wp at h⊢
    generalize (execOp a.eval o).run P w=r at h⊢
    cases r with
    |ok n w'=>
     cases n<;>simp only[Oper.upon]at h⊢ <;>first|exact jE hq l _ _ h|exact h|skip
     ·refine h.mono fun e w'' he=>?_
      cases e with
      |returned v=>exact jE hq l _ _ he
      |panicked ch=>exact hq _ _ _ he
      |outgrown=>obtain⟨a1,w1,h1⟩:=he;exact⟨a1,w1,hq _ _ _ h1⟩
     ·exact h.mono fun v w'' hv=>jE hq l _ _ hv
    |halt x w'=>cases x<;>simp only[Oper.upon]at h⊢ <;>first|exact hq _ _ _ h|exact h
   ·exact .inr ⟨h1,a0,w0,hq _ _ _ h2⟩
  ·rename_i hw
   rw[if_neg hw]at h
   exact jE hq l _ _ h
theorem du0{β β':Bt}{S S' D:Pr}{H:Hp}{w w':World}{v:V}{u:Value}{us:List (Nat×Option Chunk)}(b:Bool)(hM:Mem β' S' D (n7 H us) w')(hd:den β' S' w' D v u)(hev:Evo β S w β' S' w'):
 ∃β2 S2,Mem β2 S2 D (n7 H (ev7 b v us)) w'∧den β2 S2 w' D (ew5 b H v us) u∧Evo β S w β2 S2 w'∧Hb β' β2 D:=by
 cases b with
 |false=>exact⟨β',S',hM,hd,hev,Hb.refl _ _⟩
 |true=>
  have hn:∀x∈nW v,x.2=none:=by
   intro x hx
   unfold nW at hx
   split at hx
   ·simp only[List.mem_singleton]at hx;subst hx;rfl
   ·cases hx
  obtain⟨g1,g2,g3⟩:=hM.drop (nW v) hn
  refine⟨_,_,by rw[ev7,if_pos rfl,mY];exact g1,?_,hev.trans g2,g3⟩
  rw[ew5,if_pos rfl]
  refine ab5 hM g3 (fun _ h=>.inl h) (fun i z o l b m e hb h0=>.inr ⟨i,m,?_,hb,h0⟩) hd
  subst e;simp[nW]
theorem yL {E : Env} {ca : h9} (hC : m6 E ca) (hX : SoundX E) {ops : List Oper} {base : Nat} : ∀ (l : List Oper) (i : Nat) (s : St) (k : KX) (r : Ans), hJ E ca ops base i l s k = some r →
 ∃ e s', k e s' = some r ∧ ∀ (β : Bt) (S D : Pr) (a : Act) (w : World), RelN E β S D (base + i * d7) s a w → wpList E.P ops.toArray (Post E β S w s e s') l a w
 | [], i, s, k, r, h => by
  simp only [hJ] at h
  refine ⟨_, _, h, fun β S D a w hR => ?_⟩
  exact ⟨⟨β, S, D, trivial, Rel.mk hR.fr hR.mem hR.df hR.lt hR.gl hR.rtD, Evo.refl _ _ _, (fun _ _ _ h => h), rfl, rfl⟩⟩
 | o :: l, i, s, k, r, h => by
  simp only [hJ] at h
  replace h := aw8 h
  obtain ⟨b, hb, hw⟩ := cp9 h
  -- the way on behind an operation
  have next : ∀ (v : V) (us : List (Nat × Option Chunk)) (k : KX) (r : Ans), hJ E ca ops base (i + 1) l { fr := lW s.fr o.dst v, H := n7 s.H us, nx := s.nx, rt := s.rt, me := s.me } k = some r →
   ∃ e s', k e s' = some r ∧ ∀ (β β' : Bt) (S S' D : Pr) (a : Act) (w w' : World) (u : Value), RelN E β S D (base + i * d7) s a w → Mem β' S' (kO D (base + i * d7)) (n7 s.H us) w' → den β' S' w' (kO D (base + i * d7)) v u → Evo β S w β' S' w' → Hb β β' D →
    wpList E.P ops.toArray (Post E β S w s e s') l (a.put o.dst u) w' := by
   intro v us k r h
   obtain ⟨e, s', h1, h2⟩ := yL hC hX l (i + 1) _ k r h
   refine ⟨e, s', h1, fun β β' S S' D a w w' u hR hM hd hev hHb => ?_⟩
   have hk := hev.kept hR.mem
   have := h2 β' S' (kO D (base + i * d7)) (a.put o.dst u) w' ⟨az1 (i5 hHb hev.sub (f8 _ _) hk _ _ hR.fr) hd, hM, by rw [wI]; exact hR.df, fun j hj => by
    rcases hj with hj | hj
    ·have := hR.lt j hj; rw [Nat.add_mul]; omega
    ·rw [Nat.add_mul]; omega, hR.gl.later hev.sub hk, fun j hj => .inl (hR.rtD j hj)⟩
   have hroots : nU s.rt β β' := fun j bm hj hb => by
    rcases hHb j (hR.rtD j hj) with e' | e'
    ·rw [← e']; exact hb
    ·rw [e'] at hb; cases hb
   exact jE (Q := Post E β' S' w' { fr := lW s.fr o.dst v, H := n7 s.H us, nx := s.nx, rt := s.rt, me := s.me } e s') (Q' := Post E β S w s e s') (fun e' a' w'' hp => Post.trans (s1 := { fr := lW s.fr o.dst v, H := n7 s.H us, nx := s.nx, rt := s.rt, me := s.me }) hev hroots rfl rfl hp) _ _ _ this
  cases b with
  | false =>
   simp only [Bool.false_eq_true, if_false, gP] at hb
   obtain ⟨e, s', h1, h2⟩ := next _ _ _ _ hb
   refine ⟨e, s', h1, fun β S D a w hR => ?_⟩
   unfold wpList
   rw [if_neg (by rw [hw β S D w a hR.fr]; simp)]
   exact h2 β β S S D a w w undef hR (hR.mem.mono (f8 _ _)) (by simp [den]) (Evo.refl _ _ _) (Hb.refl _ _)
  | true =>
   simp only [if_true] at hb
   obtain ⟨res, hk, hgood⟩ := em7 hb
   have hfresh : ∀ (β : Bt) (S D : Pr) (a : Act) (w : World), RelN E β S D (base + i * d7) s a w → ∀ j, base + i * d7 ≤ j → j < base + i * d7 + d7 → ¬ D j := fun β S D a w hR j h1 _ hj => by
    have := hR.lt j hj; omega
   have hg := fun (β : Bt) (S D : Pr) (a : Act) (w : World) (hR : RelN E β S D (base + i * d7) s a w) => hgood β S D a w hR.mem (hfresh β S D a w hR _ (Nat.le_refl _) (by simp [d7])) (fun x => at9 hR.fr hR.gl x)
   cases res with
   | val v us =>
    simp only [gP] at hk
    obtain ⟨e, s', h1, h2⟩ := next _ _ _ _ hk
    refine ⟨e, s', h1, fun β S D a w hR => ?_⟩
    obtain ⟨u, w', β0, S0, g1, g2, g3, g4, g5, _⟩ := hg β S D a w hR
    obtain ⟨β', S', l1, l2, l3, l4⟩ := du0 (E.lit s.me && cx6 o.op) g2 g3 g4
    have := h2 β β' S S' D a w w' u hR l1 l2 l3 (fun j hj => by
     rcases l4 j (f8 _ _ j hj) with e1 | e1
     ·rcases g5 j hj with e2 | e2
      ·exact .inl (e1.trans e2)
      ·exact .inr (e1.trans e2)
     ·exact .inr e1)
    unfold wpList
    rw [if_pos (hw β S D w a hR.fr)]
    left
    unfold Oper.wp
    rcases g1 with g1 | ⟨g1, rfl⟩
    ·rw [g1]; exact this
    ·rw [g1]; exact this
   | pan v us =>
    simp only at hk
    refine ⟨_, _, hk, fun β S D a w hR => ?_⟩
    obtain ⟨rfl, u, g1, g2, g3⟩ := hg β S D a w hR
    unfold wpList
    rw [if_pos (hw β S D w a hR.fr)]
    left
    unfold Oper.wp
    rw [g1]
    exact ⟨⟨β, S, D, ⟨u, rfl, g2, m8 (fun _ h => h) (fun _ _ => rfl) _ _ g2 g3⟩, Rel.mk hR.fr hR.mem hR.df hR.lt hR.gl hR.rtD, Evo.refl _ _ _, (fun _ _ _ h => h), rfl, rfl⟩⟩
   | call f args =>
    simp only at hk
    obtain ⟨res2, hk2, hcall⟩ := ak5 hC hX hk
    cases res2 with
    | val v us =>
     simp only [gP] at hk2
     obtain ⟨e, s', h1, h2⟩ := next _ _ _ _ hk2
     refine ⟨e, s', h1, fun β S D a w hR => ?_⟩
     obtain ⟨cs, g1, g2⟩ := hg β S D a w hR
     obtain ⟨c1, c2⟩ := hcall β S D w hR.mem hR.gl (hfresh β S D a w hR)
     unfold wpList
     rw [if_pos (hw β S D w a hR.fr)]
     left
     unfold Oper.wp
     rw [g1 c1]
     refine (c2 cs g2).mono ?_
     rintro e' w' ⟨u, β', S', rfl, q1, q2, q3, q4, _⟩
     exact h2 β β' S S' D a w w' u hR q1 q2 q3 q4
    | pan v us =>
     simp only at hk2
     refine ⟨_, _, hk2, fun β S D a w hR => ?_⟩
     obtain ⟨cs, g1, g2⟩ := hg β S D a w hR
     obtain ⟨c1, c2⟩ := hcall β S D w hR.mem hR.gl (hfresh β S D a w hR)
     unfold wpList
     rw [if_pos (hw β S D w a hR.fr)]
     left
     unfold Oper.wp
     rw [g1 c1]
     refine (c2 cs g2).mono ?_
     rintro e' w' ⟨u, β', S', rfl, q1, q2, q3, q4, q5, _⟩
     have hk := q3.kept hR.mem
     exact ⟨⟨β', S', D, ⟨u, rfl, q1, q2⟩, Rel.mk (i5 q5 q3.sub (fun _ h => h) hk _ _ hR.fr) q4 hR.df hR.lt (hR.gl.later q3.sub hk) hR.rtD, q3, (fun j bm hj hb => by
      rcases q5 j (hR.rtD j hj) with e' | e'
      ·rw [← e']; exact hb
      ·rw [e'] at hb; cases hb), rfl, rfl⟩⟩
    | call _ _ => simp only at hk2; cases hk2
    | dfr _ _ => simp only at hk2; cases hk2
   | dfr f cs =>
    simp only at hk
    split at hk
    case h_2 => cases hk
    rename_i hdf
    simp only [Bool.and_eq_true, beq_iff_eq] at hdf
    rw [gP] at hk
    obtain ⟨e, s', h1, h2⟩ := yL hC hX l (i + 1) _ k r hk
    refine ⟨e, s', h1, fun β S D a w hR => ?_⟩
    obtain ⟨us, g1, g2⟩ := hg β S D a w hR
    unfold wpList
    rw [if_pos (hw β S D w a hR.fr)]
    left
    unfold Oper.wp
    rw [g1]
    have hdd : Dfs E s.me ({ target := .fn (.func f) us.toArray, args := #[] } :: a.defers) := by
     refine ⟨fun hf => (by rw [hf] at hdf; cases hdf.1), fun d hd => ?_, fun hk => (by rw [hk] at hdf; cases hdf.2.2)⟩
     rcases List.mem_cons.1 hd with rfl | hd
     ·exact ⟨f, us.toArray, by rw [List.size_toArray, g2]; exact hdf.2.1, rfl⟩
     ·exact hR.df.2.1 d hd
    have hrel : RelN E β S D (base + (i + 1) * d7) { fr := lW s.fr o.dst (.sc undef), H := n7 s.H [], nx := s.nx, rt := s.rt, me := s.me } ({ a with defers := { target := .fn (.func f) us.toArray, args := #[] } :: a.defers }.put o.dst undef) w :=
     ⟨az1 (a := { a with defers := { target := .fn (.func f) us.toArray, args := #[] } :: a.defers }) hR.fr (by simp [den]), hR.mem, by rw [wI]; exact hdd, fun j hj => by have := hR.lt j hj; rw [Nat.add_mul]; omega, hR.gl, hR.rtD⟩
    rw [Oper.upon_defer]
    exact jE (Q := Post E β S w { fr := lW s.fr o.dst (.sc undef), H := n7 s.H [], nx := s.nx, rt := s.rt, me := s.me } e s') (Q' := Post E β S w s e s') (fun _ _ _ hp => ⟨hp.ex⟩) _ _ _ (h2 β S D _ w hrel)
def Ends(E:Env)(c:ACode)(s:St)(e:Ex)(s':St):Prop:=∀β S D a w,Rel E β S D s a w→c.erase.wp E.P (Post E β S w s e s') a w
theorem mQ{E:Env}{β:Bt}{S:Pr}{w:World}{s s':St}{e':Exit}{a':Act}{w':World}(h:Post E β S w s .normal s' e' a' w'):
 e'= .normal∧∃β' S' D',Rel E β' S' D' s' a' w'∧Evo β S w β' S' w'∧nU s.rt β β'∧s'.rt=s.rt∧s'.me=s.me:=by
 obtain⟨β',S',D',h1,h2,h3,h4,h5,h6⟩:=h.ex
 cases e'<;>simp only[ExR]at h1
 exact⟨rfl,β',S',D',h2,h3,h4,h5,h6⟩
theorem cu0{E:Env}{β:Bt}{S:Pr}{w:World}{s s':St}{e:Ex}{a':Act}{w':World}(he:e≠ .normal)(h:Post E β S w s e s' .normal a' w'):False:=by
 obtain⟨β',S',D',h1,_⟩:=h.ex
 cases e<;>simp only[ExR]at h1
 exact he rfl
theorem br4{E:Env}{on:Bool}{c:Operand}{b:Bool}{s:St}{k:St→Option Ans}(hb:evA E s.fr c= .sc (.bool b)):zL on c b s k=k s:=by
 unfold zL
 split
 ·split
  ·rename_i t
   rw[setK_eq]
   have hv:s.fr.getD t .junk= .sc (.bool b):=hb
   have hq:s.fr[t]? =some (.sc (.bool b)):=by
    cases hq:s.fr[t]?with
    |none=>simp[List.getD,hq]at hv
    |some q=>simp only[List.getD,hq,Option.getD_some]at hv;rw[hv]
   have hs:s.fr.set t (.sc (.bool b))=s.fr:=by
    apply List.ext_getElem?
    intro n
    by_cases hn:n=t
    ·subst hn
     have hl:n<s.fr.length:=(List.getElem?_eq_some_iff.1 hq).1
     rw[List.getElem?_set_self hl,hq]
    ·rw[List.getElem?_set_ne (fun e=>hn e.symm)]
   rw[hs]
  ·rfl
 ·rfl
theorem bB{E:Env}{ca:h9}{lo:f7}(hC:m6 E ca)(hX:SoundX E)(hL:p7 E lo):∀(c:ACode) (s:St) (k:KX) (r:Ans),aA E ca lo c s k=some r→∃e s',k e s'=some r∧Ends E c s e s'
 | .skip,s,k,r,h=>⟨_,_,h,fun β S D a w hR=>wp_skip ⟨⟨β,S,D,trivial,hR,Evo.refl _ _ _,(fun _ _ _ h=>h),rfl,rfl⟩⟩⟩
 | .ret,s,k,r,h=>⟨_,_,h,fun β S D a w hR=>wp_ret ⟨⟨β,S,D,trivial,hR,Evo.refl _ _ _,(fun _ _ _ h=>h),rfl,rfl⟩⟩⟩
 | .exit id,s,k,r,h=>⟨_,_,h,fun β S D a w hR=>wp_exit ⟨⟨β,S,D,rfl,hR,Evo.refl _ _ _,(fun _ _ _ h=>h),rfl,rfl⟩⟩⟩
 | .no _,s,k,r,h=>by simp[aA]at h
 | .label l,s,k,r,h=>⟨_,_,h,fun β S D a w hR=>wp_label ⟨⟨β,S,D,trivial,hR,Evo.refl _ _ _,(fun _ _ _ h=>h),rfl,rfl⟩⟩⟩
 | .scope c,s,k,r,h=>by
  simp only[aA]at h
  obtain⟨e,s',h1,h2⟩:=bB hC hX hL c s k r h
  refine⟨e,s',h1,fun β S D a w hR=>wp_scope_straight (wp_mono (h2 β S D a w hR) fun e' a' w' hp=>?_)⟩
  obtain⟨β',S',D',q1,q2⟩:=hp.ex
  cases e' with
  |goto l=>cases e<;>simp only[ExR]at q1
  |_=>exact⟨⟨β',S',D',q1,q2⟩⟩
 | .region id ops d,s,k,r,h=>by
  simp only[aA]at h
  split at h
  ·rename_i hd
   subst hd
   split at h
   ·rename_i hok
    rw[uR]at h
    obtain⟨e,s',h1,h2,h3,h4⟩:=cz7 (id:=id) hC hX hok h
    refine⟨e,s',h1,fun β S D a w hR=>h4 β S D a w ⟨hR.fr,hR.mem,hR.df,hR.lt,hR.gl,hR.rtD⟩ _ fun β' S' D' e' a' w' q0 q1 q2 q3=>?_⟩
    exact⟨⟨β',S',D',q0,Rel.mk q1.fr q1.mem q1.df q1.lt q1.gl q1.rtD,q2,q3,h2,h3⟩⟩
   ·cases h
  ·rename_i hd
   have hd':d=false:=by cases d<;>simp_all
   subst hd'
   obtain⟨e,s',h1,h2⟩:=yL hC hX ops 0 s k r h
   refine⟨e,s',h1,fun β S D a w hR=>wp_region_lit (h2 β S D a w ⟨hR.fr,hR.mem,hR.df,fun i hi=>by have:=hR.lt i hi;omega,hR.gl,hR.rtD⟩)⟩
 | .seq x y,s,k,r,h=>by
  simp only[aA]at h
  obtain⟨e,s',h1,h2⟩:=bB hC hX hL x s _ r h
  by_cases he:e= .normal
  ·subst he
   simp only at h1
   obtain⟨e2,s2,h3,h4⟩:=bB hC hX hL y s' k r h1
   refine⟨e2,s2,h3,fun β S D a w hR=>wp_seq (wp_mono (h2 β S D a w hR) fun e' a' w' hp=>?_)⟩
   obtain⟨rfl,β',S',D',g1,g2,g3,g4,g5⟩:=mQ hp
   exact wp_mono (h4 β' S' D' a' w' g1) fun _ _ _ hp=>Post.trans g2 g3 g4 g5 hp
  ·have h1':k e s'=some r:=by
    split at h1
    ·exact absurd rfl he
    ·exact h1
   refine⟨e,s',h1',fun β S D a w hR=>wp_seq (wp_mono (h2 β S D a w hR) fun e' a' w' hp=>?_)⟩
   cases e' with
   |normal=>exact(cu0 he hp).elim
   |_=>exact hp
 | .cond c x y,s,k,r,h=>by
  simp only[aA]at h
  split at h
  ·rename_i b hb
   have hc:=fun(β:Bt) (S D:Pr) (a:Act) (w:World) (hR:Rel E β S D s a w)=>at9 hR.fr hR.gl c
   rw[hb]at hc
   simp only[den]at hc
   split at h
   ·rename_i hbt
    subst hbt
    rw[br4 hb]at h
    obtain⟨e,s',h1,h2⟩:=bB hC hX hL x s k r h
    exact⟨e,s',h1,fun β S D a w hR=>wp_cond_true (hc β S D a w hR) (h2 β S D a w hR)⟩
   ·rename_i hbt
    have hbf:b=false:=by simpa using hbt
    subst hbf
    rw[br4 hb]at h
    obtain⟨e,s',h1,h2⟩:=bB hC hX hL y s k r h
    exact⟨e,s',h1,fun β S D a w hR=>wp_cond_false (hc β S D a w hR) (h2 β S D a w hR)⟩
  ·cases h
 | .block id c,s,k,r,h=>by
  simp only[aA]at h
  obtain⟨e,s',h1,h2⟩:=bB hC hX hL c s _ r h
  have key:∀e2,(∀(β:Bt) (S:Pr) (w:World) (e':Exit) (a':Act) (w':World),Post E β S w s e s' e' a' w'→Exit.inBlock id (Post E β S w s e2 s') e' a' w')→Ends E (.block id c) s e2 s':=
   fun e2 hh β S D a w hR=>wp_block (wp_mono (h2 β S D a w hR) fun e' a' w' hp=>hh β S w e' a' w' hp)
  cases e with
  |exit j=>
   simp only at h1
   split at h1
   ·rename_i hj
    subst hj
    refine⟨_,_,h1,key _ fun β S w e' a' w' hp=>?_⟩
    obtain⟨β',S',D',q1,q2,q3,q4,q5,q6⟩:=hp.ex
    cases e'<;>simp only[ExR]at q1
    subst q1
    simp only[Exit.inBlock,if_true]
    exact⟨⟨β',S',D',trivial,q2,q3,q4,q5,q6⟩⟩
   ·rename_i hj
    refine⟨_,_,h1,key _ fun β S w e' a' w' hp=>?_⟩
    obtain⟨β',S',D',q1,q2⟩:=hp.ex
    cases e'<;>simp only[ExR]at q1
    subst q1
    simp only[Exit.inBlock,if_neg hj]
    exact hp
  |normal=>
   refine⟨_,_,h1,key _ fun β S w e' a' w' hp=>?_⟩
   obtain⟨rfl,_⟩:=mQ hp
   exact hp
  |ret=>
   refine⟨_,_,h1,key _ fun β S w e' a' w' hp=>?_⟩
   obtain⟨β',S',D',q1,q2⟩:=hp.ex
   cases e'<;>simp only[ExR]at q1
   exact hp
  |panic v=>
   refine⟨_,_,h1,key _ fun β S w e' a' w' hp=>?_⟩
   obtain⟨β',S',D',q1,q2⟩:=hp.ex
   cases e'<;>simp only[ExR]at q1
   exact hp
 | .loop id live c,s,k,r,h=>by
  simp only[aA]at h
  rw[uE]at h
  obtain⟨e,s',h1,h2⟩:=hL _ _ _ _ _ _ h
  refine⟨e,s',h1,fun β S D a w hR=>?_⟩
  obtain⟨β',D',q1,q2,q3⟩:=aa4 hR live
  refine bg5 (fun b kk cs=>?_)
  obtain⟨ee,aa,ww,qq,rr⟩:=h2 β' S D' a w q1 b kk cs
  exact⟨ee,aa,ww,Post.trans (s1:=as1 live s) q2 q3 rfl rfl qq,rr⟩
theorem eM{E:Env}{ca:h9}{lo:f7}(hC:m6 E ca)(hX:SoundX E)(hL:p7 E lo){id live:Nat}{c:ACode}{s:St}{k:KX}{r:Ans}(h:r9 E ca lo id live c s k=some r):∃e s',k e s'=some r∧SL E c s e s':=by
 simp only[r9]at h
 obtain⟨e,s1,h1,h2⟩:=bB hC hX hL c s _ r h
 by_cases he:e= .normal
 ·subst he
  simp only[uE]at h1
  obtain⟨e2,s2,h3,h4⟩:=hL _ _ _ _ _ _ h1
  refine⟨e2,s2,h3,fun β S D a w hR=>bc3 (wp_mono (h2 β S D a w hR) fun e' a' w' hp=>?_)⟩
  obtain⟨rfl,β',S',D',g1,g2,g3,g4,g5⟩:=mQ hp
  obtain⟨β'',D'',q1,q2,q3⟩:=aa4 g1 live
  intro b kk cs
  obtain⟨ee,aa,ww,qq,rr⟩:=h4 β'' S' D'' a' w' q1 b kk cs
  exact⟨ee,aa,ww,Post.trans g2 g3 g4 g5 (Post.trans (s1:=as1 live s1) q2 q3 rfl rfl qq),rr⟩
 ·have h1':k e s1=some r:=by
   split at h1
   ·exact absurd rfl he
   ·exact h1
  refine⟨e,s1,h1',fun β S D a w hR=>bc3 (wp_mono (h2 β S D a w hR) fun e' a' w' hp=>?_)⟩
  cases e' with
  |normal=>exact(cu0 he hp).elim
  |_=>exact hp
end Go.Am
/- Functions: what a run of the executor says of a call in the model. -/
namespace Go.Am
open Go Go.RowKit
def eg0(P:Program)(g:FuncId)(n:Nat):Prop:=∀(us:Array Value) (w:World),us.size=n→(callFunc g us).run P w= .ok (.enter g us) w∧CallsD P g us .returning w fun e u' w'=>(∃v,e= .returned v)∧u'= .returning∧Below w.heap.size w w'
theorem cs9{w w' w'':World}(h:Below w.heap.size w w')(g:Below w'.heap.size w' w''):Below w.heap.size w w'':=
 ⟨g.os.trans h.os,g.tape.trans h.tape,g.output.trans h.output,Nat.le_trans h.size g.size,fun b hb=>(g.block b (Nat.lt_of_lt_of_le hb h.size)).trans (h.block b hb)⟩
theorem de1(w:World):Below w.heap.size w w:=⟨rfl,rfl,rfl,Nat.le_refl _,fun _ _=>rfl⟩
theorem cg1{E:Env}(hI:∀g n,E.idle g=some n→eg0 E.P g n){fn:Func}{tmps:Array Value}{R:Ending→World→Prop}:
 ∀(ds:List Deferred) (w:World),(∀w',Below w.heap.size w w'→∃v,(results fn tmps).run E.P w'= .ok v w'∧R (.returned v) w')→(∀d,d∈ds→∃(g:FuncId) (us:Array Value),E.idle g=some us.size∧d={target:=.fn (.func g) us,args:=#[]})→Leaves E.P fn tmps R ds .returning w:=by
 intro ds
 induction ds with
 |nil=>intro w hR _;exact hR w (de1 w)
 |cons d ds ih=>
  intro w hR h
  obtain⟨g,us,h1,rfl⟩:=h d (.head _)
  obtain⟨h2,h3⟩:=hI g us.size h1 us w rfl
  refine leaves_cons (f:=g) (args:=us) (by simp) (by simpa[invoke]using h2) (h3.mono ?_)
  rintro e u' w' ⟨⟨v',rfl⟩,rfl,hb⟩
  exact ih w' (fun w'' hb'=>hR w'' (cs9 hb hb')) fun d hd=>h d (.tail _ hd)
theorem Rel.below{E:Env}{β:Bt}{S D:Pr}{s:St}{a:Act}{w w':World}(h:Rel E β S D s a w)(hb:Below w.heap.size w w'):Rel E β S D s a w':=
 have hk:Kept S w w':=fun b hs=>hb.block b (h.mem.st b hs)
 Rel.mk (i5 (fun _ _=>.inl rfl) (fun _ h=>h) (fun _ h=>h) hk _ _ h.fr) (h.mem.below hb) h.df h.lt (h.gl.later (fun _ h=>h) hk) h.rtD
def WF (E : Env) : Prop := ((∀ g n, E.idle g = some n → eg0 E.P g n) ∧ E.dok = true) ∧ ∀ f c, E.code f = some c → ∃ fn, E.P.funcs[f]? = some fn ∧ fn.body = some c.erase ∧ fn.name ≠ "runtime.NumGoroutine"
def de9(tmps:Array Value)(r0:ResultVar):Sem Value:=
 match r0 with
 | .tmp t=>pure (tmps.getD t undef)
 | .cell q t=>do loadVar t (←asAddr (tmps.getD q undef))
theorem bf2(fn:Func)(tmps:Array Value):results fn tmps=(do let vs ←fn.results.mapM (de9 tmps);pure (if h:vs.size=1 then vs[0]else .tuple vs)):=rfl
section
variable {E:Env} {β:Bt} {S D:Pr} {w:World}
theorem dz7{s:St}{r0:ResultVar}{k:V→Option Ans}{r:Ans}(h:fe2 E s r0 k=some r):∃v,k v=some r∧∀(β:Bt) (S D:Pr) (a:Act) (w:World),Rel E β S D s a w→
 ∃u,(de9 a.tmps r0).run E.P w= .ok u w∧den β S w D v u:=by
 unfold fe2 at h
 split at h
 ·rename_i t
  refine⟨_,h,fun β S D a w hR=>⟨a.tmps.getD t undef,rfl,?_⟩⟩
  have:=dR hR.fr t
  simpa using this
 ·rename_i t ty
  split at h
  ·rename_i i o hp
   split at h
   ·rename_i cs hi
    split at h
    ·rename_i v hv
     refine⟨v,h,fun β S D a w hR=>?_⟩
     have hd:=dR hR.fr t
     rw[hp]at hd
     obtain⟨b,m,hb,hr⟩:=hR.mem.live i _ hi
     simp only[b5]at hr
     obtain⟨_,us,T,h1,h2,h3⟩:=hr
     simp only[den]at hd
     have hu:=hd.2 b m hb
     have hu':a.tmps.getD t undef= .pointer (some ⟨b,o,none⟩):=by simpa using hu
     obtain⟨y,hy1,hy2⟩:=yE (p:=⟨b,o,none⟩) hv h2 h3 (fun i x hx=>by rw[dN,cell_of_row w b (o+i) _ _ _ h1];simpa using hx)
     refine⟨y,?_,hy2⟩
     simp only[de9]
     rw[hu']
     simp[asAddr,hy1]
    ·cases h
   ·cases h
  ·cases h
theorem af7{s:St}:∀(rs:List ResultVar) {k:List V→Option Ans} {r:Ans},bg3 E s rs k=some r→∃vs,k vs=some r∧∀(β:Bt) (S D:Pr) (a:Act) (w:World),Rel E β S D s a w→
 ∃us:List Value,(rs.mapM (de9 a.tmps)).run E.P w= .ok us w∧b7 β S w D vs us
 | [],k,r,h=>⟨_,h,fun β S D a w hR=>⟨[],rfl,by simp[b7]⟩⟩
 |r0::rs,k,r,h=>by
  simp only[bg3]at h
  obtain⟨v,h1,h2⟩:=dz7 h
  obtain⟨vs,h3,h4⟩:=af7 rs h1
  refine⟨v::vs,h3,fun β S D a w hR=>?_⟩
  obtain⟨u,g1,g2⟩:=h2 β S D a w hR
  obtain⟨us,g3,g4⟩:=h4 β S D a w hR
  refine⟨u::us,?_,by simp only[b7];exact⟨u,us,rfl,g2,g4⟩⟩
  rw[List.mapM_cons,Sem.run_bind,g1,Result.andThen_ok,Sem.run_bind,g3]
  rfl
theorem cs1{vs:List V}{us:List Value}(h:b7 β S w D vs us):den β S w D (one1 vs) (if h:us.toArray.size=1 then us.toArray[0]else .tuple us.toArray):=by
 have hl:=m9 h
 unfold one1
 split
 ·rename_i v
  simp only[b7]at h
  obtain⟨x,xs,rfl,h1,rfl⟩:=h
  simpa using h1
 ·rename_i hne
  have:¬us.toArray.size=1:=by
   intro h1
   simp only[List.size_toArray]at h1
   rw[h1]at hl
   obtain⟨v,rfl⟩:=List.length_eq_one_iff.1 hl
   exact hne v rfl
  rw[dif_neg this]
  simp only[den]
  exact⟨us,rfl,h⟩
theorem zF {ca : h9} {lo : f7} (hW : WF E) (hC : m6 E ca) (hX : SoundX E) (hL : p7 E lo) {f : FuncId} {args : List V} {L : List (Option Chunk)} {k : CRes → Option Ans} {r : Ans}
 (h : j8 E ca lo f args L k = some r) : ∃ cr, k cr = some r ∧ SC E f args L cr := by
 unfold j8 at h
 split at h
 ·rename_i c hc
  obtain ⟨fn, hf, hb, hname⟩ := hW.2 f c hc
  simp only [hf, nI] at h
  split at h
  ·rename_i hrt
   obtain ⟨e, s', h1, h2⟩ := bB hC hX hL c _ _ r h
   have hcal : gQ E.P f := ⟨fn, hf, by rw [hb]; rfl, hname⟩
   -- the state at the beginning
   have hstart : ∀ (β : Bt) (S : Pr) (w : World) (us : List Value), b7 β S w (· < L.length) args us → Mem β S (· < L.length) (hp L) w → Glob E S w →
    Rel E β S (· < L.length) { fr := args ++ List.replicate (fn.ntmps - args.length) (.sc undef), H := hp L, nx := L.length, rt := (z6 E.allR (Am.hp L) args).length, me := f } { tmps := us.toArray ++ Array.replicate (fn.ntmps - us.toArray.size) undef, defers := [] } w := by
    intro β S w us hus hm hg
    refine ⟨?_, hm, ⟨fun _ => rfl, fun d hd => (by cases hd), fun hk => (by rw [hW.1.2] at hk; cases hk)⟩, fun i hi => hi, hg, fun i hi => Nat.lt_of_lt_of_le hi hrt⟩
    have hl := m9 hus
    simp only [Array.toList_append, Array.toList_replicate]
    refine aO hus ?_
    rw [List.size_toArray, ← hl]
    have := gT (β := β) (S := S) (w := w) (D := (· < L.length)) (f := fun _ : Nat => V.sc undef) (g := fun _ => undef) (l := List.range (fn.ntmps - args.length)) (fun _ _ => by simp [den])
    simpa [List.map_const'] using this
   have hend : ∀ (e : Ex) (s' : St), (e = .normal ∨ e = .ret) → Ends E c { fr := args ++ List.replicate (fn.ntmps - args.length) (.sc undef), H := hp L, nx := L.length, rt := (z6 E.allR (Am.hp L) args).length, me := f } e s' →
    (bg3 E s' fn.results.toList fun vs => bx1 s' (one1 vs) k) = some r → ∃ cr, k cr = some r ∧ SC E f args L cr := by
    intro e s' he h2 h1
    obtain ⟨vs, h3, h4⟩ := af7 _ h1
    simp only [bx1, uR, cj6, bd6] at h3
    refine ⟨_, h3, hcal, fun β S w us hus hm hg => calls_of_wp_defers hf hb (wp_mono (h2 β S _ _ w (hstart β S w us hus hm hg)) fun e' a' w' hp => ?_)⟩
    obtain ⟨β', S', D', q1, q2, q3, q4, q5, q6⟩ := hp.ex
    have hrel : Rel E β' S' D' s' a' w' := by rcases he with rfl | rfl <;> exact q2
    have hroots := q4
    have hbody : ∀ w2, Below w'.heap.size w' w2 → ∃ v, (results fn a'.tmps).run E.P w2 = .ok v w2 ∧ xL β S w (z6 E.allR (Am.hp L) args).length
     (.ret ((one1 vs).ren (gN (cC s'.H oT (cW s'.H (List.range s'.rt) ++ (one1 vs).ids) (List.range s'.rt)))) (keep s'.H (cC s'.H oT (cW s'.H (List.range s'.rt) ++ (one1 vs).ids) (List.range s'.rt)))) (.returned v) w2 := by
     intro w2 hbw
     have hrel := hrel.below hbw
     have q3 := q3.trans (Evo.below hbw)
     obtain ⟨rs, g1, g2⟩ := h4 β' S' D' a' w2 hrel
     refine ⟨(if h : rs.toArray.size = 1 then rs.toArray[0] else .tuple rs.toArray), ?_, ?_⟩
     ·have hrun : (fn.results.mapM (de9 a'.tmps)).run E.P w2 = .ok rs.toArray w2 := by
       rw [Array.mapM_eq_mapM_toList, Sem.run_map, g1]
       rfl
      rw [bf2, Sem.run_bind, hrun]
      rfl
     ·obtain ⟨hn, ex, hex⟩ := iN s'.H oT (cW s'.H (List.range s'.rt) ++ (one1 vs).ids) (List.range s'.rt) List.nodup_range
      generalize cC s'.H oT (cW s'.H (List.range s'.rt) ++ (one1 vs).ids) (List.range s'.rt) = order at *
      simp only [xL]
      have hlen : (keep s'.H order).length = order.length := by simp [keep]
      rw [hlen]
      refine ⟨_, ofOrder β' order, S', rfl, hrel.mem.renum hn, az2 ab1 _ _ (cs1 g2), ?_, ?_⟩
      ·exact q3.trans ⟨rfl, rfl, rfl, Nat.le_refl _, fun _ _ _ => rfl, fun _ h => h, fun _ h => .inl h, fun i b m hb h0 => by
        obtain ⟨j, _, hj⟩ := m5 hb
        exact .inr ⟨j, m, h0, hj⟩⟩
      ·intro i bm hi hb
       have hi' : i < s'.rt := by rw [q5]; exact hi
       have hio : order[i]? = some i := by
        rw [hex, List.getElem?_append, if_pos (by simpa using hi')]
        simp [hi']
       unfold ofOrder at hb
       rw [hio] at hb
       exact hroots i bm hi hb
    have hleave : Leaves E.P fn a'.tmps (xL β S w (z6 E.allR (Am.hp L) args).length (.ret ((one1 vs).ren (gN (cC s'.H oT (cW s'.H (List.range s'.rt) ++ (one1 vs).ids) (List.range s'.rt)))) (keep s'.H (cC s'.H oT (cW s'.H (List.range s'.rt) ++ (one1 vs).ids) (List.range s'.rt))))) a'.defers .returning w' := by
     exact cg1 hW.1.1 _ _ hbody hrel.df.2.1
    rcases he with rfl | rfl
    ·cases e' <;> simp only [ExR] at q1
     exact hleave
    ·cases e' <;> simp only [ExR] at q1
     exact hleave
   unfold eh8 at h1
   split at h1
   ·exact hend _ _ (.inl rfl) h2 h1
   ·exact hend _ _ (.inr rfl) h2 h1
   ·rename_i v
    split at h1
    ·cases h1
    rename_i hdn
    refine ⟨_, h1, hcal, fun β S w us hus hm hg => calls_of_wp_defers hf hb (wp_mono (h2 β S _ _ w (hstart β S w us hus hm hg)) fun e' a' w' hp => ?_)⟩
    obtain ⟨β', S', D', q1, q2, q3, q4, q5, q6⟩ := hp.ex
    cases e' <;> simp only [ExR] at q1
    obtain ⟨u, rfl, g1, g2⟩ := q1
    show Leaves E.P fn a'.tmps _ a'.defers (.panicking _) w'
    rw [q2.df.1 hdn]
    exact ⟨u, β', S', rfl, g1, g2, q3, q2.mem.st⟩
   ·cases h1
  ·cases h
 ·cases h
end
end Go.Am
/- Tables; closed runs; laws. -/
namespace Go.Am
open Go Go.RowKit
theorem dl4{E:Env}(hW:WF E)(hX:SoundX E):∀n,m6 E (am0 E n)∧p7 E (av4 E n)
 |0=>⟨fun f args L k r h=>by simp[am0]at h,fun id live c s k r h=>by simp[av4]at h⟩
 |n+1=>by
  obtain⟨h1,h2⟩:=dl4 hW hX n
  constructor
  ·intro f args L k r h
   simp only[am0]at h
   split at h
   ·rename_i cr hc
    obtain⟨cr',e1,e2⟩:=zF hW h1 hX h2 hc
    simp only[Option.some.injEq,Ans.c.injEq]at e1
    subst e1
    exact⟨_,h,e2⟩
   ·cases h
  ·intro id live c s k r h
   simp only[av4]at h
   split at h
   ·rename_i e s' hc
    obtain⟨e',s'',e1,e2⟩:=eM h1 hX h2 hc
    simp only[Option.some.injEq,Ans.l.injEq]at e1
    obtain⟨rfl,rfl⟩:=e1
    exact⟨_,_,h,e2⟩
   ·cases h
theorem SC.closed{E:Env}(hW:WF E)(hX:SoundX E)(n:Nat){f:FuncId}{args:List V}{L:List (Option Chunk)}{cr:CRes}(h:am0 E n f args L (fun r=>some (.c r))=some (.c cr)):SC E f args L cr:=by
 obtain⟨cr',e1,e2⟩:=(dl4 hW hX n).1 _ _ _ _ _ h
 simp only[Option.some.injEq,Ans.c.injEq]at e1
 rwa [e1]at e2
theorem SC.of{E:Env}(hW:WF E)(hX:SoundX E){ca:h9}{lo:f7}(hC:m6 E ca)(hL:p7 E lo){f:FuncId}{args:List V}{L:List (Option Chunk)}{cr:CRes}(h:j8 E ca lo f args L (fun r=>some (.c r))=some (.c cr)):SC E f args L cr:=by
 obtain⟨cr',e1,e2⟩:=zF hW hC hX hL h
 simp only[Option.some.injEq,Ans.c.injEq]at e1
 rwa [e1]at e2
theorem SL.of{E:Env}(hX:SoundX E){ca:h9}{lo:f7}(hC:m6 E ca)(hL:p7 E lo){id live:Nat}{c:ACode}{s s':St}{e:Ex}(h:r9 E ca lo id live c s (fun e s=>some (.l e s))=some (.l e s')):SL E c s e s':=by
 obtain⟨e1,s1,h1,h2⟩:=eM hC hX hL h
 simp only[Option.some.injEq,Ans.l.injEq]at h1
 obtain⟨rfl,rfl⟩:=h1
 exact h2
theorem Glob.none{E:Env}(hG:∀g,E.glob g=Option.none)(hI:E.inv=[])(S:Pr)(w:World):Glob E S w:=
 ⟨fun g cs hg=>(by rw[hG g]at hg;cases hg),fun p hp=>(by rw[hI]at hp;cases hp)⟩
theorem SC.law{E:Env}{f:FuncId}{args:List V}(h:SC E f args [] (.ret (.sc (.bool true)) [])){w:World}(hG:Glob E (· <w.heap.size) w){us:List Value}(hd:b7 (fun _=>Option.none) (· <w.heap.size) w (fun _=>False) args us):
 Calls E.P f us.toArray w fun e w'=>e= .returned (.bool true)∧Below w.heap.size w w':=by
 have hmem:Mem (fun _=>Option.none) (· <w.heap.size) (fun i=>i< ([]:List (Option Chunk)).length) (hp []) w:=
  ⟨fun i c hc=>(by simp[hp]at hc),fun _ _=>rfl,fun i b m h=>(by cases h),fun i b m h=>(by cases h),fun i j b m m' h=>(by cases h),fun b hb=>hb⟩
 refine(h.2 (fun _=>Option.none) (· <w.heap.size) w us ?_ hmem hG).mono ?_
 ·have:(fun i:Nat=>i< ([]:List (Option Chunk)).length)=fun _=>False:=by funext i;simp
  rw[this];exact hd
 ·rintro e w' ⟨u,β',S',rfl,g1,g2,g3,g4⟩
  simp only[den]at g2
  subst g2
  exact⟨rfl,kL g3⟩
end Go.Am
/- The annotated code is the code; environments without own knowledge. -/
namespace Go.Am
open Go
theorem iT(res:Nat):∀(c:Code) (b0 l:Nat) (env:List (Nat×Nat)),(ann res c b0 l env).erase=c
 | .skip,_,_,_=>by simp[ann,ACode.erase]
 | .region _ ops _,_,_,_=>by simp[ann,ACode.erase]
 | .seq a b,b0,l,env=>by simp[ann,tQ,ACode.erase,iT res a,iT res b]
 | .cond c x y,b0,l,env=>by simp[ann,tQ,ACode.erase,iT res x,iT res y]
 | .block id c,_,l,env=>by simp[ann,tQ,ACode.erase,iT res c]
 | .loop c,b0,l,env=>by simp[ann,tQ,ACode.erase,iT res c]
 | .exit _,_,_,_=>by simp[ann,ACode.erase]
 | .ret,_,_,_=>by simp[ann,ACode.erase]
 | .rangeFunc ..,_,_,_=>by simp[ann,ACode.erase]
 | .scope c,b0,l,env=>by simp[ann,ACode.erase,iT res c]
 | .label _,_,_,_=>by simp[ann,ACode.erase]
 | .goto _,_,_,_=>by simp[ann,ACode.erase]
 | .refuse _,_,_,_=>by simp[ann,ACode.erase]
theorem WF.of (E : Env) (hc : ∀ f, E.code f = (E.P.funcs[f]?).bind eq2) (hn : E.P.funcs.toList.all (fun fn => fn.name != "runtime.NumGoroutine") = true) (hd : ∀ g n, E.idle g = some n → eg0 E.P g n := by intro g n h; cases h) (hk : E.dok = true := by rfl) : WF E := by
  refine ⟨⟨hd, hk⟩, ?_⟩
  intro f c h
  rw [hc] at h
  cases hf : E.P.funcs[f]? with
  | none => rw [hf] at h; cases h
  | some fn =>
    rw [hf] at h
    simp only [Option.bind_some, eq2] at h
    cases hb : fn.body with
    | none => rw [hb] at h; cases h
    | some b =>
      rw [hb] at h
      simp only [Option.map_some, Option.some.injEq] at h
      refine ⟨fn, rfl, ?_, ?_⟩
      · rw [hb, ← h, iT]
      · have := List.all_eq_true.1 hn fn (by rw [← Array.getElem?_toList] at hf; exact List.mem_of_getElem? hf)
        simpa using this
def rG(m:Nat→Nat):Code→Nat→ACode
 | .skip,_=>.skip
 | .region id ops d,_=>.region id ops.toList d
 | .seq a b,b0=>.seq (rG m a b0) (rG m b b0)
 | .cond c x y,b0=>.cond c (rG m x b0) (rG m y b0)
 | .block id c,_=>.block id (rG m c id)
 | .loop c,b0=>sG (m b0) fun h=>.loop b0 h (rG m c b0)
 | .exit id,_=>.exit id
 | .ret,_=>.ret
 | .scope c,b0=>.scope (rG m c b0)
 | .label l,_=>.label l
 |c,_=>.no c
theorem fF(m:Nat→Nat):∀(c:Code) (b0:Nat),(rG m c b0).erase=c
 | .skip,_=>by simp[rG,ACode.erase]
 | .region _ ops _,_=>by simp[rG,ACode.erase]
 | .seq a b,b0=>by simp[rG,ACode.erase,fF m a,fF m b]
 | .cond c x y,b0=>by simp[rG,ACode.erase,fF m x,fF m y]
 | .block id c,_=>by simp[rG,ACode.erase,fF m c]
 | .loop c,b0=>by simp[rG,tQ,ACode.erase,fF m c]
 | .exit _,_=>by simp[rG,ACode.erase]
 | .ret,_=>by simp[rG,ACode.erase]
 | .rangeFunc ..,_=>by simp[rG,ACode.erase]
 | .scope c,b0=>by simp[rG,ACode.erase,fF m c]
 | .label _,_=>by simp[rG,ACode.erase]
 | .goto _,_=>by simp[rG,ACode.erase]
 | .refuse _,_=>by simp[rG,ACode.erase]
def fc9:List (Nat×List (Nat×Nat))→Nat→Nat→Nat
 | [],_,_=>0
 | (g,l)::t,f,i=>match Nat.beq g f with|true=>ez7 l i|false=>fc9 t f i
def dl1(T:List (Nat×List (Nat×Nat)))(P:Program)(f:Nat):Option ACode:=match P.funcs[f]?with|some fn=>(match fn.body with|some c=>some (rG (fc9 T f) c 0) |none=>none) |none=>none
theorem WF.ofL (E : Env) (T : List (Nat × List (Nat × Nat))) (hc : E.code = dl1 T E.P) (hn : E.P.funcs.toList.all (fun fn => fn.name != "runtime.NumGoroutine") = true) (hd : ∀ g n, E.idle g = some n → eg0 E.P g n := by intro g n h; cases h) (hk : E.dok = true := by rfl) : WF E := by
  refine ⟨⟨hd, hk⟩, ?_⟩
  intro f c h
  rw [hc] at h
  unfold dl1 at h
  split at h
  · rename_i fn hf
    split at h
    · rename_i b hb
      cases h
      refine ⟨fn, hf, ?_, ?_⟩
      · rw [hb, fF]
      · have := List.all_eq_true.1 hn fn (by rw [← Array.getElem?_toList] at hf; exact List.mem_of_getElem? hf)
        simpa using this
    · cases h
  · cases h
theorem SoundX.none{E:Env}(h:∀f args,E.ext f args=Option.none):SoundX E:=by
 intro f args v hv
 rw[h]at hv
 cases hv
mutual
def wX(E:Env):Nat→h9
 |0=>fun _ _ _ _=>Option.none
 |n+1=>j8 E (wX E n) (cf7 E n)
def cf7(E:Env):Nat→f7
 |0=>fun _ _ _ _ _=>Option.none
 |n+1=>r9 E (wX E n) (cf7 E n)
end
theorem vV{E:Env}(hW:WF E)(hX:SoundX E):∀n,m6 E (wX E n)∧p7 E (cf7 E n)
 |0=>⟨fun f args L k r h=>by simp[wX]at h,fun id live c s k r h=>by simp[cf7]at h⟩
 |n+1=>by
  obtain⟨h1,h2⟩:=vV hW hX n
  constructor
  ·intro f args L k r h
   rw[wX]at h
   exact zF hW h1 hX h2 h
  ·intro id live c s k r h
   rw[cf7]at h
   exact eM h1 hX h2 h
end Go.Am
/- What comes in, by its type: an argument's reading gives an abstract value that fits. -/
namespace Go.Am
open Go Go.RowKit
def Cat:List (List V→Prop)→List V→Prop
 | [],vs=>vs=[]
 |p::ps,vs=>∃a b,vs=a++b∧p a∧Cat ps b
def WT(P:Program):Nat→TypeId→List V→Prop
 |0,_,_=>False
 |d+1,t,vs=>match P.underlying t with
  |some .bool=>∃b,vs=[.sc (.bool b)]
  |some (.int k)=>∃n,vs=[.sc (.int k n)]∧(Lit.int k n).wf=true
  |some .string=>∃s,vs=[.sc (.string s)]∧s.size≤Go.maxLen
  |some (.slice e)=>0<P.cellsOf e→∃n f,vs=[.ro (P.cellsOf e) n f]∧n≤Go.maxLen∧∀j,j<n→WT P d e (f j)
  |some (.struct fs)=>Cat (fs.toList.map fun f=>WT P d f.type) vs
  |some (.array n e)=>Cat ((List.replicate n e).map fun e=>WT P d e) vs
  |_=>True
def WTV(P:Program)(t:TypeId)(v:V):Prop:=
 ∃d,match P.underlying t with
  |some (.struct _)=>∃vs,v= .agg vs∧WT P d t vs
  |some (.array _ _)=>∃vs,v= .agg vs∧WT P d t vs
  |_=>WT P d t [v]
def tY(P:Program):List Field→Nat→Option Nat
 | [],o=>some o
 |f::fs,o=>if f.offset=o∧f.type<P.types.size then tY P fs (o+P.cellsOf f.type)else none
def bo2(P:Program):Bool:=(List.range P.types.size).all fun t=>match P.underlying t with
 |some (.struct fs)=>tY P fs.toList 0==some (P.cellsOf t)
 |some (.array n e)=>P.cellsOf t==n*P.cellsOf e&&decide (e<P.types.size)
 |some (.slice e)=>decide (e<P.types.size)
 |_=>true
abbrev DB:Bt:=fun _=>none
abbrev DD:Pr:=fun _=>False
theorem am9{α β:Type}{f:α→Option β}:∀{l:List α} {ys:List β},l.mapM f=some ys→∀x∈l,∃y,f x=some y
 | [],_,_,x,hx=>by cases hx
 |a::l,ys,h,x,hx=>by
  rw[List.mapM_cons]at h
  cases ha:f a with
  |none=>rw[ha]at h;simp at h
  |some y=>
   rw[ha]at h
   cases hl:l.mapM f with
   |none=>rw[hl]at h;simp at h
   |some zs=>
    rcases List.mem_cons.1 hx with e|e
    ·subst e;exact⟨y,ha⟩
    ·exact am9 hl x e
structure Gd(S:Pr)(w:World)(vs:List V)(us:List Value):Prop where
 den:b7 DB S w DD vs us
 pure:j7 vs=true
 one:us.all Value.oneCell'=true
theorem cr5{β:Bt}{S D:Pr}{w:World}:∀{as bs:List V} {us vs:List Value},b7 β S w D as us→b7 β S w D bs vs→b7 β S w D (as++bs) (us++vs)
 | [],bs,us,vs,h,g=>by simp only[b7]at h;subst h;exact g
 |a::as,bs,us,vs,h,g=>by
  simp only[b7]at h
  obtain⟨x,xs,rfl,h1,h2⟩:=h
  simp only[List.cons_append,b7]
  exact⟨x,_,rfl,h1,cr5 h2 g⟩
theorem bp9:∀{as bs:List V},j7 as=true→j7 bs=true→j7 (as++bs)=true
 | [],bs,_,g=>g
 |a::as,bs,h,g=>by
  simp only[j7,Bool.and_eq_true,List.cons_append]at h⊢
  exact⟨h.1,bp9 h.2 g⟩
theorem Gd.app{S:Pr}{w:World}{as bs:List V}{us vs:List Value}(h:Gd S w as us)(g:Gd S w bs vs):Gd S w (as++bs) (us++vs):=
 ⟨cr5 h.den g.den,bp9 h.pure g.pure,by rw[List.all_append,h.one,g.one];rfl⟩
theorem Gd.nil{S:Pr}{w:World}:Gd S w [] []:=⟨by simp[b7],rfl,rfl⟩
theorem Gd.one1{S:Pr}{w:World}{u:Value}(h:u.oneCell'=true):Gd S w [.sc u] [u]:=⟨by simp[b7,Am.den],rfl,by simp[h]⟩
theorem bl2{S:Pr}{w:World}{cs:List Value}{n:Nat}{p:List V→Prop}(hn:n≤cs.length)(h:∃vs,Gd S w vs (cs.take n)∧p vs){ps:List (List V→Prop)}(g:∃vs,Gd S w vs (cs.drop n)∧Cat ps vs):
 ∃vs,Gd S w vs cs∧Cat (p::ps) vs:=by
 obtain⟨a,ha,pa⟩:=h
 obtain⟨b,hb,pb⟩:=g
 exact⟨a++b,by have:=ha.app hb;rwa [List.take_append_drop]at this,a,b,rfl,pa,pb⟩
theorem db4{H:Type}{enc:TypeId×Value→H}{P:Program}{w:World}{sp:Nat→Bool}{held:Bool}(hp:bo2 P=true):
 ∀(d:Nat) (t:TypeId) (cs:List Value) (x:DataW H×List MemPlace),t<P.types.size→DataW.trod enc P w 0 sp held d t cs=some x→∃vs,Gd (· <w.heap.size) w vs cs∧WT P d t vs:=by
 intro d
 induction d with
 |zero=>intro t cs x _ h;simp[DataW.trod]at h
 |succ d ih=>
  intro t cs x ht h
  have fields:∀(fs:List Field) (o m:Nat) (cs:List Value) (ys:List (DataW H×List MemPlace)),tY P fs o=some m→cs.length=m→
   fs.mapM (fun f=>DataW.trod enc P w 0 sp held d f.type ((cs.drop f.offset).take (P.cellsOf f.type)))=some ys→
   ∃vs,Gd (· <w.heap.size) w vs (cs.drop o)∧Cat (fs.map fun f=>WT P d f.type) vs:=by
   intro fs
   induction fs with
   |nil=>
    intro o m cs ys hp hl _
    simp only[tY,Option.some.injEq]at hp
    subst hp
    refine⟨[],?_,rfl⟩
    rw[List.drop_of_length_le (by omega)]
    exact Gd.nil
   |cons f fs ihf=>
    intro o m cs ys hp hl hm
    simp only[tY]at hp
    split at hp
    ·rename_i ho
     obtain⟨ho,hft⟩:=ho
     obtain⟨y,hy⟩:=am9 hm f (.head _)
     rw[List.mapM_cons,hy]at hm
     have hle:o+P.cellsOf f.type≤m:=by
      have:∀(l:List Field) (o m:Nat),tY P l o=some m→o≤m:=by
       intro l
       induction l with
       |nil=>intro o m h;simp only[tY,Option.some.injEq]at h;omega
       |cons g l ih=>intro o m h;simp only[tY]at h;split at h;have:=ih _ _ h;omega;cases h
      exact this _ _ _ hp
     refine bl2 (n:=P.cellsOf f.type) (by simp only[List.length_drop];omega) ?_ ?_
     ·rw[ho]at hy
      exact ih _ _ _ hft hy
     ·cases hl':fs.mapM (fun f=>DataW.trod enc P w 0 sp held d f.type ((cs.drop f.offset).take (P.cellsOf f.type)))with
      |none=>rw[hl']at hm;simp at hm
      |some zs=>
       rw[List.drop_drop]
       exact ihf _ _ _ _ hp hl hl'
    ·cases hp
  have items:∀(n:Nat) (e:TypeId) (cs:List Value),e<P.types.size→cs.length=n*P.cellsOf e→
   (∀i,i<n→∃y,DataW.trod enc P w 0 sp held d e ((cs.drop (i*P.cellsOf e)).take (P.cellsOf e))=some y)→
   ∃vs,Gd (· <w.heap.size) w vs cs∧Cat ((List.replicate n e).map fun e=>WT P d e) vs:=by
   intro n
   induction n with
   |zero=>
    intro e cs _ hl _
    have:cs=[]:=List.length_eq_zero_iff.1 (by omega)
    subst this
    exact⟨[],Gd.nil,rfl⟩
   |succ n ihn=>
    intro e cs het hl h
    simp only[List.replicate_succ,List.map_cons]
    refine bl2 (n:=P.cellsOf e) (by rw[hl,Nat.add_mul];omega) ?_ ?_
    ·obtain⟨y,hy⟩:=h 0 (by omega)
     simp only[Nat.zero_mul,List.drop_zero]at hy
     exact ih _ _ _ het hy
    ·refine ihn e _ het (by rw[List.length_drop,hl,Nat.add_mul];omega) fun i hi=>?_
     obtain⟨y,hy⟩:=h (i+1) (by omega)
     refine⟨y,?_⟩
     rw[List.drop_drop,show P.cellsOf e+i*P.cellsOf e=(i+1)*P.cellsOf e by rw[Nat.add_mul];omega]
     exact hy
  have hpk:∀x,P.underlying t=some x→(match(some x:Option TypeDesc)with
   |some (.struct fs)=>tY P fs.toList 0==some (P.cellsOf t)
   |some (.array n e)=>P.cellsOf t==n*P.cellsOf e&&decide (e<P.types.size)
   |some (.slice e)=>decide (e<P.types.size)
   |_=>true)=true:=by
   intro x hx
   have:=List.all_eq_true.1 hp t (by simp only[List.mem_range];exact ht)
   rwa [hx]at this
  unfold DataW.trod at h
  unfold WT
  split at h
  ·rename_i b hu;rw[hu];exact⟨_,Gd.one1 rfl,_,rfl⟩
  ·rename_i k k' n hu
   rw[hu]
   split at h
   ·rename_i hc;obtain⟨rfl,hw⟩:=hc;exact⟨_,Gd.one1 rfl,_,rfl,hw⟩
   ·cases h
  ·rename_i hu;rw[hu];exact⟨_,Gd.one1 rfl,trivial⟩
  ·rename_i s hu
   rw[hu]
   split at h
   ·rename_i hc;exact⟨_,Gd.one1 rfl,_,rfl,hc⟩
   ·cases h
  ·rename_i hu;rw[hu];exact⟨_,Gd.one1 rfl,trivial⟩
  ·rename_i hu;rw[hu];exact⟨_,Gd.one1 rfl,trivial⟩
  ·rename_i e hu
   rw[hu]
   by_cases he:0<P.cellsOf e
   ·refine⟨[.ro (P.cellsOf e) 0 (fun _=>[])],⟨?_,rfl,rfl⟩,fun _=>⟨0,_,rfl,Nat.zero_le _,fun j hj=>absurd hj (Nat.not_lt_zero _)⟩⟩
    simp only[b7,Am.den]
    exact⟨_,_,rfl,⟨Nat.zero_le _,none,0,⟨0,0,none⟩,fun _=>[],rfl,Nat.le_refl _,fun h=>absurd h (Nat.lt_irrefl _),fun j hj=>absurd hj (Nat.not_lt_zero _)⟩,rfl⟩
   ·exact⟨_,Gd.one1 rfl,fun h=>absurd h he⟩
  ·rename_i e a len cap hu
   rw[hu]
   by_cases he:0<P.cellsOf e
   ·simp only at h
    split at h
    ·rename_i hc
     obtain⟨_,h1,h2⟩:=hc
     cases hm:(List.range len).mapM (fun i=>(w.cells? 0 (a.add (i*P.cellsOf e)) (P.cellsOf e)).bind (DataW.trod enc P w 0 sp held d e))with
     |none=>rw[hm]at h;simp at h
     |some zs=>
      have key:∀j,j<len→∃(vs:List V) (us:List Value),Gd (· <w.heap.size) w vs us∧WT P d e vs∧us.length=P.cellsOf e∧a.block<w.heap.size∧∀i x,us[i]? =some x→w.cell? (a.add (j*P.cellsOf e+i))=some x:=by
       intro j hj
       obtain⟨y,hy⟩:=am9 hm j (by simpa using hj)
       cases hcs:w.cells? 0 (a.add (j*P.cellsOf e)) (P.cellsOf e)with
       |none=>rw[hcs]at hy;simp at hy
       |some us=>
        rw[hcs]at hy
        obtain⟨vs,g1,g2⟩:=ih _ _ _ (by simpa using hpk _ hu) hy
        obtain⟨_,q1,q2⟩:=World.cells?_some hcs
        have hb:=World.cells?_block hcs he
        rw[dV]at hb
        refine⟨vs,us,g1,g2,q1,hb,fun i x hx=>?_⟩
        have hi:i<P.cellsOf e:=by
         rcases Nat.lt_or_ge i us.length with g|g
         ·omega
         ·rw[List.getElem?_eq_none g]at hx;cases hx
        rw[←zD,q2 i hi,hx]
      let f:Nat→List V:=fun j=>if hj:j<len then Classical.choose (key j hj)else[]
      let us:Nat→List Value:=fun j=>if hj:j<len then Classical.choose (Classical.choose_spec (key j hj))else[]
      have hf:∀j,j<len→Gd (· <w.heap.size) w (f j) (us j)∧WT P d e (f j)∧(us j).length=P.cellsOf e∧a.block<w.heap.size∧∀i x,(us j)[i]? =some x→w.cell? (a.add (j*P.cellsOf e+i))=some x:=by
       intro j hj
       have:=Classical.choose_spec (Classical.choose_spec (key j hj))
       simp only[f,us,hj,dif_pos]
       exact this
      refine⟨[.ro (P.cellsOf e) len f],⟨?_,rfl,rfl⟩,fun _=>⟨len,f,rfl,Nat.le_trans h1 h2,fun j hj=>(hf j hj).2.1⟩⟩
      simp only[b7,Am.den]
      refine⟨_,_,rfl,⟨Nat.le_trans h1 h2,some a,cap,a,us,rfl,h1,fun h0=>⟨rfl,(hf 0 h0).2.2.2.1⟩,fun j hj=>?_⟩,rfl⟩
      obtain⟨g1,g2,g3,g4,g5⟩:=hf j hj
      exact⟨g1.den,g1.pure,g3,g1.one,g5⟩
    ·cases h
   ·exact⟨_,Gd.one1 rfl,fun h=>absurd h he⟩
  ·rename_i cs _x c2 fs hu
   rw[hu]
   split at h
   ·rename_i hc
    have hk:=hpk _ hu
    simp only[beq_iff_eq]at hk
    cases hm:fs.toList.mapM (fun f=>DataW.trod enc P w 0 sp held d f.type ((cs.drop f.offset).take (P.cellsOf f.type)))with
    |none=>rw[hm]at h;simp at h
    |some ys=>have:=fields _ _ _ _ _ hk hc hm;simpa using this
   ·cases h
  ·rename_i cs _x c2 n e hu
   rw[hu]
   split at h
   ·rename_i hc
    have hk:=hpk _ hu
    simp only[Bool.and_eq_true,beq_iff_eq,decide_eq_true_eq]at hk
    cases hm:(List.range n).mapM (fun i=>DataW.trod enc P w 0 sp held d e ((cs.drop (i*P.cellsOf e)).take (P.cellsOf e)))with
    |none=>rw[hm]at h;simp at h
    |some ys=>exact items _ _ _ hk.2 (by rw[hc,hk.1]) fun i hi=>am9 hm i (by simpa using hi)
   ·cases h
  all_goals first
   | (cases h;done)
   | (rename_i hu;rw[hu];exact⟨_,Gd.one1 rfl,trivial⟩)
   |skip
theorem da7{P:Program}{W:World}{base:Nat}{t:TypeId}{v:Value}(h:Value.okWide P W .any base t v):
 (∃fs,P.underlying t=some (.struct fs)∧∃cs,v= .agg cs)∨(∃n e,P.underlying t=some (.array n e)∧∃cs,v= .agg cs)∨
 ((∀fs,P.underlying t≠some (.struct fs))∧(∀n e,P.underlying t≠some (.array n e))∧v.cells.toList=[v]):=by
 unfold Value.okWide at h
 split at h
 ·rename_i fs hu
  obtain⟨cs,rfl,_⟩:=h
  exact .inl ⟨fs,hu,cs,rfl⟩
 ·rename_i n e hu
  obtain⟨cs,rfl,_⟩:=h
  exact .inr (.inl ⟨n,e,hu,cs,rfl⟩)
 ·rename_i h1 h2
  refine .inr (.inr ⟨h1,h2,?_⟩)
  cases v with
  |agg cs=>
   exfalso
   unfold Cell.okWide at h
   split at h<;>first| (rename_i hv;cases hv;done) | (unfold Cell.ok at h;split at h<;>first| (rename_i hv;cases hv;done) |exact h|skip) |skip
   all_goals simp_all
  |_=>rfl
theorem bf9{H:Type}{enc:TypeId×Value→H}{P:Program}{w:World}{sp:Nat→Bool}{held:Bool}(hp:bo2 P=true){t:TypeId}(ht:t<P.types.size){v:Value}{base:Nat}(hok:Value.okWide P w .any base t v)
 {x:DataW H} {ps:List MemPlace} (h:DataW.Trod enc P w 0 sp held t v x ps):∃y:V,den DB (· <w.heap.size) w DD y v∧WTV P t y:=by
 obtain⟨d,hd⟩:=h
 obtain⟨vs,g,hw⟩:=db4 hp d t _ _ ht hd
 rcases da7 hok with⟨fs,hu,cs,rfl⟩ | ⟨n,e,hu,cs,rfl⟩ | ⟨h1,h2,hv⟩
 ·refine⟨.agg vs,?_,d,?_⟩
  ·simp only[Am.den]
   exact⟨cs.toList,rfl,g.den,g.one⟩
  ·rw[hu];exact⟨vs,rfl,hw⟩
 ·refine⟨.agg vs,?_,d,?_⟩
  ·simp only[Am.den]
   exact⟨cs.toList,rfl,g.den,g.one⟩
  ·rw[hu];exact⟨vs,rfl,hw⟩
 ·rw[hv]at g
  have hl:=g.den
  cases vs with
  |nil=>simp[b7]at hl
  |cons y ys=>
   simp only[b7]at hl
   obtain⟨a,b,e1,e2,e3⟩:=hl
   simp only[List.cons.injEq]at e1
   obtain⟨rfl,rfl⟩:=e1
   cases ys with
   |cons z zs=>simp[b7]at e3
   |nil=>
    refine⟨y,e2,d,?_⟩
    split
    ·rename_i fs hu;exact absurd hu (h1 _)
    ·rename_i n e hu;exact absurd hu (h2 _ _)
    ·exact hw
def Le(v v':V):Prop:=∀β S w D u,den β S w D v u→den β S w D v' u
def LeL(a b:List V):Prop:=∀β S w D us,b7 β S w D a us→b7 β S w D b us
theorem Le.refl(v:V):Le v v:=fun _ _ _ _ _ h=>h
theorem LeL.refl(v:List V):LeL v v:=fun _ _ _ _ _ h=>h
theorem LeL.cons{v v':V}{l l':List V}(h:Le v v')(g:LeL l l'):LeL (v::l) (v'::l'):=by
 intro β S w D us hd
 simp only[b7]at hd⊢
 obtain⟨x,xs,rfl,h1,h2⟩:=hd
 exact⟨x,xs,rfl,h _ _ _ _ _ h1,g _ _ _ _ _ h2⟩
theorem Le.agg{a b:List V}(h:LeL a b):Le (.agg a) (.agg b):=by
 intro β S w D u hd
 simp only[Am.den]at hd⊢
 obtain⟨us,h1,h2,h3⟩:=hd
 exact⟨us,h1,h _ _ _ _ _ h2,h3⟩
theorem Le.ro{k n:Nat}{f g:Nat→List V}(h:∀j,j<n→LeL (f j) (g j)∧j7 (g j)=true):Le (.ro k n f) (.ro k n g):=by
 intro β S w D u hd
 simp only[Am.den]at hd⊢
 obtain⟨h0,A,m,a,us,h1,h2,h3,h4⟩:=hd
 refine⟨h0,A,m,a,us,h1,h2,h3,fun j hj=>?_⟩
 obtain⟨g1,g2,g3,g4,g5⟩:=h4 j hj
 exact⟨(h j hj).1 _ _ _ _ _ g1,(h j hj).2,g3,g4,g5⟩
theorem Le.ro_eq{k n:Nat}{f g:Nat→List V}(h:∀j,j<n→f j=g j∧j7 (g j)=true):Le (.ro k n f) (.ro k n g):=
 Le.ro fun j hj=>⟨by rw[(h j hj).1];exact LeL.refl _,(h j hj).2⟩
def inR(a:Int):Prop:= -9223372036854775808≤a∧a≤9223372036854775807
theorem fj1{n:Int}(h:(Lit.int .i64 n).wf=true):inR n:=by
 simp only[Lit.wf,Bool.and_eq_true,decide_eq_true_eq]at h
 have e1:IntKind.min .i64= -9223372036854775808:=by decide
 have e2:IntKind.max .i64=9223372036854775807:=by decide
 rw[e1,e2]at h
 exact h
theorem SC.lawL{E:Env}{f:FuncId}{l:List V}(h:∃l',LeL l l'∧SC E f l' [] (.ret (.sc (.bool true)) [])){w:World}(hG:Glob E (· <w.heap.size) w){us:List Value}(hd:b7 (fun _=>none) (· <w.heap.size) w (fun _=>False) l us):
 Calls E.P f us.toArray w fun e w'=>e= .returned (.bool true)∧Below w.heap.size w w':=by
 obtain⟨l',h1,h2⟩:=h
 exact h2.law hG (h1 _ _ _ _ _ hd)
def oE(P:Program)(t:TypeId):Option (List TypeId):=match P.underlying t with|some (.struct fs)=>some (fs.toList.map (·.type)) |some (.array n e)=>some (List.replicate n e) |_=>none
def cg4(P:Program)(t:TypeId):Option IntKind:=match P.underlying t with|some (.int k)=>some k|_=>none
def fc1(P:Program)(t:TypeId):Bool:=match P.underlying t with|some .bool=>true|_=>false
theorem WT.int{P:Program}{d:Nat}{t:TypeId}{vs:List V}{k:IntKind}(h:WT P d t vs)(ht:cg4 P t=some k):∃n,vs=[.sc (.int k n)]∧(Lit.int k n).wf=true:=by
 cases d with
 |zero=>cases h
 |succ d=>
  unfold cg4 at ht
  unfold WT at h
  split at ht
  ·rename_i hu;rw[hu]at h;cases ht;exact h
  ·cases ht
theorem WT.i64{P:Program}{d:Nat}{t:TypeId}{vs:List V}(h:WT P d t vs)(ht:cg4 P t=some .i64):∃n,vs=[.sc (.int .i64 n)]∧inR n:=by
 obtain⟨n,h1,h2⟩:=h.int ht
 exact⟨n,h1,fj1 h2⟩
theorem WT.bool{P:Program}{d:Nat}{t:TypeId}{vs:List V}(h:WT P d t vs)(ht:fc1 P t=true):∃b,vs=[.sc (.bool b)]:=by
 cases d with
 |zero=>cases h
 |succ d=>
  unfold fc1 at ht
  unfold WT at h
  split at ht
  ·rename_i hu;rw[hu]at h;exact h
  ·cases ht
theorem WT.slice{P:Program}{d:Nat}{t e:TypeId}{vs:List V}{c:Nat}(h:WT P d t vs)(ht:jG P t=some e)(hc:P.cellsOf e=c)(h0:0<c):∃n f,vs=[.ro c n f]∧n≤Go.maxLen∧∃d',∀j,j<n→WT P d' e (f j):=by
 cases d with
 |zero=>cases h
 |succ d=>
  unfold jG at ht
  unfold WT at h
  split at ht
  ·rename_i hu;rw[hu]at h;cases ht;subst hc
   obtain⟨n,f,h1,h2,h3⟩:=h h0
   exact⟨n,f,h1,h2,d,h3⟩
  ·cases ht
theorem WT.struct{P:Program}{d:Nat}{t:TypeId}{vs:List V}{l:List TypeId}(h:WT P d t vs)(ht:oE P t=some l):∃d',Cat (l.map (WT P d')) vs:=by
 cases d with
 |zero=>cases h
 |succ d=>
  unfold oE at ht
  unfold WT at h
  split at ht
  ·rename_i hu;rw[hu]at h;cases ht;refine⟨d,?_⟩;rw[List.map_map];exact h
  ·rename_i hu;rw[hu]at h;cases ht;exact⟨d,h⟩
  ·cases ht
theorem WTV.struct{P:Program}{t:TypeId}{v:V}{l:List TypeId}(h:WTV P t v)(ht:oE P t=some l):∃d vs,v= .agg vs∧WT P d t vs:=by
 obtain⟨d,h⟩:=h
 unfold oE at ht
 split at ht
 ·rename_i hu;rw[hu]at h;obtain⟨vs,h1,h2⟩:=h;exact⟨d,vs,h1,h2⟩
 ·rename_i hu;rw[hu]at h;obtain⟨vs,h1,h2⟩:=h;exact⟨d,vs,h1,h2⟩
 ·cases ht
theorem WTV.one{P:Program}{t:TypeId}{v:V}(h:WTV P t v)(ht:oE P t=none):∃d,WT P d t [v]:=by
 obtain⟨d,h⟩:=h
 unfold oE at ht
 refine⟨d,?_⟩
 split at ht
 ·cases ht
 ·cases ht
 ·rename_i h1 h2
  split at h
  ·rename_i hu;exact absurd hu (h1 _)
  ·rename_i hu;exact absurd hu (h2 _ _)
  ·exact h
theorem WTV.i64{P:Program}{t:TypeId}{v:V}(h:WTV P t v)(h1:oE P t=none)(h2:cg4 P t=some .i64):∃n,v= .sc (.int .i64 n)∧inR n:=by
 obtain⟨d,g⟩:=h.one h1
 obtain⟨n,e,r⟩:=g.i64 h2
 exact⟨n,by simpa using e,r⟩
theorem WTV.int{P:Program}{t:TypeId}{v:V}{k:IntKind}(h:WTV P t v)(h1:oE P t=none)(h2:cg4 P t=some k):∃n,v= .sc (.int k n)∧(Lit.int k n).wf=true:=by
 obtain⟨d,g⟩:=h.one h1
 obtain⟨n,e,r⟩:=g.int h2
 exact⟨n,by simpa using e,r⟩
theorem WTV.slice{P:Program}{t e:TypeId}{v:V}{c:Nat}(h:WTV P t v)(h1:oE P t=none)(ht:jG P t=some e)(hc:P.cellsOf e=c)(h0:0<c):∃n f,v= .ro c n f∧n≤Go.maxLen∧∃d',∀j,j<n→WT P d' e (f j):=by
 obtain⟨d,g⟩:=h.one h1
 obtain⟨n,f,e,r⟩:=g.slice ht hc h0
 exact⟨n,f,by simpa using e,r⟩
end Go.Am
/- Variables of the packages: what a datum lays, as abstract cells. -/
namespace Go.Am
open Go Go.RowKit
section
variable {H:Type}
def bx6(r:TypeId→DataW H→Option (List V)):List TypeId→List (DataW H)→Option (List V)
 | [],[]=>some []
 |t::ts,d::ds=>match r t d,bx6 r ts ds with|some a,some b=>some (a++b) |_,_=>none
 |_,_=>none
def ec8(r:DataW H→Option (List V)):List (DataW H)→Option (List (List V))
 | []=>some []
 |d::ds=>match r d,ec8 r ds with|some a,some b=>some (a::b) |_,_=>none
def dvD(P:Program):Nat→TypeId→DataW H→Option (List V)
 |0,_,_=>none
 |d+1,t,x=>match P.underlying t,x with
  |some .bool,.lit (.bool b)=>some [.sc (.bool b)]
  |some (.int _),.lit (.int k n)=>some [.sc (.int k n)]
  |some .string,.lit (.string l)=>some [.sc (.string ⟨l.toArray⟩)]
  |some (.slice e),.slice ds _=>if 0<P.cellsOf e then match ec8 (dvD P d e) ds with|some l=>some [.ro (P.cellsOf e) ds.length (fun j=>l.getD j [])] |none=>none else none
  |some (.struct fs),.agg ds=>bx6 (dvD P d) (fs.toList.map (·.type)) ds
  |some (.array n e),.agg ds=>bx6 (dvD P d) (List.replicate n e) ds
  |_,_=>none
theorem cw1{r:DataW H→Option (List V)}:∀{ds:List (DataW H)} {l:List (List V)},ec8 r ds=some l→l.length=ds.length∧∀j d,ds[j]? =some d→r d=some (l.getD j [])
 | [],l,h=>by simp only[ec8,Option.some.injEq]at h;subst h;simp
 |d::ds,l,h=>by
  simp only[ec8]at h
  split at h
  ·rename_i a b ha hb
   simp only[Option.some.injEq]at h
   subst h
   obtain⟨h1,h2⟩:=cw1 hb
   refine⟨by simp[h1],fun j d' hj=>?_⟩
   cases j with
   |zero=>simp only[List.getElem?_cons_zero,Option.some.injEq]at hj;subst hj;simpa using ha
   |succ j=>simpa using h2 j d' (by simpa using hj)
  ·cases h
theorem bl6 {enc : TypeId × Value → H} {P : Program} {w : World} {sp : Nat → Bool} {held : Bool} (hp : bo2 P = true) :
    ∀ (f d : Nat) (t : TypeId) (cs : List Value) (x : DataW H) (ps : List MemPlace) (vs : List V), t < P.types.size → DataW.trod enc P w 0 sp held f t cs = some (x, ps) → dvD P d t x = some vs → Gd (· < w.heap.size) w vs cs := by
  intro f
  induction f with
  | zero => intro d t cs x ps vs _ h; simp [DataW.trod] at h
  | succ f ih =>
    intro d t cs x ps vs ht h hv
    cases d with
    | zero => simp [dvD] at hv
    | succ d =>
    have fields : ∀ (fs : List Field) (o m : Nat) (cs : List Value) (ys : List (DataW H × List MemPlace)) (vs : List V), tY P fs o = some m → cs.length = m →
        ys.length = fs.length → (∀ (i : Nat) (g : Field), fs[i]? = some g → DataW.trod enc P w 0 sp held f g.type ((cs.drop g.offset).take (P.cellsOf g.type)) = ys[i]?) → bx6 (dvD P d) (fs.map (·.type)) (ys.map (·.1)) = some vs →
        Gd (· < w.heap.size) w vs (cs.drop o) := by
      intro fs
      induction fs with
      | nil =>
        intro o m cs ys vs hp hl hyl hm hc
        have : ys = [] := List.length_eq_zero_iff.1 (by simpa using hyl)
        subst this
        simp only [List.map_nil, bx6, Option.some.injEq] at hc
        subst hc
        simp only [tY, Option.some.injEq] at hp
        subst hp
        rw [List.drop_of_length_le (by omega)]
        exact Gd.nil
      | cons g fs ihf =>
        intro o m cs ys vs hp hl hyl hm hc
        simp only [tY] at hp
        split at hp
        · rename_i ho
          obtain ⟨ho, hft⟩ := ho
          cases ys with
          | nil => simp at hyl
          | cons y zs =>
            have hy := hm 0 g rfl
            simp only [List.getElem?_cons_zero] at hy
            simp only [List.map_cons, bx6] at hc
            split at hc
            · rename_i a b ha hb
              simp only [Option.some.injEq] at hc
              subst hc
              obtain ⟨y1, y2⟩ := y
              have g1 := ih d _ _ y1 y2 a hft hy ha
              have g2 := ihf _ _ _ _ _ hp hl (by simpa using hyl) (fun i g hi => by simpa using hm (i + 1) g (by simpa using hi)) hb
              rw [ho] at g1
              have := g1.app g2
              rwa [← List.drop_drop, List.take_append_drop] at this
            · cases hc
        · cases hp
    have items : ∀ (n : Nat) (e : TypeId) (cs : List Value) (ys : List (DataW H × List MemPlace)) (vs : List V), e < P.types.size → cs.length = n * P.cellsOf e → ys.length = n →
        (∀ i y, ys[i]? = some y → DataW.trod enc P w 0 sp held f e ((cs.drop (i * P.cellsOf e)).take (P.cellsOf e)) = some y) → bx6 (dvD P d) (List.replicate n e) (ys.map (·.1)) = some vs →
        Gd (· < w.heap.size) w vs cs := by
      intro n
      induction n with
      | zero =>
        intro e cs ys vs _ hl hy _ hc
        have : cs = [] := List.length_eq_zero_iff.1 (by omega)
        subst this
        have : ys = [] := List.length_eq_zero_iff.1 (by omega)
        subst this
        simp only [List.replicate_zero, List.map_nil, bx6, Option.some.injEq] at hc
        subst hc
        exact Gd.nil
      | succ n ihn =>
        intro e cs ys vs het hl hyl hys hc
        cases ys with
        | nil => simp at hyl
        | cons y ys =>
          simp only [List.replicate_succ, List.map_cons, bx6] at hc
          split at hc
          · rename_i a b ha hb
            simp only [Option.some.injEq] at hc
            subst hc
            have h0 := hys 0 y rfl
            simp only [Nat.zero_mul, List.drop_zero] at h0
            obtain ⟨y1, y2⟩ := y
            have g1 := ih d _ _ y1 y2 a het h0 ha
            have g2 := ihn e (cs.drop (P.cellsOf e)) ys b het (by rw [List.length_drop, hl, Nat.add_mul]; omega) (by simpa using hyl) (fun i y hi => by
              have := hys (i + 1) y (by simpa using hi)
              rw [List.drop_drop, show P.cellsOf e + i * P.cellsOf e = (i + 1) * P.cellsOf e by rw [Nat.add_mul]; omega]
              exact this) hb
            have := g1.app g2
            rwa [List.take_append_drop] at this
          · cases hc
    have hpk : ∀ x, P.underlying t = some x → (match (some x : Option TypeDesc) with
        | some (.struct fs) => tY P fs.toList 0 == some (P.cellsOf t)
        | some (.array n e) => P.cellsOf t == n * P.cellsOf e && decide (e < P.types.size)
        | some (.slice e) => decide (e < P.types.size)
        | _ => true) = true := by
      intro x hx
      have := List.all_eq_true.1 hp t (by simp only [List.mem_range]; exact ht)
      rwa [hx] at this
    unfold dvD at hv
    split at hv
    · rename_i b hu
      unfold DataW.trod at h
      rw [hu] at h
      split at h <;> simp_all
      · subst hv; obtain ⟨⟨rfl, rfl⟩, rfl⟩ := h; exact Gd.one1 rfl
    · rename_i k0 k n hu
      unfold DataW.trod at h
      rw [hu] at h
      simp only [Option.some.injEq] at hv
      subst hv
      split at h <;> first | (rename_i hq; cases hq; done) | skip
      all_goals first
        | (split at h
           · simp only [Option.some.injEq, Prod.mk.injEq, DataW.lit.injEq, Lit.int.injEq] at h
             obtain ⟨⟨rfl, rfl⟩, rfl⟩ := h
             rename_i hk; obtain ⟨rfl, _⟩ := hk
             exact Gd.one1 rfl
           · cases h)
        | (simp at h; done)
        | skip
    · rename_i l hu
      unfold DataW.trod at h
      rw [hu] at h
      simp only [Option.some.injEq] at hv
      subst hv
      split at h <;> first | (rename_i hq; cases hq; done) | skip
      all_goals first
        | (split at h
           · simp only [Option.some.injEq, Prod.mk.injEq, DataW.lit.injEq, Lit.string.injEq] at h
             obtain ⟨rfl, rfl⟩ := h
             exact Gd.one1 rfl
           · cases h)
        | (simp at h; done)
        | skip
    · rename_i e ds rest hu
      split at hv
      · rename_i he
        split at hv
        · rename_i l hl
          simp only [Option.some.injEq] at hv
          subst hv
          rcases DataW.trod_slice hu h with ⟨_, hx⟩ | ⟨a, len, cap, elems, rest', n, q1, hcs, hx, q2, q3, q4, hlen, hel, q5⟩
          · simp at hx
          · simp only [Prod.mk.injEq, DataW.slice.injEq] at hx
            obtain ⟨⟨rfl, rfl⟩, _⟩ := hx
            obtain ⟨hl1, hl2⟩ := cw1 hl
            have hlen' : (elems.map (·.1)).length = len := by simpa using hlen
            have key : ∀ j, j < len → ∃ us : List Value, Gd (· < w.heap.size) w (l.getD j []) us ∧ us.length = P.cellsOf e ∧ a.block < w.heap.size ∧ ∀ i x, us[i]? = some x → w.cell? (a.add (j * P.cellsOf e + i)) = some x := by
              intro j hj
              have hy := hel j hj
              cases hcs' : w.cells? 0 (a.add (j * P.cellsOf e)) (P.cellsOf e) with
              | none =>
                rw [hcs'] at hy
                simp only [Option.bind_none] at hy
                have : j < elems.length := by omega
                rw [List.getElem?_eq_getElem this] at hy
                cases hy
              | some us =>
                rw [hcs'] at hy
                have hjl : j < elems.length := by omega
                rw [List.getElem?_eq_getElem hjl] at hy
                simp only [Option.bind_some] at hy
                have hd := hl2 j (elems[j].1) (by rw [List.getElem?_map, List.getElem?_eq_getElem hjl]; rfl)
                have g1 := ih d e us elems[j].1 elems[j].2 _ (by simpa using hpk _ hu) (by have : n = f := by omega
                                                                                           subst this; exact hy) hd
                obtain ⟨_, r1, r2⟩ := World.cells?_some hcs'
                have hb := World.cells?_block hcs' he
                rw [dV] at hb
                refine ⟨us, g1, r1, hb, fun i x hx => ?_⟩
                have hi : i < P.cellsOf e := by
                  rcases Nat.lt_or_ge i us.length with g | g
                  · omega
                  · rw [List.getElem?_eq_none g] at hx; cases hx
                rw [← zD, r2 i hi, hx]
            let us : Nat → List Value := fun j => if hj : j < len then Classical.choose (key j hj) else []
            have hus : ∀ j, j < len → Gd (· < w.heap.size) w (l.getD j []) (us j) ∧ (us j).length = P.cellsOf e ∧ a.block < w.heap.size ∧ ∀ i x, (us j)[i]? = some x → w.cell? (a.add (j * P.cellsOf e + i)) = some x := by
              intro j hj
              have := Classical.choose_spec (key j hj)
              simp only [us, hj, dif_pos]
              exact this
            subst hcs
            rw [hlen']
            refine ⟨?_, rfl, rfl⟩
            simp only [b7, Am.den]
            refine ⟨_, _, rfl, ⟨Nat.le_trans q3 q4, some a, cap, a, us, rfl, q3, fun h0 => ⟨rfl, (hus 0 h0).2.2.1⟩, fun j hj => ?_⟩, rfl⟩
            obtain ⟨g1, g2, g3, g4⟩ := hus j hj
            exact ⟨g1.den, g1.pure, g2, g1.one, g4⟩
        · cases hv
      · cases hv
    · rename_i fs ds hu
      obtain ⟨xs, n, hn, hx, hcl, hxl, hall⟩ := DataW.trod_struct hu h
      obtain rfl : n = f := by omega
      simp only [Prod.mk.injEq, DataW.agg.injEq] at hx
      obtain ⟨rfl, _⟩ := hx
      have hk := hpk _ hu
      simp only [beq_iff_eq] at hk
      have := fields fs.toList 0 _ cs xs vs hk hcl (by simpa using hxl) (fun i g hi => hall i g (by simpa using hi)) hv
      simpa using this
    · rename_i n e ds hu
      obtain ⟨xs, m, hn, hx, hcl, hxl, hall⟩ := DataW.trod_array hu h
      obtain rfl : m = f := by omega
      simp only [Prod.mk.injEq, DataW.agg.injEq] at hx
      obtain ⟨rfl, _⟩ := hx
      have hk := hpk _ hu
      simp only [Bool.and_eq_true, beq_iff_eq, decide_eq_true_eq] at hk
      exact items n e cs xs vs hk.2 (by rw [hcl, hk.1]) hxl (fun i y hi => by
        have hi' : i < n := by rw [← hxl]; exact (List.getElem?_eq_some_iff.1 hi).1
        rw [hall i hi', hi]) hv
    · cases hv
end
end Go.Am
/- Variables of the packages, as the row lists them. -/
namespace Go.Am
open Go Go.RowKit
theorem al1{P:Program}{W:World}:∀{laid:List (String×DataW Unit)} {ps:List MemPlace},DataW.LaidVars P W laid ps→∀n D,(n,D)∈laid→
 ∃g t cs fuel p,P.globalNamed n=some g∧(P.globals[g]?).map (·.type)=some t∧W.var? P n=some cs∧DataW.trod (fun _=>()) P W 0 (fun _=>true) false fuel t cs.toList=some (D,p)
 | [],ps,h,n,D,hm=>by cases hm
 | (n',D')::r,ps,h,n,D,hm=>by
  obtain⟨g,t,cs,fuel,p,q,h1,h2,h3,h4,h5,_⟩:=h
  rcases List.mem_cons.1 hm with e|e
  ·cases e;exact⟨g,t,cs,fuel,p,h1,h2,h3,h4⟩
  ·exact al1 h5 n D e
theorem dy6{P:Program}{W:World}{n:String}{g:Nat}{cs:Array Value}(hg:P.globalNamed n=some g)(h:W.var? P n=some cs)(h0:0<cs.size):g<W.heap.size:=by
 have h1:=World.var?_cell hg h 0
 rw[Array.getElem?_eq_getElem h0]at h1
 rcases Nat.lt_or_ge g W.heap.size with k|k
 ·exact k
 ·simp[World.cell?,Array.getElem?_eq_none k]at h1
structure GlobAt(P:Program)(laid:List (String×DataW Unit))(g:Nat)(cs:List V):Prop where
 ex:∃n D t d,(n,D)∈laid∧P.globalNamed n=some g∧(P.globals[g]?).map (·.type)=some t∧t<P.types.size∧dvD P d t D=some cs∧cs≠[]
theorem ex5{P:Program}(hp:bo2 P=true){laid:List (String×DataW Unit)}{W:World}(h:laidMet P laid W){g:Nat}{cs:List V}(hg:GlobAt P laid g cs):
 den (fun _=>none) (· <W.heap.size) W (fun _=>False) (.rp cs) (.pointer (some ⟨g,0,none⟩)):=by
 obtain⟨n,D,t,d,hm,h1,h2,h3,h4,h5⟩:=hg.ex
 obtain⟨ps,hl,_⟩:=h
 obtain⟨g',t',us,fuel,p,k1,k2,k3,k4⟩:=al1 hl n D hm
 obtain rfl:=Option.some.inj (h1.symm.trans k1)
 obtain rfl:=Option.some.inj (h2.symm.trans k2)
 have gd:=bl6 hp fuel d t us.toList D p cs h3 k4 h4
 have hlen:0<us.size:=by
  have:=gd.den
  rcases Nat.eq_zero_or_pos us.size with e|e
  ·exfalso
   have:us.toList=[]:=by simpa using e
   rw[this]at gd
   cases cs with
   |nil=>exact h5 rfl
   |cons c cs=>
    have:=gd.den
    simp[b7]at this
  ·exact e
 simp only[Am.den]
 refine⟨_,us.toList,rfl,dy6 h1 k3 hlen,gd.den,gd.pure,gd.one,fun i x hx=>?_⟩
 rw[dN,Nat.zero_add,World.var?_cell h1 k3 i]
 simpa using hx
theorem Glob.of_laid{E:Env}{laid:List (String×DataW Unit)}{W:World}(hp:bo2 E.P=true)(h:laidMet E.P laid W)
 (hg:∀g cs,E.glob g=some cs→GlobAt E.P laid g cs) (hi:∀p∈E.inv,p.1<W.heap.size∧∃x,W.heap[p.1]? =some x∧p.2 x):Glob E (· <W.heap.size) W:=
 ⟨fun g cs hc=>ex5 hp h (hg g cs hc),hi⟩
theorem es5{W:World}{g:Nat}{x:Value}(h:W.cell? ⟨g,0,none⟩=some x):g<W.heap.size:=by
 rcases Nat.lt_or_ge g W.heap.size with k|k
 ·exact k
 ·simp[World.cell?,Array.getElem?_eq_none k]at h
def uL(k:IntKind):Obj→Prop:=fun o=>∃c t fr m,o= .cells c t fr∧c[0]? =some (.int k m)
theorem dc7{W:World}{g:Nat}{k:IntKind}(h:∃m,W.cell? ⟨g,0,none⟩=some (.int k m)):g<W.heap.size∧∃x,W.heap[g]? =some x∧uL k x:=by
 obtain⟨m,h⟩:=h
 refine⟨es5 h,?_⟩
 unfold World.cell? at h
 split at h
 ·rename_i c t fr hh
  simp only[Option.isSome_none,Bool.false_eq_true,if_false]at h
  exact⟨_,hh,c,t,fr,m,rfl,h⟩
 ·cases h
theorem bv0{W:World}{g:Nat}{k:IntKind}{x:Obj}(h:W.heap[g]? =some x)(hi:uL k x):∃m,W.cell? ⟨g,0,none⟩=some (.int k m):=by
 obtain⟨c,t,fr,m,rfl,hc⟩:=hi
 exact⟨m,by simp only[World.cell?,h];simpa using hc⟩
theorem SC.ext{E:Env}(hX:SoundX E){f:FuncId}{args:List V}{v:V}(h:E.ext f args=some v):SC E f args [] (.ret v []):=by
 obtain⟨h1,h2,h3⟩:=hX f args v h
 refine⟨h1,fun β S w us hd hm hG=>(h3 β S _ w us hd hG hm.st).mono ?_⟩
 rintro e w' ⟨u,S',rfl,hb,hv,hs1,hs2⟩
 have hβ:∀i,β i=none:=fun i=>hm.dead i (by simp[hp])
 refine⟨u,β,S',rfl,?_,?_,?_,fun _ _ _ h=>h⟩
 ·refine(hm.below hb).wider' hs1 (fun b hs=>?_) (fun i b m hi=>by rw[hβ i]at hi;cases hi)
  rcases hs2 b hs with h| ⟨_,h⟩
  ·exact Nat.lt_of_lt_of_le (hm.st b h) hb.size
  ·exact h
 ·exact m8 (fun _ h=>h) (fun _ _=>rfl) _ _ h2 hv
 ·refine⟨hb.os,hb.tape,hb.output,hb.size,fun b h _=>hb.block b h,hs1,fun b hs=>?_,fun i b m h h0=>.inr ⟨i,m,h0,h⟩⟩
  rcases hs2 b hs with h| ⟨h,_⟩
  ·exact .inl h
  ·exact .inr (.inl h)
end Go.Am
/- The executor made quick: frames as trees, memory as a list of what has changed. The same answers. -/
namespace Go.Am
open Go
inductive FT where
 |e
 |nd (l:FT) (v:V) (r:FT)
noncomputable def FT.get(T:FT):Nat→V:=
 FT.rec (motive:=fun _=>Nat→V) (fun _=>.junk)
  (fun _ v _ gl gr t=>Nat.rec (motive:=fun _=>V) v (fun t _=>Bool.rec (motive:=fun _=>V) (gr (Nat.div t 2)) (gl (Nat.div t 2)) (Nat.beq (Nat.mod t 2) 0)) t) T
noncomputable def FT.has(T:FT):Nat→Bool:=
 FT.rec (motive:=fun _=>Nat→Bool) (fun _=>false)
  (fun _ v _ gl gr t=>Nat.rec (motive:=fun _=>Bool) true (fun t _=>Bool.rec (motive:=fun _=>Bool) (gr (Nat.div t 2)) (gl (Nat.div t 2)) (Nat.beq (Nat.mod t 2) 0)) t) T
noncomputable def FT.set(T:FT):Nat→V→FT:=
 FT.rec (motive:=fun _=>Nat→V→FT) (fun _ _=>.e)
  (fun l a r sl sr t v=>Nat.rec (motive:=fun _=>FT) (.nd l v r) (fun t _=>Bool.rec (motive:=fun _=>FT) (.nd l a (sr (Nat.div t 2) v)) (.nd (sl (Nat.div t 2) v) a r) (Nat.beq (Nat.mod t 2) 0)) t) T
noncomputable def FT.setK(T:FT):Nat→V→(FT→Option Ans)→Option Ans:=
 FT.rec (motive:=fun _=>Nat→V→(FT→Option Ans)→Option Ans) (fun _ _ k=>k .e)
  (fun l a r sl sr t v k=>Nat.rec (motive:=fun _=>Option Ans) (k (.nd l v r)) (fun t _=>Bool.rec (motive:=fun _=>Option Ans) (sr (Nat.div t 2) v fun r=>k (.nd l a r)) (sl (Nat.div t 2) v fun l=>k (.nd l a r)) (Nat.beq (Nat.mod t 2) 0)) t) T
noncomputable def FT.add(T:FT):Nat→V→FT:=
 FT.rec (motive:=fun _=>Nat→V→FT) (fun _ v=>.nd .e v .e)
  (fun l a r sl sr t v=>Nat.rec (motive:=fun _=>FT) (.nd l v r) (fun t _=>Bool.rec (motive:=fun _=>FT) (.nd l a (sr (Nat.div t 2) v)) (.nd (sl (Nat.div t 2) v) a r) (Nat.beq (Nat.mod t 2) 0)) t) T
noncomputable def FT.addK(T:FT):Nat→V→(FT→Option Ans)→Option Ans:=
 FT.rec (motive:=fun _=>Nat→V→(FT→Option Ans)→Option Ans) (fun _ v k=>k (.nd .e v .e))
  (fun l a r sl sr t v k=>Nat.rec (motive:=fun _=>Option Ans) (k (.nd l v r)) (fun t _=>Bool.rec (motive:=fun _=>Option Ans) (sr (Nat.div t 2) v fun r=>k (.nd l a r)) (sl (Nat.div t 2) v fun l=>k (.nd l a r)) (Nat.beq (Nat.mod t 2) 0)) t) T
theorem FT.get_l(l:FT)(v:V)(r:FT)(t:Nat):(FT.nd l v r).get (2*t+1)=l.get t:=by
 show(Bool.rec (motive:=fun _=>V) _ _ (Nat.beq (2*t%2) 0):V)=_
 have h1:2*t%2=0:=by omega
 have h2:Nat.div (2*t) 2=t:=by show 2*t/2=t;omega
 rw[h1,h2];rfl
theorem FT.get_r(l:FT)(v:V)(r:FT)(t:Nat):(FT.nd l v r).get (2*t+2)=r.get t:=by
 show(Bool.rec (motive:=fun _=>V) _ _ (Nat.beq ((2*t+1)%2) 0):V)=_
 have h1:(2*t+1)%2=1:=by omega
 have h2:Nat.div (2*t+1) 2=t:=by show(2*t+1)/2=t;omega
 rw[h1,h2];rfl
theorem FT.has_e(t:Nat):FT.e.has t=false:=rfl
theorem FT.has_0(l:FT)(v:V)(r:FT):(FT.nd l v r).has 0=true:=rfl
theorem FT.has_l(l:FT)(v:V)(r:FT)(t:Nat):(FT.nd l v r).has (2*t+1)=l.has t:=by
 show(Bool.rec (motive:=fun _=>Bool) _ _ (Nat.beq (2*t%2) 0):Bool)=_
 have h1:2*t%2=0:=by omega
 have h2:Nat.div (2*t) 2=t:=by show 2*t/2=t;omega
 rw[h1,h2];rfl
theorem FT.has_r(l:FT)(v:V)(r:FT)(t:Nat):(FT.nd l v r).has (2*t+2)=r.has t:=by
 show(Bool.rec (motive:=fun _=>Bool) _ _ (Nat.beq ((2*t+1)%2) 0):Bool)=_
 have h1:(2*t+1)%2=1:=by omega
 have h2:Nat.div (2*t+1) 2=t:=by show(2*t+1)/2=t;omega
 rw[h1,h2];rfl
theorem FT.set_l(l:FT)(a:V)(r:FT)(t:Nat)(v:V):(FT.nd l a r).set (2*t+1) v= .nd (l.set t v) a r:=by
 show(Bool.rec (motive:=fun _=>FT) _ _ (Nat.beq (2*t%2) 0):FT)=_
 have h1:2*t%2=0:=by omega
 have h2:Nat.div (2*t) 2=t:=by show 2*t/2=t;omega
 rw[h1,h2];rfl
theorem FT.set_r(l:FT)(a:V)(r:FT)(t:Nat)(v:V):(FT.nd l a r).set (2*t+2) v= .nd l a (r.set t v):=by
 show(Bool.rec (motive:=fun _=>FT) _ _ (Nat.beq ((2*t+1)%2) 0):FT)=_
 have h1:(2*t+1)%2=1:=by omega
 have h2:Nat.div (2*t+1) 2=t:=by show(2*t+1)/2=t;omega
 rw[h1,h2];rfl
theorem FT.add_l(l:FT)(a:V)(r:FT)(t:Nat)(v:V):(FT.nd l a r).add (2*t+1) v= .nd (l.add t v) a r:=by
 show(Bool.rec (motive:=fun _=>FT) _ _ (Nat.beq (2*t%2) 0):FT)=_
 have h1:2*t%2=0:=by omega
 have h2:Nat.div (2*t) 2=t:=by show 2*t/2=t;omega
 rw[h1,h2];rfl
theorem FT.add_r(l:FT)(a:V)(r:FT)(t:Nat)(v:V):(FT.nd l a r).add (2*t+2) v= .nd l a (r.add t v):=by
 show(Bool.rec (motive:=fun _=>FT) _ _ (Nat.beq ((2*t+1)%2) 0):FT)=_
 have h1:(2*t+1)%2=1:=by omega
 have h2:Nat.div (2*t+1) 2=t:=by show(2*t+1)/2=t;omega
 rw[h1,h2];rfl
theorem l9(t:Nat):t=0∨(∃s,t=2*s+1)∨∃s,t=2*s+2:=by
 by_cases h:t=0
 ·exact .inl h
 ·by_cases h2:t%2=1
  ·exact .inr (.inl ⟨t/2,by omega⟩)
  ·exact .inr (.inr ⟨t/2-1,by omega⟩)
theorem FT.setK_eq:∀(T:FT) (t:Nat) (v:V) (k:FT→Option Ans),T.setK t v k=k (T.set t v)
 | .e,_,_,_=>rfl
 | .nd l a r,t,v,k=>by
  rcases l9 t with rfl| ⟨s,rfl⟩ | ⟨s,rfl⟩
  ·rfl
  ·rw[FT.set_l,←FT.setK_eq l s v fun l=>k (.nd l a r)]
   show(Bool.rec (motive:=fun _=>Option Ans) _ _ (Nat.beq (2*s%2) 0):Option Ans)=_
   have h1:2*s%2=0:=by omega
   have h2:Nat.div (2*s) 2=s:=by show 2*s/2=s;omega
   rw[h1,h2];rfl
  ·rw[FT.set_r,←FT.setK_eq r s v fun r=>k (.nd l a r)]
   show(Bool.rec (motive:=fun _=>Option Ans) _ _ (Nat.beq ((2*s+1)%2) 0):Option Ans)=_
   have h1:(2*s+1)%2=1:=by omega
   have h2:Nat.div (2*s+1) 2=s:=by show(2*s+1)/2=s;omega
   rw[h1,h2];rfl
theorem FT.addK_eq:∀(T:FT) (t:Nat) (v:V) (k:FT→Option Ans),T.addK t v k=k (T.add t v)
 | .e,_,_,_=>rfl
 | .nd l a r,t,v,k=>by
  rcases l9 t with rfl| ⟨s,rfl⟩ | ⟨s,rfl⟩
  ·rfl
  ·rw[FT.add_l,←FT.addK_eq l s v fun l=>k (.nd l a r)]
   show(Bool.rec (motive:=fun _=>Option Ans) _ _ (Nat.beq (2*s%2) 0):Option Ans)=_
   have h1:2*s%2=0:=by omega
   have h2:Nat.div (2*s) 2=s:=by show 2*s/2=s;omega
   rw[h1,h2];rfl
  ·rw[FT.add_r,←FT.addK_eq r s v fun r=>k (.nd l a r)]
   show(Bool.rec (motive:=fun _=>Option Ans) _ _ (Nat.beq ((2*s+1)%2) 0):Option Ans)=_
   have h1:(2*s+1)%2=1:=by omega
   have h2:Nat.div (2*s+1) 2=s:=by show(2*s+1)/2=s;omega
   rw[h1,h2];rfl
theorem FT.get_has:∀(T:FT) (t:Nat),T.has t=false→T.get t= .junk
 | .e,_,_=>rfl
 | .nd l a r,t,h=>by
  rcases l9 t with rfl| ⟨s,rfl⟩ | ⟨s,rfl⟩
  ·cases h
  ·rw[FT.has_l]at h;rw[FT.get_l];exact FT.get_has l s h
  ·rw[FT.has_r]at h;rw[FT.get_r];exact FT.get_has r s h
theorem FT.has_set:∀(T:FT) (t s:Nat) (v:V),(T.set t v).has s=T.has s
 | .e,_,_,_=>rfl
 | .nd l a r,t,s,v=>by
  rcases l9 t with rfl| ⟨t,rfl⟩ | ⟨t,rfl⟩
  ·rcases l9 s with rfl| ⟨s,rfl⟩ | ⟨s,rfl⟩
   ·rfl
   ·show(FT.nd l v r).has _=_;rw[FT.has_l,FT.has_l]
   ·show(FT.nd l v r).has _=_;rw[FT.has_r,FT.has_r]
  ·rw[FT.set_l]
   rcases l9 s with rfl| ⟨s,rfl⟩ | ⟨s,rfl⟩
   ·rfl
   ·rw[FT.has_l,FT.has_l,FT.has_set l]
   ·rw[FT.has_r,FT.has_r]
  ·rw[FT.set_r]
   rcases l9 s with rfl| ⟨s,rfl⟩ | ⟨s,rfl⟩
   ·rfl
   ·rw[FT.has_l,FT.has_l]
   ·rw[FT.has_r,FT.has_r,FT.has_set r]
theorem FT.get_set:∀(T:FT) (t s:Nat) (v:V),(T.set t v).get s=if s=t∧T.has t=true then v else T.get s
 | .e,t,s,v=>by simp[FT.has_e];rfl
 | .nd l a r,t,s,v=>by
  rcases l9 t with rfl| ⟨t,rfl⟩ | ⟨t,rfl⟩
  ·rcases l9 s with rfl| ⟨s,rfl⟩ | ⟨s,rfl⟩
   ·rw[if_pos ⟨rfl,rfl⟩];rfl
   ·rw[if_neg (by omega)];show(FT.nd l v r).get _=_;rw[FT.get_l,FT.get_l]
   ·rw[if_neg (by omega)];show(FT.nd l v r).get _=_;rw[FT.get_r,FT.get_r]
  ·rw[FT.set_l,FT.has_l]
   rcases l9 s with rfl| ⟨s,rfl⟩ | ⟨s,rfl⟩
   ·rw[if_neg (by omega)];rfl
   ·rw[FT.get_l,FT.get_l,FT.get_set l]
    by_cases h:s=t
    ·subst h;simp
    ·rw[if_neg (fun g=>h g.1),if_neg (fun g=>h (by omega))]
   ·rw[if_neg (by omega),FT.get_r,FT.get_r]
  ·rw[FT.set_r,FT.has_r]
   rcases l9 s with rfl| ⟨s,rfl⟩ | ⟨s,rfl⟩
   ·rw[if_neg (by omega)];rfl
   ·rw[if_neg (by omega),FT.get_l,FT.get_l]
   ·rw[FT.get_r,FT.get_r,FT.get_set r]
    by_cases h:s=t
    ·subst h;simp
    ·rw[if_neg (fun g=>h g.1),if_neg (fun g=>h (by omega))]
def FT.Inv(T:FT)(n:Nat):Prop:=∀t,T.has t=true↔t<n
theorem FT.inv_e:FT.e.Inv 0:=fun t=>by simp[FT.has_e]
theorem FT.inv_l{l:FT}{v:V}{r:FT}{n:Nat}(h:(FT.nd l v r).Inv n):l.Inv (n/2):=fun t=>by
 have:=h (2*t+1)
 rw[FT.has_l]at this
 rw[this];omega
theorem FT.inv_r{l:FT}{v:V}{r:FT}{n:Nat}(h:(FT.nd l v r).Inv n):r.Inv ((n-1)/2):=fun t=>by
 have:=h (2*t+2)
 rw[FT.has_r]at this
 rw[this];omega
theorem FT.inv_set{T:FT}{n t:Nat}{v:V}(h:T.Inv n):(T.set t v).Inv n:=fun s=>by rw[FT.has_set];exact h s
theorem FT.add_spec:∀(T:FT) (n:Nat) (v:V),T.Inv n→(T.add n v).Inv (n+1)∧∀s,(T.add n v).get s=if s=n then v else T.get s
 | .e,n,v,h=>by
  have h0:n=0:=by
   have:=h 0
   rw[FT.has_e]at this
   by_cases g:n=0
   ·exact g
   ·exact absurd (this.2 (by omega)) (by decide)
  subst h0
  refine⟨fun s=>?_,fun s=>?_⟩
  ·show(FT.nd .e v .e).has s=true↔_
   rcases l9 s with rfl| ⟨s,rfl⟩ | ⟨s,rfl⟩
   ·simp[FT.has_0]
   ·rw[FT.has_l];simp[FT.has_e]
   ·rw[FT.has_r];simp[FT.has_e]
  ·show(FT.nd .e v .e).get s=_
   rcases l9 s with rfl| ⟨s,rfl⟩ | ⟨s,rfl⟩
   ·rfl
   ·rw[FT.get_l,if_neg (by omega)];rfl
   ·rw[FT.get_r,if_neg (by omega)];rfl
 | .nd l a r,n,v,h=>by
  have h0:0<n:=(h 0).1 rfl
  rcases l9 n with rfl| ⟨m,rfl⟩ | ⟨m,rfl⟩
  ·omega
  ·rw[FT.add_l]
   have hl:=FT.inv_l h
   rw[show(2*m+1)/2=m by omega]at hl
   obtain⟨g1,g2⟩:=FT.add_spec l m v hl
   refine⟨fun s=>?_,fun s=>?_⟩
   ·rcases l9 s with rfl| ⟨s,rfl⟩ | ⟨s,rfl⟩
    ·simp[FT.has_0]
    ·rw[FT.has_l,g1 s];omega
    ·have:=h (2*s+2);rw[FT.has_r]at this⊢;rw[this];omega
   ·rcases l9 s with rfl| ⟨s,rfl⟩ | ⟨s,rfl⟩
    ·rw[if_neg (by omega)];rfl
    ·rw[FT.get_l,FT.get_l,g2]
     by_cases hs:s=m
     ·rw[if_pos hs,if_pos (by omega)]
     ·rw[if_neg hs,if_neg (by omega)]
    ·rw[FT.get_r,FT.get_r,if_neg (by omega)]
  ·rw[FT.add_r]
   have hl:=FT.inv_r h
   rw[show(2*m+2-1)/2=m by omega]at hl
   obtain⟨g1,g2⟩:=FT.add_spec r m v hl
   refine⟨fun s=>?_,fun s=>?_⟩
   ·rcases l9 s with rfl| ⟨s,rfl⟩ | ⟨s,rfl⟩
    ·simp[FT.has_0]
    ·have:=h (2*s+1);rw[FT.has_l]at this⊢;rw[this];omega
    ·rw[FT.has_r,g1 s];omega
   ·rcases l9 s with rfl| ⟨s,rfl⟩ | ⟨s,rfl⟩
    ·rw[if_neg (by omega)];rfl
    ·rw[FT.get_l,FT.get_l,if_neg (by omega)]
    ·rw[FT.get_r,FT.get_r,g2]
     by_cases hs:s=m
     ·rw[if_pos hs,if_pos (by omega)]
     ·rw[if_neg hs,if_neg (by omega)]
noncomputable def FT.toL(T:FT)(n:Nat):List V:=(List.range n).map T.get
theorem FT.toL_getD{T:FT}{n:Nat}(h:T.Inv n)(t:Nat):(T.toL n).getD t .junk=T.get t:=by
 unfold FT.toL
 by_cases ht:t<n
 ·simp[List.getD,List.getElem?_range ht]
 ·rw[FT.get_has T t (by cases g:T.has t with|false=>rfl|true=>exact absurd ((h t).1 g) ht)]
  simp[List.getD,ht]
theorem FT.toL_set{T:FT}{n:Nat}(h:T.Inv n)(t:Nat)(v:V):(T.set t v).toL n=(T.toL n).set t v:=by
 apply List.ext_getElem?
 intro j
 unfold FT.toL
 by_cases hj:j<n
 ·rw[List.getElem?_set]
  simp only[List.getElem?_map,List.getElem?_range hj,Option.map_some,FT.get_set]
  by_cases hjt:t=j
  ·subst hjt
   rw[if_pos ⟨rfl,(h t).2 hj⟩]
   simp[hj]
  ·rw[if_neg (fun g=>hjt g.1.symm)];simp[hjt]
 ·simp[hj,List.getElem?_set]
noncomputable def FT.ofK:List V→Nat→FT→(FT→Nat→Option Ans)→Option Ans
 | [],n,T,k=>k T n
 |v::l,n,T,k=>T.addK n v fun T=>FT.ofK l (n+1) T k
theorem FT.ofK_spec:∀(l:List V) (n:Nat) (T:FT) (k:FT→Nat→Option Ans),T.Inv n→∃T',FT.ofK l n T k=k T' (n+l.length)∧T'.Inv (n+l.length)∧T'.toL (n+l.length)=T.toL n++l
 | [],n,T,k,h=>⟨T,rfl,h,by simp⟩
 |v::l,n,T,k,h=>by
  obtain⟨g1,g2⟩:=FT.add_spec T n v h
  obtain⟨T',e1,e2,e3⟩:=FT.ofK_spec l (n+1) (T.add n v) k g1
  refine⟨T',?_,?_,?_⟩
  ·rw[FT.ofK,FT.addK_eq,e1];congr 1;simp;omega
  ·rw[show n+(v::l).length=n+1+l.length by simp;omega];exact e2
  ·rw[show n+(v::l).length=n+1+l.length by simp;omega,e3]
   have:(T.add n v).toL (n+1)=T.toL n++[v]:=by
    unfold FT.toL
    rw[List.range_succ,List.map_append]
    congr 1
    ·apply List.map_congr_left
     intro s hs
     rw[g2,if_neg (by have:=List.mem_range.1 hs;omega)]
    ·simp[g2]
   rw[this,List.append_assoc];rfl
end Go.Am
/- The quick executor, and that it is the executor. -/
namespace Go.Am
open Go
abbrev OV:=List (Nat×Option Chunk)
noncomputable def lkp(hb:Hp)(ov:OV):Hp:=fun i=>List.rec (motive:=fun _=>Option Chunk) (hb i) (fun p _ ih=>Prod.rec (motive:=fun _=>Option Chunk) (fun j c=>Bool.rec (motive:=fun _=>Option Chunk) ih c (Nat.beq j i)) p) ov
theorem dp8(hb:Hp):lkp hb []=hb:=rfl
theorem ej0(hb:Hp)(i:Nat)(c:Option Chunk)(ov:OV):lkp hb ((i,c)::ov)=upd (lkp hb ov) i c:=by
 funext j
 show(Bool.rec (motive:=fun _=>Option Chunk) (lkp hb ov j) c (Nat.beq i j):Option Chunk)=if j=i then c else lkp hb ov j
 cases h:Nat.beq i j with
 |false=>rw[if_neg (fun e=>by subst e;simp at h)]
 |true=>rw[if_pos (Nat.eq_of_beq_eq_true h).symm]
noncomputable def cN{α:Type}(l:Nat)(k:Nat→α):α:=Nat.rec (motive:=fun _=>α) (k 0) (fun n _=>k (Nat.succ n)) l
theorem sY{α:Type}(l:Nat)(k:Nat→α):cN l k=k l:=by cases l<;>rfl
noncomputable def ah2:List (Nat×Option Chunk)→OV→(OV→Option Ans)→Option Ans
 | [],ov,k=>k ov
 | (i,c)::l,ov,k=>fC c fun c=>ah2 l ((i,c)::ov) k
theorem uN(hb:Hp):∀(us:List (Nat×Option Chunk)) (ov:OV) (k:OV→Option Ans),∃ov',ah2 us ov k=k ov'∧lkp hb ov'=n7 (lkp hb ov) us
 | [],ov,k=>⟨ov,rfl,rfl⟩
 | (i,c)::l,ov,k=>by
  obtain⟨ov',e1,e2⟩:=uN hb l ((i,c)::ov) k
  exact⟨ov',by rw[ah2,eg7];exact e1,by rw[e2,ej0];rfl⟩
noncomputable def evQ(E:Env)(T:FT):Operand→V
 | .tmp t=>T.get t
 | .const v=>kX v
 | .global g=>match E.glob g with|some cs=>.rp cs|none=>.junk
 | .func f=>.fn f []
theorem bj4(E:Env){T:FT}{n:Nat}(h:T.Inv n):evQ E T=evA E (T.toL n):=by
 funext x
 cases x with
 |tmp t=>exact(FT.toL_getD h t).symm
 |const v=>rfl
 |global g=>rfl
 |func f=>rfl
noncomputable def cd9(g:Option (Nat×Bool))(ops:List Oper)(T:FT)(k:Bool→FT→Option Ans):Option Ans:=
 match g with
 |none=>k true T
 |some (j,b)=>match ops[j]?with
  |some o=>match o.dst with
   |some t=>match T.get t with
    | .sc v=>match v with
     | .bool c=>if c=true then T.setK t (.sc (.bool true)) fun T=>k b T else T.setK t (.sc (.bool false)) fun T=>k (!b) T
     |_=>k false T
    |_=>none
   |none=>none
  |none=>none
theorem bn9{g:Option (Nat×Bool)}{ops:List Oper}{T:FT}{n:Nat}{k:Bool→FT→Option Ans}{K:Bool→List V→Option Ans}(h:T.Inv n)(hk:∀b T,T.Inv n→k b T=K b (T.toL n)):cd9 g ops T k=au6 g ops (T.toL n) K:=by
 unfold cd9 au6
 cases g with
 |none=>exact hk _ _ h
 |some p=>
  obtain⟨j,b⟩:=p
  simp only
  cases ops[j]?with
  |none=>rfl
  |some o=>
   simp only
   cases o.dst with
   |none=>rfl
   |some t=>
    simp only[FT.toL_getD h]
    cases T.get t<;>try rfl
    rename_i v
    cases v<;>(try exact hk _ _ h)
    rename_i c
    simp only[FT.setK_eq,setK_eq]
    cases c
    ·simp only[Bool.false_eq_true,if_false];rw[hk _ _ (FT.inv_set h),FT.toL_set h]
    ·simp only[if_true];rw[hk _ _ (FT.inv_set h),FT.toL_set h]
noncomputable def fo7(T:FT)(d:Option Tmp)(v:V)(k:FT→Option Ans):Option Ans:=
 match d with
 |some t=>T.setK t v k
 |none=>k T
noncomputable def wK(T:FT)(ov:OV)(d:Option Tmp)(v:V)(us:List (Nat×Option Chunk))(k:FT→OV→Option Ans):Option Ans:=
 fV v fun v=>fo7 T d v fun T=>ah2 us ov fun ov=>k T ov
noncomputable def nK(T:FT)(n:Nat)(ov:OV)(hb:Hp)(nx rt:Nat)(me:FuncId):St:={fr:=T.toL n,H:=lkp hb ov,nx:=nx,rt:=rt,me:=me}
theorem gK{T:FT}{n:Nat}{ov:OV}{hb:Hp}{nx rt:Nat}{me:FuncId}{d:Option Tmp}{v:V}{us:List (Nat×Option Chunk)}{k:FT→OV→Option Ans}{K:St→Option Ans}(h:T.Inv n)
 (hk:∀T ov,T.Inv n→k T ov=K (nK T n ov hb nx rt me)):wK T ov d v us k=wM (nK T n ov hb nx rt me) d v us K:=by
 have key:∀T',T'.Inv n→ah2 us ov (fun ov=>k T' ov)=K {fr:=T'.toL n,H:=n7 (lkp hb ov) us,nx:=nx,rt:=rt,me:=me}:=by
  intro T' h'
  obtain⟨ov',e1,e2⟩:=uN hb us ov (fun ov=>k T' ov)
  rw[e1,hk _ _ h',←e2];rfl
 unfold wK
 rw[cj6,gP]
 cases d with
 |none=>exact key T h
 |some t=>
  show T.setK t v _=_
  rw[FT.setK_eq,key _ (FT.inv_set h),FT.toL_set h]
  rfl
abbrev KS:=Ex→FT→OV→Nat→Option Ans
noncomputable def kC(E:Env)(ca:h9)(ops:List Oper)(hb:Hp)(nx:Nat)(me:FuncId):List Oper→Nat→FT→OV→KS→Option Ans
 | [],nw,T,ov,k=>k .normal T ov nw
 |o::rest,nw,T,ov,k=>
  cd9 o.guard ops T fun b T=>
   match b with
   |true=>
    opK E.P E.push E.rows o (evQ E T) (lkp hb ov) nw fun r=>
     match r with
     | .val v us=>(match cx6 o.op with
      |true=>wK T ov o.dst (ew5 (E.lit me) (lkp hb ov) v us) (ev7 (E.lit me) v us) fun T ov=>cN (Nat.add nw d7) fun nw=>kC E ca ops hb nx me rest nw T ov k
      |false=>wK T ov o.dst v us fun T ov=>cN (Nat.add nw d7) fun nw=>kC E ca ops hb nx me rest nw T ov k)
     | .pan v us=>ah2 us ov fun ov=>k (.panic v) T ov nw
     | .call f args=>sL E ca me f args (lkp hb ov) nw fun r=>
      match r with
      | .val v us=>wK T ov o.dst v us fun T ov=>cN (Nat.add nw d7) fun nw=>kC E ca ops hb nx me rest nw T ov k
      | .pan v us=>ah2 us ov fun ov=>k (.panic v) T ov nw
      | .call _ _=>none
      | .dfr _ _=>none
     | .dfr f cs=>match E.dfn me&&(E.idle f==some cs.length&&E.dok)with
      |true=>wK T ov o.dst (.sc undef) [] fun T ov=>cN (Nat.add nw d7) fun nw=>kC E ca ops hb nx me rest nw T ov k
      |false=>none
   |false=>wK T ov o.dst (.sc undef) [] fun T ov=>cN (Nat.add nw d7) fun nw=>kC E ca ops hb nx me rest nw T ov k
theorem aw0{E:Env}{ca:h9}{ops:List Oper}{hb:Hp}{nx rt n:Nat}{me:FuncId}{base:Nat}{k:KS}{K:KX}(hk:∀e T ov nx,T.Inv n→k e T ov nx=K e (nK T n ov hb nx rt me)):
 ∀(l:List Oper) (i nw:Nat) (T:FT) (ov:OV),nw=base+i*d7→T.Inv n→kC E ca ops hb nx me l nw T ov k=hJ E ca ops base i l (nK T n ov hb nx rt me) K
 | [],i,nw,T,ov,hw,h=>by subst hw;exact hk _ _ _ _ h
 |o::rest,i,nw,T,ov,hw,h=>by
  have ih:∀T ov,T.Inv n→(cN (Nat.add nw d7) fun nw=>kC E ca ops hb nx me rest nw T ov k)=hJ E ca ops base (i+1) rest (nK T n ov hb nx rt me) K:=fun T ov h=>by
   rw[sY]
   exact aw0 hk rest (i+1) _ T ov (by subst hw;show base+i*d7+d7=_;rw[Nat.add_mul,Nat.one_mul,Nat.add_assoc]) h
  rw[kC,hJ]
  refine bn9 h fun b T h=>?_
  cases b with
  |false=>
   rw[if_neg Bool.false_ne_true]
   exact gK h ih
  |true=>
   rw[if_pos rfl]
   simp only[bj4 E h]
   show opK E.P E.push E.rows o (evA E (T.toL n)) (lkp hb ov) nw _=opK E.P E.push E.rows o (evA E (T.toL n)) (lkp hb ov) (base+i*d7) _
   subst hw
   congr 1
   funext r
   cases r with
   |val v us=>
    simp only
    cases hl:cx6 o.op with
    |true=>simp only[Bool.and_true];exact gK (rt:=rt) h ih
    |false=>simp only[Bool.and_false];exact gK (rt:=rt) h ih
   |pan v us=>
    obtain⟨ov',e1,e2⟩:=uN hb us ov (fun ov=>k (.panic v) T ov (base+i*d7))
    show ah2 us ov _=_
    rw[e1,hk _ _ _ _ h]
    unfold nK
    rw[e2]
   |call f args=>
    show sL E ca me f args (lkp hb ov) (base+i*d7) _=sL E ca me f args (lkp hb ov) (base+i*d7) _
    congr 1
    funext r
    cases r with
    |val v us=>exact gK (rt:=rt) h ih
    |pan v us=>
     obtain⟨ov',e1,e2⟩:=uN hb us ov (fun ov=>k (.panic v) T ov (base+i*d7))
     show ah2 us ov _=_
     rw[e1,hk _ _ _ _ h]
     unfold nK
     rw[e2]
    |call f args=>rfl
    |dfr f cs=>rfl
   |dfr f cs=>
    show(match E.dfn me&&(E.idle f==some cs.length&&E.dok)with|true=>_|false=>none)=(match E.dfn me&&(E.idle f==some cs.length&&E.dok)with|true=>_|false=>none)
    cases E.dfn me&&(E.idle f==some cs.length&&E.dok)with
    |true=>exact gK (rt:=rt) h ih
    |false=>rfl
noncomputable def vwQ(E:Env)(b:Nat)(T:FT)(h:Hp)(o:Oper)(k:Vw→Option Ans):Option Ans:=
 fNL (if eb7 o.op then cC h oT (cS (o.op.operands.toList.map (evQ E T))) []else if dk2 o.op then cS (o.op.operands.toList.map (evQ E T))++cW h (cS (o.op.operands.toList.map (evQ E T)))else cS (o.op.operands.toList.map (evQ E T))) fun l=>k ⟨b,some l⟩
theorem fk6(E:Env){b n:Nat}{T:FT}{h:Hp}{o:Oper}{k:Vw→Option Ans}(hi:T.Inv n):vwQ E b T h o k=vwK E b (T.toL n) h o k:=by
 unfold vwQ vwK dl2 cr0
 rw[bj4 E hi]
noncomputable def ldQ(E:Env)(base:Nat)(vw:Vw)(o:Oper)(T:FT)(h:Hp):Option (Nat×Option (Nat×V)):=
 match o.op with
 | .load t x=>match evQ E T x with
  | .ptr b off=>match dd3 E.P t with
   |some false=>(sJ (bM base vw h) b off).map fun v=>(b,some (off,v))
   |_=>none
  |_=>none
 | .nilCheck x=>match evQ E T x with
  | .ptr b _=>(bM base vw h b).map fun _=>(b,none)
  |_=>none
 | .fieldAddr _ x _=>match evQ E T x with
  | .ptr b _=>(bM base vw h b).map fun _=>(b,none)
  |_=>none
 |_=>none
theorem fe6(E:Env){base n:Nat}{vw:Vw}{o:Oper}{T:FT}{h:Hp}(hi:T.Inv n):ldQ E base vw o T h=ea9 E base vw o (T.toL n) h:=by
 unfold ldQ ea9
 simp only[bj4 E hi]
 rfl
noncomputable def dl0:List Oper→FT→OV→(FT→OV→Option Ans)→Option Ans
 | [],T,ov,k=>k T ov
 |o::l,T,ov,k=>wK T ov o.dst .junk [] fun T ov=>dl0 l T ov k
theorem cw6{n:Nat}{hb:Hp}{nx rt:Nat}{me:FuncId}{k:FT→OV→Option Ans}{K:St→Option Ans}(hk:∀T ov,T.Inv n→k T ov=K (nK T n ov hb nx rt me)):∀(l:List Oper) (T:FT) (ov:OV),T.Inv n→dl0 l T ov k=bs6 l (nK T n ov hb nx rt me) K
 | [],T,ov,h=>hk T ov h
 |o::l,T,ov,h=>by
  rw[dl0,bs6]
  exact gK h fun T ov h=>cw6 hk l T ov h
noncomputable def fa6(ops:List Oper)(base:Nat)(o:Oper)(i:Nat)(vw:Vw)(rest:List Oper)(done:List Dn)(v:V)(us:List (Nat×Option Chunk))(T:FT)(ov:OV)(k:KS):Option Ans:=
 match ed9 ops base o i vw rest done us with
 |true=>dl0 (ops.take i) T ov fun T ov=>wK T ov none (.sc undef) us fun T ov=>k (.panic v) T ov (base+(i+1+rest.length)*d7)
 |false=>none
theorem dn6{n:Nat}{hb:Hp}{nx rt:Nat}{me:FuncId}{k:KS}{K:KX}(hk:∀e T ov nx,T.Inv n→k e T ov nx=K e (nK T n ov hb nx rt me)){ops:List Oper}{base:Nat}{o:Oper}{i:Nat}{vw:Vw}{rest:List Oper}{done:List Dn}{v:V}{us:List (Nat×Option Chunk)}{T:FT}{ov:OV}(h:T.Inv n):
 fa6 ops base o i vw rest done v us T ov k=db9 ops base o i vw rest done v us (nK T n ov hb nx rt me) K:=by
 unfold fa6 db9
 cases ed9 ops base o i vw rest done us with
 |true=>
  refine cw6 (fun T ov h=>gK (K:=fun s=>K (.panic v) {fr:=s.fr,H:=s.H,nx:=base+(i+1+rest.length)*d7,rt:=s.rt,me:=s.me}) h fun T ov h=>?_) _ T ov h
  exact hk _ T ov _ h
 |false=>rfl
noncomputable def af8(E:Env)(ca:h9)(ops:List Oper)(befs:List Nat)(base:Nat)(hb:Hp)(nx:Nat)(me:FuncId):List Oper→Nat→Nat→List Dn→FT→OV→KS→Option Ans
 | [],i,nw,_,T,ov,k=>k .normal T ov nw
 |o::rest,i,nw,done,T,ov,k=>
  cd9 o.guard ops T fun b T=>
   match b with
   |true=>
    vwQ E (befs.getD i 0) T (lkp hb ov) o fun vw=>
    opK E.P E.push E.rows o (evQ E T) (bM base vw (lkp hb ov)) nw fun r=>
     match r with
     | .val v us=>
      okK ops base o vw nw v us done
       (wK T ov o.dst v us fun T' ov'=>cN (Nat.succ i) fun i'=>cN (Nat.add nw d7) fun nw=>af8 E ca ops befs base hb nx me rest i' nw ((i,l5 o.op,vw,us.map (·.1),ldQ E base vw o T (lkp hb ov))::done) T' ov' k)
     | .pan v us=>fa6 ops base o i vw rest done v us T ov k
     | .dfr _ _=>none
     | .call f args=>sL E ca me f args (bM base vw (lkp hb ov)) nw fun r=>
      match r with
      | .val v us=>
       if l5 o.op then
        okK ops base o vw nw v us done
         (wK T ov o.dst v us fun T ov=>cN (Nat.succ i) fun i'=>cN (Nat.add nw d7) fun nw=>af8 E ca ops befs base hb nx me rest i' nw ((i,l5 o.op,vw,us.map (·.1),none)::done) T ov k)
       else none
      | .pan v us=>if l5 o.op then fa6 ops base o i vw rest done v us T ov k else none
      |_=>none
   |false=>
    if oN ops base o ⟨befs.getD i 0,some []⟩ [] done then
     wK T ov o.dst (.sc undef) [] fun T ov=>cN (Nat.succ i) fun i'=>cN (Nat.add nw d7) fun nw=>af8 E ca ops befs base hb nx me rest i' nw ((i,l5 o.op,⟨befs.getD i 0,some []⟩,[],none)::done) T ov k
    else none
theorem bq3{E:Env}{ca:h9}{ops:List Oper}{befs:List Nat}{hb:Hp}{nx rt n:Nat}{me:FuncId}{base:Nat}{k:KS}{K:KX}(hk:∀e T ov nx,T.Inv n→k e T ov nx=K e (nK T n ov hb nx rt me)):
 ∀(l:List Oper) (i nw:Nat) (done:List Dn) (T:FT) (ov:OV),nw=base+i*d7→T.Inv n→af8 E ca ops befs base hb nx me l i nw done T ov k=rQ E ca ops befs base i l done (nK T n ov hb nx rt me) K
 | [],i,nw,done,T,ov,hw,h=>by subst hw;exact hk _ _ _ _ h
 |o::rest,i,nw,done,T,ov,hw,h=>by
  have ih:∀done T ov,T.Inv n→(cN (Nat.succ i) fun i'=>cN (Nat.add nw d7) fun nw=>af8 E ca ops befs base hb nx me rest i' nw done T ov k)=rQ E ca ops befs base (i+1) rest done (nK T n ov hb nx rt me) K:=fun done T ov h=>by
   rw[sY,sY]
   exact bq3 hk rest (i+1) _ done T ov (by subst hw;show base+i*d7+d7=_;rw[Nat.add_mul,Nat.one_mul,Nat.add_assoc]) h
  rw[af8,rQ]
  refine bn9 h fun b T h=>?_
  cases b with
  |false=>
   rw[if_neg Bool.false_ne_true]
   by_cases hp:oN ops base o ⟨befs.getD i 0,some []⟩ [] done=true
   ·rw[if_pos hp,if_pos hp]
    exact gK h (ih _)
   ·rw[if_neg hp,if_neg hp]
  |true=>
   rw[if_pos rfl]
   subst hw
   refine(fk6 E h).trans ?_
   show vwK E (befs.getD i 0) (T.toL n) (lkp hb ov) o _=vwK E (befs.getD i 0) (T.toL n) (lkp hb ov) o _
   congr 1
   funext vw
   simp only[bj4 E h]
   show opK E.P E.push E.rows o (evA E (T.toL n)) (bM base vw (lkp hb ov)) (base+i*d7) _=opK E.P E.push E.rows o (evA E (T.toL n)) (bM base vw (lkp hb ov)) (base+i*d7) _
   congr 1
   funext r
   cases r with
   |val v us=>
    simp only
    refine congrArg (okK ops base o vw (base+i*d7) v us done) ?_
    rw[fe6 E h]
    exact gK (rt:=rt) h (ih _)
   |pan v us=>exact dn6 (rt:=rt) hk h
   |dfr f cs=>rfl
   |call f args=>
    show sL E ca me f args (bM base vw (lkp hb ov)) (base+i*d7) _=sL E ca me f args (bM base vw (lkp hb ov)) (base+i*d7) _
    congr 1
    funext r
    cases r with
    |val v us=>
     simp only
     by_cases hp:l5 o.op=true
     ·rw[if_pos hp,if_pos hp]
      exact congrArg (okK ops base o vw (base+i*d7) v us done) (gK (rt:=rt) h (ih _))
     ·rw[if_neg hp,if_neg hp]
    |pan v us=>
     simp only
     by_cases hp:l5 o.op=true
     ·rw[if_pos hp,if_pos hp];exact dn6 (rt:=rt) hk h
     ·rw[if_neg hp,if_neg hp]
    |call f args=>rfl
    |dfr f cs=>rfl
noncomputable def ep3(s:St)(k:FT→Nat→OV→Hp→Nat→Nat→FuncId→Option Ans):Option Ans:=
 match s with
 | ⟨fr,H,nx,rt,me⟩=>FT.ofK fr 0 .e fun T n=>k T n [] H nx rt me
theorem cp2{s:St}{k:FT→Nat→OV→Hp→Nat→Nat→FuncId→Option Ans}{K:St→Option Ans}(hk:∀T n ov hb nx rt me,T.Inv n→k T n ov hb nx rt me=K (nK T n ov hb nx rt me)):ep3 s k=K s:=by
 obtain⟨fr,H,nx,rt,me⟩:=s
 obtain⟨T,e1,e2,e3⟩:=FT.ofK_spec fr 0 .e (fun T n=>k T n [] H nx rt me) FT.inv_e
 show FT.ofK fr 0 .e _=_
 rw[e1,hk _ _ _ _ _ _ _ e2]
 unfold nK
 rw[e3,dp8]
 simp[FT.toL]
noncomputable def ba3(on:Bool)(c:Operand)(b:Bool)(T:FT)(k:FT→Option Ans):Option Ans:=
 match on with
 |true=>match c with
  | .tmp t=>T.setK t (.sc (.bool b)) k
  |_=>k T
 |false=>k T
noncomputable def cn2(T:FT):Nat→List V→(List V→Option Ans)→Option Ans
 |0,l,k=>k l
 |n+1,l,k=>cn2 T n (T.get n::l) k
theorem ab4(T:FT):∀(n:Nat) (l:List V) (k:List V→Option Ans),cn2 T n l k=k (T.toL n++l)
 |0,l,k=>by simp[cn2,FT.toL]
 |n+1,l,k=>by rw[cn2,ab4 T n];simp[FT.toL,List.range_succ]
noncomputable def bx9(live:Nat)(T:FT)(n:Nat)(ov:OV)(hb:Hp)(nx rt:Nat)(me:FuncId)(k:St→Option Ans):Option Ans:=
 cn2 T n [] fun l=>fL (zap live 0 l) fun z=>
 fNL (cC (lkp hb ov) oT (cW (lkp hb ov) (List.range rt)++cS z) (List.range rt)) fun order=>
 fL (ab8 (gN order) z) fun fr=>fCL (keep (lkp hb ov) order) fun l=>cN order.length fun nx=>k {fr:=fr,H:=hp l,nx:=nx,rt:=rt,me:=me}
theorem br8{live:Nat}{T:FT}{n:Nat}{ov:OV}{hb:Hp}{nx rt:Nat}{me:FuncId}{k:St→Option Ans}:bx9 live T n ov hb nx rt me k=sK live (nK T n ov hb nx rt me) k:=by
 unfold bx9 sK fg9
 simp only[ab4,nI,uR,bd6,sY,List.append_nil]
 rfl
abbrev KQ:=Ex→FT→Nat→OV→Hp→Nat→Nat→FuncId→Option Ans
noncomputable def mT(E:Env)(ca:h9)(lo:f7):ACode→FT→Nat→OV→Hp→Nat→Nat→FuncId→KQ→Option Ans
 | .skip,T,n,ov,hb,nx,rt,me,k=>k .normal T n ov hb nx rt me
 | .region _ ops d,T,n,ov,hb,nx,rt,me,k=>
  match d with
  |true=>if bc7 E.P ops then fNL (Region.before ops.toArray).toList fun befs=>af8 E ca ops befs nx hb nx me ops 0 nx [] T ov fun e T ov nx=>k e T n ov hb nx rt me else none
  |false=>kC E ca ops hb nx me ops nx T ov fun e T ov nx=>k e T n ov hb nx rt me
 | .seq a b,T,n,ov,hb,nx,rt,me,k=>mT E ca lo a T n ov hb nx rt me fun e T n ov hb nx rt me=>match e with
  | .normal=>mT E ca lo b T n ov hb nx rt me k
  |e=>k e T n ov hb nx rt me
 | .cond c x y,T,n,ov,hb,nx,rt,me,k=>
  match evQ E T c with
  | .sc (.bool b)=>if b then ba3 (E.sett me) c true T fun T=>mT E ca lo x T n ov hb nx rt me k else ba3 (E.sett me) c false T fun T=>mT E ca lo y T n ov hb nx rt me k
  |_=>none
 | .block id c,T,n,ov,hb,nx,rt,me,k=>mT E ca lo c T n ov hb nx rt me fun e T n ov hb nx rt me=>match e with
  | .exit j=>if j=id then k .normal T n ov hb nx rt me else k (.exit j) T n ov hb nx rt me
  |e=>k e T n ov hb nx rt me
 | .loop id live c,T,n,ov,hb,nx,rt,me,k=>bx9 live T n ov hb nx rt me fun s=>lo id live c s fun e s=>ep3 s fun T n ov hb nx rt me=>k e T n ov hb nx rt me
 | .exit id,T,n,ov,hb,nx,rt,me,k=>k (.exit id) T n ov hb nx rt me
 | .ret,T,n,ov,hb,nx,rt,me,k=>k .ret T n ov hb nx rt me
 | .scope c,T,n,ov,hb,nx,rt,me,k=>mT E ca lo c T n ov hb nx rt me k
 | .label _,T,n,ov,hb,nx,rt,me,k=>k .normal T n ov hb nx rt me
 | .no _,_,_,_,_,_,_,_,_=>none
def Sim(k:KQ)(K:KX):Prop:=∀e T n ov hb nx rt me,T.Inv n→k e T n ov hb nx rt me=K e (nK T n ov hb nx rt me)
theorem bh5{on:Bool}{c:Operand}{b:Bool}{T:FT}{n:Nat}{ov:OV}{hb:Hp}{nx rt:Nat}{me:FuncId}{k:FT→Option Ans}{K:St→Option Ans}(h:T.Inv n)(hk:∀T,T.Inv n→k T=K (nK T n ov hb nx rt me)):
 ba3 on c b T k=zL on c b (nK T n ov hb nx rt me) K:=by
 unfold ba3 zL
 cases on with
 |false=>exact hk _ h
 |true=>
  cases c with
  |tmp t=>simp only[FT.setK_eq,setK_eq];rw[hk _ (FT.inv_set h)];unfold nK;rw[FT.toL_set h]
  |const v=>exact hk _ h
  |global g=>exact hk _ h
  |func f=>exact hk _ h
theorem nF{E:Env}{ca:h9}{lo:f7}:∀(c:ACode) (T:FT) (n:Nat) (ov:OV) (hb:Hp) (nx rt:Nat) (me:FuncId) (k:KQ) (K:KX),T.Inv n→Sim k K→mT E ca lo c T n ov hb nx rt me k=aA E ca lo c (nK T n ov hb nx rt me) K
 | .skip,T,n,ov,hb,nx,rt,me,k,K,h,hk=>hk _ _ _ _ _ _ _ _ h
 | .region _ ops d,T,n,ov,hb,nx,rt,me,k,K,h,hk=>by
  cases d with
  |false=>
   rw[mT,aA,if_neg Bool.false_ne_true]
   exact aw0 (fun e T ov nx h=>hk e T n ov hb nx rt me h) ops 0 nx T ov (by simp[nK]) h
  |true=>
   rw[mT,aA,if_pos rfl]
   by_cases hd:bc7 E.P ops=true
   ·rw[if_pos hd,if_pos hd,uR,uR]
    exact bq3 (fun e T ov nx h=>hk e T n ov hb nx rt me h) ops 0 nx [] T ov (by simp[nK]) h
   ·rw[if_neg hd,if_neg hd]
 | .seq a b,T,n,ov,hb,nx,rt,me,k,K,h,hk=>by
  rw[mT,aA]
  refine nF a T n ov hb nx rt me _ _ h fun e T n ov hb nx rt me h=>?_
  cases e with
  |normal=>exact nF b T n ov hb nx rt me k K h hk
  |exit j=>exact hk _ _ _ _ _ _ _ _ h
  |ret=>exact hk _ _ _ _ _ _ _ _ h
  |panic v=>exact hk _ _ _ _ _ _ _ _ h
 | .cond c x y,T,n,ov,hb,nx,rt,me,k,K,h,hk=>by
  rw[mT,aA,bj4 E h]
  show(match evA E (T.toL n) c with| .sc (.bool b)=>_|_=>_)=(match evA E (T.toL n) c with| .sc (.bool b)=>_|_=>_)
  cases evA E (T.toL n) c<;>try rfl
  rename_i v
  cases v<;>try rfl
  rename_i b
  cases b with
  |false=>exact bh5 (K:=fun s=>aA E ca lo y s K) h fun T h=>nF y T n ov hb nx rt me k K h hk
  |true=>exact bh5 (K:=fun s=>aA E ca lo x s K) h fun T h=>nF x T n ov hb nx rt me k K h hk
 | .block id c,T,n,ov,hb,nx,rt,me,k,K,h,hk=>by
  rw[mT,aA]
  refine nF c T n ov hb nx rt me _ _ h fun e T n ov hb nx rt me h=>?_
  cases e with
  |normal=>exact hk _ _ _ _ _ _ _ _ h
  |exit j=>
   simp only
   by_cases hj:j=id
   ·rw[if_pos hj,if_pos hj];exact hk _ _ _ _ _ _ _ _ h
   ·rw[if_neg hj,if_neg hj];exact hk _ _ _ _ _ _ _ _ h
  |ret=>exact hk _ _ _ _ _ _ _ _ h
  |panic v=>exact hk _ _ _ _ _ _ _ _ h
 | .loop id live c,T,n,ov,hb,nx,rt,me,k,K,h,hk=>by
  rw[mT,aA,br8]
  congr 1
  funext s
  congr 1
  funext e s
  exact cp2 fun T n ov hb nx rt me h=>hk e T n ov hb nx rt me h
 | .exit id,T,n,ov,hb,nx,rt,me,k,K,h,hk=>hk _ _ _ _ _ _ _ _ h
 | .ret,T,n,ov,hb,nx,rt,me,k,K,h,hk=>hk _ _ _ _ _ _ _ _ h
 | .scope c,T,n,ov,hb,nx,rt,me,k,K,h,hk=>by
  rw[mT,aA]
  exact nF c T n ov hb nx rt me k K h hk
 | .label _,T,n,ov,hb,nx,rt,me,k,K,h,hk=>hk _ _ _ _ _ _ _ _ h
 | .no _,_,_,_,_,_,_,_,_,_,_,_=>rfl
noncomputable def do8(E:Env)(ca:h9)(lo:f7)(id live:Nat)(c:ACode)(s:St)(k:KX):Option Ans:=
 ep3 s fun T n ov hb nx rt me=>mT E ca lo c T n ov hb nx rt me fun e T n ov hb nx rt me=>match e with
  | .normal=>bx9 live T n ov hb nx rt me fun s=>lo id live c s k
  |e=>cn2 T n [] fun l=>k e {fr:=l,H:=lkp hb ov,nx:=nx,rt:=rt,me:=me}
theorem ch8{E:Env}{ca:h9}{lo:f7}{id live:Nat}{c:ACode}{s:St}{k:KX}:do8 E ca lo id live c s k=r9 E ca lo id live c s k:=by
 unfold do8 r9
 refine cp2 (K:=fun s=>aA E ca lo c s fun e s=>match e with| .normal=>sK live s fun s=>lo id live c s k|e=>k e s) fun T n ov hb nx rt me h=>nF c T n ov hb nx rt me _ _ h fun e T n ov hb nx rt me h=>?_
 cases e with
 |normal=>exact br8
 |exit j=>simp only[ab4,List.append_nil];rfl
 |ret=>simp only[ab4,List.append_nil];rfl
 |panic v=>simp only[ab4,List.append_nil];rfl
noncomputable def dn0(E:Env)(ca:h9)(lo:f7)(f:FuncId)(args:List V)(L:List (Option Chunk))(k:CRes→Option Ans):Option Ans:=
 match E.code f with
 |some c=>match E.P.funcs[f]?with
  |some fn=>fL args fun args=>FT.ofK (args++List.replicate (fn.ntmps-args.length) (.sc undef)) 0 .e fun T n=>
   cN (z6 E.allR (hp L) args).length fun rt=>if rt≤L.length then
    cN L.length fun nx=>mT E ca lo c T n [] (hp L) nx rt f fun e T n ov hb nx rt me=>cn2 T n [] fun l=>eh8 E fn k e {fr:=l,H:=lkp hb ov,nx:=nx,rt:=rt,me:=me}
   else none
  |none=>none
 |none=>none
theorem cx4{E:Env}{ca:h9}{lo:f7}{f:FuncId}{args:List V}{L:List (Option Chunk)}{k:CRes→Option Ans}:dn0 E ca lo f args L k=j8 E ca lo f args L k:=by
 unfold dn0 j8
 cases E.code f with
 |none=>rfl
 |some c=>
  simp only
  cases E.P.funcs[f]?with
  |none=>rfl
  |some fn=>
   simp only[nI]
   obtain⟨T,e1,e2,e3⟩:=FT.ofK_spec (args++List.replicate (fn.ntmps-args.length) (.sc undef)) 0 .e (fun T n=>
    cN (z6 E.allR (hp L) args).length fun rt=>if rt≤L.length then
     cN L.length fun nx=>mT E ca lo c T n [] (hp L) nx rt f fun e T n ov hb nx rt me=>cn2 T n [] fun l=>eh8 E fn k e {fr:=l,H:=lkp hb ov,nx:=nx,rt:=rt,me:=me}
    else none) FT.inv_e
   rw[e1]
   simp only[sY]
   by_cases hle:(z6 E.allR (hp L) args).length≤L.length
   ·rw[if_pos hle,if_pos hle,nF c T _ [] (hp L) L.length _ f _ (eh8 E fn k) e2 (fun e T n ov hb nx rt me h=>by simp only[ab4,List.append_nil];rfl)]
    unfold nK
    rw[e3,dp8]
    simp[FT.toL]
   ·rw[if_neg hle,if_neg hle]
mutual
noncomputable def ae7(E:Env):Nat→h9
 |0=>fun _ _ _ _=>none
 |n+1=>fun f args L k=>match dn0 E (ae7 E n) (bj8 E n) f args L (fun r=>some (.c r))with
  |some (.c r)=>k r
  |_=>none
noncomputable def bj8(E:Env):Nat→f7
 |0=>fun _ _ _ _ _=>none
 |n+1=>fun id live c s k=>match do8 E (ae7 E n) (bj8 E n) id live c s (fun e s=>some (.l e s))with
  |some (.l e s)=>k e s
  |_=>none
end
theorem fd0(E:Env):∀n,ae7 E n=am0 E n∧bj8 E n=av4 E n
 |0=>by simp[ae7,am0,bj8,av4]
 |n+1=>by
  obtain⟨h1,h2⟩:=fd0 E n
  constructor
  ·funext f args L k
   rw[ae7,am0,h1,h2]
   simp only[cx4]
   rfl
  ·funext id live c s k
   rw[bj8,av4,h1,h2]
   simp only[ch8]
   rfl
theorem SC.closedQ{E:Env}(hW:WF E)(hX:SoundX E)(n:Nat){f:FuncId}{args:List V}{L:List (Option Chunk)}{cr:CRes}(h:ae7 E n f args L (fun r=>some (.c r))=some (.c cr)):SC E f args L cr:=
 SC.closed hW hX n (by rw[←(fd0 E n).1];exact h)
end Go.Am
/- States weakened; loops by tables of facts. -/
namespace Go.Am
open Go Go.RowKit
noncomputable def cl(p:Prop)(x y:Option Ans):Option Ans:=@ite _ p (Classical.propDecidable p) x y
theorem eh1{p:Prop}{x y:Option Ans}(h:p):cl p x y=x:=by unfold cl;exact if_pos h
theorem dn9{p:Prop}{x y:Option Ans}{r:Ans}(h:cl p x y=some r):(p∧x=some r)∨(¬p∧y=some r):=by
 unfold cl at h
 split at h
 ·exact .inl ⟨by assumption,h⟩
 ·exact .inr ⟨by assumption,h⟩
theorem Le.junk(v:V):Le v .junk:=fun _ _ _ _ _ _=>by simp[den]
theorem LeL.nil:LeL [] []:=fun _ _ _ _ _ h=>h
theorem Le.trans{a b c:V}(h:Le a b)(g:Le b c):Le a c:=fun β S w D u hd=>g β S w D u (h β S w D u hd)
theorem LeL.trans{a b c:List V}(h:LeL a b)(g:LeL b c):LeL a c:=fun β S w D u hd=>g β S w D u (h β S w D u hd)
theorem Le.tup{a b:List V}(h:LeL a b):Le (.tup a) (.tup b):=by
 intro β S w D u hd
 simp only[Am.den]at hd⊢
 obtain⟨us,h1,h2⟩:=hd
 exact⟨us,h1,h _ _ _ _ _ h2⟩
def ChLe(c c':Chunk):Prop:=∀β S w D b m,b5 β S w D b m c→b5 β S w D b m c'
theorem ChLe.refl(c:Chunk):ChLe c c:=fun _ _ _ _ _ _ h=>h
theorem ChLe.blk{a b:List V}(h:LeL a b):ChLe (.blk a) (.blk b):=by
 intro β S w D bb m hd
 simp only[b5]at hd⊢
 obtain⟨h0,us,T,h1,h2,h3⟩:=hd
 exact⟨h0,us,T,h1,h _ _ _ _ _ h2,h3⟩
theorem ChLe.row{e k n:Nat}{f g:Nat→List V}(h:∀j,j<n→f j=g j):ChLe (.row e k n f) (.row e k n g):=by
 intro β S w D b m hd
 simp only[b5]at hd⊢
 obtain⟨h1,h2,h3,hc⟩:=hd
 refine⟨h1,h2,h3,fun h0=>?_⟩
 obtain⟨cur,h4,h5,h6⟩:=hc h0
 exact⟨cur,h4,h5,fun j hj=>by rw[←h j hj];exact h6 j hj⟩
def OcLe:Option Chunk→Option Chunk→Prop
 |none,none=>True
 |some c,some c'=>ChLe c c'
 |_,_=>False
structure LeSt(s s':St):Prop where
 fr:LeL s.fr s'.fr
 H:∀i,OcLe (s.H i) (s'.H i)
 nx:s.nx=s'.nx
 rt:s.rt=s'.rt
 me:s.me=s'.me
theorem OcLe.refl(c:Option Chunk):OcLe c c:=by cases c with|none=>exact trivial|some c=>exact ChLe.refl c
theorem LeSt.refl(s:St):LeSt s s:=⟨LeL.refl _,fun _=>OcLe.refl _,rfl,rfl,rfl⟩
def ff5:List (Option Chunk)→List (Option Chunk)→Prop
 | [],[]=>True
 |a::l,b::m=>OcLe a b∧ff5 l m
 |_,_=>False
theorem en8:∀{l m:List (Option Chunk)},ff5 l m→∀i,OcLe (hp l i) (hp m i)
 | [],[],_,i=>by simp[hp,OcLe]
 |a::l,b::m,h,i=>by
  cases i with
  |zero=>simpa[hp]using h.1
  |succ i=>simpa[hp]using en8 h.2 i
 | [],b::m,h,_=>h.elim
 |a::l,[],h,_=>h.elim
theorem LeSt.mk'{fr fr':List V}{l m:List (Option Chunk)}{nx rt:Nat}{me:FuncId}(h1:LeL fr fr')(h2:ff5 l m):LeSt {fr:=fr,H:=hp l,nx:=nx,rt:=rt,me:=me} {fr:=fr',H:=hp m,nx:=nx,rt:=rt,me:=me}:=
 ⟨h1,en8 h2,rfl,rfl,rfl⟩
theorem Mem.le{β:Bt}{S D:Pr}{H H':Hp}{w:World}(h:Mem β S D H w)(hl:∀i,OcLe (H i) (H' i)):Mem β S D H' w:=by
 refine⟨fun i c hc=>?_,fun i hi=>?_,h.dom,h.own,h.inj,h.st⟩
 ·have:=hl i
  rw[hc]at this
  cases hH:H i with
  |none=>rw[hH]at this;exact this.elim
  |some c0=>
   rw[hH]at this
   obtain⟨b,m,h1,h2⟩:=h.live i c0 hH
   exact⟨b,m,h1,this _ _ _ _ _ _ h2⟩
 ·have:=hl i
  rw[hi]at this
  cases hH:H i with
  |none=>exact h.dead i hH
  |some c0=>rw[hH]at this;exact this.elim
theorem Rel.le{E:Env}{β:Bt}{S D:Pr}{s s':St}{a:Act}{w:World}(h:Rel E β S D s a w)(hl:LeSt s s'):Rel E β S D s' a w:=
 ⟨hl.fr _ _ _ _ _ h.fr,h.mem.le hl.H,(by rw[←hl.me];exact h.df),by rw[←hl.nx];exact h.lt,h.gl,by rw[←hl.rt];exact h.rtD⟩
theorem SL.le{E:Env}{c:ACode}{s s' t:St}{e:Ex}(h:SL E c s' e t)(hl:LeSt s s'):SL E c s e t:=by
 intro β S D a w hR b k cs
 obtain⟨e',a',w',hP,hA⟩:=h β S D a w (hR.le hl) b k cs
 refine⟨e',a',w',?_,hA⟩
 obtain⟨β',S',D',h1,h2,h3,h4,h5,h6⟩:=hP.ex
 exact⟨β',S',D',h1,h2,h3,by rw[hl.rt];exact h4,by rw[hl.rt];exact h5,by rw[hl.me];exact h6⟩
theorem RelX.le{E:Env}{e:Ex}{β:Bt}{S D:Pr}{s s':St}{a:Act}{w:World}(h:RelX E e β S D s a w)(hl:LeSt s s'):RelX E e β S D s' a w:=by
 exact Rel.le h hl
theorem SL.post{E:Env}{c:ACode}{s t t':St}{e:Ex}(h:SL E c s e t)(hl:LeSt t t'):SL E c s e t':=by
 intro β S D a w hR b k cs
 obtain⟨e',a',w',hP,hA⟩:=h β S D a w hR b k cs
 refine⟨e',a',w',?_,hA⟩
 obtain⟨β',S',D',h1,h2,h3,h4,h5,h6⟩:=hP.ex
 exact⟨β',S',D',h1,h2.le hl,h3,h4,by rw[←hl.rt];exact h5,by rw[←hl.me];exact h6⟩
theorem SC.le{E:Env}{f:FuncId}{args:List V}{L:List (Option Chunk)}{v v':V}{L':List (Option Chunk)}(h:SC E f args L (.ret v L'))(hl:Le v v'):SC E f args L (.ret v' L'):=by
 refine⟨h.1,fun β S w us h1 h2 h3=>(h.2 β S w us h1 h2 h3).mono ?_⟩
 rintro e w' ⟨u,β',S',g1,g2,g3,g4,g5⟩
 exact⟨u,β',S',g1,g2,hl _ _ _ _ _ g3,g4,g5⟩
theorem SC.give{E:Env}{f:FuncId}{args:List V}{L0:List (Option Chunk)}{v:V}{L:List (Option Chunk)}(h:SC E f args L0 (.ret v L))(hp':(v.bw (hp L)).pure=true):SC E f args L0 (.ret (v.bw (hp L)) []):=by
 refine⟨h.1,fun β S w us h1 h2 h3=>(h.2 β S w us h1 h2 h3).mono ?_⟩
 rintro e w' ⟨u,β',S',rfl,g1,g2,g3,g4⟩
 refine⟨u,fun _=>none,fun b=>S' b∨∃j m',0<m'∧β' j=some (b,m'),rfl,⟨fun i c hc=>(by simp[hp]at hc),fun _ _=>rfl,fun i b m h=>(by cases h),fun i b m h=>(by cases h),fun i j b m m' h=>(by cases h),?_⟩,?_,⟨g3.os,g3.tape,g3.output,g3.size,g3.keep,fun b h=>.inl (g3.sub b h),?_,fun i b m h=>(by cases h)⟩,fun i bm _ h=>(by cases h)⟩
 ·rintro b (hs| ⟨j,m',h0,hj⟩)
  ·exact g1.st b hs
  ·exact(g1.own j b m' hj h0).1
 ·have:=bk2 (S':=fun b=>S' b∨∃j m',0<m'∧β' j=some (b,m')) (β':=fun _=>none) g1 (fun _ _=>.inr rfl) (fun _ h=>.inl h) (fun i b m hb h0=>.inr ⟨i,m,h0,hb⟩) g2
  exact m8 (fun _ h=>h) (fun _ _=>rfl) _ _ hp' this
 ·rintro b (hs| ⟨j,m',h0,hj⟩)
  ·exact g3.newS b hs
  ·rcases g3.newO j b m' hj h0 with h| ⟨j',m'',h0',h⟩
   ·exact .inr (.inl h)
   ·exact .inr (.inr ⟨j',m'',h0',h⟩)
theorem Le.nil_ro{k:Nat}{f:Nat→List V}:Le (.sc (.slice none 0 0)) (.ro k 0 f):=by
 intro β S w D u hd
 simp only[Am.den]at hd⊢
 subst hd
 exact⟨Nat.zero_le _,none,0,⟨0,0,none⟩,fun _=>[],rfl,Nat.le_refl _,fun h=>absurd h (Nat.lt_irrefl _),fun j hj=>absurd hj (Nat.not_lt_zero _)⟩
theorem SL.canon{E:Env}{c:ACode}{s t:St}{e:Ex}(h:SL E c s e t)(live:Nat):SL E c s e (as1 live t):=by
 intro β S D a w hR b k cs
 obtain⟨e',a',w',hP,hA⟩:=h β S D a w hR b k cs
 refine⟨e',a',w',?_,hA⟩
 obtain⟨β',S',D',h1,h2,h3,h4,h5,h6⟩:=hP.ex
 obtain⟨β2,D2,g1,g2,g3⟩:=aa4 h2 live
 exact⟨β2,S',D2,h1,g1,h3.trans g2,fun i bm hi hb=>h4 i bm hi (g3 i bm (by rw[h5];exact hi) hb),h5,h6⟩
def KC(live:Nat):Ex→St→Option Ans:=fun e s=>sK live s fun s=>some (.l e s)
theorem SL.by{E:Env}{ca:h9}{lo:f7}(hC:m6 E ca)(hX:SoundX E)(hL:p7 E lo){id live m:Nat}{c:ACode}{s t:St}{e:Ex}(h:r9 E ca lo id live c s (KC m)=some (.l e t)):SL E c s e t:=by
 obtain⟨e1,s1,h1,h2⟩:=eM hC hX hL h
 simp only[KC,uE,Option.some.injEq,Ans.l.injEq]at h1
 obtain⟨rfl,rfl⟩:=h1
 exact h2.canon _
theorem SL.next{E:Env}{ca:h9}(hC:m6 E ca)(hX:SoundX E){id live:Nat}{c:ACode}{s s' t:St}{e:Ex}(h:∀(lo:f7) (k:Ex→St→Option Ans),r9 E ca lo id live c s k=lo id live c s' k)(hn:SL E c s' e t):SL E c s e t:=by
 let lo:f7:=fun id live c1 s1 k=>cl (c1=c∧s1=s') (k e t) none
 have hlo:p7 E lo:=by
  intro id live c1 s1 k r hr
  rcases dn9 hr with⟨⟨rfl,rfl⟩,h1⟩ | ⟨_,h1⟩
  ·exact⟨_,_,h1,hn⟩
  ·cases h1
 have h1:r9 E ca lo id live c s (fun e s=>some (.l e s))=some (.l e t):=(h lo _).trans (eh1 ⟨rfl,rfl⟩)
 obtain⟨e1,s1,h2,h3⟩:=eM hC hX hlo h1
 simp only[Option.some.injEq,Ans.l.injEq]at h2
 obtain⟨rfl,rfl⟩:=h2
 exact h3
def mZ(id:Nat):ACode→Option ACode
 | .seq a b=>match mZ id a with|some c=>some c|none=>mZ id b
 | .cond _ a b=>match mZ id a with|some c=>some c|none=>mZ id b
 | .block _ c=>mZ id c
 | .scope c=>mZ id c
 | .loop j _ c=>if j=id then some c else mZ id c
 |_=>none
def b6(E:Env)(f:FuncId)(id:Nat):ACode:=((E.code f).bind (mZ id)).getD .skip
end Go.Am
/- What is computed, as functions of plain data: calls and loops by functions that may fail. -/
namespace Go.Am
open Go Go.RowKit
open Classical in
noncomputable def ff2{α τ:Type}(A:α→τ)(t:τ):Option α:=if h:∃x,A x=t then some (Classical.choose h)else none
noncomputable def eK{α γ τ:Type}(A:α→τ)(p:α→Option γ)(t:τ):Option γ:=(ff2 A t).bind p
theorem bp1{α γ τ:Type}{A:α→τ}{p:α→Option γ}{t:τ}{z:γ}(h:eK A p t=some z):∃x,A x=t∧p x=some z:=by
 unfold eK ff2 at h
 split at h
 ·rename_i hx
  exact⟨_,Classical.choose_spec hx,h⟩
 ·cases h
theorem y7{α γ τ:Type}{A:α→τ}(hi:∀x y,A x=A y→x=y)(p:α→Option γ):(fun x=>eK A p (A x))=p:=by
 funext x
 unfold eK ff2
 have hx:∃y,A y=A x:=⟨x,rfl⟩
 rw[dif_pos hx]
 show p (Classical.choose hx)=p x
 rw[hi _ _ (Classical.choose_spec hx)]
noncomputable def jL{α γ:Type}(g:FuncId)(gd:List V→List (Option Chunk)→Bool)(A:α→List V×List (Option Chunk))(ex:γ→(CRes→Option Ans)→Option Ans)(p:α→Option γ)(ca:h9):h9:=fun f args L k=>
 if(f==g&&gd args L)=true then(eK A p (args,L)).bind fun z=>ex z k else ca f args L k
theorem j3{E:Env}{α γ:Type}{g:FuncId}{gd:List V→List (Option Chunk)→Bool}{A:α→List V×List (Option Chunk)}{ex:γ→(CRes→Option Ans)→Option Ans}{p:α→Option γ}{ca:h9}{R:γ→CRes}
 (h:∀x z,p x=some z→SC E g (A x).1 (A x).2 (R z)) (hex:∀z k,ex z k=k (R z)) (hl:m6 E ca):m6 E (jL g gd A ex p ca):=by
 intro f args L k r hr
 simp only[jL]at hr
 split at hr
 ·rename_i e
  simp only[Bool.and_eq_true,beq_iff_eq]at e
  obtain⟨rfl,_⟩:=e
  cases hv:eK A p (args,L)with
  |none=>rw[hv]at hr;cases hr
  |some z=>
   rw[hv]at hr
   obtain⟨x,hx,hp⟩:=bp1 hv
   have:=h x z hp
   rw[hx]at this
   exact⟨_,(hex z k)▸hr,this⟩
 ·exact hl _ _ _ _ _ hr
noncomputable def ac4{α γ:Type}(id:Nat)(gd:St→Bool)(body:ACode)(S:α→St)(ex:γ→KX→Option Ans)(p:α→Option γ)(lo:f7):f7:=fun id' live c s k=>
 if(id'==id&&gd s)=true then(eK (fun x=>(body,S x)) p (c,s)).bind fun z=>ex z k else lo id' live c s k
theorem eO{E:Env}{α γ:Type}{id:Nat}{gd:St→Bool}{body:ACode}{S:α→St}{ex:γ→KX→Option Ans}{p:α→Option γ}{lo:f7}{T:γ→Ex×St}
 (h:∀x z,p x=some z→SL E body (S x) (T z).1 (T z).2) (hex:∀z k,ex z k=k (T z).1 (T z).2) (hl:p7 E lo):p7 E (ac4 id gd body S ex p lo):=by
 intro id' live c s k r hr
 simp only[ac4]at hr
 split at hr
 ·cases hv:eK (fun x=>(body,S x)) p (c,s)with
  |none=>rw[hv]at hr;cases hr
  |some z=>
   rw[hv]at hr
   obtain⟨x,hx,hp⟩:=bp1 hv
   simp only[Prod.mk.injEq]at hx
   obtain⟨rfl,rfl⟩:=hx
   exact⟨_,_,(hex z k)▸hr,h x z hp⟩
 ·exact hl _ _ _ _ _ _ hr
theorem xB{α:Type}{S:α→St}(body:ACode)(hi:∀x y,S x=S y→x=y):∀x y,(body,S x)=(body,S y)→x=y:=fun x y h=>hi x y (Prod.mk.inj h).2
def lo0:f7:=fun _ _ _ _ _=>none
theorem b8{E:Env}:p7 E lo0:=fun id live c s k r h=>by cases h
def ca0:h9:=fun _ _ _ _=>none
theorem a8{E:Env}:m6 E ca0:=fun f args L k r h=>by cases h
def KCM(ms:List (Nat×Nat))(r:Nat):Ex→St→Option Ans:=fun e s=>
 sK (match e with| .ret=>r| .exit j=>ez7 ms j| .normal=>0| .panic _=>ez7 ms 1000) s fun s=>some (.l e s)
theorem SL.byM{E:Env}{ca:h9}{lo:f7}(hC:m6 E ca)(hX:SoundX E)(hL:p7 E lo){id live:Nat}{ms:List (Nat×Nat)}{r:Nat}{c:ACode}{s t:St}{e:Ex}(h:r9 E ca lo id live c s (KCM ms r)=some (.l e t)):SL E c s e t:=by
 obtain⟨e1,s1,h1,h2⟩:=eM hC hX hL h
 simp only[KCM,uE,Option.some.injEq,Ans.l.injEq]at h1
 obtain⟨rfl,rfl⟩:=h1
 exact h2.canon _
def loU(E:Env)(ca:h9)(ids:List Nat)(lo:f7):Nat→f7
 |0=>lo
 |n+1=>fun id live c s k=>if ids.contains id=true then r9 E ca (loU E ca ids lo n) id live c s k else lo id live c s k
theorem aa9{E:Env}{ca:h9}(hC:m6 E ca)(hX:SoundX E){ids:List Nat}{lo:f7}(hL:p7 E lo):∀n,p7 E (loU E ca ids lo n)
 |0=>hL
 |n+1=>fun id live c s k r h=>by
  simp only[loU]at h
  split at h
  ·exact eM hC hX (aa9 hC hX hL n) h
  ·exact hL _ _ _ _ _ _ h
def lpG{α γ:Type}(st:α→Option (α⊕γ)):Nat→α→Option γ
 |0,_=>none
 |n+1,x=>(st x).bind fun r=>Sum.elim (lpG st n) some r
theorem SL.lp{E:Env}{ca:h9}{LT:f7→f7}(hC:m6 E ca)(hX:SoundX E)(hL:∀lo,p7 E lo→p7 E (LT lo)){α γ:Type}{S:α→St}{T:γ→Ex×St}{st:α→Option (α⊕γ)}{id live:Nat}{ms:List (Nat×Nat)}{r:Nat}{c:ACode}
 (tr:∀lo x,r9 E ca (LT lo) id live c (S x) (KCM ms r)=(st x).bind fun r'=>Sum.elim (fun y=>lo id live c (S y) (KCM ms r)) (fun z=>some (.l (T z).1 (T z).2)) r')
 (kT:∀z,KCM ms r (T z).1 (T z).2=some (.l (T z).1 (T z).2)):∀n x z,lpG st n x=some z→SL E c (S x) (T z).1 (T z).2:=by
 intro n
 induction n with
 |zero=>intro x z h;cases h
 |succ n ih=>
  intro x z h
  rw[lpG]at h
  cases hs:st x with
  |none=>rw[hs]at h;cases h
  |some q=>
   rw[hs]at h
   cases q with
   |inr z'=>
    simp only[Option.bind_some,Sum.elim_inr,Option.some.injEq]at h
    subst h
    exact SL.byM hC hX (hL _ b8) ((tr lo0 x).trans (by rw[hs];rfl))
   |inl y=>
    simp only[Option.bind_some,Sum.elim_inl]at h
    have hy:=ih y z h
    let lo:f7:=fun _ _ c1 s1 k=>cl (c1=c∧s1=S y) (k (T z).1 (T z).2) none
    have hlo:p7 E lo:=by
     intro id live c1 s1 k r hr
     rcases dn9 hr with⟨⟨rfl,rfl⟩,h1⟩ | ⟨_,h1⟩
     ·exact⟨_,_,h1,hy⟩
     ·cases h1
    refine SL.byM hC hX (hL _ hlo) ((tr lo x).trans ?_)
    rw[hs]
    exact(eh1 ⟨rfl,rfl⟩).trans (kT z)
theorem bf0{α γ:Type}{st:α→Option (α⊕γ)}{n:Nat}{x:α}:lpG st (n+1) x=(st x).bind fun r=>Sum.elim (lpG st n) some r:=rfl
theorem cp6{α γ:Type}{st st':α→Option (α⊕γ)}(hst:∀x r,st x=some r→st' x=some r):∀{n m:Nat},n≤m→∀{x:α} {z:γ},lpG st n x=some z→lpG st' m x=some z
 |0,_,_,_,_,h=>by cases h
 |n+1,0,hm,_,_,_=>absurd hm (by omega)
 |n+1,m+1,hm,x,z,h=>by
  rw[bf0]at h⊢
  cases hs:st x with
  |none=>rw[hs]at h;cases h
  |some q=>
   rw[hs]at h
   rw[hst x q hs]
   cases q with
   |inr z'=>exact h
   |inl y=>exact cp6 hst (Nat.le_of_succ_le_succ hm) h
def cb4:V→Bool| .sc (.slice none 0 0)=>true|_=>false
def vI:V→Int| .sc (.int _ n)=>n|_=>0
def vS:V→ByteArray| .sc (.string s)=>s|_=>ByteArray.empty
def vAg:V→List V| .agg l=>l|_=>[]
def kP:V→Nat| .ro _ n _=>n|_=>0
def nX:V→Nat→List V| .ro _ _ f=>f|_=>fun _=>[]
def fE:V→Nat| .sl _ _ _ n=>n|_=>0
def chB:Option Chunk→List V|some (.blk l)=>l|_=>[]
def chN:Option Chunk→Nat|some (.row _ _ n _)=>n|_=>0
def chF:Option Chunk→Nat→List V|some (.row _ _ _ f)=>f|_=>fun _=>[]
def chP:Option Chunk→Nat|some (.iter _ p)=>p|_=>0
theorem aU{α β γ:Type}{o:Option α}{f:α→Option β}{g:α→Option γ}{k:γ→Option β}(h:∀z,f z=(g z).bind k):o.bind f=(o.bind g).bind k:=by
 cases o with
 |none=>rfl
 |some z=>exact h z
theorem cL{c:Prop}[Decidable c]{β γ:Type}{a b:Option β}{a' b':Option γ}{k:γ→Option β}(h1:a=a'.bind k)(h2:b=b'.bind k):ite c a b=(ite c a' b').bind k:=by
 split
 ·exact h1
 ·exact h2
theorem cF{α1 α2 β γ:Type}{f1:α1→Option β}{f2:α2→Option β}{g1:α1→Option γ}{g2:α2→Option γ}{k:γ→Option β}{z:α1⊕α2}(h1:∀z,f1 z=(g1 z).bind k)(h2:∀z,f2 z=(g2 z).bind k):Sum.elim f1 f2 z=(Sum.elim g1 g2 z).bind k:=by
 cases z with
 |inl z=>exact h1 z
 |inr z=>exact h2 z
theorem aW{β γ:Type}{k:γ→Option β}:(none:Option β)=(none:Option γ).bind k:=rfl
end Go.Am
/- Slices cloned: a row of one's own of the same cells, without a block if there are none. -/
namespace Go.Am
open Go Go.RowKit
def al9(P:Program)(f:FuncId)(e c b:Nat):Prop:=
 gQ P f∧∀(w:World) (A:Option Addr) (ad:Addr) (n cap:Nat) (us:Nat→List Value),n*b≤d9→n≤maxLen→(0<n→A=some ad)→
  (∀j,j<n→(us j).length=c∧(us j).all Value.oneCell'=true∧∀i x,(us j)[i]? =some x→w.cell? (ad.add (j*c+i))=some x)→
  Calls P f #[.slice A n cap] w fun e' w'=>∃v',e'= .returned v'∧w'.ownsRow w.heap.size e c v' n (((List.range n).map us).flatten)∧Below w.heap.size w w'
theorem dn3(L:List (Option Chunk))(c:Chunk):hp (L++[some c])=upd (hp L) L.length (some c):=by
 funext i
 unfold hp upd
 by_cases h:i=L.length
 ·subst h;simp
 ·rw[if_neg (by simpa using h)]
  simp only[List.getD_eq_getElem?_getD]
  rw[List.getElem?_append]
  split
  ·rfl
  ·rename_i h2
   rw[List.getElem?_eq_none (by simp;omega),List.getElem?_eq_none (by omega)]
theorem bi2 {E : Env} {f : FuncId} {e c b : Nat} (hc0 : 0 < c) (hl : al9 E.P f e c b) {x : V} {L : List (Option Chunk)} {c' m : Nat} {g : Nat → List V} (hx : kI (hp L) x = some (c', m, g)) (hcc : c' = c ∨ m = 0) (hr : m * b ≤ d9) (hm : m ≤ maxLen) :
 SC E f [x] L (.ret (.sl L.length c 0 m) (L ++ [some (.row e c m g)])) := by
 refine ⟨hl.1, fun β S w us hd hM hG => ?_⟩
 simp only [b7] at hd
 obtain ⟨u, xs, rfl, hu, rfl⟩ := hd
 obtain ⟨A, cap, ad, us, rfl, hA, hus⟩ := av1 hM hx hu
 have hus' : ∀ j, j < m → b7 β S w (· < L.length) (g j) (us j) ∧ j7 (g j) = true ∧ (us j).length = c ∧ (us j).all Value.oneCell' = true ∧ ∀ i x, (us j)[i]? = some x → w.cell? (ad.add (j * c + i)) = some x := fun j hj => by
  have h1 := hus j hj
  rcases hcc with rfl | h
  ·exact h1
  ·omega
 refine (hl.2 w A ad m cap us hr hm hA fun j hj => ⟨(hus' j hj).2.2.1, (hus' j hj).2.2.2.1, (hus' j hj).2.2.2.2⟩).mono ?_
 rintro e' w' ⟨v', rfl, hown, hb⟩
 -- the z6
 have hrt : ∀ i, i < (z6 E.allR (hp L) [x]).length → i < L.length := by
  intro i hi
  unfold kI at hx
  split at hx
  ·rename_i i0 z o l
   have h2 := hM.live
   split at hx
   ·rename_i e2 cc n2 f2 hi0
    have h1 : (z6 E.allR (hp L) [V.sl i0 z o l]).length = 1 := by
     have r1 : ∀ n m, cC (hp L) n (cW (hp L) [m]) [m] = [m] ∨ (∃ c, hp L m = some c ∧ c.ids ≠ []) := by
      intro n m
      by_cases hc : ∃ c, hp L m = some c ∧ c.ids ≠ []
      ·exact .inr hc
      ·left
       have : cW (hp L) [m] = [] := by
        simp only [cW, List.flatMap_cons, List.flatMap_nil, List.append_nil]
        cases hm : hp L m with
        | none => rfl
        | some c => exact Classical.not_not.1 fun hn => hc ⟨c, hm, hn⟩
       rw [this]
       cases n <;> rfl
     unfold z6
     cases E.allR with
     | false => simp [cc5, cS, V.ids, dd, hi0]
     | true =>
      have e : dd [] (cS [V.sl i0 z o l]) = [i0] := by simp [cS, V.ids, dd]
      simp only [e]
      rcases r1 oT i0 with h | ⟨c, h, h'⟩
      ·rw [h]; rfl
      ·rw [hi0] at h; cases h; exact absurd rfl h'
    rw [h1] at hi
    obtain ⟨b2, m2, hb2, _⟩ := hM.live i0 _ hi0
    have := hM.dom i0 b2 m2 hb2
    omega
   ·cases hx
  ·cases hE : E.allR <;> simp [hE, z6, cc5, cW, cC, cS, V.ids, dd, oT] at hi
  ·cases hE : E.allR <;> simp [hE, z6, cc5, cW, cC, cS, V.ids, dd, oT] at hi
  ·cases hx
 have key : ∀ (bb mm : Nat), w.heap.size ≤ bb → (0 < mm → bb < w'.heap.size) → (∃ A', v' = .slice A' m mm ∧ (0 < mm → A' = some ⟨bb, 0, none⟩)) → m ≤ mm → mm ≤ maxLen →
  (0 < mm → ∃ cur : Array Value, w'.heap[bb]? = some (.cells cur e (0, 0)) ∧ cur.size = mm * c ∧ cur.toList.take (m * c) = ((List.range m).map us).flatten) →
  xL β S w (z6 E.allR (hp L) [x]).length (.ret (.sl L.length c 0 m) (L ++ [some (.row e c m g)])) (.returned v') w' := by
  intro bb mm h1 h2 hv h3 h4 h5
  have hk : Kept S w w' := fun y hy => hb.block y (hM.st y hy)
  obtain ⟨q1, q2, q3⟩ := hM.new (a := L.length) (m := mm) (b := bb) (c := .row e c m g) (w' := w') (D' := (· < L.length + 1)) (Nat.lt_irrefl _) (fun i hi => Nat.lt_succ_of_lt hi) (Nat.lt_succ_self _) hb h1 h2 (by
   simp only [b5]
   refine ⟨h3, h4, hc0, fun h0 => ?_⟩
   obtain ⟨cur, c1, c2, c3⟩ := h5 h0
   refine ⟨cur, c1, c2, fun j hj => ?_⟩
   obtain ⟨p1, p2, p3, p4, _⟩ := hus' j hj
   refine ⟨us j, l8 (fun _ h => h) hk _ _ p2 p1, p2, p3, p4, fun q y hq => ?_⟩
   have hqc : q < c := by rw [← p3]; exact (List.getElem?_eq_some_iff.1 hq).1
   have h7 := rC (us := us) (fun j hj => (hus' j hj).2.2.1) hj hqc
   rw [hq, ← c3, List.getElem?_take] at h7
   split at h7
   ·simpa using h7
   ·cases h7)
  refine ⟨v', _, S, rfl, ?_, ?_, q2, fun i bm hi hbm => ?_⟩
  ·rw [dn3, List.length_append]; exact q1
  ·rw [List.length_append]
   simp only [den]
   refine ⟨⟨Nat.lt_succ_self _, by obtain ⟨A', rfl, _⟩ := hv; rfl⟩, fun b' m' hb' => ?_⟩
   rw [f6] at hb'
   cases hb'
   obtain ⟨A', rfl, hA'⟩ := hv
   exact ⟨by omega, A', by simp, fun h0 => by rw [hA' h0]; simp⟩
  ·have := hrt i hi
   rwa [s5 _ _ (by omega)] at hbm
 rcases hown.2 with ⟨rfl, rfl⟩ | ⟨g0, cap1, cur, rfl, c1, c2, c3, c4, c5, c6⟩
 ·exact key w.heap.size 0 (Nat.le_refl _) (fun h => absurd h (Nat.lt_irrefl _)) ⟨none, rfl, fun h => absurd h (Nat.lt_irrefl _)⟩ (Nat.le_refl _) (Nat.zero_le _) fun h => absurd h (Nat.lt_irrefl _)
 ·exact key g0 cap1 c1 (fun _ => (Array.getElem?_eq_some_iff.1 c2).1) ⟨_, rfl, fun _ => rfl⟩ c3 c4 fun _ => ⟨cur, c2, c5, c6⟩
def dj8(cl:List (FuncId×Nat×Nat×Nat)):h9:=fun f args L k=>
 match cl.find? (fun p=>p.1==f)with
 |some (_,e,c,b)=>match args with
  | [x]=>match kI (hp L) x with
   |some (c',m,g)=>if 0<c∧(c'=c∨m=0)∧m*b≤d9∧m≤maxLen then k (.ret (.sl L.length c 0 m) (L++[some (.row e c m g)]))else none
   |none=>none
  |_=>none
 |none=>none
theorem bu8{E:Env}{cl:List (FuncId×Nat×Nat×Nat)}(h:∀p∈cl,al9 E.P p.1 p.2.1 p.2.2.1 p.2.2.2):m6 E (dj8 cl):=by
 intro f args L k r hk
 unfold dj8 at hk
 split at hk
 ·rename_i f' e c b hf
  have hm:=List.mem_of_find?_eq_some hf
  have he:f'=f:=by simpa using List.find?_some hf
  subst he
  split at hk
  ·rename_i x
   split at hk
   ·rename_i c' m g hx
    split at hk
    ·rename_i hc
     exact⟨_,hk,bi2 hc.1 (h _ hm) hx hc.2.1 hc.2.2.1 hc.2.2.2⟩
    ·cases hk
   ·cases hk
  ·cases hk
 ·cases hk
mutual
noncomputable def at1(E:Env)(sp:FuncId→Bool)(base:h9):Nat→h9
 |0=>fun _ _ _ _=>none
 |n+1=>fun f args L k=>match sp f with
  |true=>base f args L k
  |false=>match dn0 E (at1 E sp base n) (bj5 E sp base n) f args L (fun r=>some (.c r))with
   |some (.c r)=>k r
   |_=>none
noncomputable def bj5(E:Env)(sp:FuncId→Bool)(base:h9):Nat→f7
 |0=>fun _ _ _ _ _=>none
 |n+1=>fun id live c s k=>match do8 E (at1 E sp base n) (bj5 E sp base n) id live c s (fun e s=>some (.l e s))with
  |some (.l e s)=>k e s
  |_=>none
end
theorem cr1{E:Env}{sp:FuncId→Bool}{base:h9}(hW:WF E)(hX:SoundX E)(hB:m6 E base):∀n,m6 E (at1 E sp base n)∧p7 E (bj5 E sp base n)
 |0=>⟨fun f args L k r h=>by simp[at1]at h,fun id live c s k r h=>by simp[bj5]at h⟩
 |n+1=>by
  obtain⟨h1,h2⟩:=cr1 (sp:=sp) hW hX hB n
  constructor
  ·intro f args L k r h
   rw[at1]at h
   dsimp only at h
   split at h
   ·exact hB _ _ _ _ _ h
   ·rw[cx4]at h
    split at h
    ·rename_i cr hc
     obtain⟨cr',e1,e2⟩:=zF hW h1 hX h2 hc
     simp only[Option.some.injEq,Ans.c.injEq]at e1
     subst e1
     exact⟨_,h,e2⟩
    ·cases h
  ·intro id live c s k r h
   rw[bj5]at h
   dsimp only at h
   rw[ch8]at h
   split at h
   ·rename_i e s1 hc
    obtain⟨e',s',e1,e2⟩:=eM h1 hX h2 hc
    simp only[Option.some.injEq,Ans.l.injEq]at e1
    obtain⟨rfl,rfl⟩:=e1
    exact⟨_,_,h,e2⟩
   ·cases h
theorem SC.closedB{E:Env}{sp:FuncId→Bool}{base:h9}(hW:WF E)(hX:SoundX E)(hB:m6 E base)(n:Nat){f:FuncId}{args:List V}{L:List (Option Chunk)}{cr:CRes}(h:at1 E sp base n f args L (fun r=>some (.c r))=some (.c cr)):SC E f args L cr:=by
 obtain⟨cr',e1,e2⟩:=(cr1 (sp:=sp) hW hX hB n).1 _ _ _ _ _ h
 simp only[Option.some.injEq,Ans.c.injEq]at e1
 rwa [e1]at e2
end Go.Am
/- Nil slices seen as rows of one's own without elements: one shape for both. -/
namespace Go.Am
open Go Go.RowKit
theorem df9{β:Bt}{S D:Pr}{w:World}{n k b:Nat}{u:Value}(hD:D n)(hb:β n=some (b,0))(h:den β S w D (.sc (.slice none 0 0)) u):den β S w D (.sl n k 0 0) u:=by
 simp only[den]at h⊢
 subst h
 refine⟨⟨hD,rfl⟩,fun b' m h=>?_⟩
 rw[hb]at h
 cases h
 exact⟨Nat.le_refl _,none,rfl,fun h=>absurd h (Nat.lt_irrefl _)⟩
theorem fh5(L:List (Option Chunk))(j:Nat)(c:Option Chunk)(hj:j<L.length):hp (L.set j c)=upd (hp L) j c:=by
 funext i
 unfold hp upd
 by_cases h:i=j
 ·subst h;simp[List.getD_eq_getElem?_getD,hj]
 ·rw[if_neg h]
  simp only[List.getD_eq_getElem?_getD]
  rw[List.getElem?_set_ne (fun e=>h e.symm)]
theorem ek8{β:Bt}{S:Pr}{w:World}{L:List (Option Chunk)}{e k:Nat}{g:Nat→List V}(hk:0<k)(hM:Mem β S (· <L.length) (hp L) w):
 Mem (upd β L.length (some (w.heap.size,0))) S (· <L.length+1) (hp (L++[some (.row e k 0 g)])) w∧Evo β S w (upd β L.length (some (w.heap.size,0))) S w∧Hb β (upd β L.length (some (w.heap.size,0))) (· <L.length):=by
 rw[dn3]
 exact hM.new (m:=0) (c:=.row e k 0 g) (b:=w.heap.size) (Nat.lt_irrefl _) (fun i hi=>Nat.lt_succ_of_lt hi) (Nat.lt_succ_self _) (Below.refl _ _) (Nat.le_refl _) (fun h=>absurd h (Nat.lt_irrefl _)) (by
  simp only[b5]
  exact⟨Nat.le_refl _,Nat.zero_le _,hk,fun h=>absurd h (Nat.lt_irrefl _)⟩)
theorem SC.virtB{E:Env}{f:FuncId}{args:List V}{L:List (Option Chunk)}{cr:CRes}{cs:List V}(j:Nat)(cs2:List V)(e k:Nat)(g:Nat→List V)(hk:0<k)
 (h:SC E f args (L.set j (some (.blk cs2))++[some (.row e k 0 g)]) cr) (hj:L[j]? =some (some (.blk cs)))
 (hcs:∀(β:Bt) (S:Pr) (w:World) (us:List Value) (b:Nat),β L.length=some (b,0)→b7 β S w (· <L.length+1) cs us→b7 β S w (· <L.length+1) cs2 us)
 (hr:(z6 E.allR (hp L) args).length≤L.length) (hr2:(z6 E.allR (hp L) args).length≤(z6 E.allR (hp (L.set j (some (.blk cs2))++[some (.row e k 0 g)])) args).length):SC E f args L cr:=by
 refine⟨h.1,fun β S w us hd hM hG=>?_⟩
 obtain⟨q1,q2,q3⟩:=ek8 (e:=e) (k:=k) (g:=g) hk hM
 have hjl:j<L.length:=(List.getElem?_eq_some_iff.1 hj).1
 have hM2:Mem (upd β L.length (some (w.heap.size,0))) S (· <L.length+1) (hp (L.set j (some (.blk cs2))++[some (.row e k 0 g)])) w:=by
  have e1:hp (L.set j (some (.blk cs2))++[some (.row e k 0 g)])=upd (hp (L++[some (.row e k 0 g)])) j (some (.blk cs2)):=by
   rw[←fh5 _ _ _ (by simp;omega),List.set_append_left _ _ hjl]
  rw[e1]
  refine⟨fun i c hc=>?_,fun i hi=>?_,q1.dom,q1.own,q1.inj,q1.st⟩
  ·by_cases hij:i=j
   ·subst hij
    rw[f6]at hc
    cases hc
    obtain⟨b,m,h1,h2⟩:=q1.live i (.blk cs) (by
     unfold hp
     rw[List.getD_eq_getElem?_getD,List.getElem?_append_left hjl,hj]
     rfl)
    refine⟨b,m,h1,?_⟩
    simp only[b5]at h2⊢
    obtain⟨h0,us',T,k1,k2,k3⟩:=h2
    exact⟨h0,us',T,k1,hcs _ _ _ _ _ (f6 _ _ _) k2,k3⟩
   ·rw[s5 _ _ hij]at hc
    exact q1.live i c hc
  ·by_cases hij:i=j
   ·subst hij;rw[f6]at hi;cases hi
   ·rw[s5 _ _ hij]at hi
    exact q1.dead i hi
 have hl:(L.set j (some (Chunk.blk cs2))++[some (Chunk.row e k 0 g)]).length=L.length+1:=by simp
 refine(h.2 _ S w us (by rw[hl];exact i5 q3 (fun _ h=>h) (fun i hi=>Nat.lt_succ_of_lt hi) (fun _ _=>rfl) _ _ hd) (by rw[hl];exact hM2) hG).mono ?_
 intro en w' hp'
 cases cr with
 |ret v L'=>
  obtain⟨u,β',S',g0,g1,g2,g3,g4⟩:=hp'
  refine⟨u,β',S',g0,g1,g2,q2.trans g3,fun i bm hi hbm=>?_⟩
  have:=g4 i bm (Nat.lt_of_lt_of_le hi hr2) hbm
  rwa [s5 _ _ (by omega)]at this
 |pan v=>
  obtain⟨u,β',S',g0,g1,g2,g3,g4⟩:=hp'
  exact⟨u,β',S',g0,g1,g2,q2.trans g3,g4⟩
end Go.Am
/- Plain functions that may have no answer: what they answer. -/
namespace Go.Am
def Rs{α:Type}(o:Option α)(P:α→Prop):Prop:=∃z,o=some z∧P z
theorem Rs.bind{α β:Type}{o:Option α}{f:α→Option β}{P:α→Prop}{Q:β→Prop}(h:Rs o P)(g:∀z,P z→Rs (f z) Q):Rs (o.bind f) Q:=by
 obtain⟨z,rfl,hz⟩:=h
 exact g z hz
theorem Rs.some{α:Type}{z:α}{P:α→Prop}(h:P z):Rs (some z) P:=⟨z,rfl,h⟩
theorem Rs.mono{α:Type}{o:Option α}{P Q:α→Prop}(h:Rs o P)(g:∀z,P z→Q z):Rs o Q:=by
 obtain⟨z,h1,h2⟩:=h
 exact⟨z,h1,g z h2⟩
theorem Rs.map{α β:Type}{o:Option α}{f:α→β}{P:α→Prop}{Q:β→Prop}(h:Rs o P)(g:∀z,P z→Q (f z)):Rs (o.map f) Q:=by
 obtain⟨z,rfl,hz⟩:=h
 exact⟨_,rfl,g z hz⟩
theorem Rs.pos{α:Type}{c:Prop}{i:Decidable c}{a b:Option α}{P:α→Prop}(hc:c)(h:Rs a P):Rs (@ite _ c i a b) P:=by rw[_root_.if_pos hc];exact h
theorem Rs.neg{α:Type}{c:Prop}{i:Decidable c}{a b:Option α}{P:α→Prop}(hc:¬c)(h:Rs b P):Rs (@ite _ c i a b) P:=by rw[_root_.if_neg hc];exact h
theorem Rs.ite{α:Type}{c:Prop}{i:Decidable c}{a b:Option α}{P:α→Prop}(h1:c→Rs a P)(h2:¬c→Rs b P):Rs (@_root_.ite _ c i a b) P:=by
 by_cases h:c
 ·exact Rs.pos h (h1 h)
 ·exact Rs.neg h (h2 h)
theorem Rs.eq{α:Type}{o:Option α}{v:α}(h:Rs o (fun z=>z=v)):o=Option.some v:=by obtain⟨z,h1,rfl⟩:=h;exact h1
theorem Rs.of{α:Type}{o:Option α}{v:α}(h:o=Option.some v):Rs o (fun z=>z=v):=⟨v,h,rfl⟩
theorem Rs.step{α γ:Type}{st:α→Option (α⊕γ)}{q:Nat}{y:α}{P:γ→Prop}(h:Rs (st y) (fun r=>Sum.elim (fun y'=>Rs (lpG st q y') P) P r)):Rs (lpG st (q+1) y) P:=by
 obtain⟨r,h1,h2⟩:=h
 rw[bf0,h1]
 cases r with
 |inl y'=>exact h2
 |inr z=>exact⟨z,rfl,h2⟩
theorem Rs.step3{α γ:Type}{st:α→Option (α⊕γ)}{q:Nat}{y:α}{P:γ→Prop}(h:∀Q:α→Prop,(∀y',Rs (lpG st q y') P→Q y')→Rs (st y) (Sum.elim Q P)):Rs (lpG st (q+1) y) P:=by
 refine Rs.step ((h (fun y'=>Rs (lpG st q y') P) fun _ g=>g).mono fun z hz=>?_)
 cases z<;>exact hz
end Go.Am
/- What a call hands back, given up in part: the rest stays one's own. -/
namespace Go.Am
open Go Go.RowKit
theorem SC.giveM{E:Env}{f:FuncId}{args:List V}{L0:List (Option Chunk)}{v:V}{L L2:List (Option Chunk)}(n:Nat)(h:SC E f args L0 (.ret v L))
 (hk:keep (n7 (hp L) (yN v)) (List.range n)=L2) (hp':(v.bw (hp L)).pure=true):SC E f args L0 (.ret (v.bw (hp L)) L2):=by
 refine⟨h.1,fun β S w us h1 h2 h3=>(h.2 β S w us h1 h2 h3).mono ?_⟩
 rintro e w' ⟨u,β',S',rfl,q1,q2,q3,q4⟩
 obtain⟨g1,g2,g3⟩:=q1.drop (yN v) be2
 have hd:=dm8 (S':=aw3 β' S' ((yN v).map (·.1))) q1 g3 (fun _ h=>.inl h) (fun i hi b m hb h0=>.inr ⟨i,m,List.mem_map.2 ⟨_,hi,rfl⟩,hb,h0⟩) q2
 have g4:=g1.renum (order:=List.range n) List.nodup_range
 rw[hk]at g4
 have hl:(List.range n).length=L2.length:=by rw[←hk];simp[keep]
 rw[hl]at g4
 have hget:∀j bm,ofOrder (eC β' ((yN v).map (·.1))) (List.range n) j=some bm→β' j=some bm:=by
  intro j bm hb
  unfold ofOrder at hb
  by_cases hj:j<n
  ·rw[List.getElem?_range hj]at hb
   simp only[Option.bind_some]at hb
   unfold eC at hb
   split at hb
   ·cases hb
   ·exact hb
  ·rw[List.getElem?_eq_none (by simpa using Nat.le_of_not_lt hj)]at hb
   cases hb
 refine⟨u,_,_,rfl,g4,m8 (fun _ h=>h) (fun _ _=>rfl) _ _ hp' hd,(q3.trans g2).trans ⟨rfl,rfl,rfl,Nat.le_refl _,fun _ _ _=>rfl,fun _ h=>h,fun _ h=>.inl h,fun i b m hb h0=>?_⟩,fun i bm hi hb=>q4 i bm hi (hget i bm hb)⟩
 obtain⟨j,_,hj⟩:=m5 hb
 exact .inr ⟨j,m,h0,hj⟩
def fixV:V→V
 | .sc (.slice none 0 0)=>.ro 4 0 (fun _=>[])
 |v=>v
def fixC:List V→List V
 | [a,b,c,d]=>[a,b,c,fixV d]
 |l=>l
theorem Le.fixV(v:V):Le v (fixV v):=by
 unfold Am.fixV
 split
 ·exact Le.nil_ro
 ·exact Le.refl _
theorem LeL.fixC(l:List V):LeL l (fixC l):=by
 unfold Am.fixC
 split
 ·exact LeL.cons (Le.refl _) (LeL.cons (Le.refl _) (LeL.cons (Le.refl _) (LeL.cons (Le.fixV _) LeL.nil)))
 ·exact LeL.refl _
theorem dv5(v:V):(fixV v).pure=v.pure:=by
 unfold fixV
 split<;>simp[V.pure]
theorem da0(l:List V):j7 (fixC l)=j7 l:=by
 unfold fixC
 split
 ·simp[j7,dv5]
 ·rfl
theorem Le.ro_fix{k n:Nat}{f:Nat→List V}:Le (.ro k n f) (.ro k n (fun j=>Am.fixC (f j))):=by
 intro β S w D u hd
 simp only[Am.den]at hd⊢
 obtain⟨h0,A,m,a,us,h1,h2,h3,h4⟩:=hd
 refine⟨h0,A,m,a,us,h1,h2,h3,fun j hj=>?_⟩
 obtain⟨g1,g2,g3,g4,g5⟩:=h4 j hj
 exact⟨LeL.fixC _ _ _ _ _ _ g1,by rw[da0];exact g2,g3,g4,g5⟩
end Go.Am
/- The rest of a function's code, where it ends in a panic. -/
namespace Go.Am
open Go Go.RowKit
def bz7:Nat→ACode→ACode
 |0,c=>c
 |n+1,.seq _ b=>bz7 n b
 |_,c=>c
def dv4(n:Nat)(c:ACode):ACode:=match bz7 n c with| .seq a _=>a|c=>c
def endP(k:CRes→Option Ans):KX:=fun e s=>match e with
 | .panic v=>match s.fr with
  |_::_:: .ptr 0 0:: .ptr 1 0:: .ptr 2 0::_=>match s.H 0,s.H 1,s.H 2 with|some (.blk [_]),some (.blk [_]),some (.blk [_])=>k (.pan v) |_,_,_=>none
  |_=>none
 |_=>none
def ei7(n rt:Nat)(E:Env)(ca:h9)(lo:f7)(f:FuncId)(args:List V)(L:List (Option Chunk))(k:CRes→Option Ans):Option Ans:=
 match E.code f with
 |some c=>aA E ca lo (bz7 n c) {fr:=args,H:=hp L,nx:=L.length,rt:=rt,me:=f} (endP k)
 |none=>none
def RC(n rt:Nat)(E:Env)(f:FuncId)(fr:List V)(L:List (Option Chunk))(cr:CRes):Prop:=
 ∀c,E.code f=some c→∃v s',cr= .pan v∧Ends E (bz7 n c) {fr:=fr,H:=hp L,nx:=L.length,rt:=rt,me:=f} (.panic v) s'∧
  ∃x0 x1 x2 y0 y1 l,s'.fr=y0::y1:: .ptr 0 0:: .ptr 1 0:: .ptr 2 0::l∧s'.H 0=some (.blk [x0])∧s'.H 1=some (.blk [x1])∧s'.H 2=some (.blk [x2])
theorem RC.of{n rt:Nat}{E:Env}{ca:h9}{lo:f7}(hX:SoundX E)(hC:m6 E ca)(hL:p7 E lo){f:FuncId}{args:List V}{L:List (Option Chunk)}{cr:CRes}
 (h:ei7 n rt E ca lo f args L (fun r=>some (.c r))=some (.c cr)):RC n rt E f args L cr:=by
 intro c hc
 unfold ei7 at h
 rw[hc]at h
 obtain⟨e,s',h1,h2⟩:=bB hC hX hL _ _ _ _ h
 unfold endP at h1
 split at h1
 ·rename_i v
  split at h1
  ·rename_i y0 y1 l ef
   split at h1
   ·rename_i x0 x1 x2 e0 e1 e2
    simp only[Option.some.injEq,Ans.c.injEq]at h1
    exact⟨v,s',h1.symm,h2,x0,x1,x2,y0,y1,l,ef,e0,e1,e2⟩
   ·cases h1
  ·cases h1
 ·cases h1
def KN(m:Nat):KX:=fun e s=>sK m s fun s=>some (.l e s)
theorem Ends.of{E:Env}{ca:h9}{lo:f7}(hX:SoundX E)(hC:m6 E ca)(hL:p7 E lo){c:ACode}{s t:St}{e:Ex}{m:Nat}(h:aA E ca lo c s (KN m)=some (.l e t)):Ends E c s e t:=by
 obtain⟨e1,s1,h1,h2⟩:=bB hC hX hL _ _ _ _ h
 simp only[KN,uE,Option.some.injEq,Ans.l.injEq]at h1
 obtain⟨rfl,rfl⟩:=h1
 intro β S D a w hR
 refine wp_mono (h2 β S D a w hR) fun e' a' w' hp=>?_
 obtain⟨β1,S1,D1,q1,q2,q3,q4,q5,q6⟩:=hp.ex
 obtain⟨β2,D2,g1,g2,g3⟩:=aa4 q2 m
 exact⟨β2,S1,D2,q1,g1,q3.trans g2,fun i bm hi hb=>q4 i bm hi (g3 i bm (by rw[q5];exact hi) hb),q5,q6⟩
end Go.Am
/- Closed runs whose end is only known as a value: it is looked at by the kernel. -/
namespace Go.Am
open Go
def cx8(a b:Value):Bool:=match a,b with
 | .int k x,.int k' y=>decide (k=k')&&decide (x=y)
 | .bool x,.bool y=>x==y
 | .string x,.string y=>decide (x=y)
 | .slice none 0 0,.slice none 0 0=>true
 |_,_=>false
theorem dx4{a b:Value}(h:cx8 a b=true):a=b:=by
 unfold cx8 at h
 split at h
 ·simp only[Bool.and_eq_true,decide_eq_true_eq]at h;rw[h.1,h.2]
 ·rw[beq_iff_eq]at h;rw[h]
 ·rw[decide_eq_true_eq]at h;rw[h]
 ·rfl
 ·cases h
def bs8(e:V→V→Bool):List V→List V→Bool
 | [],[]=>true
 |a::l,b::m=>e a b&&bs8 e l m
 |_,_=>false
def bo4:Nat→V→V→Bool
 |0,_,_=>false
 |n+1,a,b=>match a,b with
  | .sc x,.sc y=>cx8 x y
  | .agg l,.agg m=>bs8 (bo4 n) l m
  | .tup l,.tup m=>bs8 (bo4 n) l m
  | .ro k m f,.ro k' m' g=>decide (k=k')&&(decide (m=m')&&(List.range m).all fun j=>bs8 (bo4 n) (f j) (g j)&&j7 (g j))
  |_,_=>false
theorem ah1{e:V→V→Bool}(he:∀a b,e a b=true→Le a b):∀a b,bs8 e a b=true→LeL a b
 | [],[],_=>LeL.refl _
 | [],_::_,h=>by cases h
 |_::_,[],h=>by cases h
 |a::l,b::m,h=>by
  simp only[bs8,Bool.and_eq_true]at h
  exact LeL.cons (he _ _ h.1) (ah1 he l m h.2)
theorem ai4:∀n a b,bo4 n a b=true→Le a b
 |0,_,_,h=>by cases h
 |n+1,a,b,h=>by
  unfold bo4 at h
  split at h
  ·rw[dx4 h];exact Le.refl _
  ·exact Le.agg (ah1 (ai4 n) _ _ h)
  ·exact Le.tup (ah1 (ai4 n) _ _ h)
  ·simp only[Bool.and_eq_true,decide_eq_true_eq,List.all_eq_true,List.mem_range]at h
   obtain⟨rfl,rfl,h⟩:=h
   exact Le.ro fun j hj=>⟨ah1 (ai4 n) _ _ (h j hj).1,(h j hj).2⟩
  ·cases h
def eb9(n:Nat)(v:V):Option Ans→Bool
 |some (.c (.ret x L))=>(x.bw (hp L)).pure&&bo4 n (x.bw (hp L)) v
 |_=>false
theorem SC.closedEnd{E:Env}(hW:WF E)(hX:SoundX E)(n m:Nat){f:FuncId}{args:List V}{L:List (Option Chunk)}(v:V)(h:eb9 m v (ae7 E n f args L (fun r=>some (.c r)))=true):SC E f args L (.ret v []):=by
 unfold eb9 at h
 split at h
 ·rename_i x L' hc
  rw[Bool.and_eq_true]at h
  exact((SC.closedQ hW hX n hc).give h.1).le (ai4 m _ _ h.2)
 ·cases h
end Go.Am

