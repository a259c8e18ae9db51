/- Texts joined. -/
import Derived.Scope
import Derived.Test.YtbmbhcheonjigaaGreatDoorQB
import Derived.Recover
import Derived.DataReads
import Derived.ChangeOld
import Derived.FnData
import Derived.MakeChecks
import Derived.OpenShut
import Derived.Shelf.Vars
/- Regions in their text's order, code, functions. -/
set_option linter.unusedSimpArgs false
set_option linter.defProp false
set_option linter.unusedVariables false
namespace Go.Am
section
open Go Go.RowKit
theorem jM{P:Program}{ops:Array Oper}{Q Q':Exit->Act->World->Prop}(hq:∀e a w,Q e a w->Q' e a w):∀(l:List Oper) (a:Act) (w:World),wpList P ops Q l a w->wpList P ops Q' l a w
 | [],a,w,h=>hq _ _ _ h
 |o::l,a,w,h=>by
  unfold wpList at h⊢;split
  ·rename_i hw;rw[if_pos hw]at h;rcases h with h| ⟨h1,a0,w0,h2⟩
   ·left;unfold Oper.wp at h⊢;generalize (execOp a.eval o).run P w=r at h⊢;cases r with
    |ok n w'=>
     cases n<;>simp only[Oper.upon]at h⊢ <;>first|exact jM hq l _ _ h|exact h|skip
     ·refine h.mono λe w'' he=>?_;cases e with
      |returned v=>exact jM hq l _ _ he
      |panicked ch=>exact hq _ _ _ he
      |outgrown=>obtain⟨a1,w1,h1⟩:=he;exact⟨a1,w1,hq _ _ _ h1⟩
     ·exact h.mono λv w'' hv=>jM hq l _ _ hv
    |halt x w'=>cases x<;>simp only[Oper.upon]at h⊢ <;>first|exact hq _ _ _ h|exact h
   ·exact .inr ⟨h1,a0,w0,hq _ _ _ h2⟩
  ·rename_i hw;rw[if_neg hw]at h;exact jM hq l _ _ h
theorem fm7{β β':Bt}{S S' D:Pr}{H:Hp}{w w':World}{v:V}{u:Value}{us:List (Nat×Option Z1)}(b:Bool)(hM:Mem β' S' D (aG H us) w')(hd:den β' S' w' D v u)(hev:Evo β S w β' S' w'):
 ∃β2 S2,Mem β2 S2 D (aG H (hi0 b v us)) w'/\den β2 S2 w' D (hl9 b H v us) u/\Evo β S w β2 S2 w'/\Hb β' β2 D:=by
 cases b with
 |false=>exact⟨β',S',hM,hd,hev,AB _ _⟩
 |true=>
  have hn:∀x∈nV v,x.2=none:=by
   intro x hx;unfold nV at hx;split at hx
   ·simp only[List.mem_singleton]at hx;subst hx;rfl
   ·cases hx
  obtain⟨g1,g2,g3⟩:=hM.drop (nV v) hn;refine⟨_,_,by rw[hi0,if_pos rfl,mI];exact g1,?_,hev.trans g2,g3⟩;rw[hl9,if_pos rfl];refine ab9 hM g3 (λ_ h=>.inl h) (λi z o l b m e hb h0=>.inr ⟨i,m,?_,hb,h0⟩) hd;subst e;simp[nV]
theorem yR {E : Env} {ca : u9} (hC : aF E ca) (hX : Z6 E) {ops : List Oper} {base : Nat} : ∀ (l : List Oper) (i : Nat) (s : St) (k : KX) (r : Ans), oN E ca ops base i l s k = some r ->
 ∃ e s', k e s' = some r /\ ∀ (β : Bt) (S D : Pr) (a : Act) (w : World), W2 E β S D (base + i * j2) s a w -> wpList E.P ops.toArray (Y7 E β S w s e s') l a w
 | [], i, s, k, r, h => by
  simp only [oN] at h;refine ⟨_, _, h, λβ S D a w hR => ?_⟩;exact ⟨⟨β, S, D, trivial, Rel.mk hR.fr hR.mem hR.df hR.lt hR.gl hR.rtD, AA _ _ _, (λ_ _ _ h => h), rfl, rfl⟩⟩
 | o :: l, i, s, k, r, h => by
  simp only [oN] at h
  replace h := bg2 h
  obtain ⟨b, hb, hw⟩ := dw6 h
  -- the way on behind an operation
  have next : ∀ (v : V) (us : List (Nat × Option Z1)) (k : KX) (r : Ans), oN E ca ops base (i + 1) l { fr := putL s.fr o.dst v, H := aG s.H us, nx := s.nx, rt := s.rt, me := s.me } k = some r ->
   ∃ e s', k e s' = some r /\ ∀ (β β' : Bt) (S S' D : Pr) (a : Act) (w w' : World) (u : Value), W2 E β S D (base + i * j2) s a w -> Mem β' S' (kY D (base + i * j2)) (aG s.H us) w' -> den β' S' w' (kY D (base + i * j2)) v u -> Evo β S w β' S' w' -> Hb β β' D ->
    wpList E.P ops.toArray (Y7 E β S w s e s') l (a.put o.dst u) w' := by
   intro v us k r h;obtain ⟨e, s', h1, h2⟩ := yR hC hX l (i + 1) _ k r h;refine ⟨e, s', h1, λβ β' S S' D a w w' u hR hM hd hev hHb => ?_⟩;have hk := hev.kept hR.mem
   have := h2 β' S' (kY D (base + i * j2)) (a.put o.dst u) w' ⟨bn1 (m4 hHb hev.sub (j9 _ _) hk _ _ hR.fr) hd, hM, by rw [vK]; exact hR.df, λj hj => by
    rcases hj with hj | hj
    ·have := hR.lt j hj; rw [Nat.add_mul]; omega
    ·rw [Nat.add_mul]; omega, hR.gl.later hev.sub hk, λj hj => .inl (hR.rtD j hj)⟩
   have hroots : nW s.rt β β' := λj bm hj hb => by
    rcases hHb j (hR.rtD j hj) with e' | e'
    ·rw [<- e']; exact hb
    ·rw [e'] at hb; cases hb
   exact jM (Q := Y7 E β' S' w' { fr := putL s.fr o.dst v, H := aG s.H us, nx := s.nx, rt := s.rt, me := s.me } e s') (Q' := Y7 E β S w s e s') (λe' a' w'' hp => Y7.trans (s1 := { fr := putL s.fr o.dst v, H := aG s.H us, nx := s.nx, rt := s.rt, me := s.me }) hev hroots rfl rfl hp) _ _ _ this
  cases b with
  | false =>
   simp only [Bool.false_eq_true, if_false, kE] at hb;obtain ⟨e, s', h1, h2⟩ := next _ _ _ _ hb
   refine ⟨e, s', h1, λβ S D a w hR => ?_⟩;unfold wpList;rw [if_neg (by rw [hw β S D w a hR.fr]; simp)];exact h2 β β S S D a w w undef hR (hR.mem.mono (j9 _ _)) (by simp [den]) (AA _ _ _) (AB _ _)
  | true =>
   simp only [if_true] at hb;obtain ⟨res, hk, hgood⟩ := gp5 hb
   have hfresh : ∀ (β : Bt) (S D : Pr) (a : Act) (w : World), W2 E β S D (base + i * j2) s a w -> ∀ j, base + i * j2 <= j -> j < base + i * j2 + j2 -> ¬ D j := λβ S D a w hR j h1 _ hj => by
    have := hR.lt j hj; omega
   have hg := λ(β : Bt) (S D : Pr) (a : Act) (w : World) (hR : W2 E β S D (base + i * j2) s a w) => hgood β S D a w hR.mem (hfresh β S D a w hR _ (Nat.le_refl _) (by simp [j2])) (λx => ax2 hR.fr hR.gl x);cases res with
   | val v us =>
    simp only [kE] at hk;obtain ⟨e, s', h1, h2⟩ := next _ _ _ _ hk
    refine ⟨e, s', h1, λβ S D a w hR => ?_⟩;obtain ⟨u, w', β0, S0, g1, g2, g3, g4, g5, _⟩ := hg β S D a w hR;obtain ⟨β', S', l1, l2, l3, l4⟩ := fm7 (E.lit s.me && gi8 o.op) g2 g3 g4
    have := h2 β β' S S' D a w w' u hR l1 l2 l3 (λj hj => by
     rcases l4 j (j9 _ _ j hj) with e1 | e1
     ·rcases g5 j hj with e2 | e2
      ·exact .inl (e1.trans e2)
      ·exact .inr (e1.trans e2)
     ·exact .inr e1)
    unfold wpList;rw [if_pos (hw β S D w a hR.fr)];left;unfold Oper.wp;rcases g1 with g1 | ⟨g1, rfl⟩
    ·rw [g1]; exact this
    ·rw [g1]; exact this
   | pan v us =>
    simp only at hk;refine ⟨_, _, hk, λβ S D a w hR => ?_⟩;obtain ⟨rfl, u, g1, g2, g3⟩ := hg β S D a w hR;unfold wpList;rw [if_pos (hw β S D w a hR.fr)];left;unfold Oper.wp;rw [g1];exact ⟨⟨β, S, D, ⟨u, rfl, g2, y6 (λ_ h => h) (λ_ _ => rfl) _ _ g2 g3⟩, Rel.mk hR.fr hR.mem hR.df hR.lt hR.gl hR.rtD, AA _ _ _, (λ_ _ _ h => h), rfl, rfl⟩⟩
   | call f args =>
    simp only at hk;obtain ⟨res2, hk2, hcall⟩ := ao6 hC hX hk;cases res2 with
    | val v us =>
     simp only [kE] at hk2;obtain ⟨e, s', h1, h2⟩ := next _ _ _ _ hk2
     refine ⟨e, s', h1, λβ S D a w hR => ?_⟩;obtain ⟨cs, g1, g2⟩ := hg β S D a w hR;obtain ⟨c1, c2⟩ := hcall β S D w hR.mem hR.gl (hfresh β S D a w hR);unfold wpList;rw [if_pos (hw β S D w a hR.fr)];left;unfold Oper.wp;rw [g1 c1];refine (c2 cs g2).mono ?_;rintro e' w' ⟨u, β', S', rfl, q1, q2, q3, q4, _⟩;exact h2 β β' S S' D a w w' u hR q1 q2 q3 q4
    | pan v us =>
     simp only at hk2;refine ⟨_, _, hk2, λβ S D a w hR => ?_⟩;obtain ⟨cs, g1, g2⟩ := hg β S D a w hR;obtain ⟨c1, c2⟩ := hcall β S D w hR.mem hR.gl (hfresh β S D a w hR);unfold wpList;rw [if_pos (hw β S D w a hR.fr)];left;unfold Oper.wp;rw [g1 c1];refine (c2 cs g2).mono ?_;rintro e' w' ⟨u, β', S', rfl, q1, q2, q3, q4, q5, _⟩;have hk := q3.kept hR.mem
     exact ⟨⟨β', S', D, ⟨u, rfl, q1, q2⟩, Rel.mk (m4 q5 q3.sub (λ_ h => h) hk _ _ hR.fr) q4 hR.df hR.lt (hR.gl.later q3.sub hk) hR.rtD, q3, (λj bm hj hb => by
      rcases q5 j (hR.rtD j hj) with e' | e'
      ·rw [<- e']; exact hb
      ·rw [e'] at hb; cases hb), rfl, rfl⟩⟩
    | call _ _ => simp only at hk2; cases hk2
    | dfr _ _ => simp only at hk2; cases hk2
   | dfr f cs =>
    simp only at hk;split at hk
    case h_2 => cases hk
    rename_i hdf;simp only [Bool.and_eq_true, beq_iff_eq] at hdf;rw [kE] at hk;obtain ⟨e, s', h1, h2⟩ := yR hC hX l (i + 1) _ k r hk;refine ⟨e, s', h1, λβ S D a w hR => ?_⟩;obtain ⟨us, g1, g2⟩ := hg β S D a w hR;unfold wpList;rw [if_pos (hw β S D w a hR.fr)];left;unfold Oper.wp;rw [g1]
    have hdd : Dfs E s.me ({ target := .fn (.func f) us.toArray, args := #[] } :: a.defers) := by
     refine ⟨λhf => (by rw [hf] at hdf; cases hdf.1), λd hd => ?_, λhk => (by rw [hk] at hdf; cases hdf.2.2)⟩;rcases List.mem_cons.1 hd with rfl | hd
     ·exact ⟨f, us.toArray, by rw [List.size_toArray, g2]; exact hdf.2.1, rfl⟩
     ·exact hR.df.2.1 d hd
    have hrel : W2 E β S D (base + (i + 1) * j2) { fr := putL s.fr o.dst (.sc undef), H := aG s.H [], nx := s.nx, rt := s.rt, me := s.me } ({ a with defers := { target := .fn (.func f) us.toArray, args := #[] } :: a.defers }.put o.dst undef) w :=
     ⟨bn1 (a := { a with defers := { target := .fn (.func f) us.toArray, args := #[] } :: a.defers }) hR.fr (by simp [den]), hR.mem, by rw [vK]; exact hdd, λj hj => by have := hR.lt j hj; rw [Nat.add_mul]; omega, hR.gl, hR.rtD⟩
    rw [Oper.upon_defer];exact jM (Q := Y7 E β S w { fr := putL s.fr o.dst (.sc undef), H := aG s.H [], nx := s.nx, rt := s.rt, me := s.me } e s') (Q' := Y7 E β S w s e s') (λ_ _ _ hp => ⟨hp.ex⟩) _ _ _ (h2 β S D _ w hrel)
def Ends(E:Env)(c:Z5)(s:St)(e:Ex)(s':St):Prop:=∀β S D a w,Rel E β S D s a w->c.erase.wp E.P (Y7 E β S w s e s') a w
theorem nF{E:Env}{β:Bt}{S:Pr}{w:World}{s s':St}{e':Exit}{a':Act}{w':World}(h:Y7 E β S w s .normal s' e' a' w'):
 e'= .normal/\∃β' S' D',Rel E β' S' D' s' a' w'/\Evo β S w β' S' w'/\nW s.rt β β'/\s'.rt=s.rt/\s'.me=s.me:=by
 obtain⟨β',S',D',h1,h2,h3,h4,h5,h6⟩:=h.ex;cases e'<;>simp only[ExR]at h1;exact⟨rfl,β',S',D',h2,h3,h4,h5,h6⟩
theorem do9{E:Env}{β:Bt}{S:Pr}{w:World}{s s':St}{e:Ex}{a':Act}{w':World}(he:e≠ .normal)(h:Y7 E β S w s e s' .normal a' w'):False:=by
 obtain⟨β',S',D',h1,_⟩:=h.ex;cases e<;>simp only[ExR]at h1;exact he rfl
theorem co5{E:Env}{on:Bool}{c:Operand}{b:Bool}{s:St}{k:St->Option Ans}(hb:evA E s.fr c= .sc (.bool b)):bn4 on c b s k=k s:=by
 unfold bn4;split
 ·split
  ·rename_i t;rw[setK_eq];have hv:s.fr.getD t .junk= .sc (.bool b):=hb
   have hq:s.fr[t]? =some (.sc (.bool b)):=by
    cases hq:s.fr[t]?with
    |none=>simp[List.getD,hq]at hv
    |some q=>simp only[List.getD,hq,Option.getD_some]at hv;rw[hv]
   have hs:s.fr.set t (.sc (.bool b))=s.fr:=by
    apply List.ext_getElem?;intro n;by_cases hn:n=t
    ·subst hn;have hl:n<s.fr.length:=(List.getElem?_eq_some_iff.1 hq).1;rw[List.getElem?_set_self hl,hq]
    ·rw[List.getElem?_set_ne (λe=>hn e.symm)]
   rw[hs]
  ·rfl
 ·rfl
theorem cG{E:Env}{ca:u9}{lo:aE}(hC:aF E ca)(hX:Z6 E)(hL:bQ E lo):∀(c:Z5) (s:St) (k:KX) (r:Ans),fS E ca lo c s k=some r->∃e s',k e s'=some r/\Ends E c s e s'
 | .skip,s,k,r,h=>⟨_,_,h,λβ S D a w hR=>wp_skip ⟨⟨β,S,D,trivial,hR,AA _ _ _,(λ_ _ _ h=>h),rfl,rfl⟩⟩⟩
 | .ret,s,k,r,h=>⟨_,_,h,λβ S D a w hR=>wp_ret ⟨⟨β,S,D,trivial,hR,AA _ _ _,(λ_ _ _ h=>h),rfl,rfl⟩⟩⟩
 | .exit id,s,k,r,h=>⟨_,_,h,λβ S D a w hR=>wp_exit ⟨⟨β,S,D,rfl,hR,AA _ _ _,(λ_ _ _ h=>h),rfl,rfl⟩⟩⟩
 | .no _,s,k,r,h=>by simp[fS]at h
 | .label l,s,k,r,h=>⟨_,_,h,λβ S D a w hR=>wp_label ⟨⟨β,S,D,trivial,hR,AA _ _ _,(λ_ _ _ h=>h),rfl,rfl⟩⟩⟩
 | .scope c,s,k,r,h=>by
  simp only[fS]at h;obtain⟨e,s',h1,h2⟩:=cG hC hX hL c s k r h;refine⟨e,s',h1,λβ S D a w hR=>wp_scope_straight (wp_mono (h2 β S D a w hR) λe' a' w' hp=>?_)⟩;obtain⟨β',S',D',q1,q2⟩:=hp.ex;cases e' with
  |goto l=>cases e<;>simp only[ExR]at q1
  |_=>exact⟨⟨β',S',D',q1,q2⟩⟩
 | .region id ops d,s,k,r,h=>by
  simp only[fS]at h;split at h
  ·rename_i hd;subst hd;split at h
   ·rename_i hok;rw[be4]at h;obtain⟨e,s',h1,h2,h3,h4⟩:=er0 (id:=id) hC hX hok h;refine⟨e,s',h1,λβ S D a w hR=>h4 β S D a w ⟨hR.fr,hR.mem,hR.df,hR.lt,hR.gl,hR.rtD⟩ _ λβ' S' D' e' a' w' q0 q1 q2 q3=>?_⟩;exact⟨⟨β',S',D',q0,Rel.mk q1.fr q1.mem q1.df q1.lt q1.gl q1.rtD,q2,q3,h2,h3⟩⟩
   ·cases h
  ·rename_i hd;have hd':d=false:=by cases d<;>simp_all
   subst hd';obtain⟨e,s',h1,h2⟩:=yR hC hX ops 0 s k r h;refine⟨e,s',h1,λβ S D a w hR=>wp_region_lit (h2 β S D a w ⟨hR.fr,hR.mem,hR.df,λi hi=>by have:=hR.lt i hi;omega,hR.gl,hR.rtD⟩)⟩
 | .seq x y,s,k,r,h=>by
  simp only[fS]at h;obtain⟨e,s',h1,h2⟩:=cG hC hX hL x s _ r h;by_cases he:e= .normal
  ·subst he;simp only at h1;obtain⟨e2,s2,h3,h4⟩:=cG hC hX hL y s' k r h1;refine⟨e2,s2,h3,λβ S D a w hR=>wp_seq (wp_mono (h2 β S D a w hR) λe' a' w' hp=>?_)⟩;obtain⟨rfl,β',S',D',g1,g2,g3,g4,g5⟩:=nF hp;exact wp_mono (h4 β' S' D' a' w' g1) λ_ _ _ hp=>Y7.trans g2 g3 g4 g5 hp
  ·have h1':k e s'=some r:=by
    split at h1
    ·exact absurd rfl he
    ·exact h1
   refine⟨e,s',h1',λβ S D a w hR=>wp_seq (wp_mono (h2 β S D a w hR) λe' a' w' hp=>?_)⟩;cases e' with
   |normal=>exact(do9 he hp).elim
   |_=>exact hp
 | .cond c x y,s,k,r,h=>by
  simp only[fS]at h;split at h
  ·rename_i b hb;have hc:=λ(β:Bt) (S D:Pr) (a:Act) (w:World) (hR:Rel E β S D s a w)=>ax2 hR.fr hR.gl c;rw[hb]at hc;simp only[den]at hc;split at h
   ·rename_i hbt;subst hbt;rw[co5 hb]at h;obtain⟨e,s',h1,h2⟩:=cG hC hX hL x s k r h;exact⟨e,s',h1,λβ S D a w hR=>wp_cond_true (hc β S D a w hR) (h2 β S D a w hR)⟩
   ·rename_i hbt;have hbf:b=false:=by simpa using hbt
    subst hbf;rw[co5 hb]at h;obtain⟨e,s',h1,h2⟩:=cG hC hX hL y s k r h;exact⟨e,s',h1,λβ S D a w hR=>wp_cond_false (hc β S D a w hR) (h2 β S D a w hR)⟩
  ·cases h
 | .block id c,s,k,r,h=>by
  simp only[fS]at h;obtain⟨e,s',h1,h2⟩:=cG hC hX hL c s _ r h
  have key:∀e2,(∀(β:Bt) (S:Pr) (w:World) (e':Exit) (a':Act) (w':World),Y7 E β S w s e s' e' a' w'->Exit.inBlock id (Y7 E β S w s e2 s') e' a' w')->Ends E (.block id c) s e2 s':=
   λe2 hh β S D a w hR=>wp_block (wp_mono (h2 β S D a w hR) λe' a' w' hp=>hh β S w e' a' w' hp)
  cases e with
  |exit j=>
   simp only at h1;split at h1
   ·rename_i hj;subst hj;refine⟨_,_,h1,key _ λβ S w e' a' w' hp=>?_⟩;obtain⟨β',S',D',q1,q2,q3,q4,q5,q6⟩:=hp.ex;cases e'<;>simp only[ExR]at q1;subst q1;simp only[Exit.inBlock,if_true];exact⟨⟨β',S',D',trivial,q2,q3,q4,q5,q6⟩⟩
   ·rename_i hj;refine⟨_,_,h1,key _ λβ S w e' a' w' hp=>?_⟩;obtain⟨β',S',D',q1,q2⟩:=hp.ex;cases e'<;>simp only[ExR]at q1;subst q1;simp only[Exit.inBlock,if_neg hj];exact hp
  |normal=>
   refine⟨_,_,h1,key _ λβ S w e' a' w' hp=>?_⟩;obtain⟨rfl,_⟩:=nF hp;exact hp
  |ret=>
   refine⟨_,_,h1,key _ λβ S w e' a' w' hp=>?_⟩;obtain⟨β',S',D',q1,q2⟩:=hp.ex;cases e'<;>simp only[ExR]at q1;exact hp
  |panic v=>
   refine⟨_,_,h1,key _ λβ S w e' a' w' hp=>?_⟩;obtain⟨β',S',D',q1,q2⟩:=hp.ex;cases e'<;>simp only[ExR]at q1;exact hp
 | .loop id live c,s,k,r,h=>by
  simp only[fS]at h;rw[tN]at h;obtain⟨e,s',h1,h2⟩:=hL _ _ _ _ _ _ h;refine⟨e,s',h1,λβ S D a w hR=>?_⟩;obtain⟨β',D',q1,q2,q3⟩:=ag9 hR live;refine bx1 (λb kk cs=>?_);obtain⟨ee,aa,ww,qq,rr⟩:=h2 β' S D' a w q1 b kk cs;exact⟨ee,aa,ww,Y7.trans (s1:=az9 live s) q2 q3 rfl rfl qq,rr⟩
theorem iY{E:Env}{ca:u9}{lo:aE}(hC:aF E ca)(hX:Z6 E)(hL:bQ E lo){id live:Nat}{c:Z5}{s:St}{k:KX}{r:Ans}(h:nG E ca lo id live c s k=some r):∃e s',k e s'=some r/\SL E c s e s':=by
 simp only[nG]at h;obtain⟨e,s1,h1,h2⟩:=cG hC hX hL c s _ r h;by_cases he:e= .normal
 ·subst he;simp only[tN]at h1;obtain⟨e2,s2,h3,h4⟩:=hL _ _ _ _ _ _ h1;refine⟨e2,s2,h3,λβ S D a w hR=>cd6 (wp_mono (h2 β S D a w hR) λe' a' w' hp=>?_)⟩;obtain⟨rfl,β',S',D',g1,g2,g3,g4,g5⟩:=nF hp;obtain⟨β'',D'',q1,q2,q3⟩:=ag9 g1 live;intro b kk cs;obtain⟨ee,aa,ww,qq,rr⟩:=h4 β'' S' D'' a' w' q1 b kk cs;exact⟨ee,aa,ww,Y7.trans g2 g3 g4 g5 (Y7.trans (s1:=az9 live s1) q2 q3 rfl rfl qq),rr⟩
 ·have h1':k e s1=some r:=by
   split at h1
   ·exact absurd rfl he
   ·exact h1
  refine⟨e,s1,h1',λβ S D a w hR=>cd6 (wp_mono (h2 β S D a w hR) λe' a' w' hp=>?_)⟩;cases e' with
  |normal=>exact(do9 he hp).elim
  |_=>exact hp
def gv3(P:Program)(g:FuncId)(n:Nat):Prop:=∀(us:Array Value) (w:World),us.size=n->(callFunc g us).run P w= .ok (.enter g us) w/\CallsD P g us .returning w λe u' w'=>(∃v,e= .returned v)/\u'= .returning/\Below w.heap.size w w'
theorem dr5{w w' w'':World}(h:Below w.heap.size w w')(g:Below w'.heap.size w' w''):Below w.heap.size w w'':=
 ⟨g.os.trans h.os,g.tape.trans h.tape,g.output.trans h.output,Nat.le_trans h.size g.size,λb hb=>(g.block b (Nat.lt_of_lt_of_le hb h.size)).trans (h.block b hb)⟩
theorem ep7(w:World):Below w.heap.size w w:=⟨rfl,rfl,rfl,Nat.le_refl _,λ_ _=>rfl⟩
theorem dy7{E:Env}(hI:∀g n,E.idle g=some n->gv3 E.P g n){fn:Func}{tmps:Array Value}{R:Ending->World->Prop}:
 ∀(ds:List Deferred) (w:World),(∀w',Below w.heap.size w w'->∃v,(results fn tmps).run E.P w'= .ok v w'/\R (.returned v) w')->(∀d,d∈ds->∃(g:FuncId) (us:Array Value),E.idle g=some us.size/\d={target:=.fn (.func g) us,args:=#[]})->Leaves E.P fn tmps R ds .returning w:=by
 intro ds
 induction ds with
 |nil=>intro w hR _;exact hR w (ep7 w)
 |cons d ds ih=>
  intro w hR h;obtain⟨g,us,h1,rfl⟩:=h d (.head _);obtain⟨h2,h3⟩:=hI g us.size h1 us w rfl;refine leaves_cons (f:=g) (args:=us) (by simp) (by simpa[invoke]using h2) (h3.mono ?_);rintro e u' w' ⟨⟨v',rfl⟩,rfl,hb⟩;exact ih w' (λw'' hb'=>hR w'' (dr5 hb hb')) λd hd=>h d (.tail _ hd)
theorem Rel.below{E:Env}{β:Bt}{S D:Pr}{s:St}{a:Act}{w w':World}(h:Rel E β S D s a w)(hb:Below w.heap.size w w'):Rel E β S D s a w':=
 have hk:Y4 S w w':=λb hs=>hb.block b (h.mem.st b hs)
 Rel.mk (m4 (λ_ _=>.inl rfl) (λ_ h=>h) (λ_ h=>h) hk _ _ h.fr) (h.mem.below hb) h.df h.lt (h.gl.later (λ_ h=>h) hk) h.rtD
def WF (E : Env) : Prop := ((∀ g n, E.idle g = some n -> gv3 E.P g n) /\ E.dok = true) /\ ∀ f c, E.code f = some c -> ∃ fn, E.P.funcs[f]? = some fn /\ fn.body = some c.erase /\ fn.name ≠ "runtime.NumGoroutine"
def en1(tmps:Array Value)(r0:ResultVar):Sem Value:=
 match r0 with
 | .tmp t=>pure (tmps.getD t undef)
 | .cell q t=>do loadVar t (<-asAddr (tmps.getD q undef))
theorem cc8(fn:Func)(tmps:Array Value):results fn tmps=(do let vs <-fn.results.mapM (en1 tmps);pure (if h:vs.size=1 then vs[0]else .tuple vs)):=rfl
section
variable {E:Env} {β:Bt} {S D:Pr} {w:World}
theorem ft7{s:St}{r0:ResultVar}{k:V->Option Ans}{r:Ans}(h:hi9 E s r0 k=some r):∃v,k v=some r/\∀(β:Bt) (S D:Pr) (a:Act) (w:World),Rel E β S D s a w->
 ∃u,(en1 a.tmps r0).run E.P w= .ok u w/\den β S w D v u:=by
 unfold hi9 at h;split at h
 ·rename_i t;refine⟨_,h,λβ S D a w hR=>⟨a.tmps.getD t undef,rfl,?_⟩⟩;have:=fE hR.fr t;simpa using this
 ·rename_i t ty;split at h
  ·rename_i i o hp;split at h
   ·rename_i cs hi;split at h
    ·rename_i v hv;refine⟨v,h,λβ S D a w hR=>?_⟩;have hd:=fE hR.fr t;rw[hp]at hd;obtain⟨b,m,hb,hr⟩:=hR.mem.live i _ hi;simp only[d7]at hr;obtain⟨_,us,T,h1,h2,h3⟩:=hr;simp only[den]at hd;have hu:=hd.2 b m hb;have hu':a.tmps.getD t undef= .pointer (some ⟨b,o,none⟩):=by simpa using hu
     obtain⟨y,hy1,hy2⟩:=yY (p:=⟨b,o,none⟩) hv h2 h3 (λi x hx=>by rw[eU,cell_of_row w b (o+i) _ _ _ h1];simpa using hx);refine⟨y,?_,hy2⟩;simp only[en1];rw[hu'];simp[asAddr,hy1]
    ·cases h
   ·cases h
  ·cases h
theorem al7{s:St}:∀(rs:List ResultVar) {k:List V->Option Ans} {r:Ans},bx3 E s rs k=some r->∃vs,k vs=some r/\∀(β:Bt) (S D:Pr) (a:Act) (w:World),Rel E β S D s a w->
 ∃us:List Value,(rs.mapM (en1 a.tmps)).run E.P w= .ok us w/\d9 β S w D vs us
 | [],k,r,h=>⟨_,h,λβ S D a w hR=>⟨[],rfl,by simp[d9]⟩⟩
 |r0::rs,k,r,h=>by
  simp only[bx3]at h;obtain⟨v,h1,h2⟩:=ft7 h;obtain⟨vs,h3,h4⟩:=al7 rs h1;refine⟨v::vs,h3,λβ S D a w hR=>?_⟩;obtain⟨u,g1,g2⟩:=h2 β S D a w hR;obtain⟨us,g3,g4⟩:=h4 β S D a w hR;refine⟨u::us,?_,by simp only[d9];exact⟨u,us,rfl,g2,g4⟩⟩;rw[List.mapM_cons,Sem.run_bind,g1,Result.andThen_ok,Sem.run_bind,g3];rfl
theorem ea8{vs:List V}{us:List Value}(h:d9 β S w D vs us):den β S w D (one1 vs) (if h:us.toArray.size=1 then us.toArray[0]else .tuple us.toArray):=by
 have hl:=y5 h;unfold one1;split
 ·rename_i v;simp only[d9]at h;obtain⟨x,xs,rfl,h1,rfl⟩:=h;simpa using h1
 ·rename_i hne
  have:¬us.toArray.size=1:=by
   intro h1;simp only[List.size_toArray]at h1;rw[h1]at hl;obtain⟨v,rfl⟩:=List.length_eq_one_iff.1 hl;exact hne v rfl
  rw[dif_neg this];simp only[den];exact⟨us,rfl,h⟩
theorem aw3 {ca : u9} {lo : aE} (hW : WF E) (hC : aF E ca) (hX : Z6 E) (hL : bQ E lo) {f : FuncId} {args : List V} {L : List (Option Z1)} {k : Z3 -> Option Ans} {r : Ans}
 (h : bq0 E ca lo f args L k = some r) : ∃ cr, k cr = some r /\ SC E f args L cr := by
 unfold bq0 at h;split at h
 ·rename_i c hc;obtain ⟨fn, hf, hb, hname⟩ := hW.2 f c hc;simp only [hf, rD] at h;split at h
  ·rename_i hrt;obtain ⟨e, s', h1, h2⟩ := cG hC hX hL c _ _ r h;have hcal : rH E.P f := ⟨fn, hf, by rw [hb]; rfl, hname⟩
   -- the state at the beginning
   have hstart : ∀ (β : Bt) (S : Pr) (w : World) (us : List Value), d9 β S w (· < L.length) args us -> Mem β S (· < L.length) (hp L) w -> Y2 E S w ->
    Rel E β S (· < L.length) { fr := args ++ List.replicate (fn.ntmps - args.length) (.sc undef), H := hp L, nx := L.length, rt := (cR E.allR (Am.hp L) args).length, me := f } { tmps := us.toArray ++ Array.replicate (fn.ntmps - us.toArray.size) undef, defers := [] } w := by
    intro β S w us hus hm hg;refine ⟨?_, hm, ⟨λ_ => rfl, λd hd => (by cases hd), λhk => (by rw [hW.1.2] at hk; cases hk)⟩, λi hi => hi, hg, λi hi => Nat.lt_of_lt_of_le hi hrt⟩;have hl := y5 hus;simp only [Array.toList_append, Array.toList_replicate];refine bX hus ?_;rw [List.size_toArray, <- hl];have := iL (β := β) (S := S) (w := w) (D := (· < L.length)) (f := λ_ : Nat => V.sc undef) (g := λ_ => undef) (l := List.range (fn.ntmps - args.length)) (λ_ _ => by simp [den]);simpa [List.map_const'] using this
   have hend : ∀ (e : Ex) (s' : St), (e = .normal \/ e = .ret) -> Ends E c { fr := args ++ List.replicate (fn.ntmps - args.length) (.sc undef), H := hp L, nx := L.length, rt := (cR E.allR (Am.hp L) args).length, me := f } e s' ->
    (bx3 E s' fn.results.toList λvs => cv6 s' (one1 vs) k) = some r -> ∃ cr, k cr = some r /\ SC E f args L cr := by
    intro e s' he h2 h1;obtain ⟨vs, h3, h4⟩ := al7 _ h1;simp only [cv6, be4, fi7, cu2] at h3;refine ⟨_, h3, hcal, λβ S w us hus hm hg => calls_of_wp_defers hf hb (wp_mono (h2 β S _ _ w (hstart β S w us hus hm hg)) λe' a' w' hp => ?_)⟩;obtain ⟨β', S', D', q1, q2, q3, q4, q5, q6⟩ := hp.ex;have hrel : Rel E β' S' D' s' a' w' := by rcases he with rfl | rfl <;> exact q2
    have hroots := q4
    have hbody : ∀ w2, Below w'.heap.size w' w2 -> ∃ v, (results fn a'.tmps).run E.P w2 = .ok v w2 /\ ap3 β S w (cR E.allR (Am.hp L) args).length
     (.ret ((one1 vs).ren (jI (gK s'.H rO (kV s'.H (List.range s'.rt) ++ (one1 vs).ids) (List.range s'.rt)))) (keep s'.H (gK s'.H rO (kV s'.H (List.range s'.rt) ++ (one1 vs).ids) (List.range s'.rt)))) (.returned v) w2 := by
     intro w2 hbw;have hrel := hrel.below hbw;have q3 := q3.trans (Evo.below hbw);obtain ⟨rs, g1, g2⟩ := h4 β' S' D' a' w2 hrel;refine ⟨(if h : rs.toArray.size = 1 then rs.toArray[0] else .tuple rs.toArray), ?_, ?_⟩
     ·have hrun : (fn.results.mapM (en1 a'.tmps)).run E.P w2 = .ok rs.toArray w2 := by
       rw [Array.mapM_eq_mapM_toList, Sem.run_map, g1];rfl
      rw [cc8, Sem.run_bind, hrun];rfl
     ·obtain ⟨hn, ex, hex⟩ := jF s'.H rO (kV s'.H (List.range s'.rt) ++ (one1 vs).ids) (List.range s'.rt) List.nodup_range;generalize gK s'.H rO (kV s'.H (List.range s'.rt) ++ (one1 vs).ids) (List.range s'.rt) = order at *;simp only [ap3];have hlen : (keep s'.H order).length = order.length := by simp [keep]
      rw [hlen];refine ⟨_, ofOrder β' order, S', rfl, hrel.mem.renum hn, bj2 ae9 _ _ (ea8 g2), ?_, ?_⟩
      ·exact q3.trans ⟨rfl, rfl, rfl, Nat.le_refl _, λ_ _ _ => rfl, λ_ h => h, λ_ h => .inl h, λi b m hb h0 => by
        obtain ⟨j, _, hj⟩ := v7 hb
        exact .inr ⟨j, m, h0, hj⟩⟩
      ·intro i bm hi hb;have hi' : i < s'.rt := by rw [q5]; exact hi
       have hio : order[i]? = some i := by
        rw [hex, List.getElem?_append, if_pos (by simpa using hi')];simp [hi']
       unfold ofOrder at hb;rw [hio] at hb;exact hroots i bm hi hb
    have hleave : Leaves E.P fn a'.tmps (ap3 β S w (cR E.allR (Am.hp L) args).length (.ret ((one1 vs).ren (jI (gK s'.H rO (kV s'.H (List.range s'.rt) ++ (one1 vs).ids) (List.range s'.rt)))) (keep s'.H (gK s'.H rO (kV s'.H (List.range s'.rt) ++ (one1 vs).ids) (List.range s'.rt))))) a'.defers .returning w' := by
     exact dy7 hW.1.1 _ _ hbody hrel.df.2.1
    rcases he with rfl | rfl
    ·cases e' <;> simp only [ExR] at q1;exact hleave
    ·cases e' <;> simp only [ExR] at q1;exact hleave
   unfold ht8 at h1;split at h1
   ·exact hend _ _ (.inl rfl) h2 h1
   ·exact hend _ _ (.inr rfl) h2 h1
   ·rename_i v;split at h1
    ·cases h1
    rename_i hdn;refine ⟨_, h1, hcal, λβ S w us hus hm hg => calls_of_wp_defers hf hb (wp_mono (h2 β S _ _ w (hstart β S w us hus hm hg)) λe' a' w' hp => ?_)⟩;obtain ⟨β', S', D', q1, q2, q3, q4, q5, q6⟩ := hp.ex;cases e' <;> simp only [ExR] at q1;obtain ⟨u, rfl, g1, g2⟩ := q1;show Leaves E.P fn a'.tmps _ a'.defers (.panicking _) w';rw [q2.df.1 hdn];exact ⟨u, β', S', rfl, g1, g2, q3, q2.mem.st⟩
   ·cases h1
  ·cases h
 ·cases h
end
theorem fb8{E:Env}(hW:WF E)(hX:Z6 E):∀n,aF E (ck3 E n)/\bQ E (dx8 E n)
 |0=>⟨λf args L k r h=>by simp[ck3]at h,λid live c s k r h=>by simp[dx8]at h⟩
 |n+1=>by
  obtain⟨h1,h2⟩:=fb8 hW hX n;constructor
  ·intro f args L k r h;simp only[ck3]at h;split at h
   ·rename_i cr hc;obtain⟨cr',e1,e2⟩:=aw3 hW h1 hX h2 hc;simp only[Option.some.injEq,Ans.c.injEq]at e1;subst e1;exact⟨_,h,e2⟩
   ·cases h
  ·intro id live c s k r h;simp only[dx8]at h;split at h
   ·rename_i e s' hc;obtain⟨e',s'',e1,e2⟩:=iY h1 hX h2 hc;simp only[Option.some.injEq,Ans.l.injEq]at e1;obtain⟨rfl,rfl⟩:=e1;exact⟨_,_,h,e2⟩
   ·cases h
theorem SC.closed{E:Env}(hW:WF E)(hX:Z6 E)(n:Nat){f:FuncId}{args:List V}{L:List (Option Z1)}{cr:Z3}(h:ck3 E n f args L (λr=>some (.c r))=some (.c cr)):SC E f args L cr:=by
 obtain⟨cr',e1,e2⟩:=(fb8 hW hX n).1 _ _ _ _ _ h;simp only[Option.some.injEq,Ans.c.injEq]at e1
 rwa [e1]at e2
theorem SC.of{E:Env}(hW:WF E)(hX:Z6 E){ca:u9}{lo:aE}(hC:aF E ca)(hL:bQ E lo){f:FuncId}{args:List V}{L:List (Option Z1)}{cr:Z3}(h:bq0 E ca lo f args L (λr=>some (.c r))=some (.c cr)):SC E f args L cr:=by
 obtain⟨cr',e1,e2⟩:=aw3 hW hC hX hL h;simp only[Option.some.injEq,Ans.c.injEq]at e1
 rwa [e1]at e2
theorem SL.of{E:Env}(hX:Z6 E){ca:u9}{lo:aE}(hC:aF E ca)(hL:bQ E lo){id live:Nat}{c:Z5}{s s':St}{e:Ex}(h:nG E ca lo id live c s (λe s=>some (.l e s))=some (.l e s')):SL E c s e s':=by
 obtain⟨e1,s1,h1,h2⟩:=iY hC hX hL h;simp only[Option.some.injEq,Ans.l.injEq]at h1;obtain⟨rfl,rfl⟩:=h1;exact h2
theorem Y2.none{E:Env}(hG:∀g,E.glob g=Option.none)(hI:E.inv=[])(S:Pr)(w:World):Y2 E S w:=
 ⟨λg cs hg=>(by rw[hG g]at hg;cases hg),λp hp=>(by rw[hI]at hp;cases hp)⟩
theorem SC.law{E:Env}{f:FuncId}{args:List V}(h:SC E f args [] (.ret (.sc (.bool true)) [])){w:World}(hG:Y2 E (· <w.heap.size) w){us:List Value}(hd:d9 (λ_=>Option.none) (· <w.heap.size) w (λ_=>False) args us):
 Calls E.P f us.toArray w λe w'=>e= .returned (.bool true)/\Below w.heap.size w w':=by
 have hmem:Mem (λ_=>Option.none) (· <w.heap.size) (λi=>i< ([]:List (Option Z1)).length) (hp []) w:=
  ⟨λi c hc=>(by simp[hp]at hc),λ_ _=>rfl,λi b m h=>(by cases h),λi b m h=>(by cases h),λi j b m m' h=>(by cases h),λb hb=>hb⟩
 refine(h.2 (λ_=>Option.none) (· <w.heap.size) w us ?_ hmem hG).mono ?_
 ·have:(λi:Nat=>i< ([]:List (Option Z1)).length)=λ_=>False:=by funext i;simp
  rw[this];exact hd
 ·rintro e w' ⟨u,β',S',rfl,g1,g2,g3,g4⟩;simp only[den]at g2;subst g2;exact⟨rfl,pB g3⟩
end
section
open Go
theorem jL(res:Nat):∀(c:Code) (b0 l:Nat) (env:List (Nat×Nat)),(ann res c b0 l env).erase=c
 | .skip,_,_,_=>by simp[ann,Z5.erase]
 | .region _ ops _,_,_,_=>by simp[ann,Z5.erase]
 | .seq a b,b0,l,env=>by simp[ann,ad5,Z5.erase,jL res a,jL res b]
 | .cond c x y,b0,l,env=>by simp[ann,ad5,Z5.erase,jL res x,jL res y]
 | .block id c,_,l,env=>by simp[ann,ad5,Z5.erase,jL res c]
 | .loop c,b0,l,env=>by simp[ann,ad5,Z5.erase,jL res c]
 | .exit _,_,_,_=>by simp[ann,Z5.erase]
 | .ret,_,_,_=>by simp[ann,Z5.erase]
 | .rangeFunc ..,_,_,_=>by simp[ann,Z5.erase]
 | .scope c,b0,l,env=>by simp[ann,Z5.erase,jL res c]
 | .label _,_,_,_=>by simp[ann,Z5.erase]
 | .goto _,_,_,_=>by simp[ann,Z5.erase]
 | .refuse _,_,_,_=>by simp[ann,Z5.erase]
theorem WF.of (E : Env) (hc : ∀ f, E.code f = (E.P.funcs[f]?).bind gb2) (hn : E.P.funcs.toList.all (λfn => fn.name != "runtime.NumGoroutine") = true) (hd : ∀ g n, E.idle g = some n -> gv3 E.P g n := by intro g n h; cases h) (hk : E.dok = true := by rfl) : WF E := by
  refine ⟨⟨hd, hk⟩, ?_⟩;intro f c h;rw [hc] at h;cases hf : E.P.funcs[f]? with
  | none => rw [hf] at h; cases h
  | some fn =>
    rw [hf] at h;simp only [Option.bind_some, gb2] at h;cases hb : fn.body with
    | none => rw [hb] at h; cases h
    | some b =>
      rw [hb] at h;simp only [Option.map_some, Option.some.injEq] at h;refine ⟨fn, rfl, ?_, ?_⟩
      · rw [hb, <- h, jL]
      · have := List.all_eq_true.1 hn fn (by rw [<- Array.getElem?_toList] at hf; exact List.mem_of_getElem? hf);simpa using this
theorem Z6.none{E:Env}(h:∀f args,E.ext f args=Option.none):Z6 E:=by
 intro f args v hv;rw[h]at hv;cases hv
mutual
def du6(E:Env):Nat->u9
 |0=>λ_ _ _ _=>Option.none
 |n+1=>bq0 E (du6 E n) (dp8 E n)
def dp8(E:Env):Nat->aE
 |0=>λ_ _ _ _ _=>Option.none
 |n+1=>nG E (du6 E n) (dp8 E n)
end
theorem iR{E:Env}(hW:WF E)(hX:Z6 E):∀n,aF E (du6 E n)/\bQ E (dp8 E n)
 |0=>⟨λf args L k r h=>by simp[du6]at h,λid live c s k r h=>by simp[dp8]at h⟩
 |n+1=>by
  obtain⟨h1,h2⟩:=iR hW hX n;constructor
  ·intro f args L k r h;rw[du6]at h;exact aw3 hW h1 hX h2 h
  ·intro id live c s k r h;rw[dp8]at h;exact iY h1 hX h2 h
abbrev hu6:=List V->List (Option Z1)->(Z3->Option Ans)->Option Ans
def tab:List (FuncId×hu6)->u9
 | []=>λ_ _ _ _=>Option.none
 | (g,t)::l=>λf args L k=>if f==g then t args L k else tab l f args L k
end
section
open Go Go.RowKit
def Cat:List (List V->Prop)->List V->Prop
 | [],vs=>vs=[]
 |p::ps,vs=>∃a b,vs=a++b/\p a/\Cat ps b
def WT(P:Program):Nat->TypeId->List V->Prop
 |0,_,_=>False
 |d+1,t,vs=>match P.underlying t with
  |some .bool=>∃b,vs=[.sc (.bool b)]
  |some (.int k)=>∃n,vs=[.sc (.int k n)]/\(Lit.int k n).wf=true
  |some .string=>∃s,vs=[.sc (.string s)]/\s.size<=Go.maxLen
  |some (.slice e)=>0<P.cellsOf e->∃n f,vs=[.ro (P.cellsOf e) n f]/\n<=Go.maxLen/\∀j,j<n->WT P d e (f j)
  |some (.struct fs)=>Cat (fs.toList.map λf=>WT P d f.type) vs
  |some (.array n e)=>Cat ((List.replicate n e).map λe=>WT P d e) vs
  |_=>True
def WTV(P:Program)(t:TypeId)(v:V):Prop:=
 ∃d,match P.underlying t with
  |some (.struct _)=>∃vs,v= .agg vs/\WT P d t vs
  |some (.array _ _)=>∃vs,v= .agg vs/\WT P d t vs
  |_=>WT P d t [v]
def tH(P:Program):List Field->Nat->Option Nat
 | [],o=>some o
 |f::fs,o=>if f.offset=o/\f.type<P.types.size then tH P fs (o+P.cellsOf f.type)else none
def cm8(P:Program):Bool:=(List.range P.types.size).all λt=>match P.underlying t with
 |some (.struct fs)=>tH P fs.toList 0==some (P.cellsOf t)
 |some (.array n e)=>P.cellsOf t==n*P.cellsOf e&&decide (e<P.types.size)
 |some (.slice e)=>decide (e<P.types.size)
 |_=>true
abbrev DB:Bt:=λ_=>none
abbrev DD:Pr:=λ_=>False
theorem ar4{α β:Type}{f:α->Option β}:∀{l:List α} {ys:List β},l.mapM f=some ys->∀x∈l,∃y,f x=some y
 | [],_,_,x,hx=>by cases hx
 |a::l,ys,h,x,hx=>by
  rw[List.mapM_cons]at h;cases ha:f a with
  |none=>rw[ha]at h;simp at h
  |some y=>
   rw[ha]at h;cases hl:l.mapM f with
   |none=>rw[hl]at h;simp at h
   |some zs=>
    rcases List.mem_cons.1 hx with e|e
    ·subst e;exact⟨y,ha⟩
    ·exact ar4 hl x e
structure Gd(S:Pr)(w:World)(vs:List V)(us:List Value):Prop where
 den:d9 DB S w DD vs us
 pure:n4 vs=true
 one:us.all Value.oneCell'=true
theorem dw3{β:Bt}{S D:Pr}{w:World}:∀{as bs:List V} {us vs:List Value},d9 β S w D as us->d9 β S w D bs vs->d9 β S w D (as++bs) (us++vs)
 | [],bs,us,vs,h,g=>by simp only[d9]at h;subst h;exact g
 |a::as,bs,us,vs,h,g=>by
  simp only[d9]at h;obtain⟨x,xs,rfl,h1,h2⟩:=h;simp only[List.cons_append,d9];exact⟨x,_,rfl,h1,dw3 h2 g⟩
theorem ci5:∀{as bs:List V},n4 as=true->n4 bs=true->n4 (as++bs)=true
 | [],bs,_,g=>g
 |a::as,bs,h,g=>by
  simp only[n4,Bool.and_eq_true,List.cons_append]at h⊢;exact⟨h.1,ci5 h.2 g⟩
theorem Gd.app{S:Pr}{w:World}{as bs:List V}{us vs:List Value}(h:Gd S w as us)(g:Gd S w bs vs):Gd S w (as++bs) (us++vs):=
 ⟨dw3 h.den g.den,ci5 h.pure g.pure,by rw[List.all_append,h.one,g.one];rfl⟩
theorem Gd.nil{S:Pr}{w:World}:Gd S w [] []:=⟨by simp[d9],rfl,rfl⟩
theorem Gd.one1{S:Pr}{w:World}{u:Value}(h:u.oneCell'=true):Gd S w [.sc u] [u]:=⟨by simp[d9,Am.den],rfl,by simp[h]⟩
def AC:=@Gd.one1
theorem by6{S:Pr}{w:World}{cs:List Value}{n:Nat}{p:List V->Prop}(hn:n<=cs.length)(h:∃vs,Gd S w vs (cs.take n)/\p vs){ps:List (List V->Prop)}(g:∃vs,Gd S w vs (cs.drop n)/\Cat ps vs):
 ∃vs,Gd S w vs cs/\Cat (p::ps) vs:=by
 obtain⟨a,ha,pa⟩:=h;obtain⟨b,hb,pb⟩:=g;exact⟨a++b,by have:=ha.app hb;rwa [List.take_append_drop]at this,a,b,rfl,pa,pb⟩
theorem el6{H:Type}{enc:TypeId×Value->H}{P:Program}{w:World}{sp:Nat->Bool}{held:Bool}(hp:cm8 P=true):
 ∀(d:Nat) (t:TypeId) (cs:List Value) (x:DataW H×List MemPlace),t<P.types.size->DataW.trod enc P w 0 sp held d t cs=some x->∃vs,Gd (· <w.heap.size) w vs cs/\WT P d t vs:=by
 intro d
 induction d with
 |zero=>intro t cs x _ h;simp[DataW.trod]at h
 |succ d ih=>
  intro t cs x ht h
  have fields:∀(fs:List Field) (o m:Nat) (cs:List Value) (ys:List (DataW H×List MemPlace)),tH P fs o=some m->cs.length=m->
   fs.mapM (λf=>DataW.trod enc P w 0 sp held d f.type ((cs.drop f.offset).take (P.cellsOf f.type)))=some ys->
   ∃vs,Gd (· <w.heap.size) w vs (cs.drop o)/\Cat (fs.map λf=>WT P d f.type) vs:=by
   intro fs
   induction fs with
   |nil=>
    intro o m cs ys hp hl _;simp only[tH,Option.some.injEq]at hp;subst hp;refine⟨[],?_,rfl⟩;rw[List.drop_of_length_le (by omega)];exact Gd.nil
   |cons f fs ihf=>
    intro o m cs ys hp hl hm;simp only[tH]at hp;split at hp
    ·rename_i ho;obtain⟨ho,hft⟩:=ho;obtain⟨y,hy⟩:=ar4 hm f (.head _);rw[List.mapM_cons,hy]at hm
     have hle:o+P.cellsOf f.type<=m:=by
      have:∀(l:List Field) (o m:Nat),tH P l o=some m->o<=m:=by
       intro l
       induction l with
       |nil=>intro o m h;simp only[tH,Option.some.injEq]at h;omega
       |cons g l ih=>intro o m h;simp only[tH]at h;split at h;have:=ih _ _ h;omega;cases h
      exact this _ _ _ hp
     refine by6 (n:=P.cellsOf f.type) (by simp only[List.length_drop];omega) ?_ ?_
     ·rw[ho]at hy;exact ih _ _ _ hft hy
     ·cases hl':fs.mapM (λf=>DataW.trod enc P w 0 sp held d f.type ((cs.drop f.offset).take (P.cellsOf f.type)))with
      |none=>rw[hl']at hm;simp at hm
      |some zs=>
       rw[List.drop_drop];exact ihf _ _ _ _ hp hl hl'
    ·cases hp
  have items:∀(n:Nat) (e:TypeId) (cs:List Value),e<P.types.size->cs.length=n*P.cellsOf e->
   (∀i,i<n->∃y,DataW.trod enc P w 0 sp held d e ((cs.drop (i*P.cellsOf e)).take (P.cellsOf e))=some y)->
   ∃vs,Gd (· <w.heap.size) w vs cs/\Cat ((List.replicate n e).map λe=>WT P d e) vs:=by
   intro n
   induction n with
   |zero=>
    intro e cs _ hl _;have:cs=[]:=List.length_eq_zero_iff.1 (by omega);subst this;exact⟨[],Gd.nil,rfl⟩
   |succ n ihn=>
    intro e cs het hl h;simp only[List.replicate_succ,List.map_cons];refine by6 (n:=P.cellsOf e) (by rw[hl,Nat.add_mul];omega) ?_ ?_
    ·obtain⟨y,hy⟩:=h 0 (by omega);simp only[Nat.zero_mul,List.drop_zero]at hy;exact ih _ _ _ het hy
    ·refine ihn e _ het (by rw[List.length_drop,hl,Nat.add_mul];omega) λi hi=>?_;obtain⟨y,hy⟩:=h (i+1) (by omega);refine⟨y,?_⟩;rw[List.drop_drop,show P.cellsOf e+i*P.cellsOf e=(i+1)*P.cellsOf e by rw[Nat.add_mul];omega];exact hy
  have hpk:∀x,P.underlying t=some x->(match(some x:Option TypeDesc)with
   |some (.struct fs)=>tH P fs.toList 0==some (P.cellsOf t)
   |some (.array n e)=>P.cellsOf t==n*P.cellsOf e&&decide (e<P.types.size)
   |some (.slice e)=>decide (e<P.types.size)
   |_=>true)=true:=by
   intro x hx;have:=List.all_eq_true.1 hp t (by simp only[List.mem_range];exact ht)
   rwa [hx]at this
  unfold DataW.trod at h;unfold WT;split at h
  ·rename_i b hu;rw[hu];exact⟨_,AC rfl,_,rfl⟩
  ·rename_i k k' n hu;rw[hu];split at h
   ·rename_i hc;obtain⟨rfl,hw⟩:=hc;exact⟨_,AC rfl,_,rfl,hw⟩
   ·cases h
  ·rename_i hu;rw[hu];exact⟨_,AC rfl,trivial⟩
  ·rename_i s hu;rw[hu];split at h
   ·rename_i hc;exact⟨_,AC rfl,_,rfl,hc⟩
   ·cases h
  ·rename_i hu;rw[hu];exact⟨_,AC rfl,trivial⟩
  ·rename_i hu;rw[hu];exact⟨_,AC rfl,trivial⟩
  ·rename_i e hu;rw[hu];by_cases he:0<P.cellsOf e
   ·refine⟨[.ro (P.cellsOf e) 0 (λ_=>[])],⟨?_,rfl,rfl⟩,λ_=>⟨0,_,rfl,Nat.zero_le _,λj hj=>absurd hj (Nat.not_lt_zero _)⟩⟩;simp only[d9,Am.den];exact⟨_,_,rfl,⟨Nat.zero_le _,none,0,⟨0,0,none⟩,λ_=>[],rfl,Nat.le_refl _,λh=>absurd h (Nat.lt_irrefl _),λj hj=>absurd hj (Nat.not_lt_zero _)⟩,rfl⟩
   ·exact⟨_,AC rfl,λh=>absurd h he⟩
  ·rename_i e a len cap hu;rw[hu];by_cases he:0<P.cellsOf e
   ·simp only at h;split at h
    ·rename_i hc;obtain⟨_,h1,h2⟩:=hc;cases hm:(List.range len).mapM (λi=>(w.cells? 0 (a.add (i*P.cellsOf e)) (P.cellsOf e)).bind (DataW.trod enc P w 0 sp held d e))with
     |none=>rw[hm]at h;simp at h
     |some zs=>
      have key:∀j,j<len->∃(vs:List V) (us:List Value),Gd (· <w.heap.size) w vs us/\WT P d e vs/\us.length=P.cellsOf e/\a.block<w.heap.size/\∀i x,us[i]? =some x->w.cell? (a.add (j*P.cellsOf e+i))=some x:=by
       intro j hj;obtain⟨y,hy⟩:=ar4 hm j (by simpa using hj);cases hcs:w.cells? 0 (a.add (j*P.cellsOf e)) (P.cellsOf e)with
       |none=>rw[hcs]at hy;simp at hy
       |some us=>
        rw[hcs]at hy;obtain⟨vs,g1,g2⟩:=ih _ _ _ (by simpa using hpk _ hu) hy;obtain⟨_,q1,q2⟩:=World.cells?_some hcs;have hb:=World.cells?_block hcs he;rw[fD]at hb;refine⟨vs,us,g1,g2,q1,hb,λi x hx=>?_⟩
        have hi:i<P.cellsOf e:=by
         rcases Nat.lt_or_ge i us.length with g|g
         ·omega
         ·rw[List.getElem?_eq_none g]at hx;cases hx
        rw[<-ab8,q2 i hi,hx]
      let f:Nat->List V:=λj=>if hj:j<len then Classical.choose (key j hj)else[]
      let us:Nat->List Value:=λj=>if hj:j<len then Classical.choose (Classical.choose_spec (key j hj))else[]
      have hf:∀j,j<len->Gd (· <w.heap.size) w (f j) (us j)/\WT P d e (f j)/\(us j).length=P.cellsOf e/\a.block<w.heap.size/\∀i x,(us j)[i]? =some x->w.cell? (a.add (j*P.cellsOf e+i))=some x:=by
       intro j hj;have:=Classical.choose_spec (Classical.choose_spec (key j hj));simp only[f,us,hj,dif_pos];exact this
      refine⟨[.ro (P.cellsOf e) len f],⟨?_,rfl,rfl⟩,λ_=>⟨len,f,rfl,Nat.le_trans h1 h2,λj hj=>(hf j hj).2.1⟩⟩;simp only[d9,Am.den];refine⟨_,_,rfl,⟨Nat.le_trans h1 h2,some a,cap,a,us,rfl,h1,λh0=>⟨rfl,(hf 0 h0).2.2.2.1⟩,λj hj=>?_⟩,rfl⟩;obtain⟨g1,g2,g3,g4,g5⟩:=hf j hj;exact⟨g1.den,g1.pure,g3,g1.one,g5⟩
    ·cases h
   ·exact⟨_,AC rfl,λh=>absurd h he⟩
  ·rename_i cs _x c2 fs hu;rw[hu];split at h
   ·rename_i hc;have hk:=hpk _ hu;simp only[beq_iff_eq]at hk;cases hm:fs.toList.mapM (λf=>DataW.trod enc P w 0 sp held d f.type ((cs.drop f.offset).take (P.cellsOf f.type)))with
    |none=>rw[hm]at h;simp at h
    |some ys=>have:=fields _ _ _ _ _ hk hc hm;simpa using this
   ·cases h
  ·rename_i cs _x c2 n e hu;rw[hu];split at h
   ·rename_i hc;have hk:=hpk _ hu;simp only[Bool.and_eq_true,beq_iff_eq,decide_eq_true_eq]at hk;cases hm:(List.range n).mapM (λi=>DataW.trod enc P w 0 sp held d e ((cs.drop (i*P.cellsOf e)).take (P.cellsOf e)))with
    |none=>rw[hm]at h;simp at h
    |some ys=>exact items _ _ _ hk.2 (by rw[hc,hk.1]) λi hi=>ar4 hm i (by simpa using hi)
   ·cases h
  all_goals first
   | (cases h;done)
   | (rename_i hu;rw[hu];exact⟨_,AC rfl,trivial⟩)
   |skip
theorem ek2{P:Program}{W:World}{base:Nat}{t:TypeId}{v:Value}(h:Value.okWide P W .any base t v):
 (∃fs,P.underlying t=some (.struct fs)/\∃cs,v= .agg cs)\/(∃n e,P.underlying t=some (.array n e)/\∃cs,v= .agg cs)\/
 ((∀fs,P.underlying t≠some (.struct fs))/\(∀n e,P.underlying t≠some (.array n e))/\v.cells.toList=[v]):=by
 unfold Value.okWide at h;split at h
 ·rename_i fs hu;obtain⟨cs,rfl,_⟩:=h;exact .inl ⟨fs,hu,cs,rfl⟩
 ·rename_i n e hu;obtain⟨cs,rfl,_⟩:=h;exact .inr (.inl ⟨n,e,hu,cs,rfl⟩)
 ·rename_i h1 h2;refine .inr (.inr ⟨h1,h2,?_⟩);cases v with
  |agg cs=>
   exfalso;unfold Cell.okWide at h;split at h<;>first| (rename_i hv;cases hv;done) | (unfold Cell.ok at h;split at h<;>first| (rename_i hv;cases hv;done) |exact h|skip) |skip
   all_goals simp_all
  |_=>rfl
theorem et4{H:Type}{enc:TypeId×Value->H}{P:Program}{w:World}{sp:Nat->Bool}{held:Bool}(hp:cm8 P=true){t:TypeId}(ht:t<P.types.size){v:Value}{base:Nat}(hok:Value.okWide P w .any base t v)
 {x:DataW H} {ps:List MemPlace} (h:DataW.Trod enc P w 0 sp held t v x ps):∃y:V,den DB (· <w.heap.size) w DD y v/\WTV P t y:=by
 obtain⟨d,hd⟩:=h;obtain⟨vs,g,hw⟩:=el6 hp d t _ _ ht hd;rcases ek2 hok with⟨fs,hu,cs,rfl⟩ | ⟨n,e,hu,cs,rfl⟩ | ⟨h1,h2,hv⟩
 ·refine⟨.agg vs,?_,d,?_⟩
  ·simp only[Am.den];exact⟨cs.toList,rfl,g.den,g.one⟩
  ·rw[hu];exact⟨vs,rfl,hw⟩
 ·refine⟨.agg vs,?_,d,?_⟩
  ·simp only[Am.den];exact⟨cs.toList,rfl,g.den,g.one⟩
  ·rw[hu];exact⟨vs,rfl,hw⟩
 ·rw[hv]at g;have hl:=g.den;cases vs with
  |nil=>simp[d9]at hl
  |cons y ys=>
   simp only[d9]at hl;obtain⟨a,b,e1,e2,e3⟩:=hl;simp only[List.cons.injEq]at e1;obtain⟨rfl,rfl⟩:=e1;cases ys with
   |cons z zs=>simp[d9]at e3
   |nil=>
    refine⟨y,e2,d,?_⟩;split
    ·rename_i fs hu;exact absurd hu (h1 _)
    ·rename_i n e hu;exact absurd hu (h2 _ _)
    ·exact hw
def Le(v v':V):Prop:=∀β S w D u,den β S w D v u->den β S w D v' u
def LeL(a b:List V):Prop:=∀β S w D us,d9 β S w D a us->d9 β S w D b us
theorem Le.refl(v:V):Le v v:=λ_ _ _ _ _ h=>h
def AD:=@Le.refl
theorem LeL.refl(v:List V):LeL v v:=λ_ _ _ _ _ h=>h
theorem LeL.cons{v v':V}{l l':List V}(h:Le v v')(g:LeL l l'):LeL (v::l) (v'::l'):=by
 intro β S w D us hd;simp only[d9]at hd⊢;obtain⟨x,xs,rfl,h1,h2⟩:=hd;exact⟨x,xs,rfl,h _ _ _ _ _ h1,g _ _ _ _ _ h2⟩
def AE:=@LeL.cons
theorem Le.agg{a b:List V}(h:LeL a b):Le (.agg a) (.agg b):=by
 intro β S w D u hd;simp only[Am.den]at hd⊢;obtain⟨us,h1,h2,h3⟩:=hd;exact⟨us,h1,h _ _ _ _ _ h2,h3⟩
theorem Le.ro{k n:Nat}{f g:Nat->List V}(h:∀j,j<n->LeL (f j) (g j)/\n4 (g j)=true):Le (.ro k n f) (.ro k n g):=by
 intro β S w D u hd;simp only[Am.den]at hd⊢;obtain⟨h0,A,m,a,us,h1,h2,h3,h4⟩:=hd;refine⟨h0,A,m,a,us,h1,h2,h3,λj hj=>?_⟩;obtain⟨g1,g2,g3,g4,g5⟩:=h4 j hj;exact⟨(h j hj).1 _ _ _ _ _ g1,(h j hj).2,g3,g4,g5⟩
theorem Le.ro_eq{k n:Nat}{f g:Nat->List V}(h:∀j,j<n->f j=g j/\n4 (g j)=true):Le (.ro k n f) (.ro k n g):=
 Le.ro λj hj=>⟨by rw[(h j hj).1];exact LeL.refl _,(h j hj).2⟩
def inR(a:Int):Prop:= -9223372036854775808<=a/\a<=9223372036854775807
theorem hg5{n:Int}(h:(Lit.int .i64 n).wf=true):inR n:=by
 simp only[Lit.wf,Bool.and_eq_true,decide_eq_true_eq]at h;have e1:IntKind.min .i64= -9223372036854775808:=by decide
 have e2:IntKind.max .i64=9223372036854775807:=by decide
 rw[e1,e2]at h;exact h
theorem SC.lawL{E:Env}{f:FuncId}{l:List V}(h:∃l',LeL l l'/\SC E f l' [] (.ret (.sc (.bool true)) [])){w:World}(hG:Y2 E (· <w.heap.size) w){us:List Value}(hd:d9 (λ_=>none) (· <w.heap.size) w (λ_=>False) l us):
 Calls E.P f us.toArray w λe w'=>e= .returned (.bool true)/\Below w.heap.size w w':=by
 obtain⟨l',h1,h2⟩:=h;exact h2.law hG (h1 _ _ _ _ _ hd)
def lX(P:Program)(t:TypeId):Option (List TypeId):=match P.underlying t with|some (.struct fs)=>some (fs.toList.map (·.type)) |some (.array n e)=>some (List.replicate n e) |_=>none
def ed8(P:Program)(t:TypeId):Option IntKind:=match P.underlying t with|some (.int k)=>some k|_=>none
def he1(P:Program)(t:TypeId):Bool:=match P.underlying t with|some .bool=>true|_=>false
theorem WT.int{P:Program}{d:Nat}{t:TypeId}{vs:List V}{k:IntKind}(h:WT P d t vs)(ht:ed8 P t=some k):∃n,vs=[.sc (.int k n)]/\(Lit.int k n).wf=true:=by
 cases d with
 |zero=>cases h
 |succ d=>
  unfold ed8 at ht;unfold WT at h;split at ht
  ·rename_i hu;rw[hu]at h;cases ht;exact h
  ·cases ht
theorem WT.i64{P:Program}{d:Nat}{t:TypeId}{vs:List V}(h:WT P d t vs)(ht:ed8 P t=some .i64):∃n,vs=[.sc (.int .i64 n)]/\inR n:=by
 obtain⟨n,h1,h2⟩:=h.int ht;exact⟨n,h1,hg5 h2⟩
theorem WT.bool{P:Program}{d:Nat}{t:TypeId}{vs:List V}(h:WT P d t vs)(ht:he1 P t=true):∃b,vs=[.sc (.bool b)]:=by
 cases d with
 |zero=>cases h
 |succ d=>
  unfold he1 at ht;unfold WT at h;split at ht
  ·rename_i hu;rw[hu]at h;exact h
  ·cases ht
theorem WT.str{P:Program}{d:Nat}{t:TypeId}{vs:List V}(h:WT P d t vs)(ht:eV P t=true):∃s,vs=[.sc (.string s)]/\s.size<=Go.maxLen:=by
 cases d with
 |zero=>cases h
 |succ d=>
  unfold eV at ht;unfold WT at h;split at ht
  ·rename_i hu;rw[hu]at h;exact h
  ·cases ht
theorem WT.slice{P:Program}{d:Nat}{t e:TypeId}{vs:List V}{c:Nat}(h:WT P d t vs)(ht:jG P t=some e)(hc:P.cellsOf e=c)(h0:0<c):∃n f,vs=[.ro c n f]/\n<=Go.maxLen/\∃d',∀j,j<n->WT P d' e (f j):=by
 cases d with
 |zero=>cases h
 |succ d=>
  unfold jG at ht;unfold WT at h;split at ht
  ·rename_i hu;rw[hu]at h;cases ht;subst hc;obtain⟨n,f,h1,h2,h3⟩:=h h0;exact⟨n,f,h1,h2,d,h3⟩
  ·cases ht
theorem WT.struct{P:Program}{d:Nat}{t:TypeId}{vs:List V}{l:List TypeId}(h:WT P d t vs)(ht:lX P t=some l):∃d',Cat (l.map (WT P d')) vs:=by
 cases d with
 |zero=>cases h
 |succ d=>
  unfold lX at ht;unfold WT at h;split at ht
  ·rename_i hu;rw[hu]at h;cases ht;refine⟨d,?_⟩;rw[List.map_map];exact h
  ·rename_i hu;rw[hu]at h;cases ht;exact⟨d,h⟩
  ·cases ht
theorem WTV.struct{P:Program}{t:TypeId}{v:V}{l:List TypeId}(h:WTV P t v)(ht:lX P t=some l):∃d vs,v= .agg vs/\WT P d t vs:=by
 obtain⟨d,h⟩:=h;unfold lX at ht;split at ht
 ·rename_i hu;rw[hu]at h;obtain⟨vs,h1,h2⟩:=h;exact⟨d,vs,h1,h2⟩
 ·rename_i hu;rw[hu]at h;obtain⟨vs,h1,h2⟩:=h;exact⟨d,vs,h1,h2⟩
 ·cases ht
theorem WTV.one{P:Program}{t:TypeId}{v:V}(h:WTV P t v)(ht:lX P t=none):∃d,WT P d t [v]:=by
 obtain⟨d,h⟩:=h;unfold lX at ht;refine⟨d,?_⟩;split at ht
 ·cases ht
 ·cases ht
 ·rename_i h1 h2;split at h
  ·rename_i hu;exact absurd hu (h1 _)
  ·rename_i hu;exact absurd hu (h2 _ _)
  ·exact h
theorem WTV.i64{P:Program}{t:TypeId}{v:V}(h:WTV P t v)(h1:lX P t=none)(h2:ed8 P t=some .i64):∃n,v= .sc (.int .i64 n)/\inR n:=by
 obtain⟨d,g⟩:=h.one h1;obtain⟨n,e,r⟩:=g.i64 h2;exact⟨n,by simpa using e,r⟩
theorem WTV.int{P:Program}{t:TypeId}{v:V}{k:IntKind}(h:WTV P t v)(h1:lX P t=none)(h2:ed8 P t=some k):∃n,v= .sc (.int k n)/\(Lit.int k n).wf=true:=by
 obtain⟨d,g⟩:=h.one h1;obtain⟨n,e,r⟩:=g.int h2;exact⟨n,by simpa using e,r⟩
theorem WTV.str{P:Program}{t:TypeId}{v:V}(h:WTV P t v)(h1:lX P t=none)(h2:eV P t=true):∃s,v= .sc (.string s)/\s.size<=Go.maxLen:=by
 obtain⟨d,g⟩:=h.one h1;obtain⟨n,e,r⟩:=g.str h2;exact⟨n,by simpa using e,r⟩
theorem WTV.slice{P:Program}{t e:TypeId}{v:V}{c:Nat}(h:WTV P t v)(h1:lX P t=none)(ht:jG P t=some e)(hc:P.cellsOf e=c)(h0:0<c):∃n f,v= .ro c n f/\n<=Go.maxLen/\∃d',∀j,j<n->WT P d' e (f j):=by
 obtain⟨d,g⟩:=h.one h1;obtain⟨n,f,e,r⟩:=g.slice ht hc h0;exact⟨n,f,by simpa using e,r⟩
section
variable {H:Type}
def cz2(r:TypeId->DataW H->Option (List V)):List TypeId->List (DataW H)->Option (List V)
 | [],[]=>some []
 |t::ts,d::ds=>match r t d,cz2 r ts ds with|some a,some b=>some (a++b) |_,_=>none
 |_,_=>none
def gm6(r:DataW H->Option (List V)):List (DataW H)->Option (List (List V))
 | []=>some []
 |d::ds=>match r d,gm6 r ds with|some a,some b=>some (a::b) |_,_=>none
def dvD(P:Program):Nat->TypeId->DataW H->Option (List V)
 |0,_,_=>none
 |d+1,t,x=>match P.underlying t,x with
  |some .bool,.lit (.bool b)=>some [.sc (.bool b)]
  |some (.int _),.lit (.int k n)=>some [.sc (.int k n)]
  |some .string,.lit (.string l)=>some [.sc (.string ⟨l.toArray⟩)]
  |some (.slice e),.slice ds _=>if 0<P.cellsOf e then match gm6 (dvD P d e) ds with|some l=>some [.ro (P.cellsOf e) ds.length (λj=>l.getD j [])] |none=>none else none
  |some (.struct fs),.agg ds=>cz2 (dvD P d) (fs.toList.map (·.type)) ds
  |some (.array n e),.agg ds=>cz2 (dvD P d) (List.replicate n e) ds
  |_,_=>none
theorem dx3{r:DataW H->Option (List V)}:∀{ds:List (DataW H)} {l:List (List V)},gm6 r ds=some l->l.length=ds.length/\∀j d,ds[j]? =some d->r d=some (l.getD j [])
 | [],l,h=>by simp only[gm6,Option.some.injEq]at h;subst h;simp
 |d::ds,l,h=>by
  simp only[gm6]at h;split at h
  ·rename_i a b ha hb;simp only[Option.some.injEq]at h;subst h;obtain⟨h1,h2⟩:=dx3 hb;refine⟨by simp[h1],λj d' hj=>?_⟩;cases j with
   |zero=>simp only[List.getElem?_cons_zero,Option.some.injEq]at hj;subst hj;simpa using ha
   |succ j=>simpa using h2 j d' (by simpa using hj)
  ·cases h
theorem bz8 {enc : TypeId × Value -> H} {P : Program} {w : World} {sp : Nat -> Bool} {held : Bool} (hp : cm8 P = true) :
    ∀ (f d : Nat) (t : TypeId) (cs : List Value) (x : DataW H) (ps : List MemPlace) (vs : List V), t < P.types.size -> DataW.trod enc P w 0 sp held f t cs = some (x, ps) -> dvD P d t x = some vs -> Gd (· < w.heap.size) w vs cs := by
  intro f
  induction f with
  | zero => intro d t cs x ps vs _ h; simp [DataW.trod] at h
  | succ f ih =>
    intro d t cs x ps vs ht h hv;cases d with
    | zero => simp [dvD] at hv
    | succ d =>
    have fields : ∀ (fs : List Field) (o m : Nat) (cs : List Value) (ys : List (DataW H × List MemPlace)) (vs : List V), tH P fs o = some m -> cs.length = m ->
        ys.length = fs.length -> (∀ (i : Nat) (g : Field), fs[i]? = some g -> DataW.trod enc P w 0 sp held f g.type ((cs.drop g.offset).take (P.cellsOf g.type)) = ys[i]?) -> cz2 (dvD P d) (fs.map (·.type)) (ys.map (·.1)) = some vs ->
        Gd (· < w.heap.size) w vs (cs.drop o) := by
      intro fs
      induction fs with
      | nil =>
        intro o m cs ys vs hp hl hyl hm hc;have : ys = [] := List.length_eq_zero_iff.1 (by simpa using hyl);subst this;simp only [List.map_nil, cz2, Option.some.injEq] at hc;subst hc;simp only [tH, Option.some.injEq] at hp;subst hp;rw [List.drop_of_length_le (by omega)];exact Gd.nil
      | cons g fs ihf =>
        intro o m cs ys vs hp hl hyl hm hc;simp only [tH] at hp;split at hp
        · rename_i ho;obtain ⟨ho, hft⟩ := ho;cases ys with
          | nil => simp at hyl
          | cons y zs =>
            have hy := hm 0 g rfl;simp only [List.getElem?_cons_zero] at hy;simp only [List.map_cons, cz2] at hc;split at hc
            · rename_i a b ha hb;simp only [Option.some.injEq] at hc;subst hc;obtain ⟨y1, y2⟩ := y;have g1 := ih d _ _ y1 y2 a hft hy ha;have g2 := ihf _ _ _ _ _ hp hl (by simpa using hyl) (λi g hi => by simpa using hm (i + 1) g (by simpa using hi)) hb;rw [ho] at g1;have := g1.app g2
              rwa [<- List.drop_drop, List.take_append_drop] at this
            · cases hc
        · cases hp
    have items : ∀ (n : Nat) (e : TypeId) (cs : List Value) (ys : List (DataW H × List MemPlace)) (vs : List V), e < P.types.size -> cs.length = n * P.cellsOf e -> ys.length = n ->
        (∀ i y, ys[i]? = some y -> DataW.trod enc P w 0 sp held f e ((cs.drop (i * P.cellsOf e)).take (P.cellsOf e)) = some y) -> cz2 (dvD P d) (List.replicate n e) (ys.map (·.1)) = some vs ->
        Gd (· < w.heap.size) w vs cs := by
      intro n
      induction n with
      | zero =>
        intro e cs ys vs _ hl hy _ hc;have : cs = [] := List.length_eq_zero_iff.1 (by omega);subst this;have : ys = [] := List.length_eq_zero_iff.1 (by omega);subst this;simp only [List.replicate_zero, List.map_nil, cz2, Option.some.injEq] at hc;subst hc;exact Gd.nil
      | succ n ihn =>
        intro e cs ys vs het hl hyl hys hc;cases ys with
        | nil => simp at hyl
        | cons y ys =>
          simp only [List.replicate_succ, List.map_cons, cz2] at hc;split at hc
          · rename_i a b ha hb;simp only [Option.some.injEq] at hc;subst hc;have h0 := hys 0 y rfl;simp only [Nat.zero_mul, List.drop_zero] at h0;obtain ⟨y1, y2⟩ := y;have g1 := ih d _ _ y1 y2 a het h0 ha
            have g2 := ihn e (cs.drop (P.cellsOf e)) ys b het (by rw [List.length_drop, hl, Nat.add_mul]; omega) (by simpa using hyl) (λi y hi => by
              have := hys (i + 1) y (by simpa using hi);rw [List.drop_drop, show P.cellsOf e + i * P.cellsOf e = (i + 1) * P.cellsOf e by rw [Nat.add_mul]; omega]
              exact this) hb
            have := g1.app g2
            rwa [List.take_append_drop] at this
          · cases hc
    have hpk : ∀ x, P.underlying t = some x -> (match (some x : Option TypeDesc) with
        | some (.struct fs) => tH P fs.toList 0 == some (P.cellsOf t)
        | some (.array n e) => P.cellsOf t == n * P.cellsOf e && decide (e < P.types.size)
        | some (.slice e) => decide (e < P.types.size)
        | _ => true) = true := by
      intro x hx;have := List.all_eq_true.1 hp t (by simp only [List.mem_range]; exact ht)
      rwa [hx] at this
    unfold dvD at hv;split at hv
    · rename_i b hu;unfold DataW.trod at h;rw [hu] at h;split at h <;> simp_all
      · subst hv; obtain ⟨⟨rfl, rfl⟩, rfl⟩ := h; exact AC rfl
    · rename_i k0 k n hu;unfold DataW.trod at h;rw [hu] at h;simp only [Option.some.injEq] at hv;subst hv;split at h <;> first | (rename_i hq; cases hq; done) | skip
      all_goals first
        | (split at h
           · simp only [Option.some.injEq, Prod.mk.injEq, DataW.lit.injEq, Lit.int.injEq] at h;obtain ⟨⟨rfl, rfl⟩, rfl⟩ := h;rename_i hk; obtain ⟨rfl, _⟩ := hk;exact AC rfl
           · cases h)
        | (simp at h; done)
        | skip
    · rename_i l hu;unfold DataW.trod at h;rw [hu] at h;simp only [Option.some.injEq] at hv;subst hv;split at h <;> first | (rename_i hq; cases hq; done) | skip
      all_goals first
        | (split at h
           · simp only [Option.some.injEq, Prod.mk.injEq, DataW.lit.injEq, Lit.string.injEq] at h;obtain ⟨rfl, rfl⟩ := h;exact AC rfl
           · cases h)
        | (simp at h; done)
        | skip
    · rename_i e ds rest hu;split at hv
      · rename_i he;split at hv
        · rename_i l hl;simp only [Option.some.injEq] at hv;subst hv;rcases DataW.trod_slice hu h with ⟨_, hx⟩ | ⟨a, len, cap, elems, rest', n, q1, hcs, hx, q2, q3, q4, hlen, hel, q5⟩
          · simp at hx
          · simp only [Prod.mk.injEq, DataW.slice.injEq] at hx;obtain ⟨⟨rfl, rfl⟩, _⟩ := hx;obtain ⟨hl1, hl2⟩ := dx3 hl;have hlen' : (elems.map (·.1)).length = len := by simpa using hlen
            have key : ∀ j, j < len -> ∃ us : List Value, Gd (· < w.heap.size) w (l.getD j []) us /\ us.length = P.cellsOf e /\ a.block < w.heap.size /\ ∀ i x, us[i]? = some x -> w.cell? (a.add (j * P.cellsOf e + i)) = some x := by
              intro j hj;have hy := hel j hj;cases hcs' : w.cells? 0 (a.add (j * P.cellsOf e)) (P.cellsOf e) with
              | none =>
                rw [hcs'] at hy;simp only [Option.bind_none] at hy;have : j < elems.length := by omega
                rw [List.getElem?_eq_getElem this] at hy;cases hy
              | some us =>
                rw [hcs'] at hy;have hjl : j < elems.length := by omega
                rw [List.getElem?_eq_getElem hjl] at hy;simp only [Option.bind_some] at hy;have hd := hl2 j (elems[j].1) (by rw [List.getElem?_map, List.getElem?_eq_getElem hjl]; rfl)
                have g1 := ih d e us elems[j].1 elems[j].2 _ (by simpa using hpk _ hu) (by have : n = f := by omega
                                                                                           subst this; exact hy) hd
                obtain ⟨_, r1, r2⟩ := World.cells?_some hcs';have hb := World.cells?_block hcs' he;rw [fD] at hb;refine ⟨us, g1, r1, hb, λi x hx => ?_⟩
                have hi : i < P.cellsOf e := by
                  rcases Nat.lt_or_ge i us.length with g | g
                  · omega
                  · rw [List.getElem?_eq_none g] at hx; cases hx
                rw [<- ab8, r2 i hi, hx]
            let us : Nat -> List Value := λj => if hj : j < len then Classical.choose (key j hj) else []
            have hus : ∀ j, j < len -> Gd (· < w.heap.size) w (l.getD j []) (us j) /\ (us j).length = P.cellsOf e /\ a.block < w.heap.size /\ ∀ i x, (us j)[i]? = some x -> w.cell? (a.add (j * P.cellsOf e + i)) = some x := by
              intro j hj;have := Classical.choose_spec (key j hj);simp only [us, hj, dif_pos];exact this
            subst hcs;rw [hlen'];refine ⟨?_, rfl, rfl⟩;simp only [d9, Am.den];refine ⟨_, _, rfl, ⟨Nat.le_trans q3 q4, some a, cap, a, us, rfl, q3, λh0 => ⟨rfl, (hus 0 h0).2.2.1⟩, λj hj => ?_⟩, rfl⟩;obtain ⟨g1, g2, g3, g4⟩ := hus j hj;exact ⟨g1.den, g1.pure, g2, g1.one, g4⟩
        · cases hv
      · cases hv
    · rename_i fs ds hu;obtain ⟨xs, n, hn, hx, hcl, hxl, hall⟩ := DataW.trod_struct hu h;obtain rfl : n = f := by omega
      simp only [Prod.mk.injEq, DataW.agg.injEq] at hx;obtain ⟨rfl, _⟩ := hx;have hk := hpk _ hu;simp only [beq_iff_eq] at hk;have := fields fs.toList 0 _ cs xs vs hk hcl (by simpa using hxl) (λi g hi => hall i g (by simpa using hi)) hv;simpa using this
    · rename_i n e ds hu;obtain ⟨xs, m, hn, hx, hcl, hxl, hall⟩ := DataW.trod_array hu h;obtain rfl : m = f := by omega
      simp only [Prod.mk.injEq, DataW.agg.injEq] at hx;obtain ⟨rfl, _⟩ := hx;have hk := hpk _ hu;simp only [Bool.and_eq_true, beq_iff_eq, decide_eq_true_eq] at hk
      exact items n e cs xs vs hk.2 (by rw [hcl, hk.1]) hxl (λi y hi => by
        have hi' : i < n := by rw [<- hxl]; exact (List.getElem?_eq_some_iff.1 hi).1
        rw [hall i hi', hi]) hv
    · cases hv
end
theorem ar3{P:Program}{W:World}:∀{laid:List (String×DataW Unit)} {ps:List MemPlace},DataW.LaidVars P W laid ps->∀n D,(n,D)∈laid->
 ∃g t cs fuel p,P.globalNamed n=some g/\(P.globals[g]?).map (·.type)=some t/\W.var? P n=some cs/\DataW.trod (λ_=>()) P W 0 (λ_=>true) false fuel t cs.toList=some (D,p)
 | [],ps,h,n,D,hm=>by cases hm
 | (n',D')::r,ps,h,n,D,hm=>by
  obtain⟨g,t,cs,fuel,p,q,h1,h2,h3,h4,h5,_⟩:=h;rcases List.mem_cons.1 hm with e|e
  ·cases e;exact⟨g,t,cs,fuel,p,h1,h2,h3,h4⟩
  ·exact ar3 h5 n D e
theorem fw5{P:Program}{W:World}{n:String}{g:Nat}{cs:Array Value}(hg:P.globalNamed n=some g)(h:W.var? P n=some cs)(h0:0<cs.size):g<W.heap.size:=by
 have h1:=World.var?_cell hg h 0;rw[Array.getElem?_eq_getElem h0]at h1;rcases Nat.lt_or_ge g W.heap.size with k|k
 ·exact k
 ·simp[World.cell?,Array.getElem?_eq_none k]at h1
structure W0(P:Program)(laid:List (String×DataW Unit))(g:Nat)(cs:List V):Prop where
 ex:∃n D t d,(n,D)∈laid/\P.globalNamed n=some g/\(P.globals[g]?).map (·.type)=some t/\t<P.types.size/\dvD P d t D=some cs/\cs≠[]
theorem gu7{P:Program}(hp:cm8 P=true){laid:List (String×DataW Unit)}{W:World}(h:laidMet P laid W){g:Nat}{cs:List V}(hg:W0 P laid g cs):
 den (λ_=>none) (· <W.heap.size) W (λ_=>False) (.rp cs) (.pointer (some ⟨g,0,none⟩)):=by
 obtain⟨n,D,t,d,hm,h1,h2,h3,h4,h5⟩:=hg.ex;obtain⟨ps,hl,_⟩:=h;obtain⟨g',t',us,fuel,p,k1,k2,k3,k4⟩:=ar3 hl n D hm;obtain rfl:=Option.some.inj (h1.symm.trans k1);obtain rfl:=Option.some.inj (h2.symm.trans k2);have gd:=bz8 hp fuel d t us.toList D p cs h3 k4 h4
 have hlen:0<us.size:=by
  have:=gd.den;rcases Nat.eq_zero_or_pos us.size with e|e
  ·exfalso;have:us.toList=[]:=by simpa using e
   rw[this]at gd;cases cs with
   |nil=>exact h5 rfl
   |cons c cs=>
    have:=gd.den;simp[d9]at this
  ·exact e
 simp only[Am.den];refine⟨_,us.toList,rfl,fw5 h1 k3 hlen,gd.den,gd.pure,gd.one,λi x hx=>?_⟩;rw[eU,Nat.zero_add,World.var?_cell h1 k3 i];simpa using hx
theorem Y2.of_laid{E:Env}{laid:List (String×DataW Unit)}{W:World}(hp:cm8 E.P=true)(h:laidMet E.P laid W)
 (hg:∀g cs,E.glob g=some cs->W0 E.P laid g cs) (hi:∀p∈E.inv,p.1<W.heap.size/\∃x,W.heap[p.1]? =some x/\p.2 x):Y2 E (· <W.heap.size) W:=
 ⟨λg cs hc=>gu7 hp h (hg g cs hc),hi⟩
theorem hc9{W:World}{g:Nat}{x:Value}(h:W.cell? ⟨g,0,none⟩=some x):g<W.heap.size:=by
 rcases Nat.lt_or_ge g W.heap.size with k|k
 ·exact k
 ·simp[World.cell?,Array.getElem?_eq_none k]at h
def at4(k:IntKind):Obj->Prop:=λo=>∃c t fr m,o= .cells c t fr/\c[0]? =some (.int k m)
theorem es0{W:World}{g:Nat}{k:IntKind}(h:∃m,W.cell? ⟨g,0,none⟩=some (.int k m)):g<W.heap.size/\∃x,W.heap[g]? =some x/\at4 k x:=by
 obtain⟨m,h⟩:=h;refine⟨hc9 h,?_⟩;unfold World.cell? at h;split at h
 ·rename_i c t fr hh;simp only[Option.isSome_none,Bool.false_eq_true,if_false]at h;exact⟨_,hh,c,t,fr,m,rfl,h⟩
 ·cases h
theorem cr5{W:World}{g:Nat}{k:IntKind}{x:Obj}(h:W.heap[g]? =some x)(hi:at4 k x):∃m,W.cell? ⟨g,0,none⟩=some (.int k m):=by
 obtain⟨c,t,fr,m,rfl,hc⟩:=hi;exact⟨m,by simp only[World.cell?,h];simpa using hc⟩
theorem SC.ext{E:Env}(hX:Z6 E){f:FuncId}{args:List V}{v:V}(h:E.ext f args=some v):SC E f args [] (.ret v []):=by
 obtain⟨h1,h2,h3⟩:=hX f args v h;refine⟨h1,λβ S w us hd hm hG=>(h3 β S _ w us hd hG hm.st).mono ?_⟩;rintro e w' ⟨u,S',rfl,hb,hv,hs1,hs2⟩;have hβ:∀i,β i=none:=λi=>hm.dead i (by simp[hp]);refine⟨u,β,S',rfl,?_,?_,?_,λ_ _ _ h=>h⟩
 ·refine(hm.below hb).wider' hs1 (λb hs=>?_) (λi b m hi=>by rw[hβ i]at hi;cases hi);rcases hs2 b hs with h| ⟨_,h⟩
  ·exact Nat.lt_of_lt_of_le (hm.st b h) hb.size
  ·exact h
 ·exact y6 (λ_ h=>h) (λ_ _=>rfl) _ _ h2 hv
 ·refine⟨hb.os,hb.tape,hb.output,hb.size,λb h _=>hb.block b h,hs1,λb hs=>?_,λi b m h h0=>.inr ⟨i,m,h0,h⟩⟩;rcases hs2 b hs with h| ⟨h,_⟩
  ·exact .inl h
  ·exact .inr (.inl h)
end
section
open Go
inductive FT where
 |e
 |nd (l:FT) (v:V) (r:FT)
noncomputable def FT.get(T:FT):Nat->V:=
 FT.rec (motive:=λ_=>Nat->V) (λ_=>.junk)
  (λ_ v _ gl gr t=>Nat.rec (motive:=λ_=>V) v (λt _=>Bool.rec (motive:=λ_=>V) (gr (Nat.div t 2)) (gl (Nat.div t 2)) (Nat.beq (Nat.mod t 2) 0)) t) T
noncomputable def FT.has(T:FT):Nat->Bool:=
 FT.rec (motive:=λ_=>Nat->Bool) (λ_=>false)
  (λ_ v _ gl gr t=>Nat.rec (motive:=λ_=>Bool) true (λt _=>Bool.rec (motive:=λ_=>Bool) (gr (Nat.div t 2)) (gl (Nat.div t 2)) (Nat.beq (Nat.mod t 2) 0)) t) T
noncomputable def FT.set(T:FT):Nat->V->FT:=
 FT.rec (motive:=λ_=>Nat->V->FT) (λ_ _=>.e)
  (λl a r sl sr t v=>Nat.rec (motive:=λ_=>FT) (.nd l v r) (λt _=>Bool.rec (motive:=λ_=>FT) (.nd l a (sr (Nat.div t 2) v)) (.nd (sl (Nat.div t 2) v) a r) (Nat.beq (Nat.mod t 2) 0)) t) T
noncomputable def FT.setK(T:FT):Nat->V->(FT->Option Ans)->Option Ans:=
 FT.rec (motive:=λ_=>Nat->V->(FT->Option Ans)->Option Ans) (λ_ _ k=>k .e)
  (λl a r sl sr t v k=>Nat.rec (motive:=λ_=>Option Ans) (k (.nd l v r)) (λt _=>Bool.rec (motive:=λ_=>Option Ans) (sr (Nat.div t 2) v λr=>k (.nd l a r)) (sl (Nat.div t 2) v λl=>k (.nd l a r)) (Nat.beq (Nat.mod t 2) 0)) t) T
noncomputable def FT.add(T:FT):Nat->V->FT:=
 FT.rec (motive:=λ_=>Nat->V->FT) (λ_ v=>.nd .e v .e)
  (λl a r sl sr t v=>Nat.rec (motive:=λ_=>FT) (.nd l v r) (λt _=>Bool.rec (motive:=λ_=>FT) (.nd l a (sr (Nat.div t 2) v)) (.nd (sl (Nat.div t 2) v) a r) (Nat.beq (Nat.mod t 2) 0)) t) T
theorem FT.set_l(l:FT)(a:V)(r:FT)(t:Nat)(v:V):(FT.nd l a r).set (2*t+1) v= .nd (l.set t v) a r:=by
 show(Bool.rec (motive:=λ_=>FT) _ _ (Nat.beq (2*t%2) 0):FT)=_;have h1:2*t%2=0:=by omega
 have h2:Nat.div (2*t) 2=t:=by show 2*t/2=t;omega
 rw[h1,h2];rfl
theorem FT.set_r(l:FT)(a:V)(r:FT)(t:Nat)(v:V):(FT.nd l a r).set (2*t+2) v= .nd l a (r.set t v):=by
 show(Bool.rec (motive:=λ_=>FT) _ _ (Nat.beq ((2*t+1)%2) 0):FT)=_;have h1:(2*t+1)%2=1:=by omega
 have h2:Nat.div (2*t+1) 2=t:=by show(2*t+1)/2=t;omega
 rw[h1,h2];rfl
theorem en3(t:Nat):t=0\/(∃s,t=2*s+1)\/∃s,t=2*s+2:=by
 by_cases h:t=0
 ·exact .inl h
 ·by_cases h2:t%2=1
  ·exact .inr (.inl ⟨t/2,by omega⟩)
  ·exact .inr (.inr ⟨t/2-1,by omega⟩)
theorem FT.setK_eq:∀(T:FT) (t:Nat) (v:V) (k:FT->Option Ans),T.setK t v k=k (T.set t v)
 | .e,_,_,_=>rfl
 | .nd l a r,t,v,k=>by
  rcases en3 t with rfl| ⟨s,rfl⟩ | ⟨s,rfl⟩
  ·rfl
  ·rw[FT.set_l,<-FT.setK_eq l s v λl=>k (.nd l a r)];show(Bool.rec (motive:=λ_=>Option Ans) _ _ (Nat.beq (2*s%2) 0):Option Ans)=_;have h1:2*s%2=0:=by omega
   have h2:Nat.div (2*s) 2=s:=by show 2*s/2=s;omega
   rw[h1,h2];rfl
  ·rw[FT.set_r,<-FT.setK_eq r s v λr=>k (.nd l a r)];show(Bool.rec (motive:=λ_=>Option Ans) _ _ (Nat.beq ((2*s+1)%2) 0):Option Ans)=_;have h1:(2*s+1)%2=1:=by omega
   have h2:Nat.div (2*s+1) 2=s:=by show(2*s+1)/2=s;omega
   rw[h1,h2];rfl
end
section
open Go Go.RowKit
noncomputable def cl(p:Prop)(x y:Option Ans):Option Ans:=@ite _ p (Classical.propDecidable p) x y
theorem ga7{p:Prop}{x y:Option Ans}(h:p):cl p x y=x:=by unfold cl;exact if_pos h
theorem fe8{p:Prop}{x y:Option Ans}{r:Ans}(h:cl p x y=some r):(p/\x=some r)\/(¬p/\y=some r):=by
 unfold cl at h;split at h
 ·exact .inl ⟨by assumption,h⟩
 ·exact .inr ⟨by assumption,h⟩
theorem Le.junk(v:V):Le v .junk:=λ_ _ _ _ _ _=>by simp[den]
theorem LeL.nil:LeL [] []:=λ_ _ _ _ _ h=>h
def AF:=@LeL.nil
theorem Le.trans{a b c:V}(h:Le a b)(g:Le b c):Le a c:=λβ S w D u hd=>g β S w D u (h β S w D u hd)
theorem LeL.trans{a b c:List V}(h:LeL a b)(g:LeL b c):LeL a c:=λβ S w D u hd=>g β S w D u (h β S w D u hd)
theorem Le.tup{a b:List V}(h:LeL a b):Le (.tup a) (.tup b):=by
 intro β S w D u hd;simp only[Am.den]at hd⊢;obtain⟨us,h1,h2⟩:=hd;exact⟨us,h1,h _ _ _ _ _ h2⟩
theorem Le.of_eq{a b:V}(h:a=b):Le a b:=h▸AD _
def X9(c c':Z1):Prop:=∀β S w D b m,d7 β S w D b m c->d7 β S w D b m c'
theorem X9.refl(c:Z1):X9 c c:=λ_ _ _ _ _ _ h=>h
theorem X9.blk{a b:List V}(h:LeL a b):X9 (.blk a) (.blk b):=by
 intro β S w D bb m hd;simp only[d7]at hd⊢;obtain⟨h0,us,T,h1,h2,h3⟩:=hd;exact⟨h0,us,T,h1,h _ _ _ _ _ h2,h3⟩
theorem X9.row{e k n:Nat}{f g:Nat->List V}(h:∀j,j<n->f j=g j):X9 (.row e k n f) (.row e k n g):=by
 intro β S w D b m hd;simp only[d7]at hd⊢;obtain⟨h1,h2,h3,hc⟩:=hd;refine⟨h1,h2,h3,λh0=>?_⟩;obtain⟨cur,h4,h5,h6⟩:=hc h0;exact⟨cur,h4,h5,λj hj=>by rw[<-h j hj];exact h6 j hj⟩
def W1:Option Z1->Option Z1->Prop
 |none,none=>True
 |some c,some c'=>X9 c c'
 |_,_=>False
structure W4(s s':St):Prop where
 fr:LeL s.fr s'.fr
 H:∀i,W1 (s.H i) (s'.H i)
 nx:s.nx=s'.nx
 rt:s.rt=s'.rt
 me:s.me=s'.me
theorem W1.refl(c:Option Z1):W1 c c:=by cases c with|none=>exact trivial|some c=>exact X9.refl c
theorem W4.refl(s:St):W4 s s:=⟨LeL.refl _,λ_=>W1.refl _,rfl,rfl,rfl⟩
def hs8:List (Option Z1)->List (Option Z1)->Prop
 | [],[]=>True
 |a::l,b::m=>W1 a b/\hs8 l m
 |_,_=>False
theorem hf8:∀{l m:List (Option Z1)},hs8 l m->∀i,W1 (hp l i) (hp m i)
 | [],[],_,i=>by simp[hp,W1]
 |a::l,b::m,h,i=>by
  cases i with
  |zero=>simpa[hp]using h.1
  |succ i=>simpa[hp]using hf8 h.2 i
 | [],b::m,h,_=>h.elim
 |a::l,[],h,_=>h.elim
theorem Mem.le{β:Bt}{S D:Pr}{H H':Hp}{w:World}(h:Mem β S D H w)(hl:∀i,W1 (H i) (H' i)):Mem β S D H' w:=by
 refine⟨λi c hc=>?_,λi hi=>?_,h.dom,h.own,h.inj,h.st⟩
 ·have:=hl i;rw[hc]at this;cases hH:H i with
  |none=>rw[hH]at this;exact this.elim
  |some c0=>
   rw[hH]at this;obtain⟨b,m,h1,h2⟩:=h.live i c0 hH;exact⟨b,m,h1,this _ _ _ _ _ _ h2⟩
 ·have:=hl i;rw[hi]at this;cases hH:H i with
  |none=>exact h.dead i hH
  |some c0=>rw[hH]at this;exact this.elim
theorem Rel.le{E:Env}{β:Bt}{S D:Pr}{s s':St}{a:Act}{w:World}(h:Rel E β S D s a w)(hl:W4 s s'):Rel E β S D s' a w:=
 ⟨hl.fr _ _ _ _ _ h.fr,h.mem.le hl.H,(by rw[<-hl.me];exact h.df),by rw[<-hl.nx];exact h.lt,h.gl,by rw[<-hl.rt];exact h.rtD⟩
theorem SL.le{E:Env}{c:Z5}{s s' t:St}{e:Ex}(h:SL E c s' e t)(hl:W4 s s'):SL E c s e t:=by
 intro β S D a w hR b k cs;obtain⟨e',a',w',hP,hA⟩:=h β S D a w (hR.le hl) b k cs;refine⟨e',a',w',?_,hA⟩;obtain⟨β',S',D',h1,h2,h3,h4,h5,h6⟩:=hP.ex;exact⟨β',S',D',h1,h2,h3,by rw[hl.rt];exact h4,by rw[hl.rt];exact h5,by rw[hl.me];exact h6⟩
theorem W5.le{E:Env}{e:Ex}{β:Bt}{S D:Pr}{s s':St}{a:Act}{w:World}(h:W5 E e β S D s a w)(hl:W4 s s'):W5 E e β S D s' a w:=by
 exact Rel.le h hl
theorem SL.post{E:Env}{c:Z5}{s t t':St}{e:Ex}(h:SL E c s e t)(hl:W4 t t'):SL E c s e t':=by
 intro β S D a w hR b k cs;obtain⟨e',a',w',hP,hA⟩:=h β S D a w hR b k cs;refine⟨e',a',w',?_,hA⟩;obtain⟨β',S',D',h1,h2,h3,h4,h5,h6⟩:=hP.ex;exact⟨β',S',D',h1,h2.le hl,h3,h4,by rw[<-hl.rt];exact h5,by rw[<-hl.me];exact h6⟩
theorem SC.le{E:Env}{f:FuncId}{args:List V}{L:List (Option Z1)}{v v':V}{L':List (Option Z1)}(h:SC E f args L (.ret v L'))(hl:Le v v'):SC E f args L (.ret v' L'):=by
 refine⟨h.1,λβ S w us h1 h2 h3=>(h.2 β S w us h1 h2 h3).mono ?_⟩;rintro e w' ⟨u,β',S',g1,g2,g3,g4,g5⟩;exact⟨u,β',S',g1,g2,hl _ _ _ _ _ g3,g4,g5⟩
def AG:=@SC.le
theorem SC.give{E:Env}{f:FuncId}{args:List V}{L0:List (Option Z1)}{v:V}{L:List (Option Z1)}(h:SC E f args L0 (.ret v L))(hp':(v.bw (hp L)).pure=true):SC E f args L0 (.ret (v.bw (hp L)) []):=by
 refine⟨h.1,λβ S w us h1 h2 h3=>(h.2 β S w us h1 h2 h3).mono ?_⟩;rintro e w' ⟨u,β',S',rfl,g1,g2,g3,g4⟩;refine⟨u,λ_=>none,λb=>S' b\/∃j m',0<m'/\β' j=some (b,m'),rfl,⟨λi c hc=>(by simp[hp]at hc),λ_ _=>rfl,λi b m h=>(by cases h),λi b m h=>(by cases h),λi j b m m' h=>(by cases h),?_⟩,?_,⟨g3.os,g3.tape,g3.output,g3.size,g3.keep,λb h=>.inl (g3.sub b h),?_,λi b m h=>(by cases h)⟩,λi bm _ h=>(by cases h)⟩
 ·rintro b (hs| ⟨j,m',h0,hj⟩)
  ·exact g1.st b hs
  ·exact(g1.own j b m' hj h0).1
 ·have:=bp6 (S':=λb=>S' b\/∃j m',0<m'/\β' j=some (b,m')) (β':=λ_=>none) g1 (λ_ _=>.inr rfl) (λ_ h=>.inl h) (λi b m hb h0=>.inr ⟨i,m,h0,hb⟩) g2;exact y6 (λ_ h=>h) (λ_ _=>rfl) _ _ hp' this
 ·rintro b (hs| ⟨j,m',h0,hj⟩)
  ·exact g3.newS b hs
  ·rcases g3.newO j b m' hj h0 with h| ⟨j',m'',h0',h⟩
   ·exact .inr (.inl h)
   ·exact .inr (.inr ⟨j',m'',h0',h⟩)
theorem Le.nil_ro{k:Nat}{f:Nat->List V}:Le (.sc (.slice none 0 0)) (.ro k 0 f):=by
 intro β S w D u hd;simp only[Am.den]at hd⊢;subst hd;exact⟨Nat.zero_le _,none,0,⟨0,0,none⟩,λ_=>[],rfl,Nat.le_refl _,λh=>absurd h (Nat.lt_irrefl _),λj hj=>absurd hj (Nat.not_lt_zero _)⟩
def AH:=@Le.nil_ro
theorem SC.arg{E:Env}{f:FuncId}{args args':List V}{cr:Z3}(h:SC E f args' [] cr)(hl:LeL args args')(hi:iC args=[])(hi':iC args'=[]):SC E f args [] cr:=by
 refine⟨h.1,λβ S w us h1 h2 h3=>?_⟩;have:=h.2 β S w us (hl _ _ _ _ _ h1) h2 h3
 have e:∀l:List V,iC l=[]->cR E.allR (hp []) l=[]:=λl hl=>by
  unfold cR;rw[hl];cases E.allR<;>rfl
 rw[e _ hi']at this;rw[e _ hi];exact this
theorem SL.canon{E:Env}{c:Z5}{s t:St}{e:Ex}(h:SL E c s e t)(live:Nat):SL E c s e (az9 live t):=by
 intro β S D a w hR b k cs;obtain⟨e',a',w',hP,hA⟩:=h β S D a w hR b k cs;refine⟨e',a',w',?_,hA⟩;obtain⟨β',S',D',h1,h2,h3,h4,h5,h6⟩:=hP.ex;obtain⟨β2,D2,g1,g2,g3⟩:=ag9 h2 live;exact⟨β2,S',D2,h1,g1,h3.trans g2,λi bm hi hb=>h4 i bm hi (g3 i bm (by rw[h5];exact hi) hb),h5,h6⟩
def KC(live:Nat):Ex->St->Option Ans:=λe s=>am4 live s λs=>some (.l e s)
theorem SL.by{E:Env}{ca:u9}{lo:aE}(hC:aF E ca)(hX:Z6 E)(hL:bQ E lo){id live m:Nat}{c:Z5}{s t:St}{e:Ex}(h:nG E ca lo id live c s (KC m)=some (.l e t)):SL E c s e t:=by
 obtain⟨e1,s1,h1,h2⟩:=iY hC hX hL h;simp only[KC,tN,Option.some.injEq,Ans.l.injEq]at h1;obtain⟨rfl,rfl⟩:=h1;exact h2.canon _
theorem SL.next{E:Env}{ca:u9}(hC:aF E ca)(hX:Z6 E){id live:Nat}{c:Z5}{s s' t:St}{e:Ex}(h:∀(lo:aE) (k:Ex->St->Option Ans),nG E ca lo id live c s k=lo id live c s' k)(hn:SL E c s' e t):SL E c s e t:=by
 let lo:aE:=λid live c1 s1 k=>cl (c1=c/\s1=s') (k e t) none
 have hlo:bQ E lo:=by
  intro id live c1 s1 k r hr;rcases fe8 hr with⟨⟨rfl,rfl⟩,h1⟩ | ⟨_,h1⟩
  ·exact⟨_,_,h1,hn⟩
  ·cases h1
 have h1:nG E ca lo id live c s (λe s=>some (.l e s))=some (.l e t):=(h lo _).trans (ga7 ⟨rfl,rfl⟩);obtain⟨e1,s1,h2,h3⟩:=iY hC hX hlo h1;simp only[Option.some.injEq,Ans.l.injEq]at h2;obtain⟨rfl,rfl⟩:=h2;exact h3
def mW(id:Nat):Z5->Option Z5
 | .seq a b=>match mW id a with|some c=>some c|none=>mW id b
 | .cond _ a b=>match mW id a with|some c=>some c|none=>mW id b
 | .block _ c=>mW id c
 | .scope c=>mW id c
 | .loop j _ c=>if j=id then some c else mW id c
 |_=>none
def iW(E:Env)(f:FuncId)(id:Nat):Z5:=((E.code f).bind (mW id)).getD .skip
open Classical in
noncomputable def hi7{α τ:Type}(A:α->τ)(t:τ):Option α:=if h:∃x,A x=t then some (Classical.choose h)else none
noncomputable def bh9{α γ τ:Type}(A:α->τ)(p:α->Option γ)(t:τ):Option γ:=(hi7 A t).bind p
theorem ci9{α γ τ:Type}{A:α->τ}{p:α->Option γ}{t:τ}{z:γ}(h:bh9 A p t=some z):∃x,A x=t/\p x=some z:=by
 unfold bh9 hi7 at h;split at h
 ·rename_i hx;exact⟨_,Classical.choose_spec hx,h⟩
 ·cases h
theorem gf0{α γ τ:Type}{A:α->τ}(hi:∀x y,A x=A y->x=y)(p:α->Option γ):(λx=>bh9 A p (A x))=p:=by
 funext x;unfold bh9 hi7;have hx:∃y,A y=A x:=⟨x,rfl⟩;rw[dif_pos hx];show p (Classical.choose hx)=p x;rw[hi _ _ (Classical.choose_spec hx)]
noncomputable def gb0{α γ:Type}(g:FuncId)(gd:List V->List (Option Z1)->Bool)(A:α->List V×List (Option Z1))(ex:γ->(Z3->Option Ans)->Option Ans)(p:α->Option γ)(ca:u9):u9:=λf args L k=>
 if(f==g&&gd args L) then(bh9 A p (args,L)).bind λz=>ex z k else ca f args L k
theorem ax7{E:Env}{α γ:Type}{g:FuncId}{gd:List V->List (Option Z1)->Bool}{A:α->List V×List (Option Z1)}{ex:γ->(Z3->Option Ans)->Option Ans}{p:α->Option γ}{ca:u9}{R:γ->Z3}
 (h:∀x z,p x=some z->SC E g (A x).1 (A x).2 (R z)) (hex:∀z k,ex z k=k (R z)) (hl:aF E ca):aF E (gb0 g gd A ex p ca):=by
 intro f args L k r hr;simp only[gb0]at hr;split at hr
 ·rename_i e;simp only[Bool.and_eq_true,beq_iff_eq]at e;obtain⟨rfl,_⟩:=e;cases hv:bh9 A p (args,L)with
  |none=>rw[hv]at hr;cases hr
  |some z=>
   rw[hv]at hr;obtain⟨x,hx,hp⟩:=ci9 hv;have:=h x z hp;rw[hx]at this;exact⟨_,(hex z k)▸hr,this⟩
 ·exact hl _ _ _ _ _ hr
noncomputable def ez9{α γ:Type}(id:Nat)(gd:St->Bool)(body:Z5)(S:α->St)(ex:γ->KX->Option Ans)(p:α->Option γ)(lo:aE):aE:=λid' live c s k=>
 if(id'==id&&gd s) then(bh9 (λx=>(body,S x)) p (c,s)).bind λz=>ex z k else lo id' live c s k
theorem bq8{E:Env}{α γ:Type}{id:Nat}{gd:St->Bool}{body:Z5}{S:α->St}{ex:γ->KX->Option Ans}{p:α->Option γ}{lo:aE}{T:γ->Ex×St}
 (h:∀x z,p x=some z->SL E body (S x) (T z).1 (T z).2) (hex:∀z k,ex z k=k (T z).1 (T z).2) (hl:bQ E lo):bQ E (ez9 id gd body S ex p lo):=by
 intro id' live c s k r hr;simp only[ez9]at hr;split at hr
 ·cases hv:bh9 (λx=>(body,S x)) p (c,s)with
  |none=>rw[hv]at hr;cases hr
  |some z=>
   rw[hv]at hr;obtain⟨x,hx,hp⟩:=ci9 hv;simp only[Prod.mk.injEq]at hx;obtain⟨rfl,rfl⟩:=hx;exact⟨_,_,(hex z k)▸hr,h x z hp⟩
 ·exact hl _ _ _ _ _ _ hr
theorem gm1{α:Type}{S:α->St}(body:Z5)(hi:∀x y,S x=S y->x=y):∀x y,(body,S x)=(body,S y)->x=y:=λx y h=>hi x y (Prod.mk.inj h).2
def lo0:aE:=λ_ _ _ _ _=>none
theorem jN{E:Env}:bQ E lo0:=λid live c s k r h=>by cases h
def ca0:u9:=λ_ _ _ _=>none
theorem lJ{E:Env}:aF E ca0:=λf args L k r h=>by cases h
def KCM(ms:List (Nat×Nat))(r:Nat):Ex->St->Option Ans:=λe s=>
 am4 (match e with| .ret=>r| .exit j=>hl8 ms j| .normal=>0| .panic _=>hl8 ms 1000) s λs=>some (.l e s)
theorem SL.byM{E:Env}{ca:u9}{lo:aE}(hC:aF E ca)(hX:Z6 E)(hL:bQ E lo){id live:Nat}{ms:List (Nat×Nat)}{r:Nat}{c:Z5}{s t:St}{e:Ex}(h:nG E ca lo id live c s (KCM ms r)=some (.l e t)):SL E c s e t:=by
 obtain⟨e1,s1,h1,h2⟩:=iY hC hX hL h;simp only[KCM,tN,Option.some.injEq,Ans.l.injEq]at h1;obtain⟨rfl,rfl⟩:=h1;exact h2.canon _
def loU(E:Env)(ca:u9)(ids:List Nat)(lo:aE):Nat->aE
 |0=>lo
 |n+1=>λid live c s k=>if ids.contains id then nG E ca (loU E ca ids lo n) id live c s k else lo id live c s k
theorem ck9{E:Env}{ca:u9}(hC:aF E ca)(hX:Z6 E){ids:List Nat}{lo:aE}(hL:bQ E lo):∀n,bQ E (loU E ca ids lo n)
 |0=>hL
 |n+1=>λid live c s k r h=>by
  simp only[loU]at h;split at h
  ·exact iY hC hX (ck9 hC hX hL n) h
  ·exact hL _ _ _ _ _ _ h
def lpG{α γ:Type}(st:α->Option (α⊕γ)):Nat->α->Option γ
 |0,_=>none
 |n+1,x=>(st x).bind λr=>Sum.elim (lpG st n) some r
theorem SL.lp{E:Env}{ca:u9}{LT:aE->aE}(hC:aF E ca)(hX:Z6 E)(hL:∀lo,bQ E lo->bQ E (LT lo)){α γ:Type}{S:α->St}{T:γ->Ex×St}{st:α->Option (α⊕γ)}{id live:Nat}{ms:List (Nat×Nat)}{r:Nat}{c:Z5}
 (tr:∀lo x,nG E ca (LT lo) id live c (S x) (KCM ms r)=(st x).bind λr'=>Sum.elim (λy=>lo id live c (S y) (KCM ms r)) (λz=>some (.l (T z).1 (T z).2)) r')
 (kT:∀z,KCM ms r (T z).1 (T z).2=some (.l (T z).1 (T z).2)):∀n x z,lpG st n x=some z->SL E c (S x) (T z).1 (T z).2:=by
 intro n
 induction n with
 |zero=>intro x z h;cases h
 |succ n ih=>
  intro x z h;rw[lpG]at h;cases hs:st x with
  |none=>rw[hs]at h;cases h
  |some q=>
   rw[hs]at h;cases q with
   |inr z'=>
    simp only[Option.bind_some,Sum.elim_inr,Option.some.injEq]at h;subst h;exact SL.byM hC hX (hL _ jN) ((tr lo0 x).trans (by rw[hs];rfl))
   |inl y=>
    simp only[Option.bind_some,Sum.elim_inl]at h;have hy:=ih y z h
    let lo:aE:=λ_ _ c1 s1 k=>cl (c1=c/\s1=S y) (k (T z).1 (T z).2) none
    have hlo:bQ E lo:=by
     intro id live c1 s1 k r hr;rcases fe8 hr with⟨⟨rfl,rfl⟩,h1⟩ | ⟨_,h1⟩
     ·exact⟨_,_,h1,hy⟩
     ·cases h1
    refine SL.byM hC hX (hL _ hlo) ((tr lo x).trans ?_);rw[hs];exact(ga7 ⟨rfl,rfl⟩).trans (kT z)
theorem bo3{α γ:Type}{st:α->Option (α⊕γ)}{n:Nat}{x:α}:lpG st (n+1) x=(st x).bind λr=>Sum.elim (lpG st n) some r:=rfl
def iA:V->Bool| .sc (.slice none 0 0)=>true|_=>false
def vI:V->Int| .sc (.int _ n)=>n|_=>0
def vB:V->Bool| .sc (.bool b)=>b|_=>false
def vS:V->ByteArray| .sc (.string s)=>s|_=>ByteArray.empty
def vAg:V->List V| .agg l=>l|_=>[]
def r7:V->Nat| .ro _ n _=>n|_=>0
def aW:V->Nat->List V| .ro _ _ f=>f|_=>λ_=>[]
def aV:V->Nat| .sl _ _ _ n=>n|_=>0
def chB:Option Z1->List V|some (.blk l)=>l|_=>[]
def chF:Option Z1->Nat->List V|some (.row _ _ _ f)=>f|_=>λ_=>[]
def chP:Option Z1->Nat|some (.iter _ p)=>p|_=>0
def smN:Option Z1->Nat|some (.smap n _ _)=>n|_=>0
def smH:Option Z1->ByteArray->Bool|some (.smap _ g _)=>g|_=>λ_=>false
def smF:Option Z1->ByteArray->V|some (.smap _ _ f)=>f|_=>λ_=>.junk
theorem pK{α β γ:Type}{o:Option α}{f:α->Option β}{g:α->Option γ}{k:γ->Option β}(h:∀z,f z=(g z).bind k):o.bind f=(o.bind g).bind k:=by
 cases o with
 |none=>rfl
 |some z=>exact h z
theorem uM{c:Prop}[Decidable c]{β γ:Type}{a b:Option β}{a' b':Option γ}{k:γ->Option β}(h1:a=a'.bind k)(h2:b=b'.bind k):ite c a b=(ite c a' b').bind k:=by
 split
 ·exact h1
 ·exact h2
theorem uO{α1 α2 β γ:Type}{f1:α1->Option β}{f2:α2->Option β}{g1:α1->Option γ}{g2:α2->Option γ}{k:γ->Option β}{z:α1⊕α2}(h1:∀z,f1 z=(g1 z).bind k)(h2:∀z,f2 z=(g2 z).bind k):Sum.elim f1 f2 z=(Sum.elim g1 g2 z).bind k:=by
 cases z with
 |inl z=>exact h1 z
 |inr z=>exact h2 z
theorem pS{β γ:Type}{k:γ->Option β}:(none:Option β)=(none:Option γ).bind k:=rfl
theorem gy9(L:List (Option Z1))(c:Z1):hp (L++[some c])=upd (hp L) L.length (some c):=by
 funext i;unfold hp upd;by_cases h:i=L.length
 ·subst h;simp
 ·rw[if_neg (by simpa using h)];simp only[List.getD_eq_getElem?_getD];rw[List.getElem?_append];split
  ·rfl
  ·rename_i h2;rw[List.getElem?_eq_none (by simp;omega),List.getElem?_eq_none (by omega)]
theorem bc3{β:Bt}{S D:Pr}{w:World}{n k b:Nat}{u:Value}(hD:D n)(hb:β n=some (b,0))(h:den β S w D (.sc (.slice none 0 0)) u):den β S w D (.sl n k 0 0) u:=by
 simp only[den]at h⊢;subst h;refine⟨⟨hD,rfl⟩,λb' m h=>?_⟩;rw[hb]at h;cases h;exact⟨Nat.le_refl _,none,rfl,λh=>absurd h (Nat.lt_irrefl _)⟩
theorem hk9(L:List (Option Z1))(j:Nat)(c:Option Z1)(hj:j<L.length):hp (L.set j c)=upd (hp L) j c:=by
 funext i;unfold hp upd;by_cases h:i=j
 ·subst h;simp[List.getD_eq_getElem?_getD,hj]
 ·rw[if_neg h];simp only[List.getD_eq_getElem?_getD];rw[List.getElem?_set_ne (λe=>h e.symm)]
theorem gl1{β:Bt}{S:Pr}{w:World}{L:List (Option Z1)}{e k:Nat}{g:Nat->List V}(hk:0<k)(hM:Mem β S (· <L.length) (hp L) w):
 Mem (upd β L.length (some (w.heap.size,0))) S (· <L.length+1) (hp (L++[some (.row e k 0 g)])) w/\Evo β S w (upd β L.length (some (w.heap.size,0))) S w/\Hb β (upd β L.length (some (w.heap.size,0))) (· <L.length):=by
 rw[gy9]
 exact hM.new (m:=0) (c:=.row e k 0 g) (b:=w.heap.size) (Nat.lt_irrefl _) (λi hi=>Nat.lt_succ_of_lt hi) (Nat.lt_succ_self _) (Below.refl _ _) (Nat.le_refl _) (λh=>absurd h (Nat.lt_irrefl _)) (by
  simp only[d7]
  exact⟨Nat.le_refl _,Nat.zero_le _,hk,λh=>absurd h (Nat.lt_irrefl _)⟩)
theorem SC.virtB{E:Env}{f:FuncId}{args:List V}{L:List (Option Z1)}{cr:Z3}{cs:List V}(j:Nat)(cs2:List V)(e k:Nat)(g:Nat->List V)(hk:0<k)
 (h:SC E f args (L.set j (some (.blk cs2))++[some (.row e k 0 g)]) cr) (hj:L[j]? =some (some (.blk cs)))
 (hcs:∀(β:Bt) (S:Pr) (w:World) (us:List Value) (b:Nat),β L.length=some (b,0)->d9 β S w (· <L.length+1) cs us->d9 β S w (· <L.length+1) cs2 us)
 (hr:(cR E.allR (hp L) args).length<=L.length) (hr2:(cR E.allR (hp L) args).length<=(cR E.allR (hp (L.set j (some (.blk cs2))++[some (.row e k 0 g)])) args).length):SC E f args L cr:=by
 refine⟨h.1,λβ S w us hd hM hG=>?_⟩;obtain⟨q1,q2,q3⟩:=gl1 (e:=e) (k:=k) (g:=g) hk hM;have hjl:j<L.length:=(List.getElem?_eq_some_iff.1 hj).1
 have hM2:Mem (upd β L.length (some (w.heap.size,0))) S (· <L.length+1) (hp (L.set j (some (.blk cs2))++[some (.row e k 0 g)])) w:=by
  have e1:hp (L.set j (some (.blk cs2))++[some (.row e k 0 g)])=upd (hp (L++[some (.row e k 0 g)])) j (some (.blk cs2)):=by
   rw[<-hk9 _ _ _ (by simp;omega),List.set_append_left _ _ hjl]
  rw[e1];refine⟨λi c hc=>?_,λi hi=>?_,q1.dom,q1.own,q1.inj,q1.st⟩
  ·by_cases hij:i=j
   ·subst hij;rw[j6]at hc;cases hc
    obtain⟨b,m,h1,h2⟩:=q1.live i (.blk cs) (by
     unfold hp;rw[List.getD_eq_getElem?_getD,List.getElem?_append_left hjl,hj]
     rfl)
    refine⟨b,m,h1,?_⟩;simp only[d7]at h2⊢;obtain⟨h0,us',T,k1,k2,k3⟩:=h2;exact⟨h0,us',T,k1,hcs _ _ _ _ _ (j6 _ _ _) k2,k3⟩
   ·rw[aY _ _ hij]at hc;exact q1.live i c hc
  ·by_cases hij:i=j
   ·subst hij;rw[j6]at hi;cases hi
   ·rw[aY _ _ hij]at hi;exact q1.dead i hi
 have hl:(L.set j (some (Z1.blk cs2))++[some (Z1.row e k 0 g)]).length=L.length+1:=by simp
 refine(h.2 _ S w us (by rw[hl];exact m4 q3 (λ_ h=>h) (λi hi=>Nat.lt_succ_of_lt hi) (λ_ _=>rfl) _ _ hd) (by rw[hl];exact hM2) hG).mono ?_;intro en w' hp';cases cr with
 |ret v L'=>
  obtain⟨u,β',S',g0,g1,g2,g3,g4⟩:=hp';refine⟨u,β',S',g0,g1,g2,q2.trans g3,λi bm hi hbm=>?_⟩;have:=g4 i bm (Nat.lt_of_lt_of_le hi hr2) hbm
  rwa [aY _ _ (by omega)]at this
 |pan v=>
  obtain⟨u,β',S',g0,g1,g2,g3,g4⟩:=hp';exact⟨u,β',S',g0,g1,g2,q2.trans g3,g4⟩
end
section
def Rs{α:Type}(o:Option α)(P:α->Prop):Prop:=∃z,o=some z/\P z
theorem Rs.bind{α β:Type}{o:Option α}{f:α->Option β}{P:α->Prop}{Q:β->Prop}(h:Rs o P)(g:∀z,P z->Rs (f z) Q):Rs (o.bind f) Q:=by
 obtain⟨z,rfl,hz⟩:=h;exact g z hz
def AI:=@Rs.bind
theorem Rs.some{α:Type}{z:α}{P:α->Prop}(h:P z):Rs (some z) P:=⟨z,rfl,h⟩
def AJ:=@Rs.some
theorem Rs.mono{α:Type}{o:Option α}{P Q:α->Prop}(h:Rs o P)(g:∀z,P z->Q z):Rs o Q:=by
 obtain⟨z,h1,h2⟩:=h;exact⟨z,h1,g z h2⟩
theorem Rs.map{α β:Type}{o:Option α}{f:α->β}{P:α->Prop}{Q:β->Prop}(h:Rs o P)(g:∀z,P z->Q (f z)):Rs (o.map f) Q:=by
 obtain⟨z,rfl,hz⟩:=h;exact⟨_,rfl,g z hz⟩
def AK:=@Rs.map
theorem Rs.pos{α:Type}{c:Prop}{i:Decidable c}{a b:Option α}{P:α->Prop}(hc:c)(h:Rs a P):Rs (@ite _ c i a b) P:=by rw[_root_.if_pos hc];exact h
def AL:=@Rs.pos
theorem Rs.neg{α:Type}{c:Prop}{i:Decidable c}{a b:Option α}{P:α->Prop}(hc:¬c)(h:Rs b P):Rs (@ite _ c i a b) P:=by rw[_root_.if_neg hc];exact h
def AM:=@Rs.neg
theorem Rs.ite{α:Type}{c:Prop}{i:Decidable c}{a b:Option α}{P:α->Prop}(h1:c->Rs a P)(h2:¬c->Rs b P):Rs (@_root_.ite _ c i a b) P:=by
 by_cases h:c
 ·exact AL h (h1 h)
 ·exact AM h (h2 h)
theorem Rs.eq{α:Type}{o:Option α}{v:α}(h:Rs o (λz=>z=v)):o=Option.some v:=by obtain⟨z,h1,rfl⟩:=h;exact h1
theorem Rs.of{α:Type}{o:Option α}{v:α}(h:o=Option.some v):Rs o (λz=>z=v):=⟨v,h,rfl⟩
def AN:=@Rs.of
theorem Rs.step{α γ:Type}{st:α->Option (α⊕γ)}{q:Nat}{y:α}{P:γ->Prop}(h:Rs (st y) (λr=>Sum.elim (λy'=>Rs (lpG st q y') P) P r)):Rs (lpG st (q+1) y) P:=by
 obtain⟨r,h1,h2⟩:=h;rw[bo3,h1];cases r with
 |inl y'=>exact h2
 |inr z=>exact⟨z,rfl,h2⟩
theorem Rs.step3{α γ:Type}{st:α->Option (α⊕γ)}{q:Nat}{y:α}{P:γ->Prop}(h:∀Q:α->Prop,(∀y',Rs (lpG st q y') P->Q y')->Rs (st y) (Sum.elim Q P)):Rs (lpG st (q+1) y) P:=by
 refine Rs.step ((h (λy'=>Rs (lpG st q y') P) λ_ g=>g).mono λz hz=>?_);cases z<;>exact hz
def AO:=@Rs.step3
end
section
open Go Go.RowKit
section
variable {T0 T1 T2 T3 T4 T5 T6 T7 T8 T9 T10 T11 T12 T13 T14 T15 T16 T17 T18 T19 T20 T21 T22 T23 T24 T25 T26 T27 T28 T29 T30 T31 T32 T33:Type}
abbrev _root_.Prod.q3(x:T0×T1×T2×T3):T3:=x.2.2.2
abbrev _root_.Prod.p3(x:T0×T1×T2×T3×T4):T3:=x.q3.1
abbrev _root_.Prod.q4(x:T0×T1×T2×T3×T4):T4:=x.2.q3
abbrev _root_.Prod.p4(x:T0×T1×T2×T3×T4×T5):T4:=x.q4.1
abbrev _root_.Prod.q5(x:T0×T1×T2×T3×T4×T5):T5:=x.2.q4
abbrev _root_.Prod.p5(x:T0×T1×T2×T3×T4×T5×T6):T5:=x.q5.1
abbrev _root_.Prod.q6(x:T0×T1×T2×T3×T4×T5×T6):T6:=x.2.q5
abbrev _root_.Prod.p6(x:T0×T1×T2×T3×T4×T5×T6×T7):T6:=x.q6.1
abbrev _root_.Prod.q7(x:T0×T1×T2×T3×T4×T5×T6×T7):T7:=x.2.q6
abbrev _root_.Prod.p7(x:T0×T1×T2×T3×T4×T5×T6×T7×T8):T7:=x.q7.1
abbrev _root_.Prod.q8(x:T0×T1×T2×T3×T4×T5×T6×T7×T8):T8:=x.2.q7
abbrev _root_.Prod.p8(x:T0×T1×T2×T3×T4×T5×T6×T7×T8×T9):T8:=x.q8.1
abbrev _root_.Prod.q9(x:T0×T1×T2×T3×T4×T5×T6×T7×T8×T9):T9:=x.2.q8
abbrev _root_.Prod.p9(x:T0×T1×T2×T3×T4×T5×T6×T7×T8×T9×T10):T9:=x.q9.1
abbrev _root_.Prod.q10(x:T0×T1×T2×T3×T4×T5×T6×T7×T8×T9×T10):T10:=x.2.q9
abbrev _root_.Prod.p10(x:T0×T1×T2×T3×T4×T5×T6×T7×T8×T9×T10×T11):T10:=x.q10.1
abbrev _root_.Prod.q11(x:T0×T1×T2×T3×T4×T5×T6×T7×T8×T9×T10×T11):T11:=x.2.q10
abbrev _root_.Prod.p11(x:T0×T1×T2×T3×T4×T5×T6×T7×T8×T9×T10×T11×T12):T11:=x.q11.1
abbrev _root_.Prod.q12(x:T0×T1×T2×T3×T4×T5×T6×T7×T8×T9×T10×T11×T12):T12:=x.2.q11
abbrev _root_.Prod.p12(x:T0×T1×T2×T3×T4×T5×T6×T7×T8×T9×T10×T11×T12×T13):T12:=x.q12.1
abbrev _root_.Prod.q13(x:T0×T1×T2×T3×T4×T5×T6×T7×T8×T9×T10×T11×T12×T13):T13:=x.2.q12
abbrev _root_.Prod.p13(x:T0×T1×T2×T3×T4×T5×T6×T7×T8×T9×T10×T11×T12×T13×T14):T13:=x.q13.1
abbrev _root_.Prod.q14(x:T0×T1×T2×T3×T4×T5×T6×T7×T8×T9×T10×T11×T12×T13×T14):T14:=x.2.q13
abbrev _root_.Prod.p14(x:T0×T1×T2×T3×T4×T5×T6×T7×T8×T9×T10×T11×T12×T13×T14×T15):T14:=x.q14.1
abbrev _root_.Prod.q15(x:T0×T1×T2×T3×T4×T5×T6×T7×T8×T9×T10×T11×T12×T13×T14×T15):T15:=x.2.q14
abbrev _root_.Prod.p15(x:T0×T1×T2×T3×T4×T5×T6×T7×T8×T9×T10×T11×T12×T13×T14×T15×T16):T15:=x.q15.1
abbrev _root_.Prod.q16(x:T0×T1×T2×T3×T4×T5×T6×T7×T8×T9×T10×T11×T12×T13×T14×T15×T16):T16:=x.2.q15
abbrev _root_.Prod.p16(x:T0×T1×T2×T3×T4×T5×T6×T7×T8×T9×T10×T11×T12×T13×T14×T15×T16×T17):T16:=x.q16.1
abbrev _root_.Prod.q17(x:T0×T1×T2×T3×T4×T5×T6×T7×T8×T9×T10×T11×T12×T13×T14×T15×T16×T17):T17:=x.2.q16
abbrev _root_.Prod.p17(x:T0×T1×T2×T3×T4×T5×T6×T7×T8×T9×T10×T11×T12×T13×T14×T15×T16×T17×T18):T17:=x.q17.1
abbrev _root_.Prod.q18(x:T0×T1×T2×T3×T4×T5×T6×T7×T8×T9×T10×T11×T12×T13×T14×T15×T16×T17×T18):T18:=x.2.q17
abbrev _root_.Prod.p18(x:T0×T1×T2×T3×T4×T5×T6×T7×T8×T9×T10×T11×T12×T13×T14×T15×T16×T17×T18×T19):T18:=x.q18.1
abbrev _root_.Prod.q19(x:T0×T1×T2×T3×T4×T5×T6×T7×T8×T9×T10×T11×T12×T13×T14×T15×T16×T17×T18×T19):T19:=x.2.q18
abbrev _root_.Prod.p19(x:T0×T1×T2×T3×T4×T5×T6×T7×T8×T9×T10×T11×T12×T13×T14×T15×T16×T17×T18×T19×T20):T19:=x.q19.1
abbrev _root_.Prod.q20(x:T0×T1×T2×T3×T4×T5×T6×T7×T8×T9×T10×T11×T12×T13×T14×T15×T16×T17×T18×T19×T20):T20:=x.2.q19
abbrev _root_.Prod.p20(x:T0×T1×T2×T3×T4×T5×T6×T7×T8×T9×T10×T11×T12×T13×T14×T15×T16×T17×T18×T19×T20×T21):T20:=x.q20.1
abbrev _root_.Prod.q21(x:T0×T1×T2×T3×T4×T5×T6×T7×T8×T9×T10×T11×T12×T13×T14×T15×T16×T17×T18×T19×T20×T21):T21:=x.2.q20
abbrev _root_.Prod.p21(x:T0×T1×T2×T3×T4×T5×T6×T7×T8×T9×T10×T11×T12×T13×T14×T15×T16×T17×T18×T19×T20×T21×T22):T21:=x.q21.1
abbrev _root_.Prod.q22(x:T0×T1×T2×T3×T4×T5×T6×T7×T8×T9×T10×T11×T12×T13×T14×T15×T16×T17×T18×T19×T20×T21×T22):T22:=x.2.q21
abbrev _root_.Prod.p22(x:T0×T1×T2×T3×T4×T5×T6×T7×T8×T9×T10×T11×T12×T13×T14×T15×T16×T17×T18×T19×T20×T21×T22×T23):T22:=x.q22.1
abbrev _root_.Prod.q23(x:T0×T1×T2×T3×T4×T5×T6×T7×T8×T9×T10×T11×T12×T13×T14×T15×T16×T17×T18×T19×T20×T21×T22×T23):T23:=x.2.q22
end
abbrev AR(α:Type):Type:=α->List V×List (Option Z1)
abbrev TT:Type:=List V×List (Option Z1)
abbrev Lw(E:Env)(f:FuncId){α γ:Type}(A:AR α)(R:γ->Z3)(c:α->Option γ):Prop:=∀x z,c x=some z->SC E f (A x).1 (A x).2 (R z)
abbrev Ll(E:Env)(b:Z5){α γ:Type}(S:α->St)(T:γ->Ex×St)(p:α->Option γ):Prop:=∀y z,p y=some z->SL E b (S y) (T z).1 (T z).2
class Sh (γ:Type) where
 ex:{τ:Type}->(γ->τ)->γ->(τ->Option Ans)->Option Ans
 eq:∀{τ:Type} (R:γ->τ) z k,ex R z k=k (R z)
instance (priority:=10) shOne {γ:Type}:Sh γ:=⟨λR z k=>k (R z),λ_ _ _=>rfl⟩
instance shSum {α β:Type} [Sh β]:Sh (α⊕β):=⟨λR z k=>Sum.elim (λa=>k (R (.inl a))) (λb=>Sh.ex (λb=>R (.inr b)) b k) z,λR z k=>by
 rcases z with z|z
 ·rfl
 ·exact Sh.eq (λb=>R (.inr b)) z k⟩
theorem as0{α β:Type}{P:α⊕β->Prop}(h1:∀a,P (.inl a))(h2:∀b,P (.inr b)):∀z,P z
 | .inl a=>h1 a
 | .inr b=>h2 b
noncomputable def vf{α γ:Type}(A:AR α)(c:α->Option γ):α->Option γ:=λx=>bh9 A c (A x)
abbrev VI{α:Type}(A:AR α):Prop:=∀{γ:Type} (c:α->Option γ),vf A c=c
theorem vd{α:Type}{A:AR α}(d:TT->α)(h:∀x,d (A x)=x:=by exact λ_=>rfl):VI A:=λc=>gf0 (λx y e=>by rw[<-h x,<-h y,e]) c
noncomputable def lf{α γ:Type}(b:Z5)(S:α->St)(p:α->Option γ):α->Option γ:=λy=>bh9 (λy=>(b,S y)) p (b,S y)
abbrev VL{α:Type}(S:α->St):Prop:=∀{γ:Type} (b:Z5) (p:α->Option γ),lf b S p=p
theorem vl{α:Type}{S:α->St}(d:St->α)(h:∀x,d (S x)=x:=by repeat' first|refine as0 ?_ ?_|exact λ_=>rfl):VL S:=λb p=>gf0 (gm1 b λx y e=>by rw[<-h x,<-h y,e]) p
noncomputable def fT{α γ:Type}[Sh γ](gd:List V->List (Option Z1)->Bool)(f:FuncId)(A:AR α)(R:γ->Z3)(c:α->Option γ)(ca:u9):u9:=gb0 f gd A (Sh.ex R) c ca
noncomputable def lT{α γ:Type}[Sh γ](gs:St->Bool)(id:Nat)(b:Z5)(S:α->St)(T:γ->Ex×St)(p:α->Option γ)(lo:aE):aE:=ez9 id gs b S (λz k=>Sh.ex T z λr=>k r.1 r.2) p lo
structure Kt(E:Env){C:Type}(tab:C->u9)(via:C->C)(c:C):Prop where
 s:aF E (tab c)
 v:via c=c
structure Kl(E:Env){C:Type}(tab:C->aE->aE)(via:C->C)(c:C):Prop where
 s:∀lo,bQ E lo->bQ E (tab c lo)
 v:via c=c
section
variable {E:Env} {α γ C L σ τ:Type} {f:FuncId} {A:AR α} {R:γ->Z3} {tab:C->u9} {via:C->C} {cs:C} {lt:L->aE->aE} {lv:L->L} {ls:L}
theorem kb{ca:u9}(h:aF E ca):Kt E (λ_:Unit=>ca) (λc=>c) ():=⟨h,rfl⟩
theorem kn:Kt E (λ_:Unit=>ca0) (λc=>c) ():=kb lJ
theorem kg[Sh γ]{c:α->Option γ}(gd:List V->List (Option Z1)->Bool)(v:VI A)(h:Lw E f A R c)(t:Kt E tab via cs):Kt E (λc:(α->Option γ)×C=>fT gd f A R c.1 (tab c.2)) (λc=>(vf A c.1,via c.2)) (c,cs):=
 ⟨ax7 h (Sh.eq R) t.s,Prod.ext (v c) t.v⟩
theorem kc[Sh γ]{c:α->Option γ}(v:VI A)(h:Lw E f A R c)(t:Kt E tab via cs):Kt E (λc:(α->Option γ)×C=>fT (λ_ _=>true) f A R c.1 (tab c.2)) (λc=>(vf A c.1,via c.2)) (c,cs):=kg _ v h t
theorem ln:Kl E (λ(_:Unit) lo=>lo) (λc=>c) ():=⟨λ_ h=>h,rfl⟩
theorem lu(ids:List Nat)(hX:Z6 E)(K:Kt E tab via cs)(t:Kl E lt lv ls):Kl E (λl lo=>loU E (tab cs) ids (lt l lo) 20) lv ls:=⟨λlo h=>ck9 K.s hX (t.s lo h) 20,t.v⟩
theorem lg[Sh τ]{b:Z5}{S:σ->St}{T:τ->Ex×St}{p:σ->Option τ}(gs:St->Bool)(id:Nat)(u:VL S)(h:Ll E b S T p)(t:Kl E lt lv ls):Kl E (λ(l:(σ->Option τ)×L) lo=>lT gs id b S T l.1 (lt l.2 lo)) (λl=>(lf b S l.1,lv l.2)) (p,ls):=
 ⟨λlo hl=>bq8 h (λz k=>Sh.eq T z _) (t.s lo hl),Prod.ext (u b p) t.v⟩
theorem lc[Sh τ]{b:Z5}{S:σ->St}{T:τ->Ex×St}{p:σ->Option τ}(id:Nat)(u:VL S)(h:Ll E b S T p)(t:Kl E lt lv ls):Kl E (λ(l:(σ->Option τ)×L) lo=>lT (λ_=>true) id b S T l.1 (lt l.2 lo)) (λl=>(lf b S l.1,lv l.2)) (p,ls):=lg _ id u h t
theorem so(hW:WF E)(hX:Z6 E)(K:Kt E tab via cs)(t:C->(β:Type)->α->(γ->Option β)->Option β)
 (r:∀x,bq0 E (tab cs) lo0 f (A x).1 (A x).2 (λr=>some (.c r))=t (via cs) Ans x (λz=>some (.c (R z))):=by intro x;kernel_rfl)
 (n:∀c β x dn,t c β x dn=(t c γ x some).bind dn:=by intros;repeat' first|exact pS|refine pK λ_=>?_|refine uM ?_ ?_|refine uO (λ_=>?_) λ_=>?_|rfl):Lw E f A R (λx=>t cs γ x some):=λx z hz=>
 SC.of hW hX K.s jN ((r x).trans (by have hz:t cs γ x some=some z:=hz;rw[K.v,n,hz];rfl))
theorem sl(hW:WF E)(hX:Z6 E)(K:Kt E tab via cs){lt:α->L->aE->aE}{lv:α->L->L}{ls:α->L}(H:∀x,Kl E (lt x) (lv x) (ls x))(t:C->L->(β:Type)->α->(γ->Option β)->Option β)
 (r:∀x,bq0 E (tab cs) (lt x (ls x) lo0) f (A x).1 (A x).2 (λr=>some (.c r))=t (via cs) (lv x (ls x)) Ans x (λz=>some (.c (R z))):=by intro x;kernel_rfl)
 (n:∀c l β x dn,t c l β x dn=(t c l γ x some).bind dn:=by intros;repeat' first|exact pS|refine pK λ_=>?_|refine uM ?_ ?_|refine uO (λ_=>?_) λ_=>?_|rfl):Lw E f A R (λx=>t cs (ls x) γ x some):=λx z hz=>
 SC.of hW hX K.s ((H x).s lo0 jN) ((r x).trans (by have hz:t cs (ls x) γ x some=some z:=hz;rw[K.v,(H x).v,n,hz];rfl))
theorem lp(hX:Z6 E){S:σ->St}(T:τ->Ex×St)(f:FuncId)(id live:Nat)(ms:List (Nat×Nat))(m:Nat)(K:Kt E tab via cs)(H:Kl E lt lv ls)(q:Nat)(t:C->L->(β:Type)->σ->(σ->Option β)->(τ->Option β)->Option β)
 (r:∀y lo,nG E (tab cs) (lt ls lo) id live (iW E f id) (S y) (KCM ms m)=t (via cs) (lv ls) Ans y (λy=>lo id live (iW E f id) (S y) (KCM ms m)) (λz=>some (.l (T z).1 (T z).2)):=by repeat' first|refine as0 ?_ ?_| (intro y lo;kernel_rfl))
 (n:∀c l β y nx dn,t c l β y nx dn=(t c l (σ⊕τ) y (λy=>some (.inl y)) (λz=>some (.inr z))).bind λr=>Sum.elim nx dn r:=by intros;repeat' first|exact pS|refine pK λ_=>?_|refine uM ?_ ?_|refine uO (λ_=>?_) λ_=>?_|rfl)
 (k:∀z,KCM ms m (T z).1 (T z).2=some (.l (T z).1 (T z).2):=by repeat' first|refine as0 ?_ ?_| (intro z;kernel_rfl)):Ll E (iW E f id) S T (lpG (λy=>t cs ls (σ⊕τ) y (λy=>some (.inl y)) (λz=>some (.inr z))) q):=
 SL.lp (LT:=λlo=>lt ls lo) K.s hX H.s (λlo y=>(r y lo).trans (by rw[K.v,H.v];exact n _ _ _ _ _ _)) k q
theorem lp2(hX:Z6 E){σ':Type}{S:σ⊕σ'->St}(T:τ->Ex×St)(f:FuncId)(id live:Nat)(ms:List (Nat×Nat))(m:Nat)(K:Kt E tab via cs)(H:Kl E lt lv ls)(q:Nat)(t:C->L->(β:Type)->σ->(σ⊕σ'->Option β)->(τ->Option β)->Option β)(t':C->L->(β:Type)->σ'->(σ⊕σ'->Option β)->(τ->Option β)->Option β)
 (r:∀y lo,nG E (tab cs) (lt ls lo) id live (iW E f id) (S (.inl y)) (KCM ms m)=t (via cs) (lv ls) Ans y (λy=>lo id live (iW E f id) (S y) (KCM ms m)) (λz=>some (.l (T z).1 (T z).2)):=by intro y lo;kernel_rfl)
 (r':∀y lo,nG E (tab cs) (lt ls lo) id live (iW E f id) (S (.inr y)) (KCM ms m)=t' (via cs) (lv ls) Ans y (λy=>lo id live (iW E f id) (S y) (KCM ms m)) (λz=>some (.l (T z).1 (T z).2)):=by intro y lo;kernel_rfl)
 (n:∀c l β y nx dn,t c l β y nx dn=(t c l ((σ⊕σ')⊕τ) y (λy=>some (.inl y)) (λz=>some (.inr z))).bind λr=>Sum.elim nx dn r:=by intros;repeat' first|exact pS|refine pK λ_=>?_|refine uM ?_ ?_|refine uO (λ_=>?_) λ_=>?_|rfl)
 (n':∀c l β y nx dn,t' c l β y nx dn=(t' c l ((σ⊕σ')⊕τ) y (λy=>some (.inl y)) (λz=>some (.inr z))).bind λr=>Sum.elim nx dn r:=by intros;repeat' first|exact pS|refine pK λ_=>?_|refine uM ?_ ?_|refine uO (λ_=>?_) λ_=>?_|rfl)
 (k:∀z,KCM ms m (T z).1 (T z).2=some (.l (T z).1 (T z).2):=by repeat' first|refine as0 ?_ ?_| (intro z;kernel_rfl)):Ll E (iW E f id) S T (lpG (Sum.elim (λy=>t cs ls ((σ⊕σ')⊕τ) y (λy=>some (.inl y)) (λz=>some (.inr z))) (λy=>t' cs ls ((σ⊕σ')⊕τ) y (λy=>some (.inl y)) (λz=>some (.inr z)))) q):=
 lp hX T f id live ms m K H q (λc l β y nx dn=>Sum.elim (λy=>t c l β y nx dn) (λy=>t' c l β y nx dn) y) (as0 r r') (λc l β y nx dn=>by rcases y with y|y;exact n c l β y nx dn;exact n' c l β y nx dn) k
end
theorem SC.giveM{E:Env}{f:FuncId}{args:List V}{L0:List (Option Z1)}{v:V}{L L2:List (Option Z1)}(n:Nat)(h:SC E f args L0 (.ret v L))
 (hk:keep (aG (hp L) (yJ v)) (List.range n)=L2) (hp':(v.bw (hp L)).pure=true):SC E f args L0 (.ret (v.bw (hp L)) L2):=by
 refine⟨h.1,λβ S w us h1 h2 h3=>(h.2 β S w us h1 h2 h3).mono ?_⟩;rintro e w' ⟨u,β',S',rfl,q1,q2,q3,q4⟩;obtain⟨g1,g2,g3⟩:=q1.drop (yJ v) bu4;have hd:=fg0 (S':=bf8 β' S' ((yJ v).map (·.1))) q1 g3 (λ_ h=>.inl h) (λi hi b m hb h0=>.inr ⟨i,m,List.mem_map.2 ⟨_,hi,rfl⟩,hb,h0⟩) q2;have g4:=g1.renum (order:=List.range n) List.nodup_range;rw[hk]at g4;have hl:(List.range n).length=L2.length:=by rw[<-hk];simp[keep]
 rw[hl]at g4
 have hget:∀j bm,ofOrder (fN β' ((yJ v).map (·.1))) (List.range n) j=some bm->β' j=some bm:=by
  intro j bm hb;unfold ofOrder at hb;by_cases hj:j<n
  ·rw[List.getElem?_range hj]at hb;simp only[Option.bind_some]at hb;unfold fN at hb;split at hb
   ·cases hb
   ·exact hb
  ·rw[List.getElem?_eq_none (by simpa using Nat.le_of_not_lt hj)]at hb;cases hb
 refine⟨u,_,_,rfl,g4,y6 (λ_ h=>h) (λ_ _=>rfl) _ _ hp' hd,(q3.trans g2).trans ⟨rfl,rfl,rfl,Nat.le_refl _,λ_ _ _=>rfl,λ_ h=>h,λ_ h=>.inl h,λi b m hb h0=>?_⟩,λi bm hi hb=>q4 i bm hi (hget i bm hb)⟩;obtain⟨j,_,hj⟩:=v7 hb;exact .inr ⟨j,m,h0,hj⟩
def fixV:V->V
 | .sc (.slice none 0 0)=>.ro 4 0 (λ_=>[])
 |v=>v
def fixC:List V->List V
 | [a,b,c,d]=>[a,b,c,fixV d]
 |l=>l
theorem Le.fixV(v:V):Le v (fixV v):=by
 unfold Am.fixV;split
 ·exact AH
 ·exact AD _
theorem LeL.fixC(l:List V):LeL l (fixC l):=by
 unfold Am.fixC;split
 ·exact AE (AD _) (AE (AD _) (AE (AD _) (AE (Le.fixV _) AF)))
 ·exact LeL.refl _
theorem fr8(v:V):(fixV v).pure=v.pure:=by
 unfold fixV;split<;>simp[V.pure]
theorem et9(l:List V):n4 (fixC l)=n4 l:=by
 unfold fixC;split
 ·simp[n4,fr8]
 ·rfl
theorem Le.ro_fix{k n:Nat}{f:Nat->List V}:Le (.ro k n f) (.ro k n (λj=>Am.fixC (f j))):=by
 intro β S w D u hd;simp only[Am.den]at hd⊢;obtain⟨h0,A,m,a,us,h1,h2,h3,h4⟩:=hd;refine⟨h0,A,m,a,us,h1,h2,h3,λj hj=>?_⟩;obtain⟨g1,g2,g3,g4,g5⟩:=h4 j hj;exact⟨LeL.fixC _ _ _ _ _ _ g1,by rw[et9];exact g2,g3,g4,g5⟩
def cu9:Nat->Z5->Z5
 |0,c=>c
 |n+1,.seq _ b=>cu9 n b
 |_,c=>c
def fn6(n:Nat)(c:Z5):Z5:=match cu9 n c with| .seq a _=>a|c=>c
def endP(k:Z3->Option Ans):KX:=λe s=>match e with
 | .panic v=>match s.fr with
  |_::_:: .ptr 0 0:: .ptr 1 0:: .ptr 2 0::_=>match s.H 0,s.H 1,s.H 2 with|some (.blk [_]),some (.blk [_]),some (.blk [_])=>k (.pan v) |_,_,_=>none
  |_=>none
 |_=>none
def gr4(n rt:Nat)(E:Env)(ca:u9)(lo:aE)(f:FuncId)(args:List V)(L:List (Option Z1))(k:Z3->Option Ans):Option Ans:=
 match E.code f with
 |some c=>fS E ca lo (cu9 n c) {fr:=args,H:=hp L,nx:=L.length,rt:=rt,me:=f} (endP k)
 |none=>none
def RC(n rt:Nat)(E:Env)(f:FuncId)(fr:List V)(L:List (Option Z1))(cr:Z3):Prop:=
 ∀c,E.code f=some c->∃v s',cr= .pan v/\Ends E (cu9 n c) {fr:=fr,H:=hp L,nx:=L.length,rt:=rt,me:=f} (.panic v) s'/\
  ∃x0 x1 x2 y0 y1 l,s'.fr=y0::y1:: .ptr 0 0:: .ptr 1 0:: .ptr 2 0::l/\s'.H 0=some (.blk [x0])/\s'.H 1=some (.blk [x1])/\s'.H 2=some (.blk [x2])
theorem RC.of{n rt:Nat}{E:Env}{ca:u9}{lo:aE}(hX:Z6 E)(hC:aF E ca)(hL:bQ E lo){f:FuncId}{args:List V}{L:List (Option Z1)}{cr:Z3}
 (h:gr4 n rt E ca lo f args L (λr=>some (.c r))=some (.c cr)):RC n rt E f args L cr:=by
 intro c hc;unfold gr4 at h;rw[hc]at h;obtain⟨e,s',h1,h2⟩:=cG hC hX hL _ _ _ _ h;unfold endP at h1;split at h1
 ·rename_i v;split at h1
  ·rename_i y0 y1 l ef;split at h1
   ·rename_i x0 x1 x2 e0 e1 e2;simp only[Option.some.injEq,Ans.c.injEq]at h1;exact⟨v,s',h1.symm,h2,x0,x1,x2,y0,y1,l,ef,e0,e1,e2⟩
   ·cases h1
  ·cases h1
 ·cases h1
def KN(m:Nat):KX:=λe s=>am4 m s λs=>some (.l e s)
theorem Ends.of{E:Env}{ca:u9}{lo:aE}(hX:Z6 E)(hC:aF E ca)(hL:bQ E lo){c:Z5}{s t:St}{e:Ex}{m:Nat}(h:fS E ca lo c s (KN m)=some (.l e t)):Ends E c s e t:=by
 obtain⟨e1,s1,h1,h2⟩:=cG hC hX hL _ _ _ _ h;simp only[KN,tN,Option.some.injEq,Ans.l.injEq]at h1;obtain⟨rfl,rfl⟩:=h1;intro β S D a w hR;refine wp_mono (h2 β S D a w hR) λe' a' w' hp=>?_;obtain⟨β1,S1,D1,q1,q2,q3,q4,q5,q6⟩:=hp.ex;obtain⟨β2,D2,g1,g2,g3⟩:=ag9 q2 m;exact⟨β2,S1,D2,q1,g1,q3.trans g2,λi bm hi hb=>q4 i bm hi (g3 i bm (by rw[q5];exact hi) hb),q5,q6⟩
end
end Go.Am
