/- Texts joined. -/
import Derived.Scope
import Derived.Test.YtjfkkokeegpeiaaDoorQB
import Derived.Recover
import Derived.DataReads
import Derived.ChangeOld
import Derived.FnData
import Derived.MakeChecks
import Derived.OpenShut
import Derived.Shelf.Vars
/- Regions in their text's order, code, functions. -/
set_option linter.unusedSimpArgs false
set_option linter.unusedVariables false
namespace Go.Am
open Go Go.RowKit
theorem nX{P:Program}{ops:Array Oper}{Q Q':Exit->Act->World->Prop}(hq:∀e a w,Q e a w->Q' e a w):∀(l:List Oper) (a:Act) (w:World),wpList P ops Q l a w->wpList P ops Q' l a w
 | [],a,w,h=>hq _ _ _ h
 |o::l,a,w,h=>by
  unfold wpList at h⊢;split
  ·rename_i hw;rw[if_pos hw]at h;rcases h with h| ⟨h1,a0,w0,h2⟩
   ·left;unfold Oper.wp at h⊢;generalize (execOp a.eval o).run P w=r at h⊢;cases r with
    |ok n w'=>
     cases n<;>simp only[Oper.upon]at h⊢ <;>first|exact nX hq l _ _ h|exact h|skip
     ·refine h.mono λe w'' he=>?_;cases e with
      |returned v=>exact nX hq l _ _ he
      |panicked ch=>exact hq _ _ _ he
      |outgrown=>obtain⟨a1,w1,h1⟩:=he;exact⟨a1,w1,hq _ _ _ h1⟩
     ·exact h.mono λv w'' hv=>nX hq l _ _ hv
    |halt x w'=>cases x<;>simp only[Oper.upon]at h⊢ <;>first|exact hq _ _ _ h|exact h
   ·exact .inr ⟨h1,a0,w0,hq _ _ _ h2⟩
  ·rename_i hw;rw[if_neg hw]at h;exact nX hq l _ _ h
theorem gb3{β β':Bt}{S S' D:Pr}{H:Hp}{w w':World}{v:V}{u:Value}{us:List (Nat×Option Chunk)}(b:Bool)(hM:Mem β' S' D (s8 H us) w')(hd:den β' S' w' D v u)(hev:Evo β S w β' S' w'):
 ∃β2 S2,Mem β2 S2 D (s8 H (hb8 b v us)) w'/\den β2 S2 w' D (hb7 b H v us) u/\Evo β S w β2 S2 w'/\Hb β' β2 D:=by
 cases b with
 |false=>exact⟨β',S',hM,hd,hev,Hb.refl _ _⟩
 |true=>
  have hn:∀x∈tJ v,x.2=none:=by
   intro x hx;unfold tJ at hx;split at hx
   ·simp only[List.mem_singleton]at hx;subst hx;rfl
   ·cases hx
  obtain⟨g1,g2,g3⟩:=hM.drop (tJ v) hn;refine⟨_,_,by rw[hb8,if_pos rfl,sR];exact g1,?_,hev.trans g2,g3⟩;rw[hb7,if_pos rfl];refine ar7 hM g3 (λ_ h=>.inl h) (λi z o l b m e hb h0=>.inr ⟨i,m,?_,hb,h0⟩) hd;subst e;simp[tJ]
theorem ak4 {E : Env} {ca : l8} (hC : r8 E ca) (hX : SoundX E) {ops : List Oper} {base : Nat} : ∀ (l : List Oper) (i : Nat) (s : St) (k : KX) (r : Ans), lW E ca ops base i l s k = some r ->
 ∃ e s', k e s' = some r /\ ∀ (β : Bt) (S D : Pr) (a : Act) (w : World), RelN E β S D (base + i * d9) s a w -> wpList E.P ops.toArray (Post E β S w s e s') l a w
 | [], i, s, k, r, h => by
  simp only [lW] at h;refine ⟨_, _, h, λβ S D a w hR => ?_⟩;exact ⟨⟨β, S, D, trivial, Rel.mk hR.fr hR.mem hR.df hR.lt hR.gl hR.rtD, Evo.refl _ _ _, (λ_ _ _ h => h), rfl, rfl⟩⟩
 | o :: l, i, s, k, r, h => by
  simp only [lW] at h
  replace h := by6 h
  obtain ⟨b, hb, hw⟩ := ds7 h
  -- the way on behind an operation
  have next : ∀ (v : V) (us : List (Nat × Option Chunk)) (k : KX) (r : Ans), lW E ca ops base (i + 1) l { fr := qN s.fr o.dst v, H := s8 s.H us, nx := s.nx, rt := s.rt, me := s.me } k = some r ->
   ∃ e s', k e s' = some r /\ ∀ (β β' : Bt) (S S' D : Pr) (a : Act) (w w' : World) (u : Value), RelN E β S D (base + i * d9) s a w -> Mem β' S' (pL D (base + i * d9)) (s8 s.H us) w' -> den β' S' w' (pL D (base + i * d9)) v u -> Evo β S w β' S' w' -> Hb β β' D ->
    wpList E.P ops.toArray (Post E β S w s e s') l (a.put o.dst u) w' := by
   intro v us k r h;obtain ⟨e, s', h1, h2⟩ := ak4 hC hX l (i + 1) _ k r h;refine ⟨e, s', h1, λβ β' S S' D a w w' u hR hM hd hev hHb => ?_⟩;have hk := hev.kept hR.mem
   have := h2 β' S' (pL D (base + i * d9)) (a.put o.dst u) w' ⟨cd8 (j9 hHb hev.sub (j4 _ _) hk _ _ hR.fr) hd, hM, by rw [ad3]; exact hR.df, λj hj => by
    rcases hj with hj | hj
    ·have := hR.lt j hj; rw [Nat.add_mul]; omega
    ·rw [Nat.add_mul]; omega, hR.gl.later hev.sub hk, λj hj => .inl (hR.rtD j hj)⟩
   have hroots : tL s.rt β β' := λj bm hj hb => by
    rcases hHb j (hR.rtD j hj) with e' | e'
    ·rw [<- e']; exact hb
    ·rw [e'] at hb; cases hb
   exact nX (Q := Post E β' S' w' { fr := qN s.fr o.dst v, H := s8 s.H us, nx := s.nx, rt := s.rt, me := s.me } e s') (Q' := Post E β S w s e s') (λe' a' w'' hp => Post.trans (s1 := { fr := qN s.fr o.dst v, H := s8 s.H us, nx := s.nx, rt := s.rt, me := s.me }) hev hroots rfl rfl hp) _ _ _ this
  cases b with
  | false =>
   simp only [Bool.false_eq_true, if_false, lM] at hb;obtain ⟨e, s', h1, h2⟩ := next _ _ _ _ hb
   refine ⟨e, s', h1, λβ S D a w hR => ?_⟩;unfold wpList;rw [if_neg (by rw [hw β S D w a hR.fr]; simp)];exact h2 β β S S D a w w undef hR (hR.mem.mono (j4 _ _)) (by simp [den]) (Evo.refl _ _ _) (Hb.refl _ _)
  | true =>
   simp only [if_true] at hb;obtain ⟨res, hk, hgood⟩ := go8 hb
   have hfresh : ∀ (β : Bt) (S D : Pr) (a : Act) (w : World), RelN E β S D (base + i * d9) s a w -> ∀ j, base + i * d9 <= j -> j < base + i * d9 + d9 -> ¬ D j := λβ S D a w hR j h1 _ hj => by
    have := hR.lt j hj; omega
   have hg := λ(β : Bt) (S D : Pr) (a : Act) (w : World) (hR : RelN E β S D (base + i * d9) s a w) => hgood β S D a w hR.mem (hfresh β S D a w hR _ (Nat.le_refl _) (by simp [d9])) (λx => br6 hR.fr hR.gl x);cases res with
   | val v us =>
    simp only [lM] at hk;obtain ⟨e, s', h1, h2⟩ := next _ _ _ _ hk
    refine ⟨e, s', h1, λβ S D a w hR => ?_⟩;obtain ⟨u, w', β0, S0, g1, g2, g3, g4, g5, _⟩ := hg β S D a w hR;obtain ⟨β', S', l1, l2, l3, l4⟩ := gb3 (E.lit s.me && ee1 o.op) g2 g3 g4
    have := h2 β β' S S' D a w w' u hR l1 l2 l3 (λj hj => by
     rcases l4 j (j4 _ _ j hj) with e1 | e1
     ·rcases g5 j hj with e2 | e2
      ·exact .inl (e1.trans e2)
      ·exact .inr (e1.trans e2)
     ·exact .inr e1)
    unfold wpList;rw [if_pos (hw β S D w a hR.fr)];left;unfold Oper.wp;rcases g1 with g1 | ⟨g1, rfl⟩
    ·rw [g1]; exact this
    ·rw [g1]; exact this
   | pan v us =>
    simp only at hk;refine ⟨_, _, hk, λβ S D a w hR => ?_⟩;obtain ⟨rfl, u, g1, g2, g3⟩ := hg β S D a w hR;unfold wpList;rw [if_pos (hw β S D w a hR.fr)];left;unfold Oper.wp;rw [g1];exact ⟨⟨β, S, D, ⟨u, rfl, g2, q8 (λ_ h => h) (λ_ _ => rfl) _ _ g2 g3⟩, Rel.mk hR.fr hR.mem hR.df hR.lt hR.gl hR.rtD, Evo.refl _ _ _, (λ_ _ _ h => h), rfl, rfl⟩⟩
   | call f args =>
    simp only at hk;obtain ⟨res2, hk2, hcall⟩ := bl2 hC hX hk;cases res2 with
    | val v us =>
     simp only [lM] at hk2;obtain ⟨e, s', h1, h2⟩ := next _ _ _ _ hk2
     refine ⟨e, s', h1, λβ S D a w hR => ?_⟩;obtain ⟨cs, g1, g2⟩ := hg β S D a w hR;obtain ⟨c1, c2⟩ := hcall β S D w hR.mem hR.gl (hfresh β S D a w hR);unfold wpList;rw [if_pos (hw β S D w a hR.fr)];left;unfold Oper.wp;rw [g1 c1];refine (c2 cs g2).mono ?_;rintro e' w' ⟨u, β', S', rfl, q1, q2, q3, q4, _⟩;exact h2 β β' S S' D a w w' u hR q1 q2 q3 q4
    | pan v us =>
     simp only at hk2;refine ⟨_, _, hk2, λβ S D a w hR => ?_⟩;obtain ⟨cs, g1, g2⟩ := hg β S D a w hR;obtain ⟨c1, c2⟩ := hcall β S D w hR.mem hR.gl (hfresh β S D a w hR);unfold wpList;rw [if_pos (hw β S D w a hR.fr)];left;unfold Oper.wp;rw [g1 c1];refine (c2 cs g2).mono ?_;rintro e' w' ⟨u, β', S', rfl, q1, q2, q3, q4, q5, _⟩;have hk := q3.kept hR.mem
     exact ⟨⟨β', S', D, ⟨u, rfl, q1, q2⟩, Rel.mk (j9 q5 q3.sub (λ_ h => h) hk _ _ hR.fr) q4 hR.df hR.lt (hR.gl.later q3.sub hk) hR.rtD, q3, (λj bm hj hb => by
      rcases q5 j (hR.rtD j hj) with e' | e'
      ·rw [<- e']; exact hb
      ·rw [e'] at hb; cases hb), rfl, rfl⟩⟩
    | call _ _ => simp only at hk2; cases hk2
    | dfr _ _ => simp only at hk2; cases hk2
   | dfr f cs =>
    simp only at hk;split at hk
    case h_2 => cases hk
    rename_i hdf;simp only [Bool.and_eq_true, beq_iff_eq] at hdf;rw [lM] at hk;obtain ⟨e, s', h1, h2⟩ := ak4 hC hX l (i + 1) _ k r hk;refine ⟨e, s', h1, λβ S D a w hR => ?_⟩;obtain ⟨us, g1, g2⟩ := hg β S D a w hR;unfold wpList;rw [if_pos (hw β S D w a hR.fr)];left;unfold Oper.wp;rw [g1]
    have hdd : Dfs E s.me ({ target := .fn (.func f) us.toArray, args := #[] } :: a.defers) := by
     refine ⟨λhf => (by rw [hf] at hdf; cases hdf.1), λd hd => ?_, λhk => (by rw [hk] at hdf; cases hdf.2.2)⟩;rcases List.mem_cons.1 hd with rfl | hd
     ·exact ⟨f, us.toArray, by rw [List.size_toArray, g2]; exact hdf.2.1, rfl⟩
     ·exact hR.df.2.1 d hd
    have hrel : RelN E β S D (base + (i + 1) * d9) { fr := qN s.fr o.dst (.sc undef), H := s8 s.H [], nx := s.nx, rt := s.rt, me := s.me } ({ a with defers := { target := .fn (.func f) us.toArray, args := #[] } :: a.defers }.put o.dst undef) w :=
     ⟨cd8 (a := { a with defers := { target := .fn (.func f) us.toArray, args := #[] } :: a.defers }) hR.fr (by simp [den]), hR.mem, by rw [ad3]; exact hdd, λj hj => by have := hR.lt j hj; rw [Nat.add_mul]; omega, hR.gl, hR.rtD⟩
    rw [Oper.upon_defer];exact nX (Q := Post E β S w { fr := qN s.fr o.dst (.sc undef), H := s8 s.H [], nx := s.nx, rt := s.rt, me := s.me } e s') (Q' := Post E β S w s e s') (λ_ _ _ hp => ⟨hp.ex⟩) _ _ _ (h2 β S D _ w hrel)
def Ends(E:Env)(c:ACode)(s:St)(e:Ex)(s':St):Prop:=∀β S D a w,Rel E β S D s a w->c.erase.wp E.P (Post E β S w s e s') a w
theorem rV{E:Env}{β:Bt}{S:Pr}{w:World}{s s':St}{e':Exit}{a':Act}{w':World}(h:Post E β S w s .normal s' e' a' w'):
 e'= .normal/\∃β' S' D',Rel E β' S' D' s' a' w'/\Evo β S w β' S' w'/\tL s.rt β β'/\s'.rt=s.rt/\s'.me=s.me:=by
 obtain⟨β',S',D',h1,h2,h3,h4,h5,h6⟩:=h.ex;cases e'<;>simp only[ExR]at h1;exact⟨rfl,β',S',D',h2,h3,h4,h5,h6⟩
theorem eo9{E:Env}{β:Bt}{S:Pr}{w:World}{s s':St}{e:Ex}{a':Act}{w':World}(he:e≠ .normal)(h:Post E β S w s e s' .normal a' w'):False:=by
 obtain⟨β',S',D',h1,_⟩:=h.ex;cases e<;>simp only[ExR]at h1;exact he rfl
theorem dc7{E:Env}{on:Bool}{c:Operand}{b:Bool}{s:St}{k:St->Option Ans}(hb:evA E s.fr c= .sc (.bool b)):aw4 on c b s k=k s:=by
 unfold aw4;split
 ·split
  ·rename_i t;rw[setK_eq];have hv:s.fr.getD t .junk= .sc (.bool b):=hb
   have hq:s.fr[t]? =some (.sc (.bool b)):=by
    cases hq:s.fr[t]?with
    |none=>simp[List.getD,hq]at hv
    |some q=>simp only[List.getD,hq,Option.getD_some]at hv;rw[hv]
   have hs:s.fr.set t (.sc (.bool b))=s.fr:=by
    apply List.ext_getElem?;intro n;by_cases hn:n=t
    ·subst hn;have hl:n<s.fr.length:=(List.getElem?_eq_some_iff.1 hq).1;rw[List.getElem?_set_self hl,hq]
    ·rw[List.getElem?_set_ne (λe=>hn e.symm)]
   rw[hs]
  ·rfl
 ·rfl
theorem cC{E:Env}{ca:l8}{lo:f5}(hC:r8 E ca)(hX:SoundX E)(hL:x8 E lo):∀(c:ACode) (s:St) (k:KX) (r:Ans),aW E ca lo c s k=some r->∃e s',k e s'=some r/\Ends E c s e s'
 | .skip,s,k,r,h=>⟨_,_,h,λβ S D a w hR=>wp_skip ⟨⟨β,S,D,trivial,hR,Evo.refl _ _ _,(λ_ _ _ h=>h),rfl,rfl⟩⟩⟩
 | .ret,s,k,r,h=>⟨_,_,h,λβ S D a w hR=>wp_ret ⟨⟨β,S,D,trivial,hR,Evo.refl _ _ _,(λ_ _ _ h=>h),rfl,rfl⟩⟩⟩
 | .exit id,s,k,r,h=>⟨_,_,h,λβ S D a w hR=>wp_exit ⟨⟨β,S,D,rfl,hR,Evo.refl _ _ _,(λ_ _ _ h=>h),rfl,rfl⟩⟩⟩
 | .no _,s,k,r,h=>by simp[aW]at h
 | .label l,s,k,r,h=>⟨_,_,h,λβ S D a w hR=>wp_label ⟨⟨β,S,D,trivial,hR,Evo.refl _ _ _,(λ_ _ _ h=>h),rfl,rfl⟩⟩⟩
 | .scope c,s,k,r,h=>by
  simp only[aW]at h;obtain⟨e,s',h1,h2⟩:=cC hC hX hL c s k r h;refine⟨e,s',h1,λβ S D a w hR=>wp_scope_straight (wp_mono (h2 β S D a w hR) λe' a' w' hp=>?_)⟩;obtain⟨β',S',D',q1,q2⟩:=hp.ex;cases e' with
  |goto l=>cases e<;>simp only[ExR]at q1
  |_=>exact⟨⟨β',S',D',q1,q2⟩⟩
 | .region id ops d,s,k,r,h=>by
  simp only[aW]at h;split at h
  ·rename_i hd;subst hd;split at h
   ·rename_i hok;rw[ah6]at h;obtain⟨e,s',h1,h2,h3,h4⟩:=et1 (id:=id) hC hX hok h;refine⟨e,s',h1,λβ S D a w hR=>h4 β S D a w ⟨hR.fr,hR.mem,hR.df,hR.lt,hR.gl,hR.rtD⟩ _ λβ' S' D' e' a' w' q0 q1 q2 q3=>?_⟩;exact⟨⟨β',S',D',q0,Rel.mk q1.fr q1.mem q1.df q1.lt q1.gl q1.rtD,q2,q3,h2,h3⟩⟩
   ·cases h
  ·rename_i hd;have hd':d=false:=by cases d<;>simp_all
   subst hd';obtain⟨e,s',h1,h2⟩:=ak4 hC hX ops 0 s k r h;refine⟨e,s',h1,λβ S D a w hR=>wp_region_lit (h2 β S D a w ⟨hR.fr,hR.mem,hR.df,λi hi=>by have:=hR.lt i hi;omega,hR.gl,hR.rtD⟩)⟩
 | .seq x y,s,k,r,h=>by
  simp only[aW]at h;obtain⟨e,s',h1,h2⟩:=cC hC hX hL x s _ r h;by_cases he:e= .normal
  ·subst he;simp only at h1;obtain⟨e2,s2,h3,h4⟩:=cC hC hX hL y s' k r h1;refine⟨e2,s2,h3,λβ S D a w hR=>wp_seq (wp_mono (h2 β S D a w hR) λe' a' w' hp=>?_)⟩;obtain⟨rfl,β',S',D',g1,g2,g3,g4,g5⟩:=rV hp;exact wp_mono (h4 β' S' D' a' w' g1) λ_ _ _ hp=>Post.trans g2 g3 g4 g5 hp
  ·have h1':k e s'=some r:=by
    split at h1
    ·exact absurd rfl he
    ·exact h1
   refine⟨e,s',h1',λβ S D a w hR=>wp_seq (wp_mono (h2 β S D a w hR) λe' a' w' hp=>?_)⟩;cases e' with
   |normal=>exact(eo9 he hp).elim
   |_=>exact hp
 | .cond c x y,s,k,r,h=>by
  simp only[aW]at h;split at h
  ·rename_i b hb;have hc:=λ(β:Bt) (S D:Pr) (a:Act) (w:World) (hR:Rel E β S D s a w)=>br6 hR.fr hR.gl c;rw[hb]at hc;simp only[den]at hc;split at h
   ·rename_i hbt;subst hbt;rw[dc7 hb]at h;obtain⟨e,s',h1,h2⟩:=cC hC hX hL x s k r h;exact⟨e,s',h1,λβ S D a w hR=>wp_cond_true (hc β S D a w hR) (h2 β S D a w hR)⟩
   ·rename_i hbt;have hbf:b=false:=by simpa using hbt
    subst hbf;rw[dc7 hb]at h;obtain⟨e,s',h1,h2⟩:=cC hC hX hL y s k r h;exact⟨e,s',h1,λβ S D a w hR=>wp_cond_false (hc β S D a w hR) (h2 β S D a w hR)⟩
  ·cases h
 | .block id c,s,k,r,h=>by
  simp only[aW]at h;obtain⟨e,s',h1,h2⟩:=cC hC hX hL c s _ r h
  have key:∀e2,(∀(β:Bt) (S:Pr) (w:World) (e':Exit) (a':Act) (w':World),Post E β S w s e s' e' a' w'->Exit.inBlock id (Post E β S w s e2 s') e' a' w')->Ends E (.block id c) s e2 s':=
   λe2 hh β S D a w hR=>wp_block (wp_mono (h2 β S D a w hR) λe' a' w' hp=>hh β S w e' a' w' hp)
  cases e with
  |exit j=>
   simp only at h1;split at h1
   ·rename_i hj;subst hj;refine⟨_,_,h1,key _ λβ S w e' a' w' hp=>?_⟩;obtain⟨β',S',D',q1,q2,q3,q4,q5,q6⟩:=hp.ex;cases e'<;>simp only[ExR]at q1;subst q1;simp only[Exit.inBlock,if_true];exact⟨⟨β',S',D',trivial,q2,q3,q4,q5,q6⟩⟩
   ·rename_i hj;refine⟨_,_,h1,key _ λβ S w e' a' w' hp=>?_⟩;obtain⟨β',S',D',q1,q2⟩:=hp.ex;cases e'<;>simp only[ExR]at q1;subst q1;simp only[Exit.inBlock,if_neg hj];exact hp
  |normal=>
   refine⟨_,_,h1,key _ λβ S w e' a' w' hp=>?_⟩;obtain⟨rfl,_⟩:=rV hp;exact hp
  |ret=>
   refine⟨_,_,h1,key _ λβ S w e' a' w' hp=>?_⟩;obtain⟨β',S',D',q1,q2⟩:=hp.ex;cases e'<;>simp only[ExR]at q1;exact hp
  |panic v=>
   refine⟨_,_,h1,key _ λβ S w e' a' w' hp=>?_⟩;obtain⟨β',S',D',q1,q2⟩:=hp.ex;cases e'<;>simp only[ExR]at q1;exact hp
 | .loop id live c,s,k,r,h=>by
  simp only[aW]at h;rw[zY]at h;obtain⟨e,s',h1,h2⟩:=hL _ _ _ _ _ _ h;refine⟨e,s',h1,λβ S D a w hR=>?_⟩;obtain⟨β',D',q1,q2,q3⟩:=au3 hR live;refine ci5 (λb kk cs=>?_);obtain⟨ee,aa,ww,qq,rr⟩:=h2 β' S D' a w q1 b kk cs;exact⟨ee,aa,ww,Post.trans (s1:=bv0 live s) q2 q3 rfl rfl qq,rr⟩
theorem mQ{E:Env}{ca:l8}{lo:f5}(hC:r8 E ca)(hX:SoundX E)(hL:x8 E lo){id live:Nat}{c:ACode}{s:St}{k:KX}{r:Ans}(h:n8 E ca lo id live c s k=some r):∃e s',k e s'=some r/\SL E c s e s':=by
 simp only[n8]at h;obtain⟨e,s1,h1,h2⟩:=cC hC hX hL c s _ r h;by_cases he:e= .normal
 ·subst he;simp only[zY]at h1;obtain⟨e2,s2,h3,h4⟩:=hL _ _ _ _ _ _ h1;refine⟨e2,s2,h3,λβ S D a w hR=>cn8 (wp_mono (h2 β S D a w hR) λe' a' w' hp=>?_)⟩;obtain⟨rfl,β',S',D',g1,g2,g3,g4,g5⟩:=rV hp;obtain⟨β'',D'',q1,q2,q3⟩:=au3 g1 live;intro b kk cs;obtain⟨ee,aa,ww,qq,rr⟩:=h4 β'' S' D'' a' w' q1 b kk cs;exact⟨ee,aa,ww,Post.trans g2 g3 g4 g5 (Post.trans (s1:=bv0 live s1) q2 q3 rfl rfl qq),rr⟩
 ·have h1':k e s1=some r:=by
   split at h1
   ·exact absurd rfl he
   ·exact h1
  refine⟨e,s1,h1',λβ S D a w hR=>cn8 (wp_mono (h2 β S D a w hR) λe' a' w' hp=>?_)⟩;cases e' with
  |normal=>exact(eo9 he hp).elim
  |_=>exact hp
end Go.Am
/- Functions: what a run of the executor says of a call in the model. -/
namespace Go.Am
open Go Go.RowKit
def gx5(P:Program)(g:FuncId)(n:Nat):Prop:=∀(us:Array Value) (w:World),us.size=n->(callFunc g us).run P w= .ok (.enter g us) w/\CallsD P g us .returning w λe u' w'=>(∃v,e= .returned v)/\u'= .returning/\Below w.heap.size w w'
theorem eg1{w w' w'':World}(h:Below w.heap.size w w')(g:Below w'.heap.size w' w''):Below w.heap.size w w'':=
 ⟨g.os.trans h.os,g.tape.trans h.tape,g.output.trans h.output,Nat.le_trans h.size g.size,λb hb=>(g.block b (Nat.lt_of_lt_of_le hb h.size)).trans (h.block b hb)⟩
theorem ev9(w:World):Below w.heap.size w w:=⟨rfl,rfl,rfl,Nat.le_refl _,λ_ _=>rfl⟩
theorem eo2{E:Env}(hI:∀g n,E.idle g=some n->gx5 E.P g n){fn:Func}{tmps:Array Value}{R:Ending->World->Prop}:
 ∀(ds:List Deferred) (w:World),(∀w',Below w.heap.size w w'->∃v,(results fn tmps).run E.P w'= .ok v w'/\R (.returned v) w')->(∀d,d∈ds->∃(g:FuncId) (us:Array Value),E.idle g=some us.size/\d={target:=.fn (.func g) us,args:=#[]})->Leaves E.P fn tmps R ds .returning w:=by
 intro ds
 induction ds with
 |nil=>intro w hR _;exact hR w (ev9 w)
 |cons d ds ih=>
  intro w hR h;obtain⟨g,us,h1,rfl⟩:=h d (.head _);obtain⟨h2,h3⟩:=hI g us.size h1 us w rfl;refine leaves_cons (f:=g) (args:=us) (by simp) (by simpa[invoke]using h2) (h3.mono ?_);rintro e u' w' ⟨⟨v',rfl⟩,rfl,hb⟩;exact ih w' (λw'' hb'=>hR w'' (eg1 hb hb')) λd hd=>h d (.tail _ hd)
theorem Rel.below{E:Env}{β:Bt}{S D:Pr}{s:St}{a:Act}{w w':World}(h:Rel E β S D s a w)(hb:Below w.heap.size w w'):Rel E β S D s a w':=
 have hk:Kept S w w':=λb hs=>hb.block b (h.mem.st b hs)
 Rel.mk (j9 (λ_ _=>.inl rfl) (λ_ h=>h) (λ_ h=>h) hk _ _ h.fr) (h.mem.below hb) h.df h.lt (h.gl.later (λ_ h=>h) hk) h.rtD
def WF (E : Env) : Prop := ((∀ g n, E.idle g = some n -> gx5 E.P g n) /\ E.dok = true) /\ ∀ f c, E.code f = some c -> ∃ fn, E.P.funcs[f]? = some fn /\ fn.body = some c.erase /\ fn.name ≠ "runtime.NumGoroutine"
def eq9(tmps:Array Value)(r0:ResultVar):Sem Value:=
 match r0 with
 | .tmp t=>pure (tmps.getD t undef)
 | .cell q t=>do loadVar t (<-asAddr (tmps.getD q undef))
theorem ck0(fn:Func)(tmps:Array Value):results fn tmps=(do let vs <-fn.results.mapM (eq9 tmps);pure (if h:vs.size=1 then vs[0]else .tuple vs)):=rfl
section
variable {E:Env} {β:Bt} {S D:Pr} {w:World}
theorem fw6{s:St}{r0:ResultVar}{k:V->Option Ans}{r:Ans}(h:ht6 E s r0 k=some r):∃v,k v=some r/\∀(β:Bt) (S D:Pr) (a:Act) (w:World),Rel E β S D s a w->
 ∃u,(eq9 a.tmps r0).run E.P w= .ok u w/\den β S w D v u:=by
 unfold ht6 at h;split at h
 ·rename_i t;refine⟨_,h,λβ S D a w hR=>⟨a.tmps.getD t undef,rfl,?_⟩⟩;have:=hZ hR.fr t;simpa using this
 ·rename_i t ty;split at h
  ·rename_i i o hp;split at h
   ·rename_i cs hi;split at h
    ·rename_i v hv;refine⟨v,h,λβ S D a w hR=>?_⟩;have hd:=hZ hR.fr t;rw[hp]at hd;obtain⟨b,m,hb,hr⟩:=hR.mem.live i _ hi;simp only[b7]at hr;obtain⟨_,us,T,h1,h2,h3⟩:=hr;simp only[den]at hd;have hu:=hd.2 b m hb;have hu':a.tmps.getD t undef= .pointer (some ⟨b,o,none⟩):=by simpa using hu
     obtain⟨y,hy1,hy2⟩:=an6 (p:=⟨b,o,none⟩) hv h2 h3 (λi x hx=>by rw[dP,cell_of_row w b (o+i) _ _ _ h1];simpa using hx);refine⟨y,?_,hy2⟩;simp only[eq9];rw[hu'];simp[asAddr,hy1]
    ·cases h
   ·cases h
  ·cases h
theorem bb4{s:St}:∀(rs:List ResultVar) {k:List V->Option Ans} {r:Ans},ck8 E s rs k=some r->∃vs,k vs=some r/\∀(β:Bt) (S D:Pr) (a:Act) (w:World),Rel E β S D s a w->
 ∃us:List Value,(rs.mapM (eq9 a.tmps)).run E.P w= .ok us w/\b8 β S w D vs us
 | [],k,r,h=>⟨_,h,λβ S D a w hR=>⟨[],rfl,by simp[b8]⟩⟩
 |r0::rs,k,r,h=>by
  simp only[ck8]at h;obtain⟨v,h1,h2⟩:=fw6 h;obtain⟨vs,h3,h4⟩:=bb4 rs h1;refine⟨v::vs,h3,λβ S D a w hR=>?_⟩;obtain⟨u,g1,g2⟩:=h2 β S D a w hR;obtain⟨us,g3,g4⟩:=h4 β S D a w hR;refine⟨u::us,?_,by simp only[b8];exact⟨u,us,rfl,g2,g4⟩⟩;rw[List.mapM_cons,Sem.run_bind,g1,Result.andThen_ok,Sem.run_bind,g3];rfl
theorem ed6{vs:List V}{us:List Value}(h:b8 β S w D vs us):den β S w D (one1 vs) (if h:us.toArray.size=1 then us.toArray[0]else .tuple us.toArray):=by
 have hl:=q9 h;unfold one1;split
 ·rename_i v;simp only[b8]at h;obtain⟨x,xs,rfl,h1,rfl⟩:=h;simpa using h1
 ·rename_i hne
  have:¬us.toArray.size=1:=by
   intro h1;simp only[List.size_toArray]at h1;rw[h1]at hl;obtain⟨v,rfl⟩:=List.length_eq_one_iff.1 hl;exact hne v rfl
  rw[dif_neg this];simp only[den];exact⟨us,rfl,h⟩
theorem bo4 {ca : l8} {lo : f5} (hW : WF E) (hC : r8 E ca) (hX : SoundX E) (hL : x8 E lo) {f : FuncId} {args : List V} {L : List (Option Chunk)} {k : CRes -> Option Ans} {r : Ans}
 (h : f7 E ca lo f args L k = some r) : ∃ cr, k cr = some r /\ SC E f args L cr := by
 unfold f7 at h;split at h
 ·rename_i c hc;obtain ⟨fn, hf, hb, hname⟩ := hW.2 f c hc;simp only [hf, sC] at h;split at h
  ·rename_i hrt;obtain ⟨e, s', h1, h2⟩ := cC hC hX hL c _ _ r h;have hcal : wD E.P f := ⟨fn, hf, by rw [hb]; rfl, hname⟩
   -- the state at the beginning
   have hstart : ∀ (β : Bt) (S : Pr) (w : World) (us : List Value), b8 β S w (· < L.length) args us -> Mem β S (· < L.length) (hp L) w -> Glob E S w ->
    Rel E β S (· < L.length) { fr := args ++ List.replicate (fn.ntmps - args.length) (.sc undef), H := hp L, nx := L.length, rt := (bM E.allR (Am.hp L) args).length, me := f } { tmps := us.toArray ++ Array.replicate (fn.ntmps - us.toArray.size) undef, defers := [] } w := by
    intro β S w us hus hm hg;refine ⟨?_, hm, ⟨λ_ => rfl, λd hd => (by cases hd), λhk => (by rw [hW.1.2] at hk; cases hk)⟩, λi hi => hi, hg, λi hi => Nat.lt_of_lt_of_le hi hrt⟩;have hl := q9 hus;simp only [Array.toList_append, Array.toList_replicate];refine bP hus ?_;rw [List.size_toArray, <- hl];have := lO (β := β) (S := S) (w := w) (D := (· < L.length)) (f := λ_ : Nat => V.sc undef) (g := λ_ => undef) (l := List.range (fn.ntmps - args.length)) (λ_ _ => by simp [den]);simpa [List.map_const'] using this
   have hend : ∀ (e : Ex) (s' : St), (e = .normal \/ e = .ret) -> Ends E c { fr := args ++ List.replicate (fn.ntmps - args.length) (.sc undef), H := hp L, nx := L.length, rt := (bM E.allR (Am.hp L) args).length, me := f } e s' ->
    (ck8 E s' fn.results.toList λvs => dn1 s' (one1 vs) k) = some r -> ∃ cr, k cr = some r /\ SC E f args L cr := by
    intro e s' he h2 h1;obtain ⟨vs, h3, h4⟩ := bb4 _ h1;simp only [dn1, ah6, dy4, cf8] at h3;refine ⟨_, h3, hcal, λβ S w us hus hm hg => calls_of_wp_defers hf hb (wp_mono (h2 β S _ _ w (hstart β S w us hus hm hg)) λe' a' w' hp => ?_)⟩;obtain ⟨β', S', D', q1, q2, q3, q4, q5, q6⟩ := hp.ex;have hrel : Rel E β' S' D' s' a' w' := by rcases he with rfl | rfl <;> exact q2
    have hroots := q4
    have hbody : ∀ w2, Below w'.heap.size w' w2 -> ∃ v, (results fn a'.tmps).run E.P w2 = .ok v w2 /\ bm9 β S w (bM E.allR (Am.hp L) args).length
     (.ret ((one1 vs).ren (lJ (gO s'.H zB (lL s'.H (List.range s'.rt) ++ (one1 vs).ids) (List.range s'.rt)))) (keep s'.H (gO s'.H zB (lL s'.H (List.range s'.rt) ++ (one1 vs).ids) (List.range s'.rt)))) (.returned v) w2 := by
     intro w2 hbw;have hrel := hrel.below hbw;have q3 := q3.trans (Evo.below hbw);obtain ⟨rs, g1, g2⟩ := h4 β' S' D' a' w2 hrel;refine ⟨(if h : rs.toArray.size = 1 then rs.toArray[0] else .tuple rs.toArray), ?_, ?_⟩
     ·have hrun : (fn.results.mapM (eq9 a'.tmps)).run E.P w2 = .ok rs.toArray w2 := by
       rw [Array.mapM_eq_mapM_toList, Sem.run_map, g1];rfl
      rw [ck0, Sem.run_bind, hrun];rfl
     ·obtain ⟨hn, ex, hex⟩ := mT s'.H zB (lL s'.H (List.range s'.rt) ++ (one1 vs).ids) (List.range s'.rt) List.nodup_range;generalize gO s'.H zB (lL s'.H (List.range s'.rt) ++ (one1 vs).ids) (List.range s'.rt) = order at *;simp only [bm9];have hlen : (keep s'.H order).length = order.length := by simp [keep]
      rw [hlen];refine ⟨_, ofOrder β' order, S', rfl, hrel.mem.renum hn, ca4 ax7 _ _ (ed6 g2), ?_, ?_⟩
      ·exact q3.trans ⟨rfl, rfl, rfl, Nat.le_refl _, λ_ _ _ => rfl, λ_ h => h, λ_ h => .inl h, λi b m hb h0 => by
        obtain ⟨j, _, hj⟩ := o6 hb
        exact .inr ⟨j, m, h0, hj⟩⟩
      ·intro i bm hi hb;have hi' : i < s'.rt := by rw [q5]; exact hi
       have hio : order[i]? = some i := by
        rw [hex, List.getElem?_append, if_pos (by simpa using hi')];simp [hi']
       unfold ofOrder at hb;rw [hio] at hb;exact hroots i bm hi hb
    have hleave : Leaves E.P fn a'.tmps (bm9 β S w (bM E.allR (Am.hp L) args).length (.ret ((one1 vs).ren (lJ (gO s'.H zB (lL s'.H (List.range s'.rt) ++ (one1 vs).ids) (List.range s'.rt)))) (keep s'.H (gO s'.H zB (lL s'.H (List.range s'.rt) ++ (one1 vs).ids) (List.range s'.rt))))) a'.defers .returning w' := by
     exact eo2 hW.1.1 _ _ hbody hrel.df.2.1
    rcases he with rfl | rfl
    ·cases e' <;> simp only [ExR] at q1;exact hleave
    ·cases e' <;> simp only [ExR] at q1;exact hleave
   unfold gk1 at h1;split at h1
   ·exact hend _ _ (.inl rfl) h2 h1
   ·exact hend _ _ (.inr rfl) h2 h1
   ·rename_i v;split at h1
    ·cases h1
    rename_i hdn;refine ⟨_, h1, hcal, λβ S w us hus hm hg => calls_of_wp_defers hf hb (wp_mono (h2 β S _ _ w (hstart β S w us hus hm hg)) λe' a' w' hp => ?_)⟩;obtain ⟨β', S', D', q1, q2, q3, q4, q5, q6⟩ := hp.ex;cases e' <;> simp only [ExR] at q1;obtain ⟨u, rfl, g1, g2⟩ := q1;show Leaves E.P fn a'.tmps _ a'.defers (.panicking _) w';rw [q2.df.1 hdn];exact ⟨u, β', S', rfl, g1, g2, q3, q2.mem.st⟩
   ·cases h1
  ·cases h
 ·cases h
end
end Go.Am
/- Tables; closed runs; laws. -/
namespace Go.Am
open Go Go.RowKit
theorem SC.of{E:Env}(hW:WF E)(hX:SoundX E){ca:l8}{lo:f5}(hC:r8 E ca)(hL:x8 E lo){f:FuncId}{args:List V}{L:List (Option Chunk)}{cr:CRes}(h:f7 E ca lo f args L (λr=>some (.c r))=some (.c cr)):SC E f args L cr:=by
 obtain⟨cr',e1,e2⟩:=bo4 hW hC hX hL h;simp only[Option.some.injEq,Ans.c.injEq]at e1
 rwa [e1]at e2
theorem SL.of{E:Env}(hX:SoundX E){ca:l8}{lo:f5}(hC:r8 E ca)(hL:x8 E lo){id live:Nat}{c:ACode}{s s':St}{e:Ex}(h:n8 E ca lo id live c s (λe s=>some (.l e s))=some (.l e s')):SL E c s e s':=by
 obtain⟨e1,s1,h1,h2⟩:=mQ hC hX hL h;simp only[Option.some.injEq,Ans.l.injEq]at h1;obtain⟨rfl,rfl⟩:=h1;exact h2
theorem Glob.none{E:Env}(hG:∀g,E.glob g=Option.none)(hI:E.inv=[])(S:Pr)(w:World):Glob E S w:=
 ⟨λg cs hg=>(by rw[hG g]at hg;cases hg),λp hp=>(by rw[hI]at hp;cases hp)⟩
theorem SC.law{E:Env}{f:FuncId}{args:List V}(h:SC E f args [] (.ret (.sc (.bool true)) [])){w:World}(hG:Glob E (· <w.heap.size) w){us:List Value}(hd:b8 (λ_=>Option.none) (· <w.heap.size) w (λ_=>False) args us):
 Calls E.P f us.toArray w λe w'=>e= .returned (.bool true)/\Below w.heap.size w w':=by
 have hmem:Mem (λ_=>Option.none) (· <w.heap.size) (λi=>i< ([]:List (Option Chunk)).length) (hp []) w:=
  ⟨λi c hc=>(by simp[hp]at hc),λ_ _=>rfl,λi b m h=>(by cases h),λi b m h=>(by cases h),λi j b m m' h=>(by cases h),λb hb=>hb⟩
 refine(h.2 (λ_=>Option.none) (· <w.heap.size) w us ?_ hmem hG).mono ?_
 ·have:(λi:Nat=>i< ([]:List (Option Chunk)).length)=λ_=>False:=by funext i;simp
  rw[this];exact hd
 ·rintro e w' ⟨u,β',S',rfl,g1,g2,g3,g4⟩;simp only[den]at g2;subst g2;exact⟨rfl,uG g3⟩
end Go.Am
/- The annotated code is the code; environments without own knowledge. -/
namespace Go.Am
open Go
theorem mZ(res:Nat):∀(c:Code) (b0 l:Nat) (env:List (Nat×Nat)),(ann res c b0 l env).erase=c
 | .skip,_,_,_=>by simp[ann,ACode.erase]
 | .region _ ops _,_,_,_=>by simp[ann,ACode.erase]
 | .seq a b,b0,l,env=>by simp[ann,ay0,ACode.erase,mZ res a,mZ res b]
 | .cond c x y,b0,l,env=>by simp[ann,ay0,ACode.erase,mZ res x,mZ res y]
 | .block id c,_,l,env=>by simp[ann,ay0,ACode.erase,mZ res c]
 | .loop c,b0,l,env=>by simp[ann,ay0,ACode.erase,mZ res c]
 | .exit _,_,_,_=>by simp[ann,ACode.erase]
 | .ret,_,_,_=>by simp[ann,ACode.erase]
 | .rangeFunc ..,_,_,_=>by simp[ann,ACode.erase]
 | .scope c,b0,l,env=>by simp[ann,ACode.erase,mZ res c]
 | .label _,_,_,_=>by simp[ann,ACode.erase]
 | .goto _,_,_,_=>by simp[ann,ACode.erase]
 | .refuse _,_,_,_=>by simp[ann,ACode.erase]
theorem WF.of (E : Env) (hc : ∀ f, E.code f = (E.P.funcs[f]?).bind gf5) (hn : E.P.funcs.toList.all (λfn => fn.name != "runtime.NumGoroutine") = true) (hd : ∀ g n, E.idle g = some n -> gx5 E.P g n := by intro g n h; cases h) (hk : E.dok = true := by rfl) : WF E := by
  refine ⟨⟨hd, hk⟩, ?_⟩;intro f c h;rw [hc] at h;cases hf : E.P.funcs[f]? with
  | none => rw [hf] at h; cases h
  | some fn =>
    rw [hf] at h;simp only [Option.bind_some, gf5] at h;cases hb : fn.body with
    | none => rw [hb] at h; cases h
    | some b =>
      rw [hb] at h;simp only [Option.map_some, Option.some.injEq] at h;refine ⟨fn, rfl, ?_, ?_⟩
      · rw [hb, <- h, mZ]
      · have := List.all_eq_true.1 hn fn (by rw [<- Array.getElem?_toList] at hf; exact List.mem_of_getElem? hf);simpa using this
theorem SoundX.none{E:Env}(h:∀f args,E.ext f args=Option.none):SoundX E:=by
 intro f args v hv;rw[h]at hv;cases hv
mutual
def bk3(E:Env):Nat->l8
 |0=>λ_ _ _ _=>Option.none
 |n+1=>f7 E (bk3 E n) (dz0 E n)
def dz0(E:Env):Nat->f5
 |0=>λ_ _ _ _ _=>Option.none
 |n+1=>n8 E (bk3 E n) (dz0 E n)
end
theorem bk1{E:Env}(hW:WF E)(hX:SoundX E):∀n,r8 E (bk3 E n)/\x8 E (dz0 E n)
 |0=>⟨λf args L k r h=>by simp[bk3]at h,λid live c s k r h=>by simp[dz0]at h⟩
 |n+1=>by
  obtain⟨h1,h2⟩:=bk1 hW hX n;constructor
  ·intro f args L k r h;rw[bk3]at h;exact bo4 hW h1 hX h2 h
  ·intro id live c s k r h;rw[dz0]at h;exact mQ h1 hX h2 h
end Go.Am
/- What comes in, by its type: an argument's reading gives an abstract value that fits. -/
namespace Go.Am
open Go Go.RowKit
def Cat:List (List V->Prop)->List V->Prop
 | [],vs=>vs=[]
 |p::ps,vs=>∃a b,vs=a++b/\p a/\Cat ps b
def WT(P:Program):Nat->TypeId->List V->Prop
 |0,_,_=>False
 |d+1,t,vs=>match P.underlying t with
  |some .bool=>∃b,vs=[.sc (.bool b)]
  |some (.int k)=>∃n,vs=[.sc (.int k n)]/\(Lit.int k n).wf=true
  |some .string=>∃s,vs=[.sc (.string s)]/\s.size<=Go.maxLen
  |some (.slice e)=>0<P.cellsOf e->∃n f,vs=[.ro (P.cellsOf e) n f]/\n<=Go.maxLen/\∀j,j<n->WT P d e (f j)
  |some (.struct fs)=>Cat (fs.toList.map λf=>WT P d f.type) vs
  |some (.array n e)=>Cat ((List.replicate n e).map λe=>WT P d e) vs
  |_=>True
def WTV(P:Program)(t:TypeId)(v:V):Prop:=
 ∃d,match P.underlying t with
  |some (.struct _)=>∃vs,v= .agg vs/\WT P d t vs
  |some (.array _ _)=>∃vs,v= .agg vs/\WT P d t vs
  |_=>WT P d t [v]
def aa9(P:Program):List Field->Nat->Option Nat
 | [],o=>some o
 |f::fs,o=>if f.offset=o/\f.type<P.types.size then aa9 P fs (o+P.cellsOf f.type)else none
def cw6(P:Program):Bool:=(List.range P.types.size).all λt=>match P.underlying t with
 |some (.struct fs)=>aa9 P fs.toList 0==some (P.cellsOf t)
 |some (.array n e)=>P.cellsOf t==n*P.cellsOf e&&decide (e<P.types.size)
 |some (.slice e)=>decide (e<P.types.size)
 |_=>true
abbrev DB:Bt:=λ_=>none
abbrev DD:Pr:=λ_=>False
theorem bg7{α β:Type}{f:α->Option β}:∀{l:List α} {ys:List β},l.mapM f=some ys->∀x∈l,∃y,f x=some y
 | [],_,_,x,hx=>by cases hx
 |a::l,ys,h,x,hx=>by
  rw[List.mapM_cons]at h;cases ha:f a with
  |none=>rw[ha]at h;simp at h
  |some y=>
   rw[ha]at h;cases hl:l.mapM f with
   |none=>rw[hl]at h;simp at h
   |some zs=>
    rcases List.mem_cons.1 hx with e|e
    ·subst e;exact⟨y,ha⟩
    ·exact bg7 hl x e
structure Gd(S:Pr)(w:World)(vs:List V)(us:List Value):Prop where
 den:b8 DB S w DD vs us
 pure:m8 vs=true
 one:us.all Value.oneCell'=true
theorem ds1{β:Bt}{S D:Pr}{w:World}:∀{as bs:List V} {us vs:List Value},b8 β S w D as us->b8 β S w D bs vs->b8 β S w D (as++bs) (us++vs)
 | [],bs,us,vs,h,g=>by simp only[b8]at h;subst h;exact g
 |a::as,bs,us,vs,h,g=>by
  simp only[b8]at h;obtain⟨x,xs,rfl,h1,h2⟩:=h;simp only[List.cons_append,b8];exact⟨x,_,rfl,h1,ds1 h2 g⟩
theorem da3:∀{as bs:List V},m8 as=true->m8 bs=true->m8 (as++bs)=true
 | [],bs,_,g=>g
 |a::as,bs,h,g=>by
  simp only[m8,Bool.and_eq_true,List.cons_append]at h⊢;exact⟨h.1,da3 h.2 g⟩
theorem Gd.app{S:Pr}{w:World}{as bs:List V}{us vs:List Value}(h:Gd S w as us)(g:Gd S w bs vs):Gd S w (as++bs) (us++vs):=
 ⟨ds1 h.den g.den,da3 h.pure g.pure,by rw[List.all_append,h.one,g.one];rfl⟩
theorem Gd.nil{S:Pr}{w:World}:Gd S w [] []:=⟨by simp[b8],rfl,rfl⟩
theorem Gd.one1{S:Pr}{w:World}{u:Value}(h:u.oneCell'=true):Gd S w [.sc u] [u]:=⟨by simp[b8,Am.den],rfl,by simp[h]⟩
theorem cj3{S:Pr}{w:World}{cs:List Value}{n:Nat}{p:List V->Prop}(hn:n<=cs.length)(h:∃vs,Gd S w vs (cs.take n)/\p vs){ps:List (List V->Prop)}(g:∃vs,Gd S w vs (cs.drop n)/\Cat ps vs):
 ∃vs,Gd S w vs cs/\Cat (p::ps) vs:=by
 obtain⟨a,ha,pa⟩:=h;obtain⟨b,hb,pb⟩:=g;exact⟨a++b,by have:=ha.app hb;rwa [List.take_append_drop]at this,a,b,rfl,pa,pb⟩
theorem f8{H:Type}{enc:TypeId×Value->H}{P:Program}{w:World}{sp:Nat->Bool}{held:Bool}(hp:cw6 P=true):
 ∀(d:Nat) (t:TypeId) (cs:List Value) (x:DataW H×List MemPlace),t<P.types.size->DataW.trod enc P w 0 sp held d t cs=some x->∃vs,Gd (· <w.heap.size) w vs cs/\WT P d t vs:=by
 intro d
 induction d with
 |zero=>intro t cs x _ h;simp[DataW.trod]at h
 |succ d ih=>
  intro t cs x ht h
  have fields:∀(fs:List Field) (o m:Nat) (cs:List Value) (ys:List (DataW H×List MemPlace)),aa9 P fs o=some m->cs.length=m->
   fs.mapM (λf=>DataW.trod enc P w 0 sp held d f.type ((cs.drop f.offset).take (P.cellsOf f.type)))=some ys->
   ∃vs,Gd (· <w.heap.size) w vs (cs.drop o)/\Cat (fs.map λf=>WT P d f.type) vs:=by
   intro fs
   induction fs with
   |nil=>
    intro o m cs ys hp hl _;simp only[aa9,Option.some.injEq]at hp;subst hp;refine⟨[],?_,rfl⟩;rw[List.drop_of_length_le (by omega)];exact Gd.nil
   |cons f fs ihf=>
    intro o m cs ys hp hl hm;simp only[aa9]at hp;split at hp
    ·rename_i ho;obtain⟨ho,hft⟩:=ho;obtain⟨y,hy⟩:=bg7 hm f (.head _);rw[List.mapM_cons,hy]at hm
     have hle:o+P.cellsOf f.type<=m:=by
      have:∀(l:List Field) (o m:Nat),aa9 P l o=some m->o<=m:=by
       intro l
       induction l with
       |nil=>intro o m h;simp only[aa9,Option.some.injEq]at h;omega
       |cons g l ih=>intro o m h;simp only[aa9]at h;split at h;have:=ih _ _ h;omega;cases h
      exact this _ _ _ hp
     refine cj3 (n:=P.cellsOf f.type) (by simp only[List.length_drop];omega) ?_ ?_
     ·rw[ho]at hy;exact ih _ _ _ hft hy
     ·cases hl':fs.mapM (λf=>DataW.trod enc P w 0 sp held d f.type ((cs.drop f.offset).take (P.cellsOf f.type)))with
      |none=>rw[hl']at hm;simp at hm
      |some zs=>
       rw[List.drop_drop];exact ihf _ _ _ _ hp hl hl'
    ·cases hp
  have items:∀(n:Nat) (e:TypeId) (cs:List Value),e<P.types.size->cs.length=n*P.cellsOf e->
   (∀i,i<n->∃y,DataW.trod enc P w 0 sp held d e ((cs.drop (i*P.cellsOf e)).take (P.cellsOf e))=some y)->
   ∃vs,Gd (· <w.heap.size) w vs cs/\Cat ((List.replicate n e).map λe=>WT P d e) vs:=by
   intro n
   induction n with
   |zero=>
    intro e cs _ hl _;have:cs=[]:=List.length_eq_zero_iff.1 (by omega);subst this;exact⟨[],Gd.nil,rfl⟩
   |succ n ihn=>
    intro e cs het hl h;simp only[List.replicate_succ,List.map_cons];refine cj3 (n:=P.cellsOf e) (by rw[hl,Nat.add_mul];omega) ?_ ?_
    ·obtain⟨y,hy⟩:=h 0 (by omega);simp only[Nat.zero_mul,List.drop_zero]at hy;exact ih _ _ _ het hy
    ·refine ihn e _ het (by rw[List.length_drop,hl,Nat.add_mul];omega) λi hi=>?_;obtain⟨y,hy⟩:=h (i+1) (by omega);refine⟨y,?_⟩;rw[List.drop_drop,show P.cellsOf e+i*P.cellsOf e=(i+1)*P.cellsOf e by rw[Nat.add_mul];omega];exact hy
  have hpk:∀x,P.underlying t=some x->(match(some x:Option TypeDesc)with
   |some (.struct fs)=>aa9 P fs.toList 0==some (P.cellsOf t)
   |some (.array n e)=>P.cellsOf t==n*P.cellsOf e&&decide (e<P.types.size)
   |some (.slice e)=>decide (e<P.types.size)
   |_=>true)=true:=by
   intro x hx;have:=List.all_eq_true.1 hp t (by simp only[List.mem_range];exact ht)
   rwa [hx]at this
  unfold DataW.trod at h;unfold WT;split at h
  ·rename_i b hu;rw[hu];exact⟨_,Gd.one1 rfl,_,rfl⟩
  ·rename_i k k' n hu;rw[hu];split at h
   ·rename_i hc;obtain⟨rfl,hw⟩:=hc;exact⟨_,Gd.one1 rfl,_,rfl,hw⟩
   ·cases h
  ·rename_i hu;rw[hu];exact⟨_,Gd.one1 rfl,trivial⟩
  ·rename_i s hu;rw[hu];split at h
   ·rename_i hc;exact⟨_,Gd.one1 rfl,_,rfl,hc⟩
   ·cases h
  ·rename_i hu;rw[hu];exact⟨_,Gd.one1 rfl,trivial⟩
  ·rename_i hu;rw[hu];exact⟨_,Gd.one1 rfl,trivial⟩
  ·rename_i e hu;rw[hu];by_cases he:0<P.cellsOf e
   ·refine⟨[.ro (P.cellsOf e) 0 (λ_=>[])],⟨?_,rfl,rfl⟩,λ_=>⟨0,_,rfl,Nat.zero_le _,λj hj=>absurd hj (Nat.not_lt_zero _)⟩⟩;simp only[b8,Am.den];exact⟨_,_,rfl,⟨Nat.zero_le _,none,0,⟨0,0,none⟩,λ_=>[],rfl,Nat.le_refl _,λh=>absurd h (Nat.lt_irrefl _),λj hj=>absurd hj (Nat.not_lt_zero _)⟩,rfl⟩
   ·exact⟨_,Gd.one1 rfl,λh=>absurd h he⟩
  ·rename_i e a len cap hu;rw[hu];by_cases he:0<P.cellsOf e
   ·simp only at h;split at h
    ·rename_i hc;obtain⟨_,h1,h2⟩:=hc;cases hm:(List.range len).mapM (λi=>(w.cells? 0 (a.add (i*P.cellsOf e)) (P.cellsOf e)).bind (DataW.trod enc P w 0 sp held d e))with
     |none=>rw[hm]at h;simp at h
     |some zs=>
      have key:∀j,j<len->∃(vs:List V) (us:List Value),Gd (· <w.heap.size) w vs us/\WT P d e vs/\us.length=P.cellsOf e/\a.block<w.heap.size/\∀i x,us[i]? =some x->w.cell? (a.add (j*P.cellsOf e+i))=some x:=by
       intro j hj;obtain⟨y,hy⟩:=bg7 hm j (by simpa using hj);cases hcs:w.cells? 0 (a.add (j*P.cellsOf e)) (P.cellsOf e)with
       |none=>rw[hcs]at hy;simp at hy
       |some us=>
        rw[hcs]at hy;obtain⟨vs,g1,g2⟩:=ih _ _ _ (by simpa using hpk _ hu) hy;obtain⟨_,q1,q2⟩:=World.cells?_some hcs;have hb:=World.cells?_block hcs he;rw[gY]at hb;refine⟨vs,us,g1,g2,q1,hb,λi x hx=>?_⟩
        have hi:i<P.cellsOf e:=by
         rcases Nat.lt_or_ge i us.length with g|g
         ·omega
         ·rw[List.getElem?_eq_none g]at hx;cases hx
        rw[<-au1,q2 i hi,hx]
      let f:Nat->List V:=λj=>if hj:j<len then Classical.choose (key j hj)else[]
      let us:Nat->List Value:=λj=>if hj:j<len then Classical.choose (Classical.choose_spec (key j hj))else[]
      have hf:∀j,j<len->Gd (· <w.heap.size) w (f j) (us j)/\WT P d e (f j)/\(us j).length=P.cellsOf e/\a.block<w.heap.size/\∀i x,(us j)[i]? =some x->w.cell? (a.add (j*P.cellsOf e+i))=some x:=by
       intro j hj;have:=Classical.choose_spec (Classical.choose_spec (key j hj));simp only[f,us,hj,dif_pos];exact this
      refine⟨[.ro (P.cellsOf e) len f],⟨?_,rfl,rfl⟩,λ_=>⟨len,f,rfl,Nat.le_trans h1 h2,λj hj=>(hf j hj).2.1⟩⟩;simp only[b8,Am.den];refine⟨_,_,rfl,⟨Nat.le_trans h1 h2,some a,cap,a,us,rfl,h1,λh0=>⟨rfl,(hf 0 h0).2.2.2.1⟩,λj hj=>?_⟩,rfl⟩;obtain⟨g1,g2,g3,g4,g5⟩:=hf j hj;exact⟨g1.den,g1.pure,g3,g1.one,g5⟩
    ·cases h
   ·exact⟨_,Gd.one1 rfl,λh=>absurd h he⟩
  ·rename_i cs _x c2 fs hu;rw[hu];split at h
   ·rename_i hc;have hk:=hpk _ hu;simp only[beq_iff_eq]at hk;cases hm:fs.toList.mapM (λf=>DataW.trod enc P w 0 sp held d f.type ((cs.drop f.offset).take (P.cellsOf f.type)))with
    |none=>rw[hm]at h;simp at h
    |some ys=>have:=fields _ _ _ _ _ hk hc hm;simpa using this
   ·cases h
  ·rename_i cs _x c2 n e hu;rw[hu];split at h
   ·rename_i hc;have hk:=hpk _ hu;simp only[Bool.and_eq_true,beq_iff_eq,decide_eq_true_eq]at hk;cases hm:(List.range n).mapM (λi=>DataW.trod enc P w 0 sp held d e ((cs.drop (i*P.cellsOf e)).take (P.cellsOf e)))with
    |none=>rw[hm]at h;simp at h
    |some ys=>exact items _ _ _ hk.2 (by rw[hc,hk.1]) λi hi=>bg7 hm i (by simpa using hi)
   ·cases h
  all_goals first
   | (cases h;done)
   | (rename_i hu;rw[hu];exact⟨_,Gd.one1 rfl,trivial⟩)
   |skip
theorem ev0{P:Program}{W:World}{base:Nat}{t:TypeId}{v:Value}(h:Value.okWide P W .any base t v):
 (∃fs,P.underlying t=some (.struct fs)/\∃cs,v= .agg cs)\/(∃n e,P.underlying t=some (.array n e)/\∃cs,v= .agg cs)\/
 ((∀fs,P.underlying t≠some (.struct fs))/\(∀n e,P.underlying t≠some (.array n e))/\v.cells.toList=[v]):=by
 unfold Value.okWide at h;split at h
 ·rename_i fs hu;obtain⟨cs,rfl,_⟩:=h;exact .inl ⟨fs,hu,cs,rfl⟩
 ·rename_i n e hu;obtain⟨cs,rfl,_⟩:=h;exact .inr (.inl ⟨n,e,hu,cs,rfl⟩)
 ·rename_i h1 h2;refine .inr (.inr ⟨h1,h2,?_⟩);cases v with
  |agg cs=>
   exfalso;unfold Cell.okWide at h;split at h<;>first| (rename_i hv;cases hv;done) | (unfold Cell.ok at h;split at h<;>first| (rename_i hv;cases hv;done) |exact h|skip) |skip
   all_goals simp_all
  |_=>rfl
theorem fe1{H:Type}{enc:TypeId×Value->H}{P:Program}{w:World}{sp:Nat->Bool}{held:Bool}(hp:cw6 P=true){t:TypeId}(ht:t<P.types.size){v:Value}{base:Nat}(hok:Value.okWide P w .any base t v)
 {x:DataW H} {ps:List MemPlace} (h:DataW.Trod enc P w 0 sp held t v x ps):∃y:V,den DB (· <w.heap.size) w DD y v/\WTV P t y:=by
 obtain⟨d,hd⟩:=h;obtain⟨vs,g,hw⟩:=f8 hp d t _ _ ht hd;rcases ev0 hok with⟨fs,hu,cs,rfl⟩ | ⟨n,e,hu,cs,rfl⟩ | ⟨h1,h2,hv⟩
 ·refine⟨.agg vs,?_,d,?_⟩
  ·simp only[Am.den];exact⟨cs.toList,rfl,g.den,g.one⟩
  ·rw[hu];exact⟨vs,rfl,hw⟩
 ·refine⟨.agg vs,?_,d,?_⟩
  ·simp only[Am.den];exact⟨cs.toList,rfl,g.den,g.one⟩
  ·rw[hu];exact⟨vs,rfl,hw⟩
 ·rw[hv]at g;have hl:=g.den;cases vs with
  |nil=>simp[b8]at hl
  |cons y ys=>
   simp only[b8]at hl;obtain⟨a,b,e1,e2,e3⟩:=hl;simp only[List.cons.injEq]at e1;obtain⟨rfl,rfl⟩:=e1;cases ys with
   |cons z zs=>simp[b8]at e3
   |nil=>
    refine⟨y,e2,d,?_⟩;split
    ·rename_i fs hu;exact absurd hu (h1 _)
    ·rename_i n e hu;exact absurd hu (h2 _ _)
    ·exact hw
def Le(v v':V):Prop:=∀β S w D u,den β S w D v u->den β S w D v' u
def LeL(a b:List V):Prop:=∀β S w D us,b8 β S w D a us->b8 β S w D b us
theorem Le.refl(v:V):Le v v:=λ_ _ _ _ _ h=>h
theorem LeL.refl(v:List V):LeL v v:=λ_ _ _ _ _ h=>h
theorem LeL.cons{v v':V}{l l':List V}(h:Le v v')(g:LeL l l'):LeL (v::l) (v'::l'):=by
 intro β S w D us hd;simp only[b8]at hd⊢;obtain⟨x,xs,rfl,h1,h2⟩:=hd;exact⟨x,xs,rfl,h _ _ _ _ _ h1,g _ _ _ _ _ h2⟩
theorem Le.agg{a b:List V}(h:LeL a b):Le (.agg a) (.agg b):=by
 intro β S w D u hd;simp only[Am.den]at hd⊢;obtain⟨us,h1,h2,h3⟩:=hd;exact⟨us,h1,h _ _ _ _ _ h2,h3⟩
theorem Le.ro{k n:Nat}{f g:Nat->List V}(h:∀j,j<n->LeL (f j) (g j)/\m8 (g j)=true):Le (.ro k n f) (.ro k n g):=by
 intro β S w D u hd;simp only[Am.den]at hd⊢;obtain⟨h0,A,m,a,us,h1,h2,h3,h4⟩:=hd;refine⟨h0,A,m,a,us,h1,h2,h3,λj hj=>?_⟩;obtain⟨g1,g2,g3,g4,g5⟩:=h4 j hj;exact⟨(h j hj).1 _ _ _ _ _ g1,(h j hj).2,g3,g4,g5⟩
theorem Le.ro_eq{k n:Nat}{f g:Nat->List V}(h:∀j,j<n->f j=g j/\m8 (g j)=true):Le (.ro k n f) (.ro k n g):=
 Le.ro λj hj=>⟨by rw[(h j hj).1];exact LeL.refl _,(h j hj).2⟩
def inR(a:Int):Prop:= -9223372036854775808<=a/\a<=9223372036854775807
theorem hs6{n:Int}(h:(Lit.int .i64 n).wf=true):inR n:=by
 simp only[Lit.wf,Bool.and_eq_true,decide_eq_true_eq]at h;have e1:IntKind.min .i64= -9223372036854775808:=by decide
 have e2:IntKind.max .i64=9223372036854775807:=by decide
 rw[e1,e2]at h;exact h
theorem SC.lawL{E:Env}{f:FuncId}{l:List V}(h:∃l',LeL l l'/\SC E f l' [] (.ret (.sc (.bool true)) [])){w:World}(hG:Glob E (· <w.heap.size) w){us:List Value}(hd:b8 (λ_=>none) (· <w.heap.size) w (λ_=>False) l us):
 Calls E.P f us.toArray w λe w'=>e= .returned (.bool true)/\Below w.heap.size w w':=by
 obtain⟨l',h1,h2⟩:=h;exact h2.law hG (h1 _ _ _ _ _ hd)
def uK(P:Program)(t:TypeId):Option (List TypeId):=match P.underlying t with|some (.struct fs)=>some (fs.toList.map (·.type)) |some (.array n e)=>some (List.replicate n e) |_=>none
def dy0(P:Program)(t:TypeId):Option IntKind:=match P.underlying t with|some (.int k)=>some k|_=>none
def hp6(P:Program)(t:TypeId):Bool:=match P.underlying t with|some .bool=>true|_=>false
theorem WT.int{P:Program}{d:Nat}{t:TypeId}{vs:List V}{k:IntKind}(h:WT P d t vs)(ht:dy0 P t=some k):∃n,vs=[.sc (.int k n)]/\(Lit.int k n).wf=true:=by
 cases d with
 |zero=>cases h
 |succ d=>
  unfold dy0 at ht;unfold WT at h;split at ht
  ·rename_i hu;rw[hu]at h;cases ht;exact h
  ·cases ht
theorem WT.i64{P:Program}{d:Nat}{t:TypeId}{vs:List V}(h:WT P d t vs)(ht:dy0 P t=some .i64):∃n,vs=[.sc (.int .i64 n)]/\inR n:=by
 obtain⟨n,h1,h2⟩:=h.int ht;exact⟨n,h1,hs6 h2⟩
theorem WT.bool{P:Program}{d:Nat}{t:TypeId}{vs:List V}(h:WT P d t vs)(ht:hp6 P t=true):∃b,vs=[.sc (.bool b)]:=by
 cases d with
 |zero=>cases h
 |succ d=>
  unfold hp6 at ht;unfold WT at h;split at ht
  ·rename_i hu;rw[hu]at h;exact h
  ·cases ht
theorem WT.str{P:Program}{d:Nat}{t:TypeId}{vs:List V}(h:WT P d t vs)(ht:lE P t=true):∃s,vs=[.sc (.string s)]/\s.size<=Go.maxLen:=by
 cases d with
 |zero=>cases h
 |succ d=>
  unfold lE at ht;unfold WT at h;split at ht
  ·rename_i hu;rw[hu]at h;exact h
  ·cases ht
theorem WT.slice{P:Program}{d:Nat}{t e:TypeId}{vs:List V}{c:Nat}(h:WT P d t vs)(ht:nZ P t=some e)(hc:P.cellsOf e=c)(h0:0<c):∃n f,vs=[.ro c n f]/\n<=Go.maxLen/\∃d',∀j,j<n->WT P d' e (f j):=by
 cases d with
 |zero=>cases h
 |succ d=>
  unfold nZ at ht;unfold WT at h;split at ht
  ·rename_i hu;rw[hu]at h;cases ht;subst hc;obtain⟨n,f,h1,h2,h3⟩:=h h0;exact⟨n,f,h1,h2,d,h3⟩
  ·cases ht
theorem WT.struct{P:Program}{d:Nat}{t:TypeId}{vs:List V}{l:List TypeId}(h:WT P d t vs)(ht:uK P t=some l):∃d',Cat (l.map (WT P d')) vs:=by
 cases d with
 |zero=>cases h
 |succ d=>
  unfold uK at ht;unfold WT at h;split at ht
  ·rename_i hu;rw[hu]at h;cases ht;refine⟨d,?_⟩;rw[List.map_map];exact h
  ·rename_i hu;rw[hu]at h;cases ht;exact⟨d,h⟩
  ·cases ht
theorem WTV.struct{P:Program}{t:TypeId}{v:V}{l:List TypeId}(h:WTV P t v)(ht:uK P t=some l):∃d vs,v= .agg vs/\WT P d t vs:=by
 obtain⟨d,h⟩:=h;unfold uK at ht;split at ht
 ·rename_i hu;rw[hu]at h;obtain⟨vs,h1,h2⟩:=h;exact⟨d,vs,h1,h2⟩
 ·rename_i hu;rw[hu]at h;obtain⟨vs,h1,h2⟩:=h;exact⟨d,vs,h1,h2⟩
 ·cases ht
theorem WTV.one{P:Program}{t:TypeId}{v:V}(h:WTV P t v)(ht:uK P t=none):∃d,WT P d t [v]:=by
 obtain⟨d,h⟩:=h;unfold uK at ht;refine⟨d,?_⟩;split at ht
 ·cases ht
 ·cases ht
 ·rename_i h1 h2;split at h
  ·rename_i hu;exact absurd hu (h1 _)
  ·rename_i hu;exact absurd hu (h2 _ _)
  ·exact h
theorem WTV.i64{P:Program}{t:TypeId}{v:V}(h:WTV P t v)(h1:uK P t=none)(h2:dy0 P t=some .i64):∃n,v= .sc (.int .i64 n)/\inR n:=by
 obtain⟨d,g⟩:=h.one h1;obtain⟨n,e,r⟩:=g.i64 h2;exact⟨n,by simpa using e,r⟩
theorem WTV.int{P:Program}{t:TypeId}{v:V}{k:IntKind}(h:WTV P t v)(h1:uK P t=none)(h2:dy0 P t=some k):∃n,v= .sc (.int k n)/\(Lit.int k n).wf=true:=by
 obtain⟨d,g⟩:=h.one h1;obtain⟨n,e,r⟩:=g.int h2;exact⟨n,by simpa using e,r⟩
theorem WTV.str{P:Program}{t:TypeId}{v:V}(h:WTV P t v)(h1:uK P t=none)(h2:lE P t=true):∃s,v= .sc (.string s)/\s.size<=Go.maxLen:=by
 obtain⟨d,g⟩:=h.one h1;obtain⟨n,e,r⟩:=g.str h2;exact⟨n,by simpa using e,r⟩
theorem WTV.slice{P:Program}{t e:TypeId}{v:V}{c:Nat}(h:WTV P t v)(h1:uK P t=none)(ht:nZ P t=some e)(hc:P.cellsOf e=c)(h0:0<c):∃n f,v= .ro c n f/\n<=Go.maxLen/\∃d',∀j,j<n->WT P d' e (f j):=by
 obtain⟨d,g⟩:=h.one h1;obtain⟨n,f,e,r⟩:=g.slice ht hc h0;exact⟨n,f,by simpa using e,r⟩
end Go.Am
/- Variables of the packages: what a datum lays, as abstract cells. -/
namespace Go.Am
open Go Go.RowKit
section
variable {H:Type}
def dm0(r:TypeId->DataW H->Option (List V)):List TypeId->List (DataW H)->Option (List V)
 | [],[]=>some []
 |t::ts,d::ds=>match r t d,dm0 r ts ds with|some a,some b=>some (a++b) |_,_=>none
 |_,_=>none
def gk0(r:DataW H->Option (List V)):List (DataW H)->Option (List (List V))
 | []=>some []
 |d::ds=>match r d,gk0 r ds with|some a,some b=>some (a::b) |_,_=>none
def dvD(P:Program):Nat->TypeId->DataW H->Option (List V)
 |0,_,_=>none
 |d+1,t,x=>match P.underlying t,x with
  |some .bool,.lit (.bool b)=>some [.sc (.bool b)]
  |some (.int _),.lit (.int k n)=>some [.sc (.int k n)]
  |some .string,.lit (.string l)=>some [.sc (.string ⟨l.toArray⟩)]
  |some (.slice e),.slice ds _=>if 0<P.cellsOf e then match gk0 (dvD P d e) ds with|some l=>some [.ro (P.cellsOf e) ds.length (λj=>l.getD j [])] |none=>none else none
  |some (.struct fs),.agg ds=>dm0 (dvD P d) (fs.toList.map (·.type)) ds
  |some (.array n e),.agg ds=>dm0 (dvD P d) (List.replicate n e) ds
  |_,_=>none
theorem dw0{r:DataW H->Option (List V)}:∀{ds:List (DataW H)} {l:List (List V)},gk0 r ds=some l->l.length=ds.length/\∀j d,ds[j]? =some d->r d=some (l.getD j [])
 | [],l,h=>by simp only[gk0,Option.some.injEq]at h;subst h;simp
 |d::ds,l,h=>by
  simp only[gk0]at h;split at h
  ·rename_i a b ha hb;simp only[Option.some.injEq]at h;subst h;obtain⟨h1,h2⟩:=dw0 hb;refine⟨by simp[h1],λj d' hj=>?_⟩;cases j with
   |zero=>simp only[List.getElem?_cons_zero,Option.some.injEq]at hj;subst hj;simpa using ha
   |succ j=>simpa using h2 j d' (by simpa using hj)
  ·cases h
theorem ao2 {enc : TypeId × Value -> H} {P : Program} {w : World} {sp : Nat -> Bool} {held : Bool} (hp : cw6 P = true) :
    ∀ (f d : Nat) (t : TypeId) (cs : List Value) (x : DataW H) (ps : List MemPlace) (vs : List V), t < P.types.size -> DataW.trod enc P w 0 sp held f t cs = some (x, ps) -> dvD P d t x = some vs -> Gd (· < w.heap.size) w vs cs := by
  intro f
  induction f with
  | zero => intro d t cs x ps vs _ h; simp [DataW.trod] at h
  | succ f ih =>
    intro d t cs x ps vs ht h hv;cases d with
    | zero => simp [dvD] at hv
    | succ d =>
    have fields : ∀ (fs : List Field) (o m : Nat) (cs : List Value) (ys : List (DataW H × List MemPlace)) (vs : List V), aa9 P fs o = some m -> cs.length = m ->
        ys.length = fs.length -> (∀ (i : Nat) (g : Field), fs[i]? = some g -> DataW.trod enc P w 0 sp held f g.type ((cs.drop g.offset).take (P.cellsOf g.type)) = ys[i]?) -> dm0 (dvD P d) (fs.map (·.type)) (ys.map (·.1)) = some vs ->
        Gd (· < w.heap.size) w vs (cs.drop o) := by
      intro fs
      induction fs with
      | nil =>
        intro o m cs ys vs hp hl hyl hm hc;have : ys = [] := List.length_eq_zero_iff.1 (by simpa using hyl);subst this;simp only [List.map_nil, dm0, Option.some.injEq] at hc;subst hc;simp only [aa9, Option.some.injEq] at hp;subst hp;rw [List.drop_of_length_le (by omega)];exact Gd.nil
      | cons g fs ihf =>
        intro o m cs ys vs hp hl hyl hm hc;simp only [aa9] at hp;split at hp
        · rename_i ho;obtain ⟨ho, hft⟩ := ho;cases ys with
          | nil => simp at hyl
          | cons y zs =>
            have hy := hm 0 g rfl;simp only [List.getElem?_cons_zero] at hy;simp only [List.map_cons, dm0] at hc;split at hc
            · rename_i a b ha hb;simp only [Option.some.injEq] at hc;subst hc;obtain ⟨y1, y2⟩ := y;have g1 := ih d _ _ y1 y2 a hft hy ha;have g2 := ihf _ _ _ _ _ hp hl (by simpa using hyl) (λi g hi => by simpa using hm (i + 1) g (by simpa using hi)) hb;rw [ho] at g1;have := g1.app g2
              rwa [<- List.drop_drop, List.take_append_drop] at this
            · cases hc
        · cases hp
    have items : ∀ (n : Nat) (e : TypeId) (cs : List Value) (ys : List (DataW H × List MemPlace)) (vs : List V), e < P.types.size -> cs.length = n * P.cellsOf e -> ys.length = n ->
        (∀ i y, ys[i]? = some y -> DataW.trod enc P w 0 sp held f e ((cs.drop (i * P.cellsOf e)).take (P.cellsOf e)) = some y) -> dm0 (dvD P d) (List.replicate n e) (ys.map (·.1)) = some vs ->
        Gd (· < w.heap.size) w vs cs := by
      intro n
      induction n with
      | zero =>
        intro e cs ys vs _ hl hy _ hc;have : cs = [] := List.length_eq_zero_iff.1 (by omega);subst this;have : ys = [] := List.length_eq_zero_iff.1 (by omega);subst this;simp only [List.replicate_zero, List.map_nil, dm0, Option.some.injEq] at hc;subst hc;exact Gd.nil
      | succ n ihn =>
        intro e cs ys vs het hl hyl hys hc;cases ys with
        | nil => simp at hyl
        | cons y ys =>
          simp only [List.replicate_succ, List.map_cons, dm0] at hc;split at hc
          · rename_i a b ha hb;simp only [Option.some.injEq] at hc;subst hc;have h0 := hys 0 y rfl;simp only [Nat.zero_mul, List.drop_zero] at h0;obtain ⟨y1, y2⟩ := y;have g1 := ih d _ _ y1 y2 a het h0 ha
            have g2 := ihn e (cs.drop (P.cellsOf e)) ys b het (by rw [List.length_drop, hl, Nat.add_mul]; omega) (by simpa using hyl) (λi y hi => by
              have := hys (i + 1) y (by simpa using hi);rw [List.drop_drop, show P.cellsOf e + i * P.cellsOf e = (i + 1) * P.cellsOf e by rw [Nat.add_mul]; omega]
              exact this) hb
            have := g1.app g2
            rwa [List.take_append_drop] at this
          · cases hc
    have hpk : ∀ x, P.underlying t = some x -> (match (some x : Option TypeDesc) with
        | some (.struct fs) => aa9 P fs.toList 0 == some (P.cellsOf t)
        | some (.array n e) => P.cellsOf t == n * P.cellsOf e && decide (e < P.types.size)
        | some (.slice e) => decide (e < P.types.size)
        | _ => true) = true := by
      intro x hx;have := List.all_eq_true.1 hp t (by simp only [List.mem_range]; exact ht)
      rwa [hx] at this
    unfold dvD at hv;split at hv
    · rename_i b hu;unfold DataW.trod at h;rw [hu] at h;split at h <;> simp_all
      · subst hv; obtain ⟨⟨rfl, rfl⟩, rfl⟩ := h; exact Gd.one1 rfl
    · rename_i k0 k n hu;unfold DataW.trod at h;rw [hu] at h;simp only [Option.some.injEq] at hv;subst hv;split at h <;> first | (rename_i hq; cases hq; done) | skip
      all_goals first
        | (split at h
           · simp only [Option.some.injEq, Prod.mk.injEq, DataW.lit.injEq, Lit.int.injEq] at h;obtain ⟨⟨rfl, rfl⟩, rfl⟩ := h;rename_i hk; obtain ⟨rfl, _⟩ := hk;exact Gd.one1 rfl
           · cases h)
        | (simp at h; done)
        | skip
    · rename_i l hu;unfold DataW.trod at h;rw [hu] at h;simp only [Option.some.injEq] at hv;subst hv;split at h <;> first | (rename_i hq; cases hq; done) | skip
      all_goals first
        | (split at h
           · simp only [Option.some.injEq, Prod.mk.injEq, DataW.lit.injEq, Lit.string.injEq] at h;obtain ⟨rfl, rfl⟩ := h;exact Gd.one1 rfl
           · cases h)
        | (simp at h; done)
        | skip
    · rename_i e ds rest hu;split at hv
      · rename_i he;split at hv
        · rename_i l hl;simp only [Option.some.injEq] at hv;subst hv;rcases DataW.trod_slice hu h with ⟨_, hx⟩ | ⟨a, len, cap, elems, rest', n, q1, hcs, hx, q2, q3, q4, hlen, hel, q5⟩
          · simp at hx
          · simp only [Prod.mk.injEq, DataW.slice.injEq] at hx;obtain ⟨⟨rfl, rfl⟩, _⟩ := hx;obtain ⟨hl1, hl2⟩ := dw0 hl;have hlen' : (elems.map (·.1)).length = len := by simpa using hlen
            have key : ∀ j, j < len -> ∃ us : List Value, Gd (· < w.heap.size) w (l.getD j []) us /\ us.length = P.cellsOf e /\ a.block < w.heap.size /\ ∀ i x, us[i]? = some x -> w.cell? (a.add (j * P.cellsOf e + i)) = some x := by
              intro j hj;have hy := hel j hj;cases hcs' : w.cells? 0 (a.add (j * P.cellsOf e)) (P.cellsOf e) with
              | none =>
                rw [hcs'] at hy;simp only [Option.bind_none] at hy;have : j < elems.length := by omega
                rw [List.getElem?_eq_getElem this] at hy;cases hy
              | some us =>
                rw [hcs'] at hy;have hjl : j < elems.length := by omega
                rw [List.getElem?_eq_getElem hjl] at hy;simp only [Option.bind_some] at hy;have hd := hl2 j (elems[j].1) (by rw [List.getElem?_map, List.getElem?_eq_getElem hjl]; rfl)
                have g1 := ih d e us elems[j].1 elems[j].2 _ (by simpa using hpk _ hu) (by have : n = f := by omega
                                                                                           subst this; exact hy) hd
                obtain ⟨_, r1, r2⟩ := World.cells?_some hcs';have hb := World.cells?_block hcs' he;rw [gY] at hb;refine ⟨us, g1, r1, hb, λi x hx => ?_⟩
                have hi : i < P.cellsOf e := by
                  rcases Nat.lt_or_ge i us.length with g | g
                  · omega
                  · rw [List.getElem?_eq_none g] at hx; cases hx
                rw [<- au1, r2 i hi, hx]
            let us : Nat -> List Value := λj => if hj : j < len then Classical.choose (key j hj) else []
            have hus : ∀ j, j < len -> Gd (· < w.heap.size) w (l.getD j []) (us j) /\ (us j).length = P.cellsOf e /\ a.block < w.heap.size /\ ∀ i x, (us j)[i]? = some x -> w.cell? (a.add (j * P.cellsOf e + i)) = some x := by
              intro j hj;have := Classical.choose_spec (key j hj);simp only [us, hj, dif_pos];exact this
            subst hcs;rw [hlen'];refine ⟨?_, rfl, rfl⟩;simp only [b8, Am.den];refine ⟨_, _, rfl, ⟨Nat.le_trans q3 q4, some a, cap, a, us, rfl, q3, λh0 => ⟨rfl, (hus 0 h0).2.2.1⟩, λj hj => ?_⟩, rfl⟩;obtain ⟨g1, g2, g3, g4⟩ := hus j hj;exact ⟨g1.den, g1.pure, g2, g1.one, g4⟩
        · cases hv
      · cases hv
    · rename_i fs ds hu;obtain ⟨xs, n, hn, hx, hcl, hxl, hall⟩ := DataW.trod_struct hu h;obtain rfl : n = f := by omega
      simp only [Prod.mk.injEq, DataW.agg.injEq] at hx;obtain ⟨rfl, _⟩ := hx;have hk := hpk _ hu;simp only [beq_iff_eq] at hk;have := fields fs.toList 0 _ cs xs vs hk hcl (by simpa using hxl) (λi g hi => hall i g (by simpa using hi)) hv;simpa using this
    · rename_i n e ds hu;obtain ⟨xs, m, hn, hx, hcl, hxl, hall⟩ := DataW.trod_array hu h;obtain rfl : m = f := by omega
      simp only [Prod.mk.injEq, DataW.agg.injEq] at hx;obtain ⟨rfl, _⟩ := hx;have hk := hpk _ hu;simp only [Bool.and_eq_true, beq_iff_eq, decide_eq_true_eq] at hk
      exact items n e cs xs vs hk.2 (by rw [hcl, hk.1]) hxl (λi y hi => by
        have hi' : i < n := by rw [<- hxl]; exact (List.getElem?_eq_some_iff.1 hi).1
        rw [hall i hi', hi]) hv
    · cases hv
end
end Go.Am
/- Variables of the packages, as the row lists them. -/
namespace Go.Am
open Go Go.RowKit
theorem ah5{P:Program}{W:World}:∀{laid:List (String×DataW Unit)} {ps:List MemPlace},DataW.LaidVars P W laid ps->∀n D,(n,D)∈laid->
 ∃g t cs fuel p,P.globalNamed n=some g/\(P.globals[g]?).map (·.type)=some t/\W.var? P n=some cs/\DataW.trod (λ_=>()) P W 0 (λ_=>true) false fuel t cs.toList=some (D,p)
 | [],ps,h,n,D,hm=>by cases hm
 | (n',D')::r,ps,h,n,D,hm=>by
  obtain⟨g,t,cs,fuel,p,q,h1,h2,h3,h4,h5,_⟩:=h;rcases List.mem_cons.1 hm with e|e
  ·cases e;exact⟨g,t,cs,fuel,p,h1,h2,h3,h4⟩
  ·exact ah5 h5 n D e
theorem ga1{P:Program}{W:World}{n:String}{g:Nat}{cs:Array Value}(hg:P.globalNamed n=some g)(h:W.var? P n=some cs)(h0:0<cs.size):g<W.heap.size:=by
 have h1:=World.var?_cell hg h 0;rw[Array.getElem?_eq_getElem h0]at h1;rcases Nat.lt_or_ge g W.heap.size with k|k
 ·exact k
 ·simp[World.cell?,Array.getElem?_eq_none k]at h1
structure GlobAt(P:Program)(laid:List (String×DataW Unit))(g:Nat)(cs:List V):Prop where
 ex:∃n D t d,(n,D)∈laid/\P.globalNamed n=some g/\(P.globals[g]?).map (·.type)=some t/\t<P.types.size/\dvD P d t D=some cs/\cs≠[]
theorem gx8{P:Program}(hp:cw6 P=true){laid:List (String×DataW Unit)}{W:World}(h:laidMet P laid W){g:Nat}{cs:List V}(hg:GlobAt P laid g cs):
 den (λ_=>none) (· <W.heap.size) W (λ_=>False) (.rp cs) (.pointer (some ⟨g,0,none⟩)):=by
 obtain⟨n,D,t,d,hm,h1,h2,h3,h4,h5⟩:=hg.ex;obtain⟨ps,hl,_⟩:=h;obtain⟨g',t',us,fuel,p,k1,k2,k3,k4⟩:=ah5 hl n D hm;obtain rfl:=Option.some.inj (h1.symm.trans k1);obtain rfl:=Option.some.inj (h2.symm.trans k2);have gd:=ao2 hp fuel d t us.toList D p cs h3 k4 h4
 have hlen:0<us.size:=by
  have:=gd.den;rcases Nat.eq_zero_or_pos us.size with e|e
  ·exfalso;have:us.toList=[]:=by simpa using e
   rw[this]at gd;cases cs with
   |nil=>exact h5 rfl
   |cons c cs=>
    have:=gd.den;simp[b8]at this
  ·exact e
 simp only[Am.den];refine⟨_,us.toList,rfl,ga1 h1 k3 hlen,gd.den,gd.pure,gd.one,λi x hx=>?_⟩;rw[dP,Nat.zero_add,World.var?_cell h1 k3 i];simpa using hx
theorem Glob.of_laid{E:Env}{laid:List (String×DataW Unit)}{W:World}(hp:cw6 E.P=true)(h:laidMet E.P laid W)
 (hg:∀g cs,E.glob g=some cs->GlobAt E.P laid g cs) (hi:∀p∈E.inv,p.1<W.heap.size/\∃x,W.heap[p.1]? =some x/\p.2 x):Glob E (· <W.heap.size) W:=
 ⟨λg cs hc=>gx8 hp h (hg g cs hc),hi⟩
theorem hh9{W:World}{g:Nat}{x:Value}(h:W.cell? ⟨g,0,none⟩=some x):g<W.heap.size:=by
 rcases Nat.lt_or_ge g W.heap.size with k|k
 ·exact k
 ·simp[World.cell?,Array.getElem?_eq_none k]at h
def bl9(k:IntKind):Obj->Prop:=λo=>∃c t fr m,o= .cells c t fr/\c[0]? =some (.int k m)
def ao7(cs:Array Value):Obj->Prop:=λo=>∃t fr,o= .cells cs t fr
theorem fe2{W:World}{g:Nat}{k:IntKind}(h:∃m,W.cell? ⟨g,0,none⟩=some (.int k m)):g<W.heap.size/\∃x,W.heap[g]? =some x/\bl9 k x:=by
 obtain⟨m,h⟩:=h;refine⟨hh9 h,?_⟩;unfold World.cell? at h;split at h
 ·rename_i c t fr hh;simp only[Option.isSome_none,Bool.false_eq_true,if_false]at h;exact⟨_,hh,c,t,fr,m,rfl,h⟩
 ·cases h
theorem dj7{W:World}{g:Nat}{k:IntKind}{x:Obj}(h:W.heap[g]? =some x)(hi:bl9 k x):∃m,W.cell? ⟨g,0,none⟩=some (.int k m):=by
 obtain⟨c,t,fr,m,rfl,hc⟩:=hi;exact⟨m,by simp only[World.cell?,h];simpa using hc⟩
theorem em5{P:Program}{W:World}{n:String}{g:Nat}{cs:Array Value}(hg:P.globalNamed n=some g)(h:W.var? P n=some cs):g<W.heap.size/\∃x,W.heap[g]? =some x/\ao7 cs x:=by
 simp only[World.var?,hg,Option.bind_some]at h;split at h
 ·rename_i c t fr hh;cases h;exact⟨(Array.getElem?_eq_some_iff.1 hh).1,_,hh,t,fr,rfl⟩
 ·cases h
theorem di3{P:Program}{W:World}{n:String}{g:Nat}{cs:Array Value}{x:Obj}(hg:P.globalNamed n=some g)(h:W.heap[g]? =some x)(hi:ao7 cs x):W.var? P n=some cs:=by
 obtain⟨t,fr,rfl⟩:=hi;simp only[World.var?,hg,Option.bind_some,h]
theorem SC.ext{E:Env}(hX:SoundX E){f:FuncId}{args:List V}{v:V}(h:E.ext f args=some v):SC E f args [] (.ret v []):=by
 obtain⟨h1,h2,h3⟩:=hX f args v h;refine⟨h1,λβ S w us hd hm hG=>(h3 β S _ w us hd hG hm.st).mono ?_⟩;rintro e w' ⟨u,S',rfl,hb,hv,hs1,hs2⟩;have hβ:∀i,β i=none:=λi=>hm.dead i (by simp[hp]);refine⟨u,β,S',rfl,?_,?_,?_,λ_ _ _ h=>h⟩
 ·refine(hm.below hb).wider' hs1 (λb hs=>?_) (λi b m hi=>by rw[hβ i]at hi;cases hi);rcases hs2 b hs with h| ⟨_,h⟩
  ·exact Nat.lt_of_lt_of_le (hm.st b h) hb.size
  ·exact h
 ·exact q8 (λ_ h=>h) (λ_ _=>rfl) _ _ h2 hv
 ·refine⟨hb.os,hb.tape,hb.output,hb.size,λb h _=>hb.block b h,hs1,λb hs=>?_,λi b m h h0=>.inr ⟨i,m,h0,h⟩⟩;rcases hs2 b hs with h| ⟨h,_⟩
  ·exact .inl h
  ·exact .inr (.inl h)
end Go.Am
/- The executor made quick: frames as trees, memory as a list of what has changed. The same answers. -/
namespace Go.Am
open Go
inductive FT where
 |e
 |nd (l:FT) (v:V) (r:FT)
noncomputable def FT.get(T:FT):Nat->V:=
 FT.rec (motive:=λ_=>Nat->V) (λ_=>.junk)
  (λ_ v _ gl gr t=>Nat.rec (motive:=λ_=>V) v (λt _=>Bool.rec (motive:=λ_=>V) (gr (Nat.div t 2)) (gl (Nat.div t 2)) (Nat.beq (Nat.mod t 2) 0)) t) T
noncomputable def FT.has(T:FT):Nat->Bool:=
 FT.rec (motive:=λ_=>Nat->Bool) (λ_=>false)
  (λ_ v _ gl gr t=>Nat.rec (motive:=λ_=>Bool) true (λt _=>Bool.rec (motive:=λ_=>Bool) (gr (Nat.div t 2)) (gl (Nat.div t 2)) (Nat.beq (Nat.mod t 2) 0)) t) T
noncomputable def FT.set(T:FT):Nat->V->FT:=
 FT.rec (motive:=λ_=>Nat->V->FT) (λ_ _=>.e)
  (λl a r sl sr t v=>Nat.rec (motive:=λ_=>FT) (.nd l v r) (λt _=>Bool.rec (motive:=λ_=>FT) (.nd l a (sr (Nat.div t 2) v)) (.nd (sl (Nat.div t 2) v) a r) (Nat.beq (Nat.mod t 2) 0)) t) T
noncomputable def FT.setK(T:FT):Nat->V->(FT->Option Ans)->Option Ans:=
 FT.rec (motive:=λ_=>Nat->V->(FT->Option Ans)->Option Ans) (λ_ _ k=>k .e)
  (λl a r sl sr t v k=>Nat.rec (motive:=λ_=>Option Ans) (k (.nd l v r)) (λt _=>Bool.rec (motive:=λ_=>Option Ans) (sr (Nat.div t 2) v λr=>k (.nd l a r)) (sl (Nat.div t 2) v λl=>k (.nd l a r)) (Nat.beq (Nat.mod t 2) 0)) t) T
noncomputable def FT.add(T:FT):Nat->V->FT:=
 FT.rec (motive:=λ_=>Nat->V->FT) (λ_ v=>.nd .e v .e)
  (λl a r sl sr t v=>Nat.rec (motive:=λ_=>FT) (.nd l v r) (λt _=>Bool.rec (motive:=λ_=>FT) (.nd l a (sr (Nat.div t 2) v)) (.nd (sl (Nat.div t 2) v) a r) (Nat.beq (Nat.mod t 2) 0)) t) T
noncomputable def FT.addK(T:FT):Nat->V->(FT->Option Ans)->Option Ans:=
 FT.rec (motive:=λ_=>Nat->V->(FT->Option Ans)->Option Ans) (λ_ v k=>k (.nd .e v .e))
  (λl a r sl sr t v k=>Nat.rec (motive:=λ_=>Option Ans) (k (.nd l v r)) (λt _=>Bool.rec (motive:=λ_=>Option Ans) (sr (Nat.div t 2) v λr=>k (.nd l a r)) (sl (Nat.div t 2) v λl=>k (.nd l a r)) (Nat.beq (Nat.mod t 2) 0)) t) T
theorem FT.get_l(l:FT)(v:V)(r:FT)(t:Nat):(FT.nd l v r).get (2*t+1)=l.get t:=by
 show(Bool.rec (motive:=λ_=>V) _ _ (Nat.beq (2*t%2) 0):V)=_;have h1:2*t%2=0:=by omega
 have h2:Nat.div (2*t) 2=t:=by show 2*t/2=t;omega
 rw[h1,h2];rfl
theorem FT.get_r(l:FT)(v:V)(r:FT)(t:Nat):(FT.nd l v r).get (2*t+2)=r.get t:=by
 show(Bool.rec (motive:=λ_=>V) _ _ (Nat.beq ((2*t+1)%2) 0):V)=_;have h1:(2*t+1)%2=1:=by omega
 have h2:Nat.div (2*t+1) 2=t:=by show(2*t+1)/2=t;omega
 rw[h1,h2];rfl
theorem FT.has_e(t:Nat):FT.e.has t=false:=rfl
theorem FT.has_0(l:FT)(v:V)(r:FT):(FT.nd l v r).has 0=true:=rfl
theorem FT.has_l(l:FT)(v:V)(r:FT)(t:Nat):(FT.nd l v r).has (2*t+1)=l.has t:=by
 show(Bool.rec (motive:=λ_=>Bool) _ _ (Nat.beq (2*t%2) 0):Bool)=_;have h1:2*t%2=0:=by omega
 have h2:Nat.div (2*t) 2=t:=by show 2*t/2=t;omega
 rw[h1,h2];rfl
theorem FT.has_r(l:FT)(v:V)(r:FT)(t:Nat):(FT.nd l v r).has (2*t+2)=r.has t:=by
 show(Bool.rec (motive:=λ_=>Bool) _ _ (Nat.beq ((2*t+1)%2) 0):Bool)=_;have h1:(2*t+1)%2=1:=by omega
 have h2:Nat.div (2*t+1) 2=t:=by show(2*t+1)/2=t;omega
 rw[h1,h2];rfl
theorem FT.set_l(l:FT)(a:V)(r:FT)(t:Nat)(v:V):(FT.nd l a r).set (2*t+1) v= .nd (l.set t v) a r:=by
 show(Bool.rec (motive:=λ_=>FT) _ _ (Nat.beq (2*t%2) 0):FT)=_;have h1:2*t%2=0:=by omega
 have h2:Nat.div (2*t) 2=t:=by show 2*t/2=t;omega
 rw[h1,h2];rfl
theorem FT.set_r(l:FT)(a:V)(r:FT)(t:Nat)(v:V):(FT.nd l a r).set (2*t+2) v= .nd l a (r.set t v):=by
 show(Bool.rec (motive:=λ_=>FT) _ _ (Nat.beq ((2*t+1)%2) 0):FT)=_;have h1:(2*t+1)%2=1:=by omega
 have h2:Nat.div (2*t+1) 2=t:=by show(2*t+1)/2=t;omega
 rw[h1,h2];rfl
theorem FT.add_l(l:FT)(a:V)(r:FT)(t:Nat)(v:V):(FT.nd l a r).add (2*t+1) v= .nd (l.add t v) a r:=by
 show(Bool.rec (motive:=λ_=>FT) _ _ (Nat.beq (2*t%2) 0):FT)=_;have h1:2*t%2=0:=by omega
 have h2:Nat.div (2*t) 2=t:=by show 2*t/2=t;omega
 rw[h1,h2];rfl
theorem FT.add_r(l:FT)(a:V)(r:FT)(t:Nat)(v:V):(FT.nd l a r).add (2*t+2) v= .nd l a (r.add t v):=by
 show(Bool.rec (motive:=λ_=>FT) _ _ (Nat.beq ((2*t+1)%2) 0):FT)=_;have h1:(2*t+1)%2=1:=by omega
 have h2:Nat.div (2*t+1) 2=t:=by show(2*t+1)/2=t;omega
 rw[h1,h2];rfl
theorem o0(t:Nat):t=0\/(∃s,t=2*s+1)\/∃s,t=2*s+2:=by
 by_cases h:t=0
 ·exact .inl h
 ·by_cases h2:t%2=1
  ·exact .inr (.inl ⟨t/2,by omega⟩)
  ·exact .inr (.inr ⟨t/2-1,by omega⟩)
theorem FT.setK_eq:∀(T:FT) (t:Nat) (v:V) (k:FT->Option Ans),T.setK t v k=k (T.set t v)
 | .e,_,_,_=>rfl
 | .nd l a r,t,v,k=>by
  rcases o0 t with rfl| ⟨s,rfl⟩ | ⟨s,rfl⟩
  ·rfl
  ·rw[FT.set_l,<-FT.setK_eq l s v λl=>k (.nd l a r)];show(Bool.rec (motive:=λ_=>Option Ans) _ _ (Nat.beq (2*s%2) 0):Option Ans)=_;have h1:2*s%2=0:=by omega
   have h2:Nat.div (2*s) 2=s:=by show 2*s/2=s;omega
   rw[h1,h2];rfl
  ·rw[FT.set_r,<-FT.setK_eq r s v λr=>k (.nd l a r)];show(Bool.rec (motive:=λ_=>Option Ans) _ _ (Nat.beq ((2*s+1)%2) 0):Option Ans)=_;have h1:(2*s+1)%2=1:=by omega
   have h2:Nat.div (2*s+1) 2=s:=by show(2*s+1)/2=s;omega
   rw[h1,h2];rfl
theorem FT.addK_eq:∀(T:FT) (t:Nat) (v:V) (k:FT->Option Ans),T.addK t v k=k (T.add t v)
 | .e,_,_,_=>rfl
 | .nd l a r,t,v,k=>by
  rcases o0 t with rfl| ⟨s,rfl⟩ | ⟨s,rfl⟩
  ·rfl
  ·rw[FT.add_l,<-FT.addK_eq l s v λl=>k (.nd l a r)];show(Bool.rec (motive:=λ_=>Option Ans) _ _ (Nat.beq (2*s%2) 0):Option Ans)=_;have h1:2*s%2=0:=by omega
   have h2:Nat.div (2*s) 2=s:=by show 2*s/2=s;omega
   rw[h1,h2];rfl
  ·rw[FT.add_r,<-FT.addK_eq r s v λr=>k (.nd l a r)];show(Bool.rec (motive:=λ_=>Option Ans) _ _ (Nat.beq ((2*s+1)%2) 0):Option Ans)=_;have h1:(2*s+1)%2=1:=by omega
   have h2:Nat.div (2*s+1) 2=s:=by show(2*s+1)/2=s;omega
   rw[h1,h2];rfl
theorem FT.get_has:∀(T:FT) (t:Nat),T.has t=false->T.get t= .junk
 | .e,_,_=>rfl
 | .nd l a r,t,h=>by
  rcases o0 t with rfl| ⟨s,rfl⟩ | ⟨s,rfl⟩
  ·cases h
  ·rw[FT.has_l]at h;rw[FT.get_l];exact FT.get_has l s h
  ·rw[FT.has_r]at h;rw[FT.get_r];exact FT.get_has r s h
theorem FT.has_set:∀(T:FT) (t s:Nat) (v:V),(T.set t v).has s=T.has s
 | .e,_,_,_=>rfl
 | .nd l a r,t,s,v=>by
  rcases o0 t with rfl| ⟨t,rfl⟩ | ⟨t,rfl⟩
  ·rcases o0 s with rfl| ⟨s,rfl⟩ | ⟨s,rfl⟩
   ·rfl
   ·show(FT.nd l v r).has _=_;rw[FT.has_l,FT.has_l]
   ·show(FT.nd l v r).has _=_;rw[FT.has_r,FT.has_r]
  ·rw[FT.set_l];rcases o0 s with rfl| ⟨s,rfl⟩ | ⟨s,rfl⟩
   ·rfl
   ·rw[FT.has_l,FT.has_l,FT.has_set l]
   ·rw[FT.has_r,FT.has_r]
  ·rw[FT.set_r];rcases o0 s with rfl| ⟨s,rfl⟩ | ⟨s,rfl⟩
   ·rfl
   ·rw[FT.has_l,FT.has_l]
   ·rw[FT.has_r,FT.has_r,FT.has_set r]
theorem FT.get_set:∀(T:FT) (t s:Nat) (v:V),(T.set t v).get s=if s=t/\T.has t=true then v else T.get s
 | .e,t,s,v=>by simp[FT.has_e];rfl
 | .nd l a r,t,s,v=>by
  rcases o0 t with rfl| ⟨t,rfl⟩ | ⟨t,rfl⟩
  ·rcases o0 s with rfl| ⟨s,rfl⟩ | ⟨s,rfl⟩
   ·rw[if_pos ⟨rfl,rfl⟩];rfl
   ·rw[if_neg (by omega)];show(FT.nd l v r).get _=_;rw[FT.get_l,FT.get_l]
   ·rw[if_neg (by omega)];show(FT.nd l v r).get _=_;rw[FT.get_r,FT.get_r]
  ·rw[FT.set_l,FT.has_l];rcases o0 s with rfl| ⟨s,rfl⟩ | ⟨s,rfl⟩
   ·rw[if_neg (by omega)];rfl
   ·rw[FT.get_l,FT.get_l,FT.get_set l];by_cases h:s=t
    ·subst h;simp
    ·rw[if_neg (λg=>h g.1),if_neg (λg=>h (by omega))]
   ·rw[if_neg (by omega),FT.get_r,FT.get_r]
  ·rw[FT.set_r,FT.has_r];rcases o0 s with rfl| ⟨s,rfl⟩ | ⟨s,rfl⟩
   ·rw[if_neg (by omega)];rfl
   ·rw[if_neg (by omega),FT.get_l,FT.get_l]
   ·rw[FT.get_r,FT.get_r,FT.get_set r];by_cases h:s=t
    ·subst h;simp
    ·rw[if_neg (λg=>h g.1),if_neg (λg=>h (by omega))]
def FT.Inv(T:FT)(n:Nat):Prop:=∀t,T.has t=true↔t<n
theorem FT.inv_e:FT.e.Inv 0:=λt=>by simp[FT.has_e]
theorem FT.inv_l{l:FT}{v:V}{r:FT}{n:Nat}(h:(FT.nd l v r).Inv n):l.Inv (n/2):=λt=>by
 have:=h (2*t+1);rw[FT.has_l]at this;rw[this];omega
theorem FT.inv_r{l:FT}{v:V}{r:FT}{n:Nat}(h:(FT.nd l v r).Inv n):r.Inv ((n-1)/2):=λt=>by
 have:=h (2*t+2);rw[FT.has_r]at this;rw[this];omega
theorem FT.inv_set{T:FT}{n t:Nat}{v:V}(h:T.Inv n):(T.set t v).Inv n:=λs=>by rw[FT.has_set];exact h s
theorem FT.add_spec:∀(T:FT) (n:Nat) (v:V),T.Inv n->(T.add n v).Inv (n+1)/\∀s,(T.add n v).get s=if s=n then v else T.get s
 | .e,n,v,h=>by
  have h0:n=0:=by
   have:=h 0;rw[FT.has_e]at this;by_cases g:n=0
   ·exact g
   ·exact absurd (this.2 (by omega)) (by decide)
  subst h0;refine⟨λs=>?_,λs=>?_⟩
  ·show(FT.nd .e v .e).has s=true↔_;rcases o0 s with rfl| ⟨s,rfl⟩ | ⟨s,rfl⟩
   ·simp[FT.has_0]
   ·rw[FT.has_l];simp[FT.has_e]
   ·rw[FT.has_r];simp[FT.has_e]
  ·show(FT.nd .e v .e).get s=_;rcases o0 s with rfl| ⟨s,rfl⟩ | ⟨s,rfl⟩
   ·rfl
   ·rw[FT.get_l,if_neg (by omega)];rfl
   ·rw[FT.get_r,if_neg (by omega)];rfl
 | .nd l a r,n,v,h=>by
  have h0:0<n:=(h 0).1 rfl;rcases o0 n with rfl| ⟨m,rfl⟩ | ⟨m,rfl⟩
  ·omega
  ·rw[FT.add_l];have hl:=FT.inv_l h;rw[show(2*m+1)/2=m by omega]at hl;obtain⟨g1,g2⟩:=FT.add_spec l m v hl;refine⟨λs=>?_,λs=>?_⟩
   ·rcases o0 s with rfl| ⟨s,rfl⟩ | ⟨s,rfl⟩
    ·simp[FT.has_0]
    ·rw[FT.has_l,g1 s];omega
    ·have:=h (2*s+2);rw[FT.has_r]at this⊢;rw[this];omega
   ·rcases o0 s with rfl| ⟨s,rfl⟩ | ⟨s,rfl⟩
    ·rw[if_neg (by omega)];rfl
    ·rw[FT.get_l,FT.get_l,g2];by_cases hs:s=m
     ·rw[if_pos hs,if_pos (by omega)]
     ·rw[if_neg hs,if_neg (by omega)]
    ·rw[FT.get_r,FT.get_r,if_neg (by omega)]
  ·rw[FT.add_r];have hl:=FT.inv_r h;rw[show(2*m+2-1)/2=m by omega]at hl;obtain⟨g1,g2⟩:=FT.add_spec r m v hl;refine⟨λs=>?_,λs=>?_⟩
   ·rcases o0 s with rfl| ⟨s,rfl⟩ | ⟨s,rfl⟩
    ·simp[FT.has_0]
    ·have:=h (2*s+1);rw[FT.has_l]at this⊢;rw[this];omega
    ·rw[FT.has_r,g1 s];omega
   ·rcases o0 s with rfl| ⟨s,rfl⟩ | ⟨s,rfl⟩
    ·rw[if_neg (by omega)];rfl
    ·rw[FT.get_l,FT.get_l,if_neg (by omega)]
    ·rw[FT.get_r,FT.get_r,g2];by_cases hs:s=m
     ·rw[if_pos hs,if_pos (by omega)]
     ·rw[if_neg hs,if_neg (by omega)]
noncomputable def FT.toL(T:FT)(n:Nat):List V:=(List.range n).map T.get
theorem FT.toL_getD{T:FT}{n:Nat}(h:T.Inv n)(t:Nat):(T.toL n).getD t .junk=T.get t:=by
 unfold FT.toL;by_cases ht:t<n
 ·simp[List.getD,List.getElem?_range ht]
 ·rw[FT.get_has T t (by cases g:T.has t with|false=>rfl|true=>exact absurd ((h t).1 g) ht)];simp[List.getD,ht]
theorem FT.toL_set{T:FT}{n:Nat}(h:T.Inv n)(t:Nat)(v:V):(T.set t v).toL n=(T.toL n).set t v:=by
 apply List.ext_getElem?;intro j;unfold FT.toL;by_cases hj:j<n
 ·rw[List.getElem?_set];simp only[List.getElem?_map,List.getElem?_range hj,Option.map_some,FT.get_set];by_cases hjt:t=j
  ·subst hjt;rw[if_pos ⟨rfl,(h t).2 hj⟩];simp[hj]
  ·rw[if_neg (λg=>hjt g.1.symm)];simp[hjt]
 ·simp[hj,List.getElem?_set]
noncomputable def FT.ofK:List V->Nat->FT->(FT->Nat->Option Ans)->Option Ans
 | [],n,T,k=>k T n
 |v::l,n,T,k=>T.addK n v λT=>FT.ofK l (n+1) T k
theorem FT.ofK_spec:∀(l:List V) (n:Nat) (T:FT) (k:FT->Nat->Option Ans),T.Inv n->∃T',FT.ofK l n T k=k T' (n+l.length)/\T'.Inv (n+l.length)/\T'.toL (n+l.length)=T.toL n++l
 | [],n,T,k,h=>⟨T,rfl,h,by simp⟩
 |v::l,n,T,k,h=>by
  obtain⟨g1,g2⟩:=FT.add_spec T n v h;obtain⟨T',e1,e2,e3⟩:=FT.ofK_spec l (n+1) (T.add n v) k g1;refine⟨T',?_,?_,?_⟩
  ·rw[FT.ofK,FT.addK_eq,e1];congr 1;simp;omega
  ·rw[show n+(v::l).length=n+1+l.length by simp;omega];exact e2
  ·rw[show n+(v::l).length=n+1+l.length by simp;omega,e3]
   have:(T.add n v).toL (n+1)=T.toL n++[v]:=by
    unfold FT.toL;rw[List.range_succ,List.map_append];congr 1
    ·apply List.map_congr_left;intro s hs;rw[g2,if_neg (by have:=List.mem_range.1 hs;omega)]
    ·simp[g2]
   rw[this,List.append_assoc];rfl
end Go.Am
/- The quick executor, and that it is the executor. -/
namespace Go.Am
open Go
abbrev OV:=List (Nat×Option Chunk)
noncomputable def lkp(hb:Hp)(ov:OV):Hp:=λi=>List.rec (motive:=λ_=>Option Chunk) (hb i) (λp _ ih=>Prod.rec (motive:=λ_=>Option Chunk) (λj c=>Bool.rec (motive:=λ_=>Option Chunk) ih c (Nat.beq j i)) p) ov
theorem ff6(hb:Hp):lkp hb []=hb:=rfl
theorem gp3(hb:Hp)(i:Nat)(c:Option Chunk)(ov:OV):lkp hb ((i,c)::ov)=upd (lkp hb ov) i c:=by
 funext j;show(Bool.rec (motive:=λ_=>Option Chunk) (lkp hb ov j) c (Nat.beq i j):Option Chunk)=if j=i then c else lkp hb ov j
 cases h:Nat.beq i j with
 |false=>rw[if_neg (λe=>by subst e;simp at h)]
 |true=>rw[if_pos (Nat.eq_of_beq_eq_true h).symm]
noncomputable def eM{α:Type}(l:Nat)(k:Nat->α):α:=Nat.rec (motive:=λ_=>α) (k 0) (λn _=>k (Nat.succ n)) l
theorem ab5{α:Type}(l:Nat)(k:Nat->α):eM l k=k l:=by cases l<;>rfl
noncomputable def bf0:List (Nat×Option Chunk)->OV->(OV->Option Ans)->Option Ans
 | [],ov,k=>k ov
 | (i,c)::l,ov,k=>fC c λc=>bf0 l ((i,c)::ov) k
theorem ai8(hb:Hp):∀(us:List (Nat×Option Chunk)) (ov:OV) (k:OV->Option Ans),∃ov',bf0 us ov k=k ov'/\lkp hb ov'=s8 (lkp hb ov) us
 | [],ov,k=>⟨ov,rfl,rfl⟩
 | (i,c)::l,ov,k=>by
  obtain⟨ov',e1,e2⟩:=ai8 hb l ((i,c)::ov) k;exact⟨ov',by rw[bf0,ge1];exact e1,by rw[e2,gp3];rfl⟩
noncomputable def evQ(E:Env)(T:FT):Operand->V
 | .tmp t=>T.get t
 | .const v=>rD v
 | .global g=>match E.glob g with|some cs=>.rp cs|none=>.junk
 | .func f=>.fn f []
theorem ck3(E:Env){T:FT}{n:Nat}(h:T.Inv n):evQ E T=evA E (T.toL n):=by
 funext x;cases x with
 |tmp t=>exact(FT.toL_getD h t).symm
 |const v=>rfl
 |global g=>rfl
 |func f=>rfl
noncomputable def di5(g:Option (Nat×Bool))(ops:List Oper)(T:FT)(k:Bool->FT->Option Ans):Option Ans:=
 match g with
 |none=>k true T
 |some (j,b)=>match ops[j]?with
  |some o=>match o.dst with
   |some t=>match T.get t with
    | .sc v=>match v with
     | .bool c=>if c=true then T.setK t (.sc (.bool true)) λT=>k b T else T.setK t (.sc (.bool false)) λT=>k (!b) T
     |_=>k false T
    |_=>none
   |none=>none
  |none=>none
theorem dc5{g:Option (Nat×Bool)}{ops:List Oper}{T:FT}{n:Nat}{k:Bool->FT->Option Ans}{K:Bool->List V->Option Ans}(h:T.Inv n)(hk:∀b T,T.Inv n->k b T=K b (T.toL n)):di5 g ops T k=bo7 g ops (T.toL n) K:=by
 unfold di5 bo7;cases g with
 |none=>exact hk _ _ h
 |some p=>
  obtain⟨j,b⟩:=p;simp only;cases ops[j]?with
  |none=>rfl
  |some o=>
   simp only;cases o.dst with
   |none=>rfl
   |some t=>
    simp only[FT.toL_getD h];cases T.get t<;>try rfl
    rename_i v;cases v<;>(try exact hk _ _ h);rename_i c;simp only[FT.setK_eq,setK_eq];cases c
    ·simp only[Bool.false_eq_true,if_false];rw[hk _ _ (FT.inv_set h),FT.toL_set h]
    ·simp only[if_true];rw[hk _ _ (FT.inv_set h),FT.toL_set h]
noncomputable def il5(T:FT)(d:Option Tmp)(v:V)(k:FT->Option Ans):Option Ans:=
 match d with
 |some t=>T.setK t v k
 |none=>k T
noncomputable def ak0(T:FT)(ov:OV)(d:Option Tmp)(v:V)(us:List (Nat×Option Chunk))(k:FT->OV->Option Ans):Option Ans:=
 fV v λv=>il5 T d v λT=>bf0 us ov λov=>k T ov
noncomputable def tD(T:FT)(n:Nat)(ov:OV)(hb:Hp)(nx rt:Nat)(me:FuncId):St:={fr:=T.toL n,H:=lkp hb ov,nx:=nx,rt:=rt,me:=me}
theorem lK{T:FT}{n:Nat}{ov:OV}{hb:Hp}{nx rt:Nat}{me:FuncId}{d:Option Tmp}{v:V}{us:List (Nat×Option Chunk)}{k:FT->OV->Option Ans}{K:St->Option Ans}(h:T.Inv n)
 (hk:∀T ov,T.Inv n->k T ov=K (tD T n ov hb nx rt me)):ak0 T ov d v us k=aj9 (tD T n ov hb nx rt me) d v us K:=by
 have key:∀T',T'.Inv n->bf0 us ov (λov=>k T' ov)=K {fr:=T'.toL n,H:=s8 (lkp hb ov) us,nx:=nx,rt:=rt,me:=me}:=by
  intro T' h';obtain⟨ov',e1,e2⟩:=ai8 hb us ov (λov=>k T' ov);rw[e1,hk _ _ h',<-e2];rfl
 unfold ak0;rw[dy4,lM];cases d with
 |none=>exact key T h
 |some t=>
  show T.setK t v _=_;rw[FT.setK_eq,key _ (FT.inv_set h),FT.toL_set h];rfl
abbrev KS:=Ex->FT->OV->Nat->Option Ans
noncomputable def pG(E:Env)(ca:l8)(ops:List Oper)(hb:Hp)(nx:Nat)(me:FuncId):List Oper->Nat->FT->OV->KS->Option Ans
 | [],nw,T,ov,k=>k .normal T ov nw
 |o::rest,nw,T,ov,k=>
  di5 o.guard ops T λb T=>
   match b with
   |true=>
    opK E.P E.push E.rows o (evQ E T) (lkp hb ov) nw λr=>
     match r with
     | .val v us=>(match ee1 o.op with
      |true=>ak0 T ov o.dst (hb7 (E.lit me) (lkp hb ov) v us) (hb8 (E.lit me) v us) λT ov=>eM (Nat.add nw d9) λnw=>pG E ca ops hb nx me rest nw T ov k
      |false=>ak0 T ov o.dst v us λT ov=>eM (Nat.add nw d9) λnw=>pG E ca ops hb nx me rest nw T ov k)
     | .pan v us=>bf0 us ov λov=>k (.panic v) T ov nw
     | .call f args=>zA E ca me f args (lkp hb ov) nw λr=>
      match r with
      | .val v us=>ak0 T ov o.dst v us λT ov=>eM (Nat.add nw d9) λnw=>pG E ca ops hb nx me rest nw T ov k
      | .pan v us=>bf0 us ov λov=>k (.panic v) T ov nw
      | .call _ _=>none
      | .dfr _ _=>none
     | .dfr f cs=>match E.dfn me&&(E.idle f==some cs.length&&E.dok)with
      |true=>ak0 T ov o.dst (.sc undef) [] λT ov=>eM (Nat.add nw d9) λnw=>pG E ca ops hb nx me rest nw T ov k
      |false=>none
   |false=>ak0 T ov o.dst (.sc undef) [] λT ov=>eM (Nat.add nw d9) λnw=>pG E ca ops hb nx me rest nw T ov k
theorem bw5{E:Env}{ca:l8}{ops:List Oper}{hb:Hp}{nx rt n:Nat}{me:FuncId}{base:Nat}{k:KS}{K:KX}(hk:∀e T ov nx,T.Inv n->k e T ov nx=K e (tD T n ov hb nx rt me)):
 ∀(l:List Oper) (i nw:Nat) (T:FT) (ov:OV),nw=base+i*d9->T.Inv n->pG E ca ops hb nx me l nw T ov k=lW E ca ops base i l (tD T n ov hb nx rt me) K
 | [],i,nw,T,ov,hw,h=>by subst hw;exact hk _ _ _ _ h
 |o::rest,i,nw,T,ov,hw,h=>by
  have ih:∀T ov,T.Inv n->(eM (Nat.add nw d9) λnw=>pG E ca ops hb nx me rest nw T ov k)=lW E ca ops base (i+1) rest (tD T n ov hb nx rt me) K:=λT ov h=>by
   rw[ab5];exact bw5 hk rest (i+1) _ T ov (by subst hw;show base+i*d9+d9=_;rw[Nat.add_mul,Nat.one_mul,Nat.add_assoc]) h
  rw[pG,lW];refine dc5 h λb T h=>?_;cases b with
  |false=>
   rw[if_neg Bool.false_ne_true];exact lK h ih
  |true=>
   rw[if_pos rfl];simp only[ck3 E h];show opK E.P E.push E.rows o (evA E (T.toL n)) (lkp hb ov) nw _=opK E.P E.push E.rows o (evA E (T.toL n)) (lkp hb ov) (base+i*d9) _;subst hw;congr 1;funext r;cases r with
   |val v us=>
    simp only;cases hl:ee1 o.op with
    |true=>simp only[Bool.and_true];exact lK (rt:=rt) h ih
    |false=>simp only[Bool.and_false];exact lK (rt:=rt) h ih
   |pan v us=>
    obtain⟨ov',e1,e2⟩:=ai8 hb us ov (λov=>k (.panic v) T ov (base+i*d9));show bf0 us ov _=_;rw[e1,hk _ _ _ _ h];unfold tD;rw[e2]
   |call f args=>
    show zA E ca me f args (lkp hb ov) (base+i*d9) _=zA E ca me f args (lkp hb ov) (base+i*d9) _;congr 1;funext r;cases r with
    |val v us=>exact lK (rt:=rt) h ih
    |pan v us=>
     obtain⟨ov',e1,e2⟩:=ai8 hb us ov (λov=>k (.panic v) T ov (base+i*d9));show bf0 us ov _=_;rw[e1,hk _ _ _ _ h];unfold tD;rw[e2]
    |call f args=>rfl
    |dfr f cs=>rfl
   |dfr f cs=>
    show(match E.dfn me&&(E.idle f==some cs.length&&E.dok)with|true=>_|false=>none)=(match E.dfn me&&(E.idle f==some cs.length&&E.dok)with|true=>_|false=>none);cases E.dfn me&&(E.idle f==some cs.length&&E.dok)with
    |true=>exact lK (rt:=rt) h ih
    |false=>rfl
noncomputable def vwQ(E:Env)(b:Nat)(T:FT)(h:Hp)(o:Oper)(k:Vw->Option Ans):Option Ans:=
 fNL (if gt3 o.op then gO h zB (gQ (o.op.operands.toList.map (evQ E T))) []else if fl1 o.op then gQ (o.op.operands.toList.map (evQ E T))++lL h (gQ (o.op.operands.toList.map (evQ E T)))else gQ (o.op.operands.toList.map (evQ E T))) λl=>k ⟨b,some l⟩
theorem ht4(E:Env){b n:Nat}{T:FT}{h:Hp}{o:Oper}{k:Vw->Option Ans}(hi:T.Inv n):vwQ E b T h o k=vwK E b (T.toL n) h o k:=by
 unfold vwQ vwK fh1 ep4;rw[ck3 E hi]
noncomputable def ldQ(E:Env)(base:Nat)(vw:Vw)(o:Oper)(T:FT)(h:Hp):Option (Nat×Option (Nat×V)):=
 match o.op with
 | .load t x=>match evQ E T x with
  | .ptr b off=>match er7 E.P t with
   |some false=>(vT (cY base vw h) b off).map λv=>(b,some (off,v))
   |_=>none
  |_=>none
 | .nilCheck x=>match evQ E T x with
  | .ptr b _=>(cY base vw h b).map λ_=>(b,none)
  |_=>none
 | .fieldAddr _ x _=>match evQ E T x with
  | .ptr b _=>(cY base vw h b).map λ_=>(b,none)
  |_=>none
 |_=>none
theorem hs4(E:Env){base n:Nat}{vw:Vw}{o:Oper}{T:FT}{h:Hp}(hi:T.Inv n):ldQ E base vw o T h=fq7 E base vw o (T.toL n) h:=by
 unfold ldQ fq7;simp only[ck3 E hi];rfl
noncomputable def fm4:List Oper->FT->OV->(FT->OV->Option Ans)->Option Ans
 | [],T,ov,k=>k T ov
 |o::l,T,ov,k=>ak0 T ov o.dst .junk [] λT ov=>fm4 l T ov k
theorem dv1{n:Nat}{hb:Hp}{nx rt:Nat}{me:FuncId}{k:FT->OV->Option Ans}{K:St->Option Ans}(hk:∀T ov,T.Inv n->k T ov=K (tD T n ov hb nx rt me)):∀(l:List Oper) (T:FT) (ov:OV),T.Inv n->fm4 l T ov k=da2 l (tD T n ov hb nx rt me) K
 | [],T,ov,h=>hk T ov h
 |o::l,T,ov,h=>by
  rw[fm4,da2];exact lK h λT ov h=>dv1 hk l T ov h
noncomputable def hn3(ops:List Oper)(base:Nat)(o:Oper)(i:Nat)(vw:Vw)(rest:List Oper)(done:List Dn)(v:V)(us:List (Nat×Option Chunk))(T:FT)(ov:OV)(k:KS):Option Ans:=
 match gu5 ops base o i vw rest done us with
 |true=>fm4 (ops.take i) T ov λT ov=>ak0 T ov none (.sc undef) us λT ov=>k (.panic v) T ov (base+(i+1+rest.length)*d9)
 |false=>none
theorem fn5{n:Nat}{hb:Hp}{nx rt:Nat}{me:FuncId}{k:KS}{K:KX}(hk:∀e T ov nx,T.Inv n->k e T ov nx=K e (tD T n ov hb nx rt me)){ops:List Oper}{base:Nat}{o:Oper}{i:Nat}{vw:Vw}{rest:List Oper}{done:List Dn}{v:V}{us:List (Nat×Option Chunk)}{T:FT}{ov:OV}(h:T.Inv n):
 hn3 ops base o i vw rest done v us T ov k=fb8 ops base o i vw rest done v us (tD T n ov hb nx rt me) K:=by
 unfold hn3 fb8;cases gu5 ops base o i vw rest done us with
 |true=>
  refine dv1 (λT ov h=>lK (K:=λs=>K (.panic v) {fr:=s.fr,H:=s.H,nx:=base+(i+1+rest.length)*d9,rt:=s.rt,me:=s.me}) h λT ov h=>?_) _ T ov h;exact hk _ T ov _ h
 |false=>rfl
noncomputable def bb0(E:Env)(ca:l8)(ops:List Oper)(befs:List Nat)(base:Nat)(hb:Hp)(nx:Nat)(me:FuncId):List Oper->Nat->Nat->List Dn->FT->OV->KS->Option Ans
 | [],i,nw,_,T,ov,k=>k .normal T ov nw
 |o::rest,i,nw,done,T,ov,k=>
  di5 o.guard ops T λb T=>
   match b with
   |true=>
    vwQ E (befs.getD i 0) T (lkp hb ov) o λvw=>
    opK E.P E.push E.rows o (evQ E T) (cY base vw (lkp hb ov)) nw λr=>
     match r with
     | .val v us=>
      okK ops base o vw nw v us done
       (ak0 T ov o.dst v us λT' ov'=>eM (Nat.succ i) λi'=>eM (Nat.add nw d9) λnw=>bb0 E ca ops befs base hb nx me rest i' nw ((i,n5 o.op,vw,us.map (·.1),ldQ E base vw o T (lkp hb ov))::done) T' ov' k)
     | .pan v us=>hn3 ops base o i vw rest done v us T ov k
     | .dfr _ _=>none
     | .call f args=>zA E ca me f args (cY base vw (lkp hb ov)) nw λr=>
      match r with
      | .val v us=>
       if n5 o.op then
        okK ops base o vw nw v us done
         (ak0 T ov o.dst v us λT ov=>eM (Nat.succ i) λi'=>eM (Nat.add nw d9) λnw=>bb0 E ca ops befs base hb nx me rest i' nw ((i,n5 o.op,vw,us.map (·.1),none)::done) T ov k)
       else none
      | .pan v us=>if n5 o.op then hn3 ops base o i vw rest done v us T ov k else none
      |_=>none
   |false=>
    if tZ ops base o ⟨befs.getD i 0,some []⟩ [] done then
     ak0 T ov o.dst (.sc undef) [] λT ov=>eM (Nat.succ i) λi'=>eM (Nat.add nw d9) λnw=>bb0 E ca ops befs base hb nx me rest i' nw ((i,n5 o.op,⟨befs.getD i 0,some []⟩,[],none)::done) T ov k
    else none
theorem cw8{E:Env}{ca:l8}{ops:List Oper}{befs:List Nat}{hb:Hp}{nx rt n:Nat}{me:FuncId}{base:Nat}{k:KS}{K:KX}(hk:∀e T ov nx,T.Inv n->k e T ov nx=K e (tD T n ov hb nx rt me)):
 ∀(l:List Oper) (i nw:Nat) (done:List Dn) (T:FT) (ov:OV),nw=base+i*d9->T.Inv n->bb0 E ca ops befs base hb nx me l i nw done T ov k=yM E ca ops befs base i l done (tD T n ov hb nx rt me) K
 | [],i,nw,done,T,ov,hw,h=>by subst hw;exact hk _ _ _ _ h
 |o::rest,i,nw,done,T,ov,hw,h=>by
  have ih:∀done T ov,T.Inv n->(eM (Nat.succ i) λi'=>eM (Nat.add nw d9) λnw=>bb0 E ca ops befs base hb nx me rest i' nw done T ov k)=yM E ca ops befs base (i+1) rest done (tD T n ov hb nx rt me) K:=λdone T ov h=>by
   rw[ab5,ab5];exact cw8 hk rest (i+1) _ done T ov (by subst hw;show base+i*d9+d9=_;rw[Nat.add_mul,Nat.one_mul,Nat.add_assoc]) h
  rw[bb0,yM];refine dc5 h λb T h=>?_;cases b with
  |false=>
   rw[if_neg Bool.false_ne_true];by_cases hp:tZ ops base o ⟨befs.getD i 0,some []⟩ [] done=true
   ·rw[if_pos hp,if_pos hp];exact lK h (ih _)
   ·rw[if_neg hp,if_neg hp]
  |true=>
   rw[if_pos rfl];subst hw;refine(ht4 E h).trans ?_;show vwK E (befs.getD i 0) (T.toL n) (lkp hb ov) o _=vwK E (befs.getD i 0) (T.toL n) (lkp hb ov) o _;congr 1;funext vw;simp only[ck3 E h];show opK E.P E.push E.rows o (evA E (T.toL n)) (cY base vw (lkp hb ov)) (base+i*d9) _=opK E.P E.push E.rows o (evA E (T.toL n)) (cY base vw (lkp hb ov)) (base+i*d9) _;congr 1;funext r;cases r with
   |val v us=>
    simp only;refine congrArg (okK ops base o vw (base+i*d9) v us done) ?_;rw[hs4 E h];exact lK (rt:=rt) h (ih _)
   |pan v us=>exact fn5 (rt:=rt) hk h
   |dfr f cs=>rfl
   |call f args=>
    show zA E ca me f args (cY base vw (lkp hb ov)) (base+i*d9) _=zA E ca me f args (cY base vw (lkp hb ov)) (base+i*d9) _;congr 1;funext r;cases r with
    |val v us=>
     simp only;by_cases hp:n5 o.op=true
     ·rw[if_pos hp,if_pos hp];exact congrArg (okK ops base o vw (base+i*d9) v us done) (lK (rt:=rt) h (ih _))
     ·rw[if_neg hp,if_neg hp]
    |pan v us=>
     simp only;by_cases hp:n5 o.op=true
     ·rw[if_pos hp,if_pos hp];exact fn5 (rt:=rt) hk h
     ·rw[if_neg hp,if_neg hp]
    |call f args=>rfl
    |dfr f cs=>rfl
noncomputable def gg3(s:St)(k:FT->Nat->OV->Hp->Nat->Nat->FuncId->Option Ans):Option Ans:=
 match s with
 | ⟨fr,H,nx,rt,me⟩=>FT.ofK fr 0 .e λT n=>k T n [] H nx rt me
theorem dx2{s:St}{k:FT->Nat->OV->Hp->Nat->Nat->FuncId->Option Ans}{K:St->Option Ans}(hk:∀T n ov hb nx rt me,T.Inv n->k T n ov hb nx rt me=K (tD T n ov hb nx rt me)):gg3 s k=K s:=by
 obtain⟨fr,H,nx,rt,me⟩:=s;obtain⟨T,e1,e2,e3⟩:=FT.ofK_spec fr 0 .e (λT n=>k T n [] H nx rt me) FT.inv_e;show FT.ofK fr 0 .e _=_;rw[e1,hk _ _ _ _ _ _ _ e2];unfold tD;rw[e3,ff6];simp[FT.toL]
noncomputable def cb3(on:Bool)(c:Operand)(b:Bool)(T:FT)(k:FT->Option Ans):Option Ans:=
 match on with
 |true=>match c with
  | .tmp t=>T.setK t (.sc (.bool b)) k
  |_=>k T
 |false=>k T
noncomputable def dr8(T:FT):Nat->List V->(List V->Option Ans)->Option Ans
 |0,l,k=>k l
 |n+1,l,k=>dr8 T n (T.get n::l) k
theorem ax0(T:FT):∀(n:Nat) (l:List V) (k:List V->Option Ans),dr8 T n l k=k (T.toL n++l)
 |0,l,k=>by simp[dr8,FT.toL]
 |n+1,l,k=>by rw[dr8,ax0 T n];simp[FT.toL,List.range_succ]
noncomputable def dh4(live:Nat)(T:FT)(n:Nat)(ov:OV)(hb:Hp)(nx rt:Nat)(me:FuncId)(k:St->Option Ans):Option Ans:=
 dr8 T n [] λl=>fL (zap live 0 l) λz=>
 fNL (gO (lkp hb ov) zB (lL (lkp hb ov) (List.range rt)++gQ z) (List.range rt)) λorder=>
 fL (ay8 (lJ order) z) λfr=>fCL (keep (lkp hb ov) order) λl=>eM order.length λnx=>k {fr:=fr,H:=hp l,nx:=nx,rt:=rt,me:=me}
theorem cx3{live:Nat}{T:FT}{n:Nat}{ov:OV}{hb:Hp}{nx rt:Nat}{me:FuncId}{k:St->Option Ans}:dh4 live T n ov hb nx rt me k=yR live (tD T n ov hb nx rt me) k:=by
 unfold dh4 yR ie7;simp only[ax0,sC,ah6,cf8,ab5,List.append_nil];rfl
abbrev KQ:=Ex->FT->Nat->OV->Hp->Nat->Nat->FuncId->Option Ans
noncomputable def sT(E:Env)(ca:l8)(lo:f5):ACode->FT->Nat->OV->Hp->Nat->Nat->FuncId->KQ->Option Ans
 | .skip,T,n,ov,hb,nx,rt,me,k=>k .normal T n ov hb nx rt me
 | .region _ ops d,T,n,ov,hb,nx,rt,me,k=>
  match d with
  |true=>if cn4 E.P ops then fNL (Region.before ops.toArray).toList λbefs=>bb0 E ca ops befs nx hb nx me ops 0 nx [] T ov λe T ov nx=>k e T n ov hb nx rt me else none
  |false=>pG E ca ops hb nx me ops nx T ov λe T ov nx=>k e T n ov hb nx rt me
 | .seq a b,T,n,ov,hb,nx,rt,me,k=>sT E ca lo a T n ov hb nx rt me λe T n ov hb nx rt me=>match e with
  | .normal=>sT E ca lo b T n ov hb nx rt me k
  |e=>k e T n ov hb nx rt me
 | .cond c x y,T,n,ov,hb,nx,rt,me,k=>
  match evQ E T c with
  | .sc (.bool b)=>if b then cb3 (E.sett me) c true T λT=>sT E ca lo x T n ov hb nx rt me k else cb3 (E.sett me) c false T λT=>sT E ca lo y T n ov hb nx rt me k
  |_=>none
 | .block id c,T,n,ov,hb,nx,rt,me,k=>sT E ca lo c T n ov hb nx rt me λe T n ov hb nx rt me=>match e with
  | .exit j=>if j=id then k .normal T n ov hb nx rt me else k (.exit j) T n ov hb nx rt me
  |e=>k e T n ov hb nx rt me
 | .loop id live c,T,n,ov,hb,nx,rt,me,k=>dh4 live T n ov hb nx rt me λs=>lo id live c s λe s=>gg3 s λT n ov hb nx rt me=>k e T n ov hb nx rt me
 | .exit id,T,n,ov,hb,nx,rt,me,k=>k (.exit id) T n ov hb nx rt me
 | .ret,T,n,ov,hb,nx,rt,me,k=>k .ret T n ov hb nx rt me
 | .scope c,T,n,ov,hb,nx,rt,me,k=>sT E ca lo c T n ov hb nx rt me k
 | .label _,T,n,ov,hb,nx,rt,me,k=>k .normal T n ov hb nx rt me
 | .no _,_,_,_,_,_,_,_,_=>none
def Sim(k:KQ)(K:KX):Prop:=∀e T n ov hb nx rt me,T.Inv n->k e T n ov hb nx rt me=K e (tD T n ov hb nx rt me)
theorem cq5{on:Bool}{c:Operand}{b:Bool}{T:FT}{n:Nat}{ov:OV}{hb:Hp}{nx rt:Nat}{me:FuncId}{k:FT->Option Ans}{K:St->Option Ans}(h:T.Inv n)(hk:∀T,T.Inv n->k T=K (tD T n ov hb nx rt me)):
 cb3 on c b T k=aw4 on c b (tD T n ov hb nx rt me) K:=by
 unfold cb3 aw4;cases on with
 |false=>exact hk _ h
 |true=>
  cases c with
  |tmp t=>simp only[FT.setK_eq,setK_eq];rw[hk _ (FT.inv_set h)];unfold tD;rw[FT.toL_set h]
  |const v=>exact hk _ h
  |global g=>exact hk _ h
  |func f=>exact hk _ h
theorem sD{E:Env}{ca:l8}{lo:f5}:∀(c:ACode) (T:FT) (n:Nat) (ov:OV) (hb:Hp) (nx rt:Nat) (me:FuncId) (k:KQ) (K:KX),T.Inv n->Sim k K->sT E ca lo c T n ov hb nx rt me k=aW E ca lo c (tD T n ov hb nx rt me) K
 | .skip,T,n,ov,hb,nx,rt,me,k,K,h,hk=>hk _ _ _ _ _ _ _ _ h
 | .region _ ops d,T,n,ov,hb,nx,rt,me,k,K,h,hk=>by
  cases d with
  |false=>
   rw[sT,aW,if_neg Bool.false_ne_true];exact bw5 (λe T ov nx h=>hk e T n ov hb nx rt me h) ops 0 nx T ov (by simp[tD]) h
  |true=>
   rw[sT,aW,if_pos rfl];by_cases hd:cn4 E.P ops=true
   ·rw[if_pos hd,if_pos hd,ah6,ah6];exact cw8 (λe T ov nx h=>hk e T n ov hb nx rt me h) ops 0 nx [] T ov (by simp[tD]) h
   ·rw[if_neg hd,if_neg hd]
 | .seq a b,T,n,ov,hb,nx,rt,me,k,K,h,hk=>by
  rw[sT,aW];refine sD a T n ov hb nx rt me _ _ h λe T n ov hb nx rt me h=>?_;cases e with
  |normal=>exact sD b T n ov hb nx rt me k K h hk
  |exit j=>exact hk _ _ _ _ _ _ _ _ h
  |ret=>exact hk _ _ _ _ _ _ _ _ h
  |panic v=>exact hk _ _ _ _ _ _ _ _ h
 | .cond c x y,T,n,ov,hb,nx,rt,me,k,K,h,hk=>by
  rw[sT,aW,ck3 E h];show(match evA E (T.toL n) c with| .sc (.bool b)=>_|_=>_)=(match evA E (T.toL n) c with| .sc (.bool b)=>_|_=>_);cases evA E (T.toL n) c<;>try rfl
  rename_i v;cases v<;>try rfl
  rename_i b;cases b with
  |false=>exact cq5 (K:=λs=>aW E ca lo y s K) h λT h=>sD y T n ov hb nx rt me k K h hk
  |true=>exact cq5 (K:=λs=>aW E ca lo x s K) h λT h=>sD x T n ov hb nx rt me k K h hk
 | .block id c,T,n,ov,hb,nx,rt,me,k,K,h,hk=>by
  rw[sT,aW];refine sD c T n ov hb nx rt me _ _ h λe T n ov hb nx rt me h=>?_;cases e with
  |normal=>exact hk _ _ _ _ _ _ _ _ h
  |exit j=>
   simp only;by_cases hj:j=id
   ·rw[if_pos hj,if_pos hj];exact hk _ _ _ _ _ _ _ _ h
   ·rw[if_neg hj,if_neg hj];exact hk _ _ _ _ _ _ _ _ h
  |ret=>exact hk _ _ _ _ _ _ _ _ h
  |panic v=>exact hk _ _ _ _ _ _ _ _ h
 | .loop id live c,T,n,ov,hb,nx,rt,me,k,K,h,hk=>by
  rw[sT,aW,cx3];congr 1;funext s;congr 1;funext e s;exact dx2 λT n ov hb nx rt me h=>hk e T n ov hb nx rt me h
 | .exit id,T,n,ov,hb,nx,rt,me,k,K,h,hk=>hk _ _ _ _ _ _ _ _ h
 | .ret,T,n,ov,hb,nx,rt,me,k,K,h,hk=>hk _ _ _ _ _ _ _ _ h
 | .scope c,T,n,ov,hb,nx,rt,me,k,K,h,hk=>by
  rw[sT,aW];exact sD c T n ov hb nx rt me k K h hk
 | .label _,T,n,ov,hb,nx,rt,me,k,K,h,hk=>hk _ _ _ _ _ _ _ _ h
 | .no _,_,_,_,_,_,_,_,_,_,_,_=>rfl
noncomputable def gd9(E:Env)(ca:l8)(lo:f5)(id live:Nat)(c:ACode)(s:St)(k:KX):Option Ans:=
 gg3 s λT n ov hb nx rt me=>sT E ca lo c T n ov hb nx rt me λe T n ov hb nx rt me=>match e with
  | .normal=>dh4 live T n ov hb nx rt me λs=>lo id live c s k
  |e=>dr8 T n [] λl=>k e {fr:=l,H:=lkp hb ov,nx:=nx,rt:=rt,me:=me}
theorem gh3{E:Env}{ca:l8}{lo:f5}{id live:Nat}{c:ACode}{s:St}{k:KX}:gd9 E ca lo id live c s k=n8 E ca lo id live c s k:=by
 unfold gd9 n8;refine dx2 (K:=λs=>aW E ca lo c s λe s=>match e with| .normal=>yR live s λs=>lo id live c s k|e=>k e s) λT n ov hb nx rt me h=>sD c T n ov hb nx rt me _ _ h λe T n ov hb nx rt me h=>?_;cases e with
 |normal=>exact cx3
 |exit j=>simp only[ax0,List.append_nil];rfl
 |ret=>simp only[ax0,List.append_nil];rfl
 |panic v=>simp only[ax0,List.append_nil];rfl
noncomputable def gi4(E:Env)(ca:l8)(lo:f5)(f:FuncId)(args:List V)(L:List (Option Chunk))(k:CRes->Option Ans):Option Ans:=
 match E.code f with
 |some c=>match E.P.funcs[f]?with
  |some fn=>fL args λargs=>FT.ofK (args++List.replicate (fn.ntmps-args.length) (.sc undef)) 0 .e λT n=>
   eM (bM E.allR (hp L) args).length λrt=>if rt<=L.length then
    eM L.length λnx=>sT E ca lo c T n [] (hp L) nx rt f λe T n ov hb nx rt me=>dr8 T n [] λl=>gk1 E fn k e {fr:=l,H:=lkp hb ov,nx:=nx,rt:=rt,me:=me}
   else none
  |none=>none
 |none=>none
theorem gh2{E:Env}{ca:l8}{lo:f5}{f:FuncId}{args:List V}{L:List (Option Chunk)}{k:CRes->Option Ans}:gi4 E ca lo f args L k=f7 E ca lo f args L k:=by
 unfold gi4 f7;cases E.code f with
 |none=>rfl
 |some c=>
  simp only;cases E.P.funcs[f]?with
  |none=>rfl
  |some fn=>
   simp only[sC]
   obtain⟨T,e1,e2,e3⟩:=FT.ofK_spec (args++List.replicate (fn.ntmps-args.length) (.sc undef)) 0 .e (λT n=>
    eM (bM E.allR (hp L) args).length λrt=>if rt<=L.length then
     eM L.length λnx=>sT E ca lo c T n [] (hp L) nx rt f λe T n ov hb nx rt me=>dr8 T n [] λl=>gk1 E fn k e {fr:=l,H:=lkp hb ov,nx:=nx,rt:=rt,me:=me}
    else none) FT.inv_e
   rw[e1];simp only[ab5];by_cases hle:(bM E.allR (hp L) args).length<=L.length
   ·rw[if_pos hle,if_pos hle,sD c T _ [] (hp L) L.length _ f _ (gk1 E fn k) e2 (λe T n ov hb nx rt me h=>by simp only[ax0,List.append_nil];rfl)];unfold tD;rw[e3,ff6];simp[FT.toL]
   ·rw[if_neg hle,if_neg hle]
end Go.Am
/- States weakened; loops by tables of facts. -/
namespace Go.Am
open Go Go.RowKit
noncomputable def cl(p:Prop)(x y:Option Ans):Option Ans:=@ite _ p (Classical.propDecidable p) x y
theorem gh7{p:Prop}{x y:Option Ans}(h:p):cl p x y=x:=by unfold cl;exact if_pos h
theorem fm0{p:Prop}{x y:Option Ans}{r:Ans}(h:cl p x y=some r):(p/\x=some r)\/(¬p/\y=some r):=by
 unfold cl at h;split at h
 ·exact .inl ⟨by assumption,h⟩
 ·exact .inr ⟨by assumption,h⟩
theorem Le.junk(v:V):Le v .junk:=λ_ _ _ _ _ _=>by simp[den]
theorem LeL.nil:LeL [] []:=λ_ _ _ _ _ h=>h
theorem Le.trans{a b c:V}(h:Le a b)(g:Le b c):Le a c:=λβ S w D u hd=>g β S w D u (h β S w D u hd)
theorem LeL.trans{a b c:List V}(h:LeL a b)(g:LeL b c):LeL a c:=λβ S w D u hd=>g β S w D u (h β S w D u hd)
theorem Le.tup{a b:List V}(h:LeL a b):Le (.tup a) (.tup b):=by
 intro β S w D u hd;simp only[Am.den]at hd⊢;obtain⟨us,h1,h2⟩:=hd;exact⟨us,h1,h _ _ _ _ _ h2⟩
def ChLe(c c':Chunk):Prop:=∀β S w D b m,b7 β S w D b m c->b7 β S w D b m c'
theorem ChLe.refl(c:Chunk):ChLe c c:=λ_ _ _ _ _ _ h=>h
theorem ChLe.blk{a b:List V}(h:LeL a b):ChLe (.blk a) (.blk b):=by
 intro β S w D bb m hd;simp only[b7]at hd⊢;obtain⟨h0,us,T,h1,h2,h3⟩:=hd;exact⟨h0,us,T,h1,h _ _ _ _ _ h2,h3⟩
theorem ChLe.row{e k n:Nat}{f g:Nat->List V}(h:∀j,j<n->f j=g j):ChLe (.row e k n f) (.row e k n g):=by
 intro β S w D b m hd;simp only[b7]at hd⊢;obtain⟨h1,h2,h3,hc⟩:=hd;refine⟨h1,h2,h3,λh0=>?_⟩;obtain⟨cur,h4,h5,h6⟩:=hc h0;exact⟨cur,h4,h5,λj hj=>by rw[<-h j hj];exact h6 j hj⟩
def OcLe:Option Chunk->Option Chunk->Prop
 |none,none=>True
 |some c,some c'=>ChLe c c'
 |_,_=>False
structure LeSt(s s':St):Prop where
 fr:LeL s.fr s'.fr
 H:∀i,OcLe (s.H i) (s'.H i)
 nx:s.nx=s'.nx
 rt:s.rt=s'.rt
 me:s.me=s'.me
theorem OcLe.refl(c:Option Chunk):OcLe c c:=by cases c with|none=>exact trivial|some c=>exact ChLe.refl c
theorem LeSt.refl(s:St):LeSt s s:=⟨LeL.refl _,λ_=>OcLe.refl _,rfl,rfl,rfl⟩
def ia6:List (Option Chunk)->List (Option Chunk)->Prop
 | [],[]=>True
 |a::l,b::m=>OcLe a b/\ia6 l m
 |_,_=>False
theorem gw5:∀{l m:List (Option Chunk)},ia6 l m->∀i,OcLe (hp l i) (hp m i)
 | [],[],_,i=>by simp[hp,OcLe]
 |a::l,b::m,h,i=>by
  cases i with
  |zero=>simpa[hp]using h.1
  |succ i=>simpa[hp]using gw5 h.2 i
 | [],b::m,h,_=>h.elim
 |a::l,[],h,_=>h.elim
theorem LeSt.mk'{fr fr':List V}{l m:List (Option Chunk)}{nx rt:Nat}{me:FuncId}(h1:LeL fr fr')(h2:ia6 l m):LeSt {fr:=fr,H:=hp l,nx:=nx,rt:=rt,me:=me} {fr:=fr',H:=hp m,nx:=nx,rt:=rt,me:=me}:=
 ⟨h1,gw5 h2,rfl,rfl,rfl⟩
theorem Mem.le{β:Bt}{S D:Pr}{H H':Hp}{w:World}(h:Mem β S D H w)(hl:∀i,OcLe (H i) (H' i)):Mem β S D H' w:=by
 refine⟨λi c hc=>?_,λi hi=>?_,h.dom,h.own,h.inj,h.st⟩
 ·have:=hl i;rw[hc]at this;cases hH:H i with
  |none=>rw[hH]at this;exact this.elim
  |some c0=>
   rw[hH]at this;obtain⟨b,m,h1,h2⟩:=h.live i c0 hH;exact⟨b,m,h1,this _ _ _ _ _ _ h2⟩
 ·have:=hl i;rw[hi]at this;cases hH:H i with
  |none=>exact h.dead i hH
  |some c0=>rw[hH]at this;exact this.elim
theorem Rel.le{E:Env}{β:Bt}{S D:Pr}{s s':St}{a:Act}{w:World}(h:Rel E β S D s a w)(hl:LeSt s s'):Rel E β S D s' a w:=
 ⟨hl.fr _ _ _ _ _ h.fr,h.mem.le hl.H,(by rw[<-hl.me];exact h.df),by rw[<-hl.nx];exact h.lt,h.gl,by rw[<-hl.rt];exact h.rtD⟩
theorem SL.le{E:Env}{c:ACode}{s s' t:St}{e:Ex}(h:SL E c s' e t)(hl:LeSt s s'):SL E c s e t:=by
 intro β S D a w hR b k cs;obtain⟨e',a',w',hP,hA⟩:=h β S D a w (hR.le hl) b k cs;refine⟨e',a',w',?_,hA⟩;obtain⟨β',S',D',h1,h2,h3,h4,h5,h6⟩:=hP.ex;exact⟨β',S',D',h1,h2,h3,by rw[hl.rt];exact h4,by rw[hl.rt];exact h5,by rw[hl.me];exact h6⟩
theorem RelX.le{E:Env}{e:Ex}{β:Bt}{S D:Pr}{s s':St}{a:Act}{w:World}(h:RelX E e β S D s a w)(hl:LeSt s s'):RelX E e β S D s' a w:=by
 exact Rel.le h hl
theorem SL.post{E:Env}{c:ACode}{s t t':St}{e:Ex}(h:SL E c s e t)(hl:LeSt t t'):SL E c s e t':=by
 intro β S D a w hR b k cs;obtain⟨e',a',w',hP,hA⟩:=h β S D a w hR b k cs;refine⟨e',a',w',?_,hA⟩;obtain⟨β',S',D',h1,h2,h3,h4,h5,h6⟩:=hP.ex;exact⟨β',S',D',h1,h2.le hl,h3,h4,by rw[<-hl.rt];exact h5,by rw[<-hl.me];exact h6⟩
theorem SC.le{E:Env}{f:FuncId}{args:List V}{L:List (Option Chunk)}{v v':V}{L':List (Option Chunk)}(h:SC E f args L (.ret v L'))(hl:Le v v'):SC E f args L (.ret v' L'):=by
 refine⟨h.1,λβ S w us h1 h2 h3=>(h.2 β S w us h1 h2 h3).mono ?_⟩;rintro e w' ⟨u,β',S',g1,g2,g3,g4,g5⟩;exact⟨u,β',S',g1,g2,hl _ _ _ _ _ g3,g4,g5⟩
theorem SC.give{E:Env}{f:FuncId}{args:List V}{L0:List (Option Chunk)}{v:V}{L:List (Option Chunk)}(h:SC E f args L0 (.ret v L))(hp':(v.bw (hp L)).pure=true):SC E f args L0 (.ret (v.bw (hp L)) []):=by
 refine⟨h.1,λβ S w us h1 h2 h3=>(h.2 β S w us h1 h2 h3).mono ?_⟩;rintro e w' ⟨u,β',S',rfl,g1,g2,g3,g4⟩;refine⟨u,λ_=>none,λb=>S' b\/∃j m',0<m'/\β' j=some (b,m'),rfl,⟨λi c hc=>(by simp[hp]at hc),λ_ _=>rfl,λi b m h=>(by cases h),λi b m h=>(by cases h),λi j b m m' h=>(by cases h),?_⟩,?_,⟨g3.os,g3.tape,g3.output,g3.size,g3.keep,λb h=>.inl (g3.sub b h),?_,λi b m h=>(by cases h)⟩,λi bm _ h=>(by cases h)⟩
 ·rintro b (hs| ⟨j,m',h0,hj⟩)
  ·exact g1.st b hs
  ·exact(g1.own j b m' hj h0).1
 ·have:=ce4 (S':=λb=>S' b\/∃j m',0<m'/\β' j=some (b,m')) (β':=λ_=>none) g1 (λ_ _=>.inr rfl) (λ_ h=>.inl h) (λi b m hb h0=>.inr ⟨i,m,h0,hb⟩) g2;exact q8 (λ_ h=>h) (λ_ _=>rfl) _ _ hp' this
 ·rintro b (hs| ⟨j,m',h0,hj⟩)
  ·exact g3.newS b hs
  ·rcases g3.newO j b m' hj h0 with h| ⟨j',m'',h0',h⟩
   ·exact .inr (.inl h)
   ·exact .inr (.inr ⟨j',m'',h0',h⟩)
theorem Le.nil_ro{k:Nat}{f:Nat->List V}:Le (.sc (.slice none 0 0)) (.ro k 0 f):=by
 intro β S w D u hd;simp only[Am.den]at hd⊢;subst hd;exact⟨Nat.zero_le _,none,0,⟨0,0,none⟩,λ_=>[],rfl,Nat.le_refl _,λh=>absurd h (Nat.lt_irrefl _),λj hj=>absurd hj (Nat.not_lt_zero _)⟩
theorem SC.arg{E:Env}{f:FuncId}{args args':List V}{cr:CRes}(h:SC E f args' [] cr)(hl:LeL args args')(hi:gQ args=[])(hi':gQ args'=[]):SC E f args [] cr:=by
 refine⟨h.1,λβ S w us h1 h2 h3=>?_⟩;have:=h.2 β S w us (hl _ _ _ _ _ h1) h2 h3
 have e:∀l:List V,gQ l=[]->bM E.allR (hp []) l=[]:=λl hl=>by
  unfold bM;rw[hl];cases E.allR<;>rfl
 rw[e _ hi']at this;rw[e _ hi];exact this
theorem SL.canon{E:Env}{c:ACode}{s t:St}{e:Ex}(h:SL E c s e t)(live:Nat):SL E c s e (bv0 live t):=by
 intro β S D a w hR b k cs;obtain⟨e',a',w',hP,hA⟩:=h β S D a w hR b k cs;refine⟨e',a',w',?_,hA⟩;obtain⟨β',S',D',h1,h2,h3,h4,h5,h6⟩:=hP.ex;obtain⟨β2,D2,g1,g2,g3⟩:=au3 h2 live;exact⟨β2,S',D2,h1,g1,h3.trans g2,λi bm hi hb=>h4 i bm hi (g3 i bm (by rw[h5];exact hi) hb),h5,h6⟩
def KC(live:Nat):Ex->St->Option Ans:=λe s=>yR live s λs=>some (.l e s)
theorem SL.by{E:Env}{ca:l8}{lo:f5}(hC:r8 E ca)(hX:SoundX E)(hL:x8 E lo){id live m:Nat}{c:ACode}{s t:St}{e:Ex}(h:n8 E ca lo id live c s (KC m)=some (.l e t)):SL E c s e t:=by
 obtain⟨e1,s1,h1,h2⟩:=mQ hC hX hL h;simp only[KC,zY,Option.some.injEq,Ans.l.injEq]at h1;obtain⟨rfl,rfl⟩:=h1;exact h2.canon _
theorem SL.next{E:Env}{ca:l8}(hC:r8 E ca)(hX:SoundX E){id live:Nat}{c:ACode}{s s' t:St}{e:Ex}(h:∀(lo:f5) (k:Ex->St->Option Ans),n8 E ca lo id live c s k=lo id live c s' k)(hn:SL E c s' e t):SL E c s e t:=by
 let lo:f5:=λid live c1 s1 k=>cl (c1=c/\s1=s') (k e t) none
 have hlo:x8 E lo:=by
  intro id live c1 s1 k r hr;rcases fm0 hr with⟨⟨rfl,rfl⟩,h1⟩ | ⟨_,h1⟩
  ·exact⟨_,_,h1,hn⟩
  ·cases h1
 have h1:n8 E ca lo id live c s (λe s=>some (.l e s))=some (.l e t):=(h lo _).trans (gh7 ⟨rfl,rfl⟩);obtain⟨e1,s1,h2,h3⟩:=mQ hC hX hlo h1;simp only[Option.some.injEq,Ans.l.injEq]at h2;obtain⟨rfl,rfl⟩:=h2;exact h3
noncomputable def ig6(g:FuncId)(a0:V)(q:List V->Option V)(ca:l8):l8:=λf args L k=>
 if f==g then match args with
  |a::rest=>match q rest with
   |some v=>cl (Le a a0/\a.ids=[]/\L=[]) (k (.ret v [])) none
   |none=>none
  | []=>none
 else ca f args L k
def sL(id:Nat):ACode->Option ACode
 | .seq a b=>match sL id a with|some c=>some c|none=>sL id b
 | .cond _ a b=>match sL id a with|some c=>some c|none=>sL id b
 | .block _ c=>sL id c
 | .scope c=>sL id c
 | .loop j _ c=>if j=id then some c else sL id c
 |_=>none
def h9(E:Env)(f:FuncId)(id:Nat):ACode:=((E.code f).bind (sL id)).getD .skip
end Go.Am
/- What is computed, as functions of plain data: calls and loops by functions that may fail. -/
namespace Go.Am
open Go Go.RowKit
open Classical in
noncomputable def hs3{α τ:Type}(A:α->τ)(t:τ):Option α:=if h:∃x,A x=t then some (Classical.choose h)else none
noncomputable def ay3{α γ τ:Type}(A:α->τ)(p:α->Option γ)(t:τ):Option γ:=(hs3 A t).bind p
theorem dc8{α γ τ:Type}{A:α->τ}{p:α->Option γ}{t:τ}{z:γ}(h:ay3 A p t=some z):∃x,A x=t/\p x=some z:=by
 unfold ay3 hs3 at h;split at h
 ·rename_i hx;exact⟨_,Classical.choose_spec hx,h⟩
 ·cases h
theorem br2{α γ τ:Type}{A:α->τ}(hi:∀x y,A x=A y->x=y)(p:α->Option γ):(λx=>ay3 A p (A x))=p:=by
 funext x;unfold ay3 hs3;have hx:∃y,A y=A x:=⟨x,rfl⟩;rw[dif_pos hx];show p (Classical.choose hx)=p x;rw[hi _ _ (Classical.choose_spec hx)]
noncomputable def gz2{α γ:Type}(g:FuncId)(gd:List V->List (Option Chunk)->Bool)(A:α->List V×List (Option Chunk))(ex:γ->(CRes->Option Ans)->Option Ans)(p:α->Option γ)(ca:l8):l8:=λf args L k=>
 if(f==g&&gd args L)=true then(ay3 A p (args,L)).bind λz=>ex z k else ca f args L k
theorem dc3{E:Env}{α γ:Type}{g:FuncId}{gd:List V->List (Option Chunk)->Bool}{A:α->List V×List (Option Chunk)}{ex:γ->(CRes->Option Ans)->Option Ans}{p:α->Option γ}{ca:l8}{R:γ->CRes}
 (h:∀x z,p x=some z->SC E g (A x).1 (A x).2 (R z)) (hex:∀z k,ex z k=k (R z)) (hl:r8 E ca):r8 E (gz2 g gd A ex p ca):=by
 intro f args L k r hr;simp only[gz2]at hr;split at hr
 ·rename_i e;simp only[Bool.and_eq_true,beq_iff_eq]at e;obtain⟨rfl,_⟩:=e;cases hv:ay3 A p (args,L)with
  |none=>rw[hv]at hr;cases hr
  |some z=>
   rw[hv]at hr;obtain⟨x,hx,hp⟩:=dc8 hv;have:=h x z hp;rw[hx]at this;exact⟨_,(hex z k)▸hr,this⟩
 ·exact hl _ _ _ _ _ hr
noncomputable def aj8{α γ:Type}(id:Nat)(gd:St->Bool)(body:ACode)(S:α->St)(ex:γ->KX->Option Ans)(p:α->Option γ)(lo:f5):f5:=λid' live c s k=>
 if(id'==id&&gd s)=true then(ay3 (λx=>(body,S x)) p (c,s)).bind λz=>ex z k else lo id' live c s k
theorem pP{E:Env}{α γ:Type}{id:Nat}{gd:St->Bool}{body:ACode}{S:α->St}{ex:γ->KX->Option Ans}{p:α->Option γ}{lo:f5}{T:γ->Ex×St}
 (h:∀x z,p x=some z->SL E body (S x) (T z).1 (T z).2) (hex:∀z k,ex z k=k (T z).1 (T z).2) (hl:x8 E lo):x8 E (aj8 id gd body S ex p lo):=by
 intro id' live c s k r hr;simp only[aj8]at hr;split at hr
 ·cases hv:ay3 (λx=>(body,S x)) p (c,s)with
  |none=>rw[hv]at hr;cases hr
  |some z=>
   rw[hv]at hr;obtain⟨x,hx,hp⟩:=dc8 hv;simp only[Prod.mk.injEq]at hx;obtain⟨rfl,rfl⟩:=hx;exact⟨_,_,(hex z k)▸hr,h x z hp⟩
 ·exact hl _ _ _ _ _ _ hr
theorem ap1{α:Type}{S:α->St}(body:ACode)(hi:∀x y,S x=S y->x=y):∀x y,(body,S x)=(body,S y)->x=y:=λx y h=>hi x y (Prod.mk.inj h).2
def lo0:f5:=λ_ _ _ _ _=>none
theorem cB{E:Env}:x8 E lo0:=λid live c s k r h=>by cases h
def ca0:l8:=λ_ _ _ _=>none
theorem a8{E:Env}:r8 E ca0:=λf args L k r h=>by cases h
def KCM(ms:List (Nat×Nat))(r:Nat):Ex->St->Option Ans:=λe s=>
 yR (match e with| .ret=>r| .exit j=>ie8 ms j| .normal=>0| .panic _=>ie8 ms 1000) s λs=>some (.l e s)
theorem SL.byM{E:Env}{ca:l8}{lo:f5}(hC:r8 E ca)(hX:SoundX E)(hL:x8 E lo){id live:Nat}{ms:List (Nat×Nat)}{r:Nat}{c:ACode}{s t:St}{e:Ex}(h:n8 E ca lo id live c s (KCM ms r)=some (.l e t)):SL E c s e t:=by
 obtain⟨e1,s1,h1,h2⟩:=mQ hC hX hL h;simp only[KCM,zY,Option.some.injEq,Ans.l.injEq]at h1;obtain⟨rfl,rfl⟩:=h1;exact h2.canon _
def loU(E:Env)(ca:l8)(ids:List Nat)(lo:f5):Nat->f5
 |0=>lo
 |n+1=>λid live c s k=>if ids.contains id=true then n8 E ca (loU E ca ids lo n) id live c s k else lo id live c s k
theorem au4{E:Env}{ca:l8}(hC:r8 E ca)(hX:SoundX E){ids:List Nat}{lo:f5}(hL:x8 E lo):∀n,x8 E (loU E ca ids lo n)
 |0=>hL
 |n+1=>λid live c s k r h=>by
  simp only[loU]at h;split at h
  ·exact mQ hC hX (au4 hC hX hL n) h
  ·exact hL _ _ _ _ _ _ h
def lpG{α γ:Type}(st:α->Option (α⊕γ)):Nat->α->Option γ
 |0,_=>none
 |n+1,x=>(st x).bind λr=>Sum.elim (lpG st n) some r
theorem SL.lp{E:Env}{ca:l8}{LT:f5->f5}(hC:r8 E ca)(hX:SoundX E)(hL:∀lo,x8 E lo->x8 E (LT lo)){α γ:Type}{S:α->St}{T:γ->Ex×St}{st:α->Option (α⊕γ)}{id live:Nat}{ms:List (Nat×Nat)}{r:Nat}{c:ACode}
 (tr:∀lo x,n8 E ca (LT lo) id live c (S x) (KCM ms r)=(st x).bind λr'=>Sum.elim (λy=>lo id live c (S y) (KCM ms r)) (λz=>some (.l (T z).1 (T z).2)) r')
 (kT:∀z,KCM ms r (T z).1 (T z).2=some (.l (T z).1 (T z).2)):∀n x z,lpG st n x=some z->SL E c (S x) (T z).1 (T z).2:=by
 intro n
 induction n with
 |zero=>intro x z h;cases h
 |succ n ih=>
  intro x z h;rw[lpG]at h;cases hs:st x with
  |none=>rw[hs]at h;cases h
  |some q=>
   rw[hs]at h;cases q with
   |inr z'=>
    simp only[Option.bind_some,Sum.elim_inr,Option.some.injEq]at h;subst h;exact SL.byM hC hX (hL _ cB) ((tr lo0 x).trans (by rw[hs];rfl))
   |inl y=>
    simp only[Option.bind_some,Sum.elim_inl]at h;have hy:=ih y z h
    let lo:f5:=λ_ _ c1 s1 k=>cl (c1=c/\s1=S y) (k (T z).1 (T z).2) none
    have hlo:x8 E lo:=by
     intro id live c1 s1 k r hr;rcases fm0 hr with⟨⟨rfl,rfl⟩,h1⟩ | ⟨_,h1⟩
     ·exact⟨_,_,h1,hy⟩
     ·cases h1
    refine SL.byM hC hX (hL _ hlo) ((tr lo x).trans ?_);rw[hs];exact(gh7 ⟨rfl,rfl⟩).trans (kT z)
theorem ce7{α γ:Type}{st:α->Option (α⊕γ)}{n:Nat}{x:α}:lpG st (n+1) x=(st x).bind λr=>Sum.elim (lpG st n) some r:=rfl
def vI:V->Int| .sc (.int _ n)=>n|_=>0
def vS:V->ByteArray| .sc (.string s)=>s|_=>ByteArray.empty
def vAg:V->List V| .agg l=>l|_=>[]
def u7:V->Nat| .ro _ n _=>n|_=>0
def iU:V->Nat->List V| .ro _ _ f=>f|_=>λ_=>[]
def dB:V->Nat| .sl _ _ _ n=>n|_=>0
def chB:Option Chunk->List V|some (.blk l)=>l|_=>[]
def chN:Option Chunk->Nat|some (.row _ _ n _)=>n|_=>0
def chF:Option Chunk->Nat->List V|some (.row _ _ _ f)=>f|_=>λ_=>[]
def chP:Option Chunk->Nat|some (.iter _ p)=>p|_=>0
theorem fp6{α β γ:Type}{o:Option α}{f:α->Option β}{g:α->Option γ}{k:γ->Option β}(h:∀z,f z=(g z).bind k):o.bind f=(o.bind g).bind k:=by
 cases o with
 |none=>rfl
 |some z=>exact h z
theorem ge5{c:Prop}[Decidable c]{β γ:Type}{a b:Option β}{a' b':Option γ}{k:γ->Option β}(h1:a=a'.bind k)(h2:b=b'.bind k):ite c a b=(ite c a' b').bind k:=by
 split
 ·exact h1
 ·exact h2
theorem go3{α1 α2 β γ:Type}{f1:α1->Option β}{f2:α2->Option β}{g1:α1->Option γ}{g2:α2->Option γ}{k:γ->Option β}{z:α1⊕α2}(h1:∀z,f1 z=(g1 z).bind k)(h2:∀z,f2 z=(g2 z).bind k):Sum.elim f1 f2 z=(Sum.elim g1 g2 z).bind k:=by
 cases z with
 |inl z=>exact h1 z
 |inr z=>exact h2 z
theorem gc2{β γ:Type}{k:γ->Option β}:(none:Option β)=(none:Option γ).bind k:=rfl
end Go.Am
/- Slices cloned: a row of one's own of the same cells, without a block if there are none. -/
namespace Go.Am
open Go Go.RowKit
theorem hh4(L:List (Option Chunk))(c:Chunk):hp (L++[some c])=upd (hp L) L.length (some c):=by
 funext i;unfold hp upd;by_cases h:i=L.length
 ·subst h;simp
 ·rw[if_neg (by simpa using h)];simp only[List.getD_eq_getElem?_getD];rw[List.getElem?_append];split
  ·rfl
  ·rename_i h2;rw[List.getElem?_eq_none (by simp;omega),List.getElem?_eq_none (by omega)]
mutual
noncomputable def bo1(E:Env)(sp:FuncId->Bool)(base:l8):Nat->l8
 |0=>λ_ _ _ _=>none
 |n+1=>λf args L k=>match sp f with
  |true=>base f args L k
  |false=>match gi4 E (bo1 E sp base n) (cq1 E sp base n) f args L (λr=>some (.c r))with
   |some (.c r)=>k r
   |_=>none
noncomputable def cq1(E:Env)(sp:FuncId->Bool)(base:l8):Nat->f5
 |0=>λ_ _ _ _ _=>none
 |n+1=>λid live c s k=>match gd9 E (bo1 E sp base n) (cq1 E sp base n) id live c s (λe s=>some (.l e s))with
  |some (.l e s)=>k e s
  |_=>none
end
theorem eg8{E:Env}{sp:FuncId->Bool}{base:l8}(hW:WF E)(hX:SoundX E)(hB:r8 E base):∀n,r8 E (bo1 E sp base n)/\x8 E (cq1 E sp base n)
 |0=>⟨λf args L k r h=>by simp[bo1]at h,λid live c s k r h=>by simp[cq1]at h⟩
 |n+1=>by
  obtain⟨h1,h2⟩:=eg8 (sp:=sp) hW hX hB n;constructor
  ·intro f args L k r h;rw[bo1]at h;dsimp only at h;split at h
   ·exact hB _ _ _ _ _ h
   ·rw[gh2]at h;split at h
    ·rename_i cr hc;obtain⟨cr',e1,e2⟩:=bo4 hW h1 hX h2 hc;simp only[Option.some.injEq,Ans.c.injEq]at e1;subst e1;exact⟨_,h,e2⟩
    ·cases h
  ·intro id live c s k r h;rw[cq1]at h;dsimp only at h;rw[gh3]at h;split at h
   ·rename_i e s1 hc;obtain⟨e',s',e1,e2⟩:=mQ h1 hX h2 hc;simp only[Option.some.injEq,Ans.l.injEq]at e1;obtain⟨rfl,rfl⟩:=e1;exact⟨_,_,h,e2⟩
   ·cases h
theorem SC.closedB{E:Env}{sp:FuncId->Bool}{base:l8}(hW:WF E)(hX:SoundX E)(hB:r8 E base)(n:Nat){f:FuncId}{args:List V}{L:List (Option Chunk)}{cr:CRes}(h:bo1 E sp base n f args L (λr=>some (.c r))=some (.c cr)):SC E f args L cr:=by
 obtain⟨cr',e1,e2⟩:=(eg8 (sp:=sp) hW hX hB n).1 _ _ _ _ _ h;simp only[Option.some.injEq,Ans.c.injEq]at e1
 rwa [e1]at e2
end Go.Am
/- Nil slices seen as rows of one's own without elements: one shape for both. -/
namespace Go.Am
open Go Go.RowKit
theorem er3{β:Bt}{S D:Pr}{w:World}{n k b:Nat}{u:Value}(hD:D n)(hb:β n=some (b,0))(h:den β S w D (.sc (.slice none 0 0)) u):den β S w D (.sl n k 0 0) u:=by
 simp only[den]at h⊢;subst h;refine⟨⟨hD,rfl⟩,λb' m h=>?_⟩;rw[hb]at h;cases h;exact⟨Nat.le_refl _,none,rfl,λh=>absurd h (Nat.lt_irrefl _)⟩
theorem gd7(L:List (Option Chunk))(j:Nat)(c:Option Chunk)(hj:j<L.length):hp (L.set j c)=upd (hp L) j c:=by
 funext i;unfold hp upd;by_cases h:i=j
 ·subst h;simp[List.getD_eq_getElem?_getD,hj]
 ·rw[if_neg h];simp only[List.getD_eq_getElem?_getD];rw[List.getElem?_set_ne (λe=>h e.symm)]
theorem gs5{β:Bt}{S:Pr}{w:World}{L:List (Option Chunk)}{e k:Nat}{g:Nat->List V}(hk:0<k)(hM:Mem β S (· <L.length) (hp L) w):
 Mem (upd β L.length (some (w.heap.size,0))) S (· <L.length+1) (hp (L++[some (.row e k 0 g)])) w/\Evo β S w (upd β L.length (some (w.heap.size,0))) S w/\Hb β (upd β L.length (some (w.heap.size,0))) (· <L.length):=by
 rw[hh4]
 exact hM.new (m:=0) (c:=.row e k 0 g) (b:=w.heap.size) (Nat.lt_irrefl _) (λi hi=>Nat.lt_succ_of_lt hi) (Nat.lt_succ_self _) (Below.refl _ _) (Nat.le_refl _) (λh=>absurd h (Nat.lt_irrefl _)) (by
  simp only[b7]
  exact⟨Nat.le_refl _,Nat.zero_le _,hk,λh=>absurd h (Nat.lt_irrefl _)⟩)
theorem SC.virtB{E:Env}{f:FuncId}{args:List V}{L:List (Option Chunk)}{cr:CRes}{cs:List V}(j:Nat)(cs2:List V)(e k:Nat)(g:Nat->List V)(hk:0<k)
 (h:SC E f args (L.set j (some (.blk cs2))++[some (.row e k 0 g)]) cr) (hj:L[j]? =some (some (.blk cs)))
 (hcs:∀(β:Bt) (S:Pr) (w:World) (us:List Value) (b:Nat),β L.length=some (b,0)->b8 β S w (· <L.length+1) cs us->b8 β S w (· <L.length+1) cs2 us)
 (hr:(bM E.allR (hp L) args).length<=L.length) (hr2:(bM E.allR (hp L) args).length<=(bM E.allR (hp (L.set j (some (.blk cs2))++[some (.row e k 0 g)])) args).length):SC E f args L cr:=by
 refine⟨h.1,λβ S w us hd hM hG=>?_⟩;obtain⟨q1,q2,q3⟩:=gs5 (e:=e) (k:=k) (g:=g) hk hM;have hjl:j<L.length:=(List.getElem?_eq_some_iff.1 hj).1
 have hM2:Mem (upd β L.length (some (w.heap.size,0))) S (· <L.length+1) (hp (L.set j (some (.blk cs2))++[some (.row e k 0 g)])) w:=by
  have e1:hp (L.set j (some (.blk cs2))++[some (.row e k 0 g)])=upd (hp (L++[some (.row e k 0 g)])) j (some (.blk cs2)):=by
   rw[<-gd7 _ _ _ (by simp;omega),List.set_append_left _ _ hjl]
  rw[e1];refine⟨λi c hc=>?_,λi hi=>?_,q1.dom,q1.own,q1.inj,q1.st⟩
  ·by_cases hij:i=j
   ·subst hij;rw[i7]at hc;cases hc
    obtain⟨b,m,h1,h2⟩:=q1.live i (.blk cs) (by
     unfold hp;rw[List.getD_eq_getElem?_getD,List.getElem?_append_left hjl,hj]
     rfl)
    refine⟨b,m,h1,?_⟩;simp only[b7]at h2⊢;obtain⟨h0,us',T,k1,k2,k3⟩:=h2;exact⟨h0,us',T,k1,hcs _ _ _ _ _ (i7 _ _ _) k2,k3⟩
   ·rw[aD _ _ hij]at hc;exact q1.live i c hc
  ·by_cases hij:i=j
   ·subst hij;rw[i7]at hi;cases hi
   ·rw[aD _ _ hij]at hi;exact q1.dead i hi
 have hl:(L.set j (some (Chunk.blk cs2))++[some (Chunk.row e k 0 g)]).length=L.length+1:=by simp
 refine(h.2 _ S w us (by rw[hl];exact j9 q3 (λ_ h=>h) (λi hi=>Nat.lt_succ_of_lt hi) (λ_ _=>rfl) _ _ hd) (by rw[hl];exact hM2) hG).mono ?_;intro en w' hp';cases cr with
 |ret v L'=>
  obtain⟨u,β',S',g0,g1,g2,g3,g4⟩:=hp';refine⟨u,β',S',g0,g1,g2,q2.trans g3,λi bm hi hbm=>?_⟩;have:=g4 i bm (Nat.lt_of_lt_of_le hi hr2) hbm
  rwa [aD _ _ (by omega)]at this
 |pan v=>
  obtain⟨u,β',S',g0,g1,g2,g3,g4⟩:=hp';exact⟨u,β',S',g0,g1,g2,q2.trans g3,g4⟩
end Go.Am
/- Plain functions that may have no answer: what they answer. -/
namespace Go.Am
def Rs{α:Type}(o:Option α)(P:α->Prop):Prop:=∃z,o=some z/\P z
theorem Rs.bind{α β:Type}{o:Option α}{f:α->Option β}{P:α->Prop}{Q:β->Prop}(h:Rs o P)(g:∀z,P z->Rs (f z) Q):Rs (o.bind f) Q:=by
 obtain⟨z,rfl,hz⟩:=h;exact g z hz
theorem Rs.some{α:Type}{z:α}{P:α->Prop}(h:P z):Rs (some z) P:=⟨z,rfl,h⟩
theorem Rs.mono{α:Type}{o:Option α}{P Q:α->Prop}(h:Rs o P)(g:∀z,P z->Q z):Rs o Q:=by
 obtain⟨z,h1,h2⟩:=h;exact⟨z,h1,g z h2⟩
theorem Rs.map{α β:Type}{o:Option α}{f:α->β}{P:α->Prop}{Q:β->Prop}(h:Rs o P)(g:∀z,P z->Q (f z)):Rs (o.map f) Q:=by
 obtain⟨z,rfl,hz⟩:=h;exact⟨_,rfl,g z hz⟩
theorem Rs.pos{α:Type}{c:Prop}{i:Decidable c}{a b:Option α}{P:α->Prop}(hc:c)(h:Rs a P):Rs (@ite _ c i a b) P:=by rw[_root_.if_pos hc];exact h
theorem Rs.neg{α:Type}{c:Prop}{i:Decidable c}{a b:Option α}{P:α->Prop}(hc:¬c)(h:Rs b P):Rs (@ite _ c i a b) P:=by rw[_root_.if_neg hc];exact h
theorem Rs.ite{α:Type}{c:Prop}{i:Decidable c}{a b:Option α}{P:α->Prop}(h1:c->Rs a P)(h2:¬c->Rs b P):Rs (@_root_.ite _ c i a b) P:=by
 by_cases h:c
 ·exact Rs.pos h (h1 h)
 ·exact Rs.neg h (h2 h)
theorem Rs.eq{α:Type}{o:Option α}{v:α}(h:Rs o (λz=>z=v)):o=Option.some v:=by obtain⟨z,h1,rfl⟩:=h;exact h1
theorem Rs.of{α:Type}{o:Option α}{v:α}(h:o=Option.some v):Rs o (λz=>z=v):=⟨v,h,rfl⟩
theorem Rs.step{α γ:Type}{st:α->Option (α⊕γ)}{q:Nat}{y:α}{P:γ->Prop}(h:Rs (st y) (λr=>Sum.elim (λy'=>Rs (lpG st q y') P) P r)):Rs (lpG st (q+1) y) P:=by
 obtain⟨r,h1,h2⟩:=h;rw[ce7,h1];cases r with
 |inl y'=>exact h2
 |inr z=>exact⟨z,rfl,h2⟩
theorem Rs.step3{α γ:Type}{st:α->Option (α⊕γ)}{q:Nat}{y:α}{P:γ->Prop}(h:∀Q:α->Prop,(∀y',Rs (lpG st q y') P->Q y')->Rs (st y) (Sum.elim Q P)):Rs (lpG st (q+1) y) P:=by
 refine Rs.step ((h (λy'=>Rs (lpG st q y') P) λ_ g=>g).mono λz hz=>?_);cases z<;>exact hz
end Go.Am
/- What a call hands back, given up in part: the rest stays one's own. -/
namespace Go.Am
open Go Go.RowKit
theorem SC.giveM{E:Env}{f:FuncId}{args:List V}{L0:List (Option Chunk)}{v:V}{L L2:List (Option Chunk)}(n:Nat)(h:SC E f args L0 (.ret v L))
 (hk:keep (s8 (hp L) (al0 v)) (List.range n)=L2) (hp':(v.bw (hp L)).pure=true):SC E f args L0 (.ret (v.bw (hp L)) L2):=by
 refine⟨h.1,λβ S w us h1 h2 h3=>(h.2 β S w us h1 h2 h3).mono ?_⟩;rintro e w' ⟨u,β',S',rfl,q1,q2,q3,q4⟩;obtain⟨g1,g2,g3⟩:=q1.drop (al0 v) ch4;have hd:=fg0 (S':=by8 β' S' ((al0 v).map (·.1))) q1 g3 (λ_ h=>.inl h) (λi hi b m hb h0=>.inr ⟨i,m,List.mem_map.2 ⟨_,hi,rfl⟩,hb,h0⟩) q2;have g4:=g1.renum (order:=List.range n) List.nodup_range;rw[hk]at g4;have hl:(List.range n).length=L2.length:=by rw[<-hk];simp[keep]
 rw[hl]at g4
 have hget:∀j bm,ofOrder (iH β' ((al0 v).map (·.1))) (List.range n) j=some bm->β' j=some bm:=by
  intro j bm hb;unfold ofOrder at hb;by_cases hj:j<n
  ·rw[List.getElem?_range hj]at hb;simp only[Option.bind_some]at hb;unfold iH at hb;split at hb
   ·cases hb
   ·exact hb
  ·rw[List.getElem?_eq_none (by simpa using Nat.le_of_not_lt hj)]at hb;cases hb
 refine⟨u,_,_,rfl,g4,q8 (λ_ h=>h) (λ_ _=>rfl) _ _ hp' hd,(q3.trans g2).trans ⟨rfl,rfl,rfl,Nat.le_refl _,λ_ _ _=>rfl,λ_ h=>h,λ_ h=>.inl h,λi b m hb h0=>?_⟩,λi bm hi hb=>q4 i bm hi (hget i bm hb)⟩;obtain⟨j,_,hj⟩:=o6 hb;exact .inr ⟨j,m,h0,hj⟩
def fixV:V->V
 | .sc (.slice none 0 0)=>.ro 4 0 (λ_=>[])
 |v=>v
def fixC:List V->List V
 | [a,b,c,d]=>[a,b,c,fixV d]
 |l=>l
theorem Le.fixV(v:V):Le v (fixV v):=by
 unfold Am.fixV;split
 ·exact Le.nil_ro
 ·exact Le.refl _
theorem LeL.fixC(l:List V):LeL l (fixC l):=by
 unfold Am.fixC;split
 ·exact LeL.cons (Le.refl _) (LeL.cons (Le.refl _) (LeL.cons (Le.refl _) (LeL.cons (Le.fixV _) LeL.nil)))
 ·exact LeL.refl _
theorem fx1(v:V):(fixV v).pure=v.pure:=by
 unfold fixV;split<;>simp[V.pure]
theorem ez6(l:List V):m8 (fixC l)=m8 l:=by
 unfold fixC;split
 ·simp[m8,fx1]
 ·rfl
theorem Le.ro_fix{k n:Nat}{f:Nat->List V}:Le (.ro k n f) (.ro k n (λj=>Am.fixC (f j))):=by
 intro β S w D u hd;simp only[Am.den]at hd⊢;obtain⟨h0,A,m,a,us,h1,h2,h3,h4⟩:=hd;refine⟨h0,A,m,a,us,h1,h2,h3,λj hj=>?_⟩;obtain⟨g1,g2,g3,g4,g5⟩:=h4 j hj;exact⟨LeL.fixC _ _ _ _ _ _ g1,by rw[ez6];exact g2,g3,g4,g5⟩
end Go.Am
/- The rest of a function's code, where it ends in a panic. -/
namespace Go.Am
open Go Go.RowKit
def dh7:Nat->ACode->ACode
 |0,c=>c
 |n+1,.seq _ b=>dh7 n b
 |_,c=>c
def fw1(n:Nat)(c:ACode):ACode:=match dh7 n c with| .seq a _=>a|c=>c
def endP(k:CRes->Option Ans):KX:=λe s=>match e with
 | .panic v=>match s.fr with
  |_::_:: .ptr 0 0:: .ptr 1 0:: .ptr 2 0::_=>match s.H 0,s.H 1,s.H 2 with|some (.blk [_]),some (.blk [_]),some (.blk [_])=>k (.pan v) |_,_,_=>none
  |_=>none
 |_=>none
def gr7(n rt:Nat)(E:Env)(ca:l8)(lo:f5)(f:FuncId)(args:List V)(L:List (Option Chunk))(k:CRes->Option Ans):Option Ans:=
 match E.code f with
 |some c=>aW E ca lo (dh7 n c) {fr:=args,H:=hp L,nx:=L.length,rt:=rt,me:=f} (endP k)
 |none=>none
def RC(n rt:Nat)(E:Env)(f:FuncId)(fr:List V)(L:List (Option Chunk))(cr:CRes):Prop:=
 ∀c,E.code f=some c->∃v s',cr= .pan v/\Ends E (dh7 n c) {fr:=fr,H:=hp L,nx:=L.length,rt:=rt,me:=f} (.panic v) s'/\
  ∃x0 x1 x2 y0 y1 l,s'.fr=y0::y1:: .ptr 0 0:: .ptr 1 0:: .ptr 2 0::l/\s'.H 0=some (.blk [x0])/\s'.H 1=some (.blk [x1])/\s'.H 2=some (.blk [x2])
theorem RC.of{n rt:Nat}{E:Env}{ca:l8}{lo:f5}(hX:SoundX E)(hC:r8 E ca)(hL:x8 E lo){f:FuncId}{args:List V}{L:List (Option Chunk)}{cr:CRes}
 (h:gr7 n rt E ca lo f args L (λr=>some (.c r))=some (.c cr)):RC n rt E f args L cr:=by
 intro c hc;unfold gr7 at h;rw[hc]at h;obtain⟨e,s',h1,h2⟩:=cC hC hX hL _ _ _ _ h;unfold endP at h1;split at h1
 ·rename_i v;split at h1
  ·rename_i y0 y1 l ef;split at h1
   ·rename_i x0 x1 x2 e0 e1 e2;simp only[Option.some.injEq,Ans.c.injEq]at h1;exact⟨v,s',h1.symm,h2,x0,x1,x2,y0,y1,l,ef,e0,e1,e2⟩
   ·cases h1
  ·cases h1
 ·cases h1
def KN(m:Nat):KX:=λe s=>yR m s λs=>some (.l e s)
theorem Ends.of{E:Env}{ca:l8}{lo:f5}(hX:SoundX E)(hC:r8 E ca)(hL:x8 E lo){c:ACode}{s t:St}{e:Ex}{m:Nat}(h:aW E ca lo c s (KN m)=some (.l e t)):Ends E c s e t:=by
 obtain⟨e1,s1,h1,h2⟩:=cC hC hX hL _ _ _ _ h;simp only[KN,zY,Option.some.injEq,Ans.l.injEq]at h1;obtain⟨rfl,rfl⟩:=h1;intro β S D a w hR;refine wp_mono (h2 β S D a w hR) λe' a' w' hp=>?_;obtain⟨β1,S1,D1,q1,q2,q3,q4,q5,q6⟩:=hp.ex;obtain⟨β2,D2,g1,g2,g3⟩:=au3 q2 m;exact⟨β2,S1,D2,q1,g1,q3.trans g2,λi bm hi hb=>q4 i bm hi (g3 i bm (by rw[q5];exact hi) hb),q5,q6⟩
end Go.Am
/- What comes in, where it is bounded: strings and slices no longer than what is read weighs. -/
namespace Go.Am
open Go Go.RowKit
def SmV(B:Nat):Nat->List V->Prop
 |0,_=>False
 |d+1,l=>∀v∈l,match v with
  | .sc (.string s)=>s.size<=B
  | .ro _ n f=>n<=B/\∀j,j<n->SmV B d (f j)
  | .agg m=>SmV B d m
  |_=>True
theorem SmV.succ{B:Nat}:∀{d:Nat} {l:List V},SmV B d l->SmV B (d+1) l
 |0,_,h=>h.elim
 |d+1,l,h=>by
  intro v hv;have:=h v hv;split
  ·exact this
  ·exact⟨this.1,λj hj=>SmV.succ (this.2 j hj)⟩
  ·exact SmV.succ this
  ·trivial
theorem SmV.app{B d:Nat}{a b:List V}(h:SmV B d a)(g:SmV B d b):SmV B d (a++b):=by
 cases d with
 |zero=>exact h.elim
 |succ d=>
  intro v hv;rcases List.mem_append.1 hv with hv|hv
  ·exact h v hv
  ·exact g v hv
theorem SmV.nil{B d:Nat}:SmV B (d+1) []:=λv hv=>by cases hv
theorem SmV.left{B d:Nat}{a b:List V}(h:SmV B d (a++b)):SmV B d a:=by
 cases d with
 |zero=>exact h.elim
 |succ d=>exact λv hv=>h v (List.mem_append_left _ hv)
theorem SmV.right{B d:Nat}{a b:List V}(h:SmV B d (a++b)):SmV B d b:=by
 cases d with
 |zero=>exact h.elim
 |succ d=>exact λv hv=>h v (List.mem_append_right _ hv)
theorem SmV.str{B d:Nat}{l:List V}{s:ByteArray}(h:SmV B d l)(hm:V.sc (.string s)∈l):s.size<=B:=by
 cases d with
 |zero=>exact h.elim
 |succ d=>exact h _ hm
theorem SmV.row{B d:Nat}{l:List V}{c n:Nat}{f:Nat->List V}(h:SmV B (d+1) l)(hm:V.ro c n f∈l):n<=B/\∀j,j<n->SmV B d (f j):=h _ hm
def am5(P:Program):Bool:=(List.range P.types.size).all λt=>match P.underlying t with
 |some (.slice e)=>decide (1<=P.bytesOf e)||P.cellsOf e==0
 |_=>true
def SmP(B:Nat)(v:V):Prop:=∃d,SmV B d [v]
theorem SmP.agg{B:Nat}{l:List V}(h:SmP B (.agg l)):∃d,SmV B d l:=by
 obtain⟨d,h⟩:=h;cases d with
 |zero=>exact h.elim
 |succ d=>exact⟨d,h _ (.head _)⟩
theorem SmP.str{B:Nat}{s:ByteArray}(h:SmP B (.sc (.string s))):s.size<=B:=by
 obtain⟨d,h⟩:=h;exact h.str (.head _)
theorem SmV.box{B d:Nat}{l:List V}(h:SmV B d l):SmV B (d+1) [.agg l]:=λv hv=>by
 simp only[List.mem_singleton]at hv;subst hv;exact h
end Go.Am

