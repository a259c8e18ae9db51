/- Regions that draw their order: the text's order, and any other. -/
import Derived.Test.YtniogljhkjbcgaaDoorAmQ
namespace Go.Am
open Go Go.RowKit
set_option linter.unusedSimpArgs false
set_option linter.unusedVariables false

abbrev S2 := List V × Hp
abbrev Rc := V × List (Nat × Option Chunk)
def app2 (s : S2) (o : Oper) (r : Rc) : S2 := (putL s.1 o.dst r.1, updL s.2 r.2)
def Ts : S2 → List Oper → List Rc → Nat → S2
  | s, _, _, 0 => s
  | s, o :: l, r :: rs, j + 1 => Ts (app2 s o r) l rs j
  | s, _, _, _ + 1 => s
theorem Ts_succ : ∀ (l : List Oper) (rs : List Rc) (s : S2) (j : Nat) (o : Oper) (r : Rc), l[j]? = some o → rs[j]? = some r → Ts s l rs (j + 1) = app2 (Ts s l rs j) o r
  | [], rs, s, j, o, r, h, _ => by simp at h
  | x :: l, [], s, j, o, r, _, h => by simp at h
  | x :: l, y :: rs, s, 0, o, r, h, h' => by
    simp only [List.getElem?_cons_zero, Option.some.injEq] at h h'
    subst h h'
    cases l <;> cases rs <;> rfl
  | x :: l, y :: rs, s, j + 1, o, r, h, h' => by
    have := Ts_succ l rs (app2 s x y) j o r (by simpa using h) (by simpa using h')
    exact this

/-- The operation in its text's place, and wherever what it looks at is the same. -/
def OkAt (ops : Array Oper) (base : Nat) (bits : Vw) (o : Oper) (T s : S2) : Prop :=
  (∀ t ∈ o.looksAt ops, s.1.getD t .junk = T.1.getD t .junk) ∧ (readsOp o.op = true → visH base bits s.2 = visH base bits T.2)
def Does (E : Env) (ops : Array Oper) (base : Nat) (bits : Vw) (new : Nat) (o : Oper) (T : S2) (r : Rc) : Prop :=
  ∀ s : S2, OkAt ops base bits o T s → ∀ (β : Bt) (S D : Pr) (a : Act) (w : World) (Q : Exit → Act → World → Prop) (K : Act → World → Prop), denL β S w D s.1 a.tmps.toList → Mem β S D s.2 w → Glob E S w → (∀ i, new ≤ i → i < new + wide → ¬ D i) →
    (∀ u w' β' S', Mem β' S' (span D new) (updL s.2 r.2) w' → den β' S' w' (span D new) r.1 u → Evo β S w β' S' w' → Hb β β' D → K (a.put o.dst u) w') →
    if Region.wanted o (yielded ops a.tmps) then o.wp E.P a w K Q ∨ (o.asks E.P a w ∧ LetsOut Q) else K (a.put o.dst undef) w

theorem yieldA_congr {ops : List Oper} {fr fr' : List V} {o : Oper} (h : ∀ t ∈ o.looksAt ops.toArray, fr.getD t .junk = fr'.getD t .junk) {j : Nat} {b : Bool} (hg : o.guard = some (j, b)) : yieldA ops fr j = yieldA ops fr' j := by
  unfold yieldA
  split
  · rename_i o' ho
    split
    · rename_i t ht
      exact h t (by
        unfold Oper.looksAt
        rw [hg]
        simp only [List.getElem?_toArray, ho, Option.bind_some, ht]
        exact List.mem_append_right _ (by simp))
    · rfl
  · rfl
theorem evA_congr {E : Env} {ops : Array Oper} {fr fr' : List V} {o : Oper} (h : ∀ t ∈ o.looksAt ops, fr.getD t .junk = fr'.getD t .junk) : ∀ x ∈ o.op.operands, evA E fr x = evA E fr' x := by
  intro x hx
  cases x with
  | tmp t =>
    exact h t (by
      unfold Oper.looksAt
      exact List.mem_append_left _ (List.mem_filterMap.2 ⟨.tmp t, by simpa using hx, rfl⟩))
  | _ => rfl
theorem guard_does {ops : List Oper} {o : Oper} {fr : List V} {k : Bool → Option Ans} {r : Ans} (h : guardK o.guard (yieldA ops fr) k = some r) :
    ∃ b, k b = some r ∧ ∀ (fr' : List V), (∀ t ∈ o.looksAt ops.toArray, fr'.getD t .junk = fr.getD t .junk) → ∀ (β : Bt) (S D : Pr) (w : World) (a : Act), denL β S w D fr' a.tmps.toList → Region.wanted o (yielded ops.toArray a.tmps) = b := by
  unfold guardK at h
  split at h
  · rename_i hg
    exact ⟨true, h, fun fr' _ β S D w a _ => by simp [Region.wanted, hg]⟩
  · rename_i j b hg
    split at h
    · rename_i v hv
      split at h
      · rename_i c
        split at h
        · rename_i hcb
          subst hcb
          exact ⟨true, h, fun fr' hl β S D w a hf => by simp [Region.wanted, hg, yieldA_sound hf ((yieldA_congr hl hg).trans hv)]⟩
        · rename_i hcb
          exact ⟨false, h, fun fr' hl β S D w a hf => by simp [Region.wanted, hg, yieldA_sound hf ((yieldA_congr hl hg).trans hv), hcb]⟩
      · rename_i hnb
        refine ⟨false, h, fun fr' hl β S D w a hf => ?_⟩
        have := yieldA_sound hf ((yieldA_congr hl hg).trans hv)
        simp only [Region.wanted, hg, this]
        cases v <;> first | rfl | (exact absurd rfl (hnb _))
    · cases h

/-- The text's run. -/
inductive TextRun (E : Env) (ops : List Oper) (base : Nat) : Nat → List Oper → List (Nat × Bool × Vw × List Nat) → S2 → List Rc → List Vw → S2 → Prop where
  | nil {i : Nat} {done : List (Nat × Bool × Vw × List Nat)} {s : S2} : TextRun E ops base i [] done s [] [] s
  | cons {i : Nat} {o : Oper} {l : List Oper} {done : List (Nat × Bool × Vw × List Nat)} {s s' : S2} {r : Rc} {rs : List Rc} {b : Vw} {bs : List Vw} : Does E ops.toArray base b (base + i * wide) o s r → pairsOk ops base o b (r.2.map (·.1)) done = true →
      TextRun E ops base (i + 1) l ((i, readsOp o.op, b, r.2.map (·.1)) :: done) (app2 s o r) rs bs s' → TextRun E ops base i (o :: l) done s (r :: rs) (b :: bs) s'

theorem vwK_some {E : Env} {b : Nat} {fr : List V} {h : Hp} {o : Oper} {k : Vw → Option Ans} {r : Ans} (g : vwK E b fr h o k = some r) : ∃ vw, k vw = some r := by
  unfold vwK at g
  rw [fNL_eq] at g
  exact ⟨_, g⟩

theorem stepD_run {E : Env} {ca : CallT} (hC : SoundC E ca) (hX : SoundX E) {ops : List Oper} {befs : List Nat} {base : Nat} : ∀ (l : List Oper) (i : Nat) (done : List (Nat × Bool × Vw × List Nat)) (s : St) (k : KX) (r : Ans), stepD E ca ops befs base i l done s k = some r →
    ∃ rs bs s', TextRun E ops base i l done (s.fr, s.H) rs bs s' ∧ k .normal { fr := s'.1, H := s'.2, nx := base + (i + l.length) * wide, rt := s.rt, me := s.me } = some r
  | [], i, done, s, k, r, h => by
    simp only [stepD] at h
    exact ⟨[], [], _, .nil, by simpa using h⟩
  | o :: l, i, done, s, k, r, h => by
    simp only [stepD] at h
    replace h := guardR_some h
    obtain ⟨b, hb, hw⟩ := guard_does h
    have next : ∀ (vw : Vw) (v : V) (us : List (Nat × Option Chunk)), Does E ops.toArray base vw (base + i * wide) o (s.fr, s.H) (v, us) → pairsOk ops base o vw (us.map (·.1)) done = true →
        stepD E ca ops befs base (i + 1) l ((i, readsOp o.op, vw, us.map (·.1)) :: done) { fr := putL s.fr o.dst v, H := updL s.H us, nx := s.nx, rt := s.rt, me := s.me } k = some r →
        ∃ rs bs s', TextRun E ops base i (o :: l) done (s.fr, s.H) rs bs s' ∧ k .normal { fr := s'.1, H := s'.2, nx := base + (i + (o :: l).length) * wide, rt := s.rt, me := s.me } = some r := by
      intro vw v us hd hp hs
      obtain ⟨rs, bs, s', h1, h2⟩ := stepD_run hC hX l (i + 1) _ _ k r hs
      refine ⟨(v, us) :: rs, vw :: bs, s', .cons hd hp h1, ?_⟩
      rw [show i + (o :: l).length = i + 1 + l.length by simp only [List.length_cons]; omega]
      exact h2
    cases b with
    | false =>
      simp only [Bool.false_eq_true, if_false] at hb
      split at hb
      · rename_i hp
        simp only [doneK_eq] at hb
        refine next _ (.sc undef) [] ?_ hp hb
        intro s2 hok β S D a w Q K hf hM hG hn hK
        rw [if_neg (by rw [hw s2.1 hok.1 β S D w a hf]; simp)]
        exact hK undef w β S (hM.mono (span_sub _ _)) (by simp [den]) (Evo.refl _ _ _) (Hb.refl _ _)
      · cases hb
    | true =>
      simp only [if_true] at hb
      obtain ⟨vw, hb⟩ := vwK_some hb
      -- the operation, whatever the frame, if it looks the same
      obtain ⟨R, hR⟩ := nat_op (pb := E.push) (pr := E.rows) (P := E.P) (o := o) (ev := evA E s.fr) (get := visH base vw s.H) (new := base + i * wide)
      have hb' := hb
      rw [hR] at hb'
      cases hres : R with
      | none => rw [hres] at hb'; cases hb'
      | some res =>
        rw [hres, Option.bind_some] at hb'
        have hgood : ∀ (s2 : S2), OkAt ops.toArray base vw o (s.fr, s.H) s2 → ∀ (β : Bt) (S D : Pr) (a : Act) (w : World), denL β S w D s2.1 a.tmps.toList → Mem β S D s2.2 w → Glob E S w → (∀ j, base + i * wide ≤ j → j < base + i * wide + wide → ¬ D j) →
            GoodR E.P (visT base vw β) S D (visH base vw s2.2) (base + i * wide) o a w res := by
          intro s2 hok β S D a w hf hM hG hn
          obtain ⟨hv1, hv2⟩ := hM.vis base vw
          have e1 : opK E.P E.push E.rows o (evA E s2.1) (visH base vw s2.2) (base + i * wide) = opK E.P E.push E.rows o (evA E s.fr) (visH base vw s.H) (base + i * wide) := by
            rw [op_congr (evA_congr (E := E) hok.1)]
            by_cases hr : readsOp o.op = true
            · rw [hok.2 hr]
            · exact op_get (by simpa using hr)
          classical
          have hk : opK E.P E.push E.rows o (evA E s2.1) (visH base vw s2.2) (base + i * wide) (fun x => if x = res then some r else none) = some r := by rw [e1, hR, hres]; simp
          obtain ⟨res', g1, g2⟩ := opK_sound (a := a) hv1 (hn _ (Nat.le_refl _) (by simp [wide])) (fun x => den_later hv2 (fun _ h => h) (fun _ h => h) (fun _ _ => rfl) _ _ (evA_sound hf hG x)) hk
          simp only at g1
          split at g1
          · rename_i he; rw [← he]; exact g2
          · cases g1
        cases res with
        | val v us =>
          simp only at hb'
          split at hb'
          · rename_i hc
            simp only [Bool.and_eq_true] at hc
            simp only [doneK_eq] at hb'
            refine next _ _ _ ?_ hc.2 hb'
            intro s2 hok β S D a w Q K hf hM hG hn hK
            rw [if_pos (hw s2.1 hok.1 β S D w a hf)]
            left
            obtain ⟨u, w', β', S', g1, g2, g3, g4, g5, g6⟩ := hgood s2 hok β S D a w hf hM hG hn
            obtain ⟨q1, q2, q3, q4⟩ := unsee hM hn hc.1 g2 g3 g4 g5 g6
            have := hK u w' _ S' q1 q2 q3 q4
            unfold Oper.wp
            rcases g1 with g1 | ⟨g1, rfl⟩
            · rw [g1]; exact this
            · rw [g1]; exact this
          · cases hb'
        | pan v => simp only at hb'; cases hb'
        | dfr _ _ => simp only at hb'; cases hb'
        | call f args =>
          simp only at hb'
          obtain ⟨res2, hk2, hcall⟩ := doCall_sound hC hX hb'
          cases res2 with
          | val v us =>
            simp only at hk2
            split at hk2
            · rename_i hc
              simp only [Bool.and_eq_true] at hc
              simp only [doneK_eq] at hk2
              refine next _ _ _ ?_ hc.2.2 hk2
              intro s2 hok β S D a w Q K hf hM hG hn hK
              rw [if_pos (hw s2.1 hok.1 β S D w a hf)]
              left
              obtain ⟨cs, g1, g2⟩ := hgood s2 hok β S D a w hf hM hG hn
              have hvis := hok.2 hc.1
              obtain ⟨hv1, hv2⟩ := hM.vis base vw
              rw [hvis] at hv1
              obtain ⟨c1, c2⟩ := hcall _ S D w hv1 hG hn
              unfold Oper.wp
              rw [g1 c1]
              refine (c2 cs g2).mono ?_
              rintro e' w' ⟨u, β', S', rfl, p1, p2, p3, p4, p5⟩
              obtain ⟨q1, q2, q3, q4⟩ := unsee hM hn hc.2.1 (by simp only at hvis; rw [hvis]; exact p1) p2 p3 p4 p5
              exact hK u w' _ S' q1 q2 q3 q4
            · cases hk2
          | pan v => simp only at hk2; cases hk2
          | call _ _ => simp only at hk2; cases hk2
          | dfr _ _ => simp only at hk2; cases hk2

/-! ### Any order -/
def PairC (ops : Array Oper) (base : Nat) (oi oj : Oper) (bi bj : Vw) (ki kj : List Nat) : Prop :=
  oi.apart ops oj = true ∧ (readsOp oj.op = true → ∀ x ∈ ki, visB base bj x = false) ∧ (readsOp oi.op = true → ∀ x ∈ kj, visB base bi x = false) ∧ ∀ x ∈ ki, x ∉ kj
def far (ops : Array Oper) (oj : Oper) (i : Nat) : Prop := ∀ e ∈ oj.after, Region.binds .any e = true → e.on ≠ i ∧ ∀ om, ops[e.on]? = some om → ∀ e' ∈ om.after, Region.binds .any e' = true → e'.on ≠ i
def Closed (ops : Array Oper) (listed : Array Bool) : Prop := ∀ (m : Nat) (om : Oper), ops[m]? = some om → listed.getD m false = true → ∀ e ∈ om.after, Region.binds .any e = true → listed.getD e.on false = true
theorem edge1_iff {o : Oper} {i : Nat} (h : edge1 o i = true) : ∃ e ∈ o.after, Region.binds .any e = true ∧ e.on = i := by
  unfold edge1 at h
  rw [List.any_eq_true] at h
  obtain ⟨e, he, hb⟩ := h
  simp only [Bool.and_eq_true, beq_iff_eq] at hb
  exact ⟨e, by simpa using he, hb.1, hb.2⟩
theorem pairsOk_mem {ops : List Oper} {base : Nat} {o : Oper} {bj : Vw} {kj : List Nat} : ∀ {done : List (Nat × Bool × Vw × List Nat)}, pairsOk ops base o bj kj done = true → ∀ {i : Nat} {ri : Bool} {bi : Vw} {ki : List Nat}, (i, ri, bi, ki) ∈ done →
    (¬ far ops.toArray o i) ∨ ((readsOp o.op = true → ∀ x ∈ ki, visB base bj x = false) ∧ (ri = true → ∀ x ∈ kj, visB base bi x = false) ∧ ∀ x ∈ ki, x ∉ kj)
  | (i', ri', bi', ki') :: l, h, i, ri, bi, ki, hm => by
    simp only [pairsOk, Bool.and_eq_true] at h
    cases hm with
    | tail _ hm => exact pairsOk_mem h.2 hm
    | head =>
      have h1 := h.1
      rw [Bool.or_eq_true, Bool.or_eq_true] at h1
      rcases h1 with h1 | h1 | h1
      · left
        obtain ⟨e, he, hb, hon⟩ := edge1_iff h1
        exact fun hf => (hf e he hb).1 hon
      · right
        simp only [Bool.and_eq_true] at h1
        obtain ⟨⟨a1, a2⟩, a3⟩ := h1
        refine ⟨fun hr x hx => ?_, fun hr x hx => ?_, fun x hx hxj => ?_⟩
        · rw [hr] at a1
          simp only [Bool.not_true, Bool.false_or, List.all_eq_true] at a1
          simpa using a1 x hx
        · rw [hr] at a2
          simp only [Bool.not_true, Bool.false_or, List.all_eq_true] at a2
          simpa using a2 x hx
        · rw [List.all_eq_true] at a3
          have := a3 x hxj
          simp at this
          exact this hx
      · left
        unfold edge2 at h1
        rw [List.any_eq_true] at h1
        obtain ⟨e, he, hb⟩ := h1
        rw [Bool.and_eq_true] at hb
        obtain ⟨hb, hm⟩ := hb
        split at hm
        · rename_i om hom
          obtain ⟨e', he', hb', hon⟩ := edge1_iff hm
          exact fun hf => (hf e (by simpa using he) hb).2 om (by simpa using hom) e' he' hb' hon
        · cases hm

section
variable {ops : Array Oper} {base : Nat} {bits : Nat → Vw} {eff : Nat → Rc} {T : Nat → S2} {fin : S2}
/-- From here on, whatever order is picked, each operation stands where it looks as it does in the text, and the end is the text's. -/
def AnyA (ops : Array Oper) (base : Nat) (bits : Nat → Vw) (eff : Nat → Rc) (T : Nat → S2) (fin : S2) : Nat → Array Bool → S2 → Prop
  | 0, listed, s => Region.ready .any ops listed = [] ∧ s = fin
  | fuel + 1, listed, s => (Region.ready .any ops listed = [] → s = fin) ∧
    ∀ i ∈ Region.ready .any ops listed, ∀ o, ops[i]? = some o → OkAt ops base (bits i) o (T i) s ∧ AnyA ops base bits eff T fin fuel (listed.setIfInBounds i true) (app2 s o (eff i))
theorem put_look {ops : Array Oper} {x y : Oper} {fr : List V} {v : V} (h : ∀ d, x.dst = some d → d ∉ y.looksAt ops) : ∀ t ∈ y.looksAt ops, (putL fr x.dst v).getD t .junk = fr.getD t .junk := by
  intro t ht
  unfold putL
  cases hd : x.dst with
  | none => rfl
  | some d =>
    have hne : d ≠ t := fun e => h d hd (e ▸ ht)
    simp only [List.getD_eq_getElem?_getD]
    rw [List.getElem?_set_ne hne]
theorem putL_comm {x y : Oper} {fr : List V} {v u : V} (h : ∀ d, x.dst = some d → y.dst ≠ some d) : putL (putL fr x.dst v) y.dst u = putL (putL fr y.dst u) x.dst v := by
  unfold putL
  cases hx : x.dst with
  | none => rfl
  | some d =>
    cases hy : y.dst with
    | none => rfl
    | some e =>
      have hne : d ≠ e := fun he => h d hx (by rw [hy, he])
      simp only
      rw [List.set_comm _ _ hne]
theorem vis_upd {base : Nat} {b : Vw} {h : Hp} {us : List (Nat × Option Chunk)} (hk : ∀ x ∈ us.map (·.1), visB base b x = false) : visH base b (updL h us) = visH base b h := by
  funext x
  unfold visH
  split
  · rename_i hv
    refine updL_notin us h x fun hm => ?_
    rw [hk x hm] at hv
    cases hv
  · rfl
theorem ok_app {oi oj : Oper} {bi bj : Vw} {s : S2} {r : Rc} {T : S2} (hp : oi.apart ops oj = true) (hk : readsOp oj.op = true → ∀ x ∈ r.2.map (·.1), visB base bj x = false) : OkAt ops base bj oj T (app2 s oi r) ↔ OkAt ops base bj oj T s := by
  obtain ⟨h1, h2, h3⟩ := Oper.apart_spec hp
  unfold OkAt app2
  constructor
  · rintro ⟨g1, g2⟩
    exact ⟨fun t ht => by rw [← g1 t ht]; exact (put_look h1 t ht).symm, fun hr => by rw [← g2 hr]; exact (vis_upd (hk hr)).symm⟩
  · rintro ⟨g1, g2⟩
    exact ⟨fun t ht => by rw [← g1 t ht]; exact put_look h1 t ht, fun hr => by rw [← g2 hr]; exact vis_upd (hk hr)⟩
theorem apart_symm {x y : Oper} (h : x.apart ops y = true) : y.apart ops x = true := by
  obtain ⟨h1, h2, h3⟩ := Oper.apart_spec h
  unfold Oper.apart
  rw [Bool.and_eq_true]
  constructor
  · split
    · rename_i d hd
      simp only [Bool.and_eq_true, Bool.not_eq_true', bne_iff_ne, ne_eq]
      exact ⟨by simpa using h3 d hd, fun e => h2 d e hd⟩
    · rfl
  · split
    · rename_i d hd; simpa using h1 d hd
    · rfl
theorem Closed.add {ops : Array Oper} {listed : Array Bool} (h : Closed ops listed) {j : Nat} {oj : Oper} (hj : ops[j]? = some oj) (hall : ∀ e ∈ oj.after, Region.binds .any e = true → listed.getD e.on false = true) : Closed ops (listed.setIfInBounds j true) := by
  intro m om hm hl e he hb
  refine getD_set_true ?_
  by_cases hjm : j = m
  · subst hjm
    rw [hj] at hm
    cases hm
    exact hall e he hb
  · rw [getD_set_ne false hjm] at hl
    exact h m om hm hl e he hb
theorem any_first {i : Nat} {oi : Oper} (hi : ops[i]? = some oi) : ∀ (fuel : Nat) (listed : Array Bool) (s : S2),
    (∀ j oj, ops[j]? = some oj → j ≠ i → listed.getD j true = false → far ops oj i → PairC ops base oi oj (bits i) (bits j) ((eff i).2.map (·.1)) ((eff j).2.map (·.1))) → Closed ops listed →
    i ∈ Region.ready .any ops listed → OkAt ops base (bits i) oi (T i) s → AnyA ops base bits eff T fin fuel (listed.setIfInBounds i true) (app2 s oi (eff i)) → AnyA ops base bits eff T fin (fuel + 1) listed s := by
  intro fuel
  induction fuel with
  | zero =>
    intro listed s _ _ hr hok H
    refine ⟨fun h => (by rw [h] at hr; cases hr), fun j hj o ho => ?_⟩
    by_cases hji : j = i
    · subst hji
      rw [hi] at ho
      cases ho
      exact ⟨hok, H⟩
    · have := ready_mono hj hji
      rw [H.1] at this
      cases this
  | succ fuel ih =>
    intro listed s hfree hcl hr hok H
    refine ⟨fun h => (by rw [h] at hr; cases hr), fun j hj o ho => ?_⟩
    by_cases hji : j = i
    · subst hji
      rw [hi] at ho
      cases ho
      exact ⟨hok, H⟩
    · obtain ⟨h1, h2⟩ := H.2 j (ready_mono hj hji) o ho
      obtain ⟨hjun, oj, hoj, hall⟩ := mem_ready.1 hj
      rw [ho] at hoj
      cases hoj
      have hnl : listed.getD i false ≠ true := fun h1 => by
        have h0 := (mem_ready.1 hr).1
        rcases Nat.lt_or_ge i listed.size with h' | h'
        · simp [h'] at h0 h1; rw [h0] at h1; cases h1
        · simp [Array.getElem?_eq_none h'] at h1
      have hnot : far ops o i := fun e he hb => ⟨fun heq => hnl (by rw [← heq]; exact hall e he hb), fun om hom e' he' hb' heq => hnl (by rw [← heq]; exact hcl e.on om hom (hall e he hb) e' he' hb')⟩
      obtain ⟨p1, p2, p3, p4⟩ := hfree j o ho hji hjun hnot
      refine ⟨(ok_app (bi := bits i) p1 p2).1 h1, ?_⟩
      have hfree' : ∀ k ok, ops[k]? = some ok → k ≠ i → (listed.setIfInBounds j true).getD k true = false → far ops ok i → PairC ops base oi ok (bits i) (bits k) ((eff i).2.map (·.1)) ((eff k).2.map (·.1)) := fun k ok hk hki hun hno => by
        refine hfree k ok hk hki ?_ hno
        by_cases hjk : j = k
        · subst hjk; exact hjun
        · rw [getD_set_ne true hjk] at hun; exact hun
      refine ih (listed.setIfInBounds j true) (app2 s o (eff j)) hfree' (hcl.add ho hall) (ready_mono hr (Ne.symm hji)) ((ok_app (bi := bits j) (apart_symm p1) p3).2 hok) ?_
      have hcomm : app2 (app2 s o (eff j)) oi (eff i) = app2 (app2 s oi (eff i)) o (eff j) := by
        unfold app2
        obtain ⟨_, q2, _⟩ := Oper.apart_spec p1
        rw [putL_comm (x := oi) (y := o) q2, updL_comm _ _ (fun x hx => p4 x hx)]
      rw [hcomm, Array.setIfInBounds_comm _ _ hji]
      exact h2
end
end Go.Am
