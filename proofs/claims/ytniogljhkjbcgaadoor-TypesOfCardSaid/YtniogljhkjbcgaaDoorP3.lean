/- Types: the variables, the table (plain). -/
import Derived.Test.YtniogljhkjbcgaaDoorP2
import Derived.Test.YtniogljhkjbcgaaDoorC1
namespace Go.Proofs.YtniogljhkjbcgaaDoor
open Go Go.Am Go.Proofs
set_option linter.unusedSimpArgs false
set_option linter.unusedVariables false
set_option maxRecDepth 100000
theorem vars_t1 {x : VarT} (hx : VIn x) {q' : Nat} (hq' : 20 < q') {i len : Nat} {d0 d1 d2 d3 d4 : Nat → Int} {nm : Nat → ByteArray} (hi : i ≤ x.1) (hv : VOk (len, nm, d0, d1, d2, d3, d4)) {P : Vars_l0_a ⊕ Vars_l0_g → Prop}
    (hnx : i < x.1 → ∀ (v : VarT), VOk v → P (.inl (.inr (v.2.2.1, v.2.2.2.1, v.2.2.2.2.1, v.2.2.2.2.2.1, v.2.2.2.2.2.2, ((i + 1 : Nat) : Int), v.2.1, v.1)))) (hdn : P (.inr (.inr (len, nm, d0, d1, d2, d3, d4)))) :
    Runs (Vars_l0_t1 (Bound q') (FindZ q') (Find q') x (d0, d1, d2, d3, d4, (i : Int), nm, len) (fun y => some (.inl y)) (fun z => some (.inr z))) P := by
  have hn := hx.n
  have hl := hv.n
  simp only at hl
  unfold Vars_l0_t1
  dsimp only
  refine Runs.ite (fun h1 => Runs.ite (fun h2 => ?_) fun h2 => Runs.some hdn) fun h1 => Runs.some hdn
  simp only [decide_eq_true_eq] at h1 h2
  have hI : (0 : Int) ≤ (i : Int) ∧ (i : Int) < (x.1 : Int) := ⟨by omega, h1⟩
  have hin : i < x.1 := by omega
  obtain ⟨r0, r1, r2, r3, r4⟩ := hx.d i hin
  rw [Int.toNat_natCast]
  refine Runs.if_pos hI (Runs.bind (bound_runs r0 q') fun (b0 : Int) hb0 => Runs.if_pos hI (Runs.bind (bound_runs r1 q') fun (b1 : Int) hb1 => Runs.if_pos hI (Runs.bind (bound_runs r2 q') fun (b2 : Int) hb2 => Runs.if_pos hI (Runs.bind (bound_runs r3 q') fun (b3 : Int) hb3 => Runs.if_pos hI (Runs.bind (bound_runs r4 q') fun (b4 : Int) hb4 => Runs.if_pos hI (Runs.if_pos ⟨by omega, by trivial⟩ ?_))))))
  refine Runs.bind (find_runs (by omega) (by omega)) fun (z : Int) hz => ?_
  have e : w ((i : Int) + 1) = ((i + 1 : Nat) : Int) := by rw [w_in (by unfold inR; omega)]; omega
  rw [e]
  refine Runs.ite (fun hz0 => Runs.if_pos hI (Runs.if_pos ⟨by simp only [roomBound]; omega, by simp only [maxLen]; omega, Nat.le_refl _⟩ (Runs.some ?_))) fun hz0 => Runs.some (hnx hin (len, nm, d0, d1, d2, d3, d4) hv)
  have hz0 : (z : Int) < 0 := of_decide_eq_true hz0
  have hne : ∀ j, j < len → nm j ≠ x.2.1 i := by
    rcases hz with ⟨_, h⟩ | ⟨j, _, h, _⟩
    · intro j hj; have := h j hj; simpa only [Nat.zero_add] using this
    · omega
  refine hnx hin (len + 1, (fun j => if j < len then nm j else x.2.1 i), (fun j => if j < len then d0 j else b0), (fun j => if j < len then d1 j else b1), (fun j => if j < len then d2 j else b2), (fun j => if j < len then d3 j else b3), (fun j => if j < len then d4 j else b4)) ⟨by show len + 1 ≤ 12; omega, fun a b hab hb => ?_, fun j hj => ?_⟩
  · simp only at hb ⊢
    by_cases h : b < len
    · rw [if_pos (by omega), if_pos h]; exact hv.ne a b hab h
    · rw [if_pos (by omega), if_neg h]; exact hne a (by omega)
  · simp only at hj ⊢
    by_cases h : j < len
    · simp only [if_pos h]; exact hv.d j h
    · simp only [if_neg h]; exact ⟨hb0, hb1, hb2, hb3, hb4⟩
theorem vars_loop {x : VarT} (hx : VIn x) {q' : Nat} (hq' : 20 < q') : ∀ (r q i : Nat) (v : VarT), i + r = x.1 → r < q → VOk v →
    Runs (Vars_l0 (Bound q') (FindZ q') (Find q') q x (.inr (v.2.2.1, v.2.2.2.1, v.2.2.2.2.1, v.2.2.2.2.2.1, v.2.2.2.2.2.2, (i : Int), v.2.1, v.1))) (fun z => ∃ v : VarT, z = .inr v ∧ VOk v) := by
  intro r
  induction r with
  | zero =>
    intro q i v hi hq hv
    obtain ⟨q, rfl⟩ : ∃ k, q = k + 1 := ⟨q - 1, by omega⟩
    exact lp_step (vars_t1 hx hq' (by omega) hv (fun h => by omega) ⟨_, rfl, hv⟩)
  | succ r ih =>
    intro q i v hi hq hv
    obtain ⟨q, rfl⟩ : ∃ k, q = k + 1 := ⟨q - 1, by omega⟩
    exact lp_step (vars_t1 hx hq' (by omega) hv (fun h v hv => ih q (i + 1) v (by omega) (by omega) hv) ⟨_, rfl, hv⟩)
theorem vars_t0 {x : VarT} (hx : VIn x) {q' : Nat} (hq' : 20 < q') {P : Vars_l0_a ⊕ Vars_l0_g → Prop}
    (hnx : 0 < x.1 → ∀ (v : VarT), VOk v → P (.inl (.inr (v.2.2.1, v.2.2.2.1, v.2.2.2.2.1, v.2.2.2.2.2.1, v.2.2.2.2.2.2, ((1 : Nat) : Int), v.2.1, v.1)))) (hdn : P (.inr (.inl ()))) :
    Runs (Vars_l0_t0 (Bound q') (FindZ q') (Find q') x (0 : Int) (fun y => some (.inl y)) (fun z => some (.inr z))) P := by
  have hn := hx.n
  unfold Vars_l0_t0
  dsimp only
  refine Runs.ite (fun h1 => ?_) fun h1 => Runs.some hdn
  have h1 : (0 : Int) < (x.1 : Int) := of_decide_eq_true h1
  have hI : (0 : Int) ≤ 0 ∧ (0 : Int) < (x.1 : Int) := ⟨by omega, h1⟩
  obtain ⟨r0, r1, r2, r3, r4⟩ := hx.d 0 (by omega)
  refine Runs.if_pos hI (Runs.bind (bound_runs r0 q') fun (b0 : Int) hb0 => Runs.if_pos hI (Runs.bind (bound_runs r1 q') fun (b1 : Int) hb1 => Runs.if_pos hI (Runs.bind (bound_runs r2 q') fun (b2 : Int) hb2 => Runs.if_pos hI (Runs.bind (bound_runs r3 q') fun (b3 : Int) hb3 => Runs.if_pos hI (Runs.bind (bound_runs r4 q') fun (b4 : Int) hb4 => Runs.if_pos hI (Runs.bind (findZ_runs (by omega)) fun (z : Int) hz => ?_))))))
  subst hz
  refine Runs.if_pos (by decide) (Runs.if_pos hI (Runs.some ?_))
  exact hnx (by omega) (1, (fun _ => x.2.1 0), (fun _ => b0), (fun _ => b1), (fun _ => b2), (fun _ => b3), (fun _ => b4)) ⟨by show 1 ≤ 12; omega, fun i j hij hj => by have hj : j < 1 := hj; omega, fun j hj => ⟨hb0, hb1, hb2, hb3, hb4⟩⟩
theorem vars_first {x : VarT} (hx : VIn x) {q' : Nat} (hq' : 20 < q') {q : Nat} (hq : 60 < q) :
    Runs (Vars_l0 (Bound q') (FindZ q') (Find q') q x (.inl (0 : Int))) (fun z => z = .inl () ∨ ∃ v : VarT, z = .inr v ∧ VOk v) := by
  have hn := hx.n
  obtain ⟨q, rfl⟩ : ∃ k, q = k + 1 := ⟨q - 1, by omega⟩
  refine lp_step (vars_t0 hx hq' (fun h v hv => ?_) (.inl rfl))
  exact (vars_loop hx hq' (x.1 - 1) q 1 v (by omega) (by omega) hv).mono fun z hz => .inr hz
theorem vars_runs {x : VarT} (hx : VIn x) {q : Nat} (hq : 60 < q) : Runs (VarsR q x) VOk := by
  have z0 : ∀ (a : Nat → ByteArray) (b0 b1 b2 b3 b4 : Nat → Int), VOk (0, a, b0, b1, b2, b3, b4) := fun a b0 b1 b2 b3 b4 => ⟨by show 0 ≤ 12; omega, fun i j _ hj => absurd hj (Nat.not_lt_zero _), fun j hj => absurd hj (Nat.not_lt_zero _)⟩
  have key : Runs (Vars q x) (fun z => VOk (Sum.elim (fun _ => (0, x.2)) id z)) := by
    unfold Vars t_Vars
    refine Runs.bind (vars_first hx (by omega) hq) fun z hz => ?_
    rcases hz with rfl | ⟨v, rfl, hv⟩
    · exact Runs.some (z0 _ _ _ _ _ _)
    · exact Runs.some hv
  obtain ⟨z, h1, h2⟩ := key
  unfold VarsR
  rw [h1]
  exact ⟨_, rfl, h2⟩
/-! ### The table -/
abbrev TabT : Type := Nat × (ByteArray → Bool) × (ByteArray → Int) × (ByteArray → Int) × (ByteArray → Int) × (ByteArray → Int) × (ByteArray → Int)
/-- The table holds the first variables. -/
def TR (v : VarT) (i : Nat) (t : TabT) : Prop := ∀ s, (t.2.1 s = true ↔ ∃ j, j < i ∧ v.2.1 j = s) ∧ ∀ j, j < i → v.2.1 j = s → t.2.2.1 s = v.2.2.1 j ∧ t.2.2.2.1 s = v.2.2.2.1 j ∧ t.2.2.2.2.1 s = v.2.2.2.2.1 j ∧ t.2.2.2.2.2.1 s = v.2.2.2.2.2.1 j ∧ t.2.2.2.2.2.2 s = v.2.2.2.2.2.2 j
theorem ba_eq {a b : ByteArray} : ((a == b) = true) ↔ a = b := by
  obtain ⟨x⟩ := a
  obtain ⟨y⟩ := b
  constructor
  · intro h
    have e : x = y := by simpa using (show (x == y) = true from h)
    rw [e]
  · intro h
    cases h
    show (x == x) = true
    simp
theorem table_loop {v : VarT} (hv : VOk v) : ∀ (r q i : Nat) (t : TabT), i + r = v.1 → r < q → TR v i t → Runs (table_l0 q v ((i : Int), t)) (TR v v.1) := by
  have hn := hv.n
  intro r
  induction r with
  | zero =>
    intro q i t hi hq ht
    obtain ⟨q, rfl⟩ : ∃ k, q = k + 1 := ⟨q - 1, by omega⟩
    refine lp_step ?_
    unfold table_l0_t
    refine Runs.if_neg (show ¬ decide ((i : Int) < (v.1 : Int)) = true by simp only [decide_eq_true_eq]; omega) (Runs.some ?_)
    have : i = v.1 := by omega
    rw [← this]; exact ht
  | succ r ih =>
    intro q i t hi hq ht
    obtain ⟨q, rfl⟩ : ∃ k, q = k + 1 := ⟨q - 1, by omega⟩
    refine lp_step ?_
    unfold table_l0_t
    have hI : (0 : Int) ≤ (i : Int) ∧ (i : Int) < (v.1 : Int) := ⟨by omega, by omega⟩
    refine Runs.if_pos (show decide ((i : Int) < (v.1 : Int)) = true by simp only [decide_eq_true_eq]; omega) (Runs.if_pos hI (Runs.if_pos hI (Runs.some ?_)))
    have e : w ((i : Int) + 1) = ((i + 1 : Nat) : Int) := by rw [w_in (by unfold inR; omega)]; omega
    show Runs (lpG _ q (w ((i : Int) + 1), _)) _
    rw [e]
    refine ih q (i + 1) _ (by omega) (by omega) fun s => ?_
    simp only [Int.toNat_natCast]
    obtain ⟨h1, h2⟩ := ht s
    refine ⟨?_, fun j hj hs => ?_⟩
    · rw [Bool.or_eq_true, ba_eq, h1]
      constructor
      · rintro (h | ⟨j, h3, h4⟩)
        · exact ⟨i, by omega, h.symm⟩
        · exact ⟨j, by omega, h4⟩
      · rintro ⟨j, h3, h4⟩
        by_cases hji : j = i
        · subst hji; exact .inl h4.symm
        · exact .inr ⟨j, by omega, h4⟩
    · by_cases hji : j = i
      · subst hji
        have hb : (s == v.2.1 j) = true := ba_eq.2 hs.symm
        simp only [hb, if_true, and_self]
      · have hne : ¬ (s == v.2.1 i) = true := fun h => by
          rw [ba_eq] at h
          exact hv.ne j i (by omega) (by omega) (hs.trans h)
        simp only [hne, if_false, Bool.false_eq_true]
        exact h2 j (by omega) hs
theorem table_runs {v : VarT} (hv : VOk v) {q : Nat} (hq : 20 < q) : Runs (table q v) (TR v v.1) := by
  have hn := hv.n
  unfold table t_table
  refine Runs.bind (table_loop hv v.1 q 0 _ (by omega) (by omega) fun s => ⟨⟨fun h => (by cases h), fun h => by obtain ⟨j, h, _⟩ := h; omega⟩, fun j hj => by omega⟩) fun z hz => Runs.some hz
end Go.Proofs.YtniogljhkjbcgaaDoor
