/- Types: the small functions agree (plain). -/
import Derived.Test.YtniogljhkjbcgaaDoorA1
namespace Go.Proofs.YtniogljhkjbcgaaDoor
open Go Go.Am Go.Proofs
set_option linter.unusedSimpArgs false
set_option linter.unusedVariables false
set_option maxRecDepth 100000
theorem w_in {n : Int} (h : inR n) : w n = n := by
  unfold w; rw [IntKind.wrap_i64]; unfold inR at h; omega
/-- Both answer, and so. -/
def Both {α : Type} (x y : Option α) (Q : α → Prop) : Prop := ∃ v, x = some v ∧ y = some v ∧ Q v
theorem Both.some {α : Type} {v : α} {Q : α → Prop} (h : Q v) : Both (some v) (some v) Q := ⟨v, rfl, rfl, h⟩
theorem Both.bind {α β : Type} {x y : Option α} {Q : α → Prop} {f g : α → Option β} {R : β → Prop} (h : Both x y Q) (k : ∀ v, Q v → Both (f v) (g v) R) : Both (x.bind f) (y.bind g) R := by
  obtain ⟨v, rfl, rfl, hq⟩ := h
  exact k v hq
theorem Both.ite {α : Type} {c : Prop} [Decidable c] {x y x' y' : Option α} {Q : α → Prop} (h1 : c → Both x x' Q) (h2 : ¬ c → Both y y' Q) : Both (_root_.ite c x y) (_root_.ite c x' y') Q := by
  by_cases h : c
  · rw [if_pos h, if_pos h]; exact h1 h
  · rw [if_neg h, if_neg h]; exact h2 h
theorem Both.flip {α : Type} {a b : List UInt8} {x y x' y' : Option α} {Q : α → Prop} (h1 : Both x x' Q) (h2 : Both y y' Q) : Both (_root_.ite ((b == a) = true) x y) (_root_.ite ((a == b) = true) x' y') Q := by
  rw [BEq.comm (a := b)]
  exact Both.ite (fun _ => h1) (fun _ => h2)
theorem Both.same {α : Type} {a b : List UInt8} {x y x' y' : Option α} {Q : α → Prop} (h1 : Both x x' Q) (h2 : Both y y' Q) : Both (_root_.ite ((a == b) = true) x y) (_root_.ite ((a == b) = true) x' y') Q := Both.ite (fun _ => h1) (fun _ => h2)
theorem Both.mono {α : Type} {x y : Option α} {Q R : α → Prop} (h : Both x y Q) (g : ∀ v, Q v → R v) : Both x y R := by
  obtain ⟨v, h1, h2, h3⟩ := h
  exact ⟨v, h1, h2, g v h3⟩
abbrev DimT : Type := Int × Int × Int × Int × Int
/-- Exponents that types have. -/
def R8 (d : DimT) : Prop := (-8 ≤ d.1 ∧ d.1 ≤ 8) ∧ (-8 ≤ d.2.1 ∧ d.2.1 ≤ 8) ∧ (-8 ≤ d.2.2.1 ∧ d.2.2.1 ≤ 8) ∧ (-8 ≤ d.2.2.2.1 ∧ d.2.2.2.1 ≤ 8) ∧ (-8 ≤ d.2.2.2.2 ∧ d.2.2.2.2 ≤ 8)
theorem kind_both (q q' : Nat) (s : ByteArray) : Both (kind q s) (Operator q' s) (fun v => 0 ≤ v ∧ v ≤ 4) := by
  unfold kind Operator t_kind t_Operator
  repeat' first
    | exact Both.some (by decide)
    | refine Both.flip ?_ ?_
theorem lookup_both (q q' : Nat) (s : ByteArray) : Both (Lookup q s) (RLookup q' s) (fun z => R8 (z.1, z.2.1, z.2.2.1, z.2.2.2.1, z.2.2.2.2.1) ∧ (z.2.2.2.2.2.2 = true → 1 ≤ z.2.2.2.2.2.1 ∧ z.2.2.2.2.2.1 ≤ 3600)) := by
  unfold Lookup RLookup t_Lookup t_RLookup
  repeat' first
    | exact Both.some ⟨by unfold R8; decide, by decide⟩
    | refine Both.flip ?_ ?_
theorem tele_both (q q' : Nat) (s : ByteArray) : Both (Tele q s) (RTele q' s) (fun z => R8 (z.2.1, z.2.2.1, z.2.2.2.1, z.2.2.2.2.1, z.2.2.2.2.2.1)) := by
  unfold Tele RTele t_Tele t_RTele
  repeat' first
    | exact Both.some (by unfold R8; decide)
    | refine Both.same ?_ ?_
theorem number_both (q q' : Nat) (x : a_number) : Both (number q x) (rliteral q' x) (fun z => R8 (z.1, z.2.1, z.2.2.1, z.2.2.2.1, z.2.2.2.2.1)) := by
  unfold number rliteral t_number t_rliteral
  refine Both.ite (fun _ => Both.bind (lookup_both q q' _) fun z hz => ?_) fun _ => ?_
  · refine Both.ite (fun _ => Both.some (by unfold R8; decide)) fun hf => Both.ite (fun _ => Both.some (by unfold R8; decide)) fun _ => ?_
    have h1 := hz.2 (by simpa using hf)
    have h0 : ¬ z.2.2.2.2.2.1 = 0 := by omega
    rw [if_neg h0]
    exact Both.ite (fun _ => Both.some (by unfold R8; decide)) fun _ => Both.some hz.1
  · exact Both.ite (fun _ => Both.some (by unfold R8; decide)) fun _ => Both.ite (fun _ => Both.some (by unfold R8; decide)) fun _ => Both.some (by unfold R8; decide)
theorem gtmax (a b : Int) : (if b > a then b else a) = max a b := by split <;> omega
theorem ltmin (a b : Int) : (if b < a then b else a) = min a b := by split <;> omega
theorem adm_both (q q' : Nat) (d : DimT) : Both (adm q d) (radm q' d) (fun b => b = true → R8 d) := by
  obtain ⟨a, b, c, e, f⟩ := d
  by_cases h : R8 (a, b, c, e, f)
  · refine ⟨true, ?_, ?_, fun _ => h⟩
    · unfold adm t_adm
      unfold R8 at h
      simp only at h ⊢
      repeat (rw [if_neg (by simp only [decide_eq_true_eq]; omega)])
    · unfold radm t_radm
      unfold R8 at h
      simp only [gtmax, ltmin] at h ⊢
      rw [if_pos (by simp only [decide_eq_true_eq]; omega)]
      refine congrArg some (decide_eq_true ?_)
      omega
  · refine ⟨false, ?_, ?_, fun g => by cases g⟩
    · unfold adm t_adm
      simp only
      repeat' split
      all_goals first
        | rfl
        | (exfalso; apply h; unfold R8; simp only [decide_eq_true_eq] at *; omega)
    · unfold radm t_radm
      simp only [gtmax, ltmin]
      split
      · rename_i g
        refine congrArg some (decide_eq_false fun g2 => h ?_)
        unfold R8
        simp only [decide_eq_true_eq] at g ⊢
        omega
      · rfl
theorem times_both (q q' : Nat) (x : a_Times) (h : R8 x.2.2.2.2.2) : Both (Times q x) (RTimes q' x) (fun _ => True) := by
  refine ⟨_, rfl, ?_, trivial⟩
  unfold RTimes t_RTimes
  unfold R8 at h
  have e : ∀ y : Int, -8 ≤ y ∧ y ≤ 8 → w (1 * y) = y := fun y hy => by rw [Int.one_mul]; exact w_in (by unfold inR; omega)
  simp only [e _ h.1, e _ h.2.1, e _ h.2.2.1, e _ h.2.2.2.1, e _ h.2.2.2.2]
theorem over_both (q q' : Nat) (x : a_Over) : Both (Over q x) (ROver q' x) (fun _ => True) := ⟨_, rfl, rfl, trivial⟩
theorem bb {x y : Bool} : ((!x == y) = true) ↔ x ≠ y := by cases x <;> cases y <;> decide
theorem binary_both (q q' : Nat) (x : a_binary) (h1 : R8 (x.2.2.2.1, x.2.2.2.2.1, x.2.2.2.2.2.1, x.2.2.2.2.2.2.1, x.2.2.2.2.2.2.2.1)) (h2 : R8 x.2.2.2.2.2.2.2.2) : Both (binary q x) (rbinary q' x) (fun z => R8 (z.2.1, z.2.2.1, z.2.2.2.1, z.2.2.2.2.1, z.2.2.2.2.2.1)) := by
  obtain ⟨s, x, y, d0, d1, d2, d3, d4, f⟩ := x
  unfold binary rbinary t_binary t_rbinary
  simp only at h1 h2 ⊢
  refine Both.bind (kind_both q q' s) fun k hk => ?_
  have z8 : R8 (0, 0, 0, 0, 0) := by unfold R8; decide
  by_cases k1 : k = 1
  · subst k1
    cases x <;> cases y <;> simp only [beq_self_eq_true, bne_self_eq_false, show (!(true == true)) = false from rfl, show (!(true == false)) = true from rfl, show (!(false == true)) = true from rfl, show (!(false == false)) = false from rfl, Bool.not_true, Bool.not_false, if_true, if_false, Bool.false_eq_true, reduceIte] <;> exact Both.some z8
  · have e1 : (k == (1 : Int)) = false := by simpa using k1
    have e2 : (k != (1 : Int)) = true := by simpa using k1
    cases x <;> cases y <;> simp only [e1, e2, show (!(true == true)) = false from rfl, show (!(true == false)) = true from rfl, show (!(false == true)) = true from rfl, show (!(false == false)) = false from rfl, Bool.not_true, Bool.not_false, if_true, if_false, Bool.false_eq_true, reduceIte]
    · refine Both.ite (fun _ => ?_) fun _ => ?_
      · refine Both.bind (times_both q q' _ h2) fun t _ => Both.ite (fun _ => ?_) fun _ => ?_
        · refine Both.bind (over_both q q' _) fun o _ => Both.bind (adm_both q q' o) fun b hb => Both.ite (fun _ => Both.some z8) fun hn => Both.some (hb (by simpa using hn))
        · refine Both.bind (adm_both q q' t) fun b hb => Both.ite (fun _ => Both.some z8) fun hn => Both.some (hb (by simpa using hn))
      · exact Both.ite (fun _ => Both.some z8) fun _ => Both.ite (fun _ => Both.some z8) fun _ => Both.some h1
    all_goals exact Both.some z8
end Go.Proofs.YtniogljhkjbcgaaDoor
