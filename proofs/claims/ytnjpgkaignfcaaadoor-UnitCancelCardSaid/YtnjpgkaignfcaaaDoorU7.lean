/- UnitQuotient, UnitProduct, UnitCancel. -/
import Derived.Test.YtnjpgkaignfcaaaDoorUu
namespace Go.Proofs.YtnjpgkaignfcaaaDoor
open Go Go.Am
abbrev inM (n : Int) : Prop := -2147483647 ≤ n ∧ n ≤ 2147483647
/-- The quotient rounded to zero, and the one rounded down, by a number above 0. -/
theorem quo_pos {n m : Int} (hm : 0 < m) : (Int.tmod n m < 0 → Int.tdiv n m - 1 = n / m) ∧ (¬ Int.tmod n m < 0 → Int.tdiv n m = n / m) := by
  have h1 := Int.tmod_add_mul_tdiv n m
  have h2 := Int.tmod_lt_of_pos n hm
  have h3 := Int.lt_tmod_of_pos n hm
  have h4 : Int.tdiv n m * m = m * Int.tdiv n m := Int.mul_comm _ _
  constructor
  · intro h
    refine ((Int.ediv_eq_iff_of_pos hm).2 ?_).symm
    rw [Int.sub_mul]
    omega
  · intro h
    refine ((Int.ediv_eq_iff_of_pos hm).2 ?_).symm
    omega
theorem ediv_in {n m : Int} (hn : inM n) (hm : 0 < m) : -2147483647 ≤ n / m ∧ n / m ≤ 2147483647 := by
  constructor
  · refine Int.le_ediv_of_mul_le hm ?_
    have : -2147483647 * m ≤ -2147483647 := by omega
    omega
  · have : n / m < 2147483648 := Int.ediv_lt_of_lt_mul hm (by omega)
    omega
theorem tdiv_in {n m : Int} (hn : inM n) (hm : 0 < m) : inR (Int.tdiv n m) ∧ inR (Int.tdiv n m - 1) := by
  obtain ⟨q1, q2⟩ := quo_pos (n := n) hm
  have := ediv_in hn hm
  unfold inR
  by_cases h : Int.tmod n m < 0
  · have := q1 h; omega
  · have := q2 h; omega
theorem flr_eq {n m : Int} (hn : inM n) (hm : 0 < m) : flr n m = n / m := by
  obtain ⟨q1, q2⟩ := quo_pos (n := n) hm
  obtain ⟨r1, r2⟩ := tdiv_in hn hm
  unfold flr
  rw [w_in r1, w_in r2]
  split
  · rename_i h; exact q1 h
  · rename_i h; exact q2 h
theorem tmod_sign {n m : Int} (hm : 0 < m) : (0 ≤ n → ¬ Int.tmod n m < 0) ∧ (n < 0 → Int.tmod n m ≤ 0) := by
  constructor
  · intro h; have := Int.tmod_nonneg m h; omega
  · intro h
    have := Int.tmod_nonneg (a := -n) m (by omega)
    rw [Int.neg_tmod] at this
    omega
theorem qd_pos {n m : Int} (hn : inM n) (hm : 0 < m) : qd n m = n / m := by
  rw [← flr_eq hn hm]
  obtain ⟨s1, s2⟩ := tmod_sign (n := n) hm
  unfold qd flr
  have e1 : decide (m < 0) = false := decide_eq_false (by omega)
  rw [e1]
  by_cases hr : Int.tmod n m = 0
  · simp [hr]
  · by_cases h0 : n < 0
    · have := s2 h0
      have h3 : Int.tmod n m < 0 := by omega
      simp [hr, h0, h3]
    · have := s1 (by omega)
      simp [hr, h0, this] <;> (intros; omega)
theorem qd_neg {n m : Int} (hn : inM n) (hm : m < 0) : qd n m = (-n) / (-m) := by
  have hn' : inM (-n) := ⟨by omega, by omega⟩
  have hm' : 0 < -m := by omega
  rw [← flr_eq hn' hm']
  obtain ⟨s1, s2⟩ := tmod_sign (n := -n) hm'
  unfold qd flr
  have e1 : decide (m < 0) = true := decide_eq_true hm
  rw [e1, Int.neg_tdiv_neg]
  have e2 : Int.tmod (-n) (-m) = -(Int.tmod n m) := by rw [Int.tmod_neg, Int.neg_tmod]
  rw [e2] at s1 s2 ⊢
  by_cases hr : Int.tmod n m = 0
  · simp [hr]
  · by_cases h0 : n < 0
    · have := s1 (by omega)
      simp [hr, h0, this] <;> (intros; omega)
    · by_cases h1 : n = 0
      · subst h1; simp at hr
      · have := s2 (by omega)
        have h3 : -(Int.tmod n m) < 0 := by omega
        simp [hr, h0, h3] <;> (intros; omega)
theorem qr_eq {n m : Int} (hn : inM n) (hm : inM m) (h0 : m ≠ 0) : qr n m = qd n m := by
  unfold qr
  split
  · rename_i h
    have e1 : w (0 - n) = -n := by rw [w_in (by unfold inR; omega)]; omega
    have e2 : w (0 - m) = -m := by rw [w_in (by unfold inR; omega)]; omega
    rw [e1, e2, flr_eq ⟨by omega, by omega⟩ (by omega), qd_neg hn h]
  · rw [flr_eq hn (by omega), qd_pos hn (by omega)]
theorem unitProduct : ∀ (v0 v1 : V), WTV E.P 29 v0 → WTV E.P 29 v1 → ∃ l', LeL [v0, v1] l' ∧ SC E 10 l' [] (.ret (bo true) []) := law_of fun n a b c d e n' a' b' c' d' e' => by
  refine (law10 n a b c d e n' a' b' c' d' e').trans ?_
  by_cases k : valid6 n a b c d e = true
  · by_cases k' : valid6 n' a' b' c' d' e' = true
    · obtain ⟨r, _⟩ := (valid_iff n a b c d e).1 k
      obtain ⟨r', _⟩ := (valid_iff n' a' b' c' d' e').1 k'
      rw [k, k']
      have e0 : ¬ (n' < 0 ∧ w (0 - n') = 0) := by
        rintro ⟨h1, h2⟩
        rw [w_in (by unfold inR; omega)] at h2
        omega
      rw [if_neg e0]
      by_cases hz : n' = 0
      · subst hz; simp [er, pk, e2]
      · rw [qr_eq r r' hz]
        simp only [beq_self_eq_true, Bool.and_true, Bool.and_self, if_true, Bool.false_eq_true, if_false, Bool.not_true]
    · rw [Bool.not_eq_true] at k'
      rw [k, k']; rfl
  · rw [Bool.not_eq_true] at k
    rw [k]; rfl
end Go.Proofs.YtnjpgkaignfcaaaDoor
