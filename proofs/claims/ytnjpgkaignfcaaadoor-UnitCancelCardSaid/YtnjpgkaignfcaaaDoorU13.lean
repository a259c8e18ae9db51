/- UnitCompare. -/
import Derived.Test.YtnjpgkaignfcaaaDoorUu
namespace Go.Proofs.YtnjpgkaignfcaaaDoor
open Go Go.Am
theorem eq5_iff (a b c d e a' b' c' d' e' : Int) : eq5 a b c d e a' b' c' d' e' = true ↔ a = a' ∧ b = b' ∧ c = c' ∧ d = d' ∧ e = e' := by simp [eq5]
theorem eq5_symm (a b c d e a' b' c' d' e' : Int) : eq5 a' b' c' d' e' a b c d e = eq5 a b c d e a' b' c' d' e' := by
  rw [Bool.eq_iff_iff, eq5_iff, eq5_iff]; constructor <;> rintro ⟨rfl, rfl, rfl, rfl, rfl⟩ <;> simp
theorem unitCompare : ∀ (v0 v1 : V) (h0 : WTV E.P 29 v0) (h1 : WTV E.P 29 v1), ∃ l', LeL [v0, v1] l' ∧ SC E 13 l' [] (.ret (bo true) []) := law_of fun n a b c d e n' a' b' c' d' e' => by
  refine (law13 n a b c d e n' a' b' c' d' e').trans ?_
  rw [eq5_symm a b c d e]
  by_cases k : valid6 n a b c d e = true
  · by_cases k' : valid6 n' a' b' c' d' e' = true
    · obtain ⟨r, _⟩ := (valid_iff n a b c d e).1 k
      obtain ⟨r', _⟩ := (valid_iff n' a' b' c' d' e').1 k'
      rw [k, k']
      have e1 : w (n - n') = n - n' := w_in (by unfold inR; omega)
      rw [e1]
      have e2 : cmp (eq5 a b c d e a' b' c' d' e') n' n = w (0 - cmp (eq5 a b c d e a' b' c' d' e') n n') := by
        unfold cmp
        cases eq5 a b c d e a' b' c' d' e'
        · rfl
        · simp only [cond_true]
          rcases Int.lt_trichotomy n n' with h | h | h
          · have h2 : ¬ n' < n := by omega
            simp [h, h2]; decide
          · subst h; simp; decide
          · have h2 : ¬ n < n' := by omega
            simp [h, h2]; decide
      rw [e2]
      simp only [bne_self_eq_false, Bool.false_eq_true, if_false, Bool.not_true]
      cases hc : eq5 a b c d e a' b' c' d' e'
      · rfl
      · cases hv : valid6 (n - n') a b c d e
        · rfl
        · simp only [er, e2, Bool.and_true, cond_true, bne_self_eq_false, Bool.false_eq_true, if_false, pk, cmp]
          rcases Int.lt_trichotomy n n' with h | h | h
          · have h2 : ¬ n' < n := by omega
            have h3 : n - n' < 0 := by omega
            have h4 : ¬ n - n' > 0 := by omega
            simp [h, h3, h4] <;> omega
          · subst h; simp
          · have h2 : ¬ n < n' := by omega
            have h3 : n - n' > 0 := by omega
            have h4 : ¬ n - n' < 0 := by omega
            simp [h, h2, h3, h4] <;> omega
    · rw [Bool.not_eq_true] at k'
      rw [k, k']; rfl
  · rw [Bool.not_eq_true] at k
    rw [k]; rfl
end Go.Proofs.YtnjpgkaignfcaaaDoor
