/- UnitQuotient, UnitCancel. -/
import Derived.Test.YtnjpgkaignfcaaaDoorU7
import Derived.Test.YtnjpgkaignfcaaaDoorU13
namespace Go.Proofs.YtnjpgkaignfcaaaDoor
open Go Go.Am
theorem unitQuotient : ∀ (v0 v1 : V), WTV E.P 29 v0 → WTV E.P 29 v1 → ∃ l', LeL [v0, v1] l' ∧ SC E 7 l' [] (.ret (bo true) []) := law_of fun n a b c d e n' a' b' c' d' e' => by
  refine (law7 n a b c d e n' a' b' c' d' e').trans ?_
  by_cases k : valid6 n a b c d e = true
  · by_cases k' : valid6 n' a' b' c' d' e' = true
    · obtain ⟨r, _⟩ := (valid_iff n a b c d e).1 k
      obtain ⟨r', _⟩ := (valid_iff n' a' b' c' d' e').1 k'
      rw [k, k']
      generalize hok : (!n' == 0 && valid6 (qd n n') (w (a - a')) (w (b - b')) (w (c - c')) (w (d - d')) (w (e - e'))) = ok
      cases ok
      · have : e2 (n' == 0) 1 5 ≠ 0 := by cases (n' == 0) <;> decide
        simp [er, pk, this]
      · simp only [Bool.and_eq_true, Bool.not_eq_true', beq_eq_false_iff_ne, ne_eq] at hok
        obtain ⟨hz, hv⟩ := hok
        simp only [er, pk, cond_true, hv, Bool.not_true, Bool.false_eq_true, if_false, bne_self_eq_false]
        have hq := ((valid_iff _ _ _ _ _ _).1 hv).1
        by_cases hp : 0 < n'
        · have e1 := Int.mul_ediv_add_emod n n'
          have e2 := Int.emod_nonneg n hz
          have e3 := Int.emod_lt_of_pos n hp
          have e4 := qd_pos r hp
          rw [e4] at hq ⊢
          generalize hqq : n / n' = q at *
          have e5 : q * n' = n' * q := Int.mul_comm _ _
          have e6 : (q + 1) * n' = q * n' + n' := by rw [Int.add_mul, Int.one_mul]
          have f1 : w (q * n') ≤ n := by rw [w_in (n := q * n') (by unfold inR; omega)]; omega
          have f2 : n < w (w (q + 1) * n') := by rw [w_in (n := q + 1) (by unfold inR; omega), e6, w_in (n := q * n' + n') (by unfold inR; omega)]; omega
          simp [hp, f1, f2]
        · have hm : 0 < -n' := by omega
          have e1 := Int.mul_ediv_add_emod (-n) (-n')
          have e2 := Int.emod_nonneg (-n) (show -n' ≠ 0 by omega)
          have e3 := Int.emod_lt_of_pos (-n) hm
          have e4 := qd_neg r (show n' < 0 by omega)
          rw [e4] at hq ⊢
          generalize hqq : (-n) / (-n') = q at *
          have e5 : q * n' = -(-n' * q) := by rw [Int.neg_mul, Int.neg_neg, Int.mul_comm]
          have e6 : (q + 1) * n' = q * n' + n' := by rw [Int.add_mul, Int.one_mul]
          have f1 : n ≤ w (q * n') := by rw [w_in (n := q * n') (by unfold inR; omega)]; omega
          have f2 : w (w (q + 1) * n') < n := by rw [w_in (n := q + 1) (by unfold inR; omega), e6, w_in (n := q * n' + n') (by unfold inR; omega)]; omega
          simp [hp, f1, f2]
    · rw [Bool.not_eq_true] at k'
      rw [k, k']; rfl
  · rw [Bool.not_eq_true] at k
    rw [k]; rfl
theorem mul_in {n m : Int} (hn : inM n) (hm : inM m) : inR (n * m) := by
  have h1 : (n.natAbs * m.natAbs : Nat) ≤ 2147483647 * 2147483647 := Nat.mul_le_mul (by omega) (by omega)
  have h2 : ((n * m).natAbs : Nat) = n.natAbs * m.natAbs := Int.natAbs_mul n m
  unfold inR
  omega
theorem qd_mul {n m : Int} (hn : inM n) (hm : inM m) (hz : m ≠ 0) (hv : inM (w (n * m))) : qd (w (n * m)) m = n := by
  rw [w_in (mul_in hn hm)] at hv ⊢
  by_cases hp : 0 < m
  · rw [qd_pos hv hp, Int.mul_ediv_cancel _ hz]
  · rw [qd_neg hv (by omega), ← Int.mul_neg, Int.mul_ediv_cancel _ (by omega)]
theorem w_sub_back {x y : Int} (hx : -8 ≤ x ∧ x ≤ 8) (hy : -8 ≤ y ∧ y ≤ 8) : w (w (x + y) - y) = x := by
  rw [w_in (n := x + y) (by unfold inR; omega), w_in (by unfold inR; omega)]; omega
theorem w_sub_backM {x y : Int} (hx : inM x) (hy : inM y) : w (w (x + y) - y) = x := by
  rw [w_in (n := x + y) (by unfold inR; omega), w_in (by unfold inR; omega)]; omega
theorem unitCancel : ∀ (v0 v1 : V), WTV E.P 29 v0 → WTV E.P 29 v1 → ∃ l', LeL [v0, v1] l' ∧ SC E 12 l' [] (.ret (bo true) []) := law_of fun n a b c d e n' a' b' c' d' e' => by
  refine (law12 n a b c d e n' a' b' c' d' e').trans ?_
  by_cases k : valid6 n a b c d e = true
  · by_cases k' : valid6 n' a' b' c' d' e' = true
    · obtain ⟨r, r1, r2, r3, r4, r5⟩ := (valid_iff n a b c d e).1 k
      obtain ⟨s, s1, s2, s3, s4, s5⟩ := (valid_iff n' a' b' c' d' e').1 k'
      have kk := k
      rw [k, k']
      have hmul : ∀ X Y : Option Ans, X = some (.c (.ret (bo true) [])) → (valid6 (w (n * n')) (w (a + a')) (w (b + b')) (w (c + c')) (w (d + d')) (w (e + e')) = true → n' ≠ 0 → Y = some (.c (.ret (bo true) []))) →
          (if (er (valid6 (w (n * n')) (w (a + a')) (w (b + b')) (w (c + c')) (w (d + d')) (w (e + e'))) 5 == 0) = true then (if (n' != 0) = true then Y else X) else X) = some (.c (.ret (bo true) [])) := by
        intro X Y hX hY
        cases hv : valid6 (w (n * n')) (w (a + a')) (w (b + b')) (w (c + c')) (w (d + d')) (w (e + e'))
        · simp [er, hX]
        · by_cases hz : n' = 0
          · simp [hz, hX]
          · simp [er, hz, hY hv hz]
      have div : valid6 (w (n * n')) (w (a + a')) (w (b + b')) (w (c + c')) (w (d + d')) (w (e + e')) = true → n' ≠ 0 → qd (w (n * n')) n' = n := fun hv hz => qd_mul r s hz ((valid_iff _ _ _ _ _ _).1 hv).1
      simp only [Bool.not_true, Bool.false_eq_true, if_false]
      split
      · rename_i hs
        cases hok : (eq5 a b c d e a' b' c' d' e' && valid6 (w (n + n')) a b c d e)
        · rw [hok] at hs; cases hc : eq5 a b c d e a' b' c' d' e' <;> rw [hc] at hs <;> simp [er, e2] at hs
        · simp only [Bool.and_eq_true] at hok
          obtain ⟨hc, hv⟩ := hok
          obtain ⟨rfl, rfl, rfl, rfl, rfl⟩ := (eq5_iff _ _ _ _ _ _ _ _ _ _).1 hc
          have hc' : eq5 a b c d e a b c d e = true := by simp [eq5]
          simp only [hc', hv, pk, er, e2, cond_true, Bool.and_self, Bool.true_and, w_sub_backM r s, kk, beq_self_eq_true, Bool.not_true, Bool.false_eq_true, if_false, bne_self_eq_false, Bool.and_true, if_true]
          refine hmul _ _ rfl fun hv' hz => ?_
          have := div hv' hz
          simp only [hv', cond_true, this, w_sub_back r1 r1, w_sub_back r2 r2, w_sub_back r3 r3, w_sub_back r4 r4, w_sub_back r5 r5, kk]
          have hz' : (n' == 0) = false := by simpa using hz
          simp [hz']
      · refine hmul _ _ rfl fun hv' hz => ?_
        have := div hv' hz
        simp only [hv', pk, er, e2, cond_true, this, w_sub_back r1 s1, w_sub_back r2 s2, w_sub_back r3 s3, w_sub_back r4 s4, w_sub_back r5 s5, kk]
        have hz' : (n' == 0) = false := by simpa using hz
        simp [hz']
    · rw [Bool.not_eq_true] at k'
      rw [k, k']; rfl
  · rw [Bool.not_eq_true] at k
    rw [k]; rfl
end Go.Proofs.YtnjpgkaignfcaaaDoor
