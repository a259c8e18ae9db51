/- UnitDims. -/
import Derived.Test.YtnjpgkaignfcaaaDoorUu
namespace Go.Proofs.YtnjpgkaignfcaaaDoor
open Go Go.Am
theorem w1000 : w (0 - 1000) = -1000 := by decide
theorem w_back {a b : Int} (ha : -1000 ≤ a ∧ a ≤ 1000) (hb : -1000 ≤ b ∧ b ≤ 1000) : w (w (a + b) - b) = a := by
  rw [w_eq (a + b), w_eq]; omega
theorem unitDims (v0 v1 : V) (h0 : WTV E.P 23 v0) (h1 : WTV E.P 23 v1) : ∃ l', LeL [v0, v1] l' ∧ SC E 9 l' [] (.ret (bo true) []) := by
  obtain ⟨a, b, c, d, e, rfl, _⟩ := v23 h0
  obtain ⟨a', b', c', d', e', rfl, _⟩ := v23 h1
  refine ⟨_, LeL.refl _, SC.of hW hX sC3 (soundL_none E) ((law9 a b c d e a' b' c' d' e').trans ?_)⟩
  have g := within_iff 1000 a b c d e
  have g' := within_iff 1000 a' b' c' d' e'
  rw [w1000] at g g'
  by_cases k : within5 1000 a b c d e = true
  · by_cases k' : within5 1000 a' b' c' d' e' = true
    · rw [g] at k
      rw [g'] at k'
      rw [g.2 k, g'.2 k']
      obtain ⟨r1, r2, r3, r4, r5⟩ := k
      obtain ⟨s1, s2, s3, s4, s5⟩ := k'
      simp [w_back r1 s1, w_back r2 s2, w_back r3 s3, w_back r4 s4, w_back r5 s5]
    · rw [Bool.not_eq_true] at k'
      rw [k, k']; rfl
  · rw [Bool.not_eq_true] at k
    rw [k]; rfl
end Go.Proofs.YtnjpgkaignfcaaaDoor
