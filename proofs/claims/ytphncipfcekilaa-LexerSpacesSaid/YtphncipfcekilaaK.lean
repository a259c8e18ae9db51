/- The reference's Tokens; Same. -/
import Derived.Test.YtphncipfcekilaaJ
import Derived.Test.YtphncipfcekilaaF
namespace Go.Proofs
open Go.RowKit Lx Go.Sx
set_option linter.unusedSimpArgs false
set_option linter.unusedVariables false
/-- What Skip passes over, Lex passes over. -/
theorem skip_true {s : ByteArray} : ∀ (n p : Nat), s.size - p = n → p ≤ s.size → skipL true (s.data.toList.drop p) = spanL ne10 (s.data.toList.drop p) + skipL false (s.data.toList.drop (p + spanL ne10 (s.data.toList.drop p))) := by
  intro n
  induction n with
  | zero =>
    intro p h hp
    have : s.data.toList.drop p = [] := List.drop_of_length_le (by simp; omega)
    rw [this]
    have h2 : s.data.toList.drop (p + spanL ne10 []) = [] := List.drop_of_length_le (by simp; omega)
    rw [h2]; rfl
  | succ n ih =>
    intro p h hp
    have hlt : p < s.size := by omega
    cases hb : ne10 (s.get! p).toNat
    · rw [span_zero hlt hb, drop_get s p hlt]
      have h10 : (s.get! p) = 10 := by
        simp [ne10] at hb
        exact UInt8.toNat_inj.1 (by simp; omega)
      have hw : whiteI ((s.get! p).toNat : Int) = true := by rw [h10]; rfl
      simp only [Nat.add_zero, Nat.zero_add]
      rw [drop_get s p hlt]
      simp [skipL, h10, whiteI]
    · rw [span_next hlt hb, drop_get s p hlt]
      have h10 : ((s.get! p) == 10) = false := by
        simp [ne10] at hb
        rw [beq_eq_false_iff_ne]
        intro h
        rw [h] at hb
        exact hb rfl
      simp only [skipL, h10, Bool.not_false]
      rw [ih (p + 1) (by omega) (by omega), show p + (1 + spanL ne10 (s.data.toList.drop (p + 1))) = p + 1 + spanL ne10 (s.data.toList.drop (p + 1)) by omega]
      omega
theorem lex_skip {s : ByteArray} {acc : List Tok} {r : List Tok × Nat × Int} : ∀ (n p : Nat), s.size - p = n → p ≤ s.size → Lex s (p + skipL false (s.data.toList.drop p)) acc r → Lex s p acc r := by
  intro n
  induction n using Nat.strongRecOn with
  | ind n ih =>
    intro p h hp hl
    by_cases hlt : p < s.size
    · rw [drop_get s p hlt] at hl
      simp only [skipL] at hl
      by_cases h35 : (s.get! p) = 35
      · rw [if_pos h35] at hl
        have hh : (s.get! p).toNat = 35 := by rw [h35]; rfl
        have ho := hash_ok hlt hh
        refine .hash hlt hh (ih (s.size - (p + spanL ne10 (s.data.toList.drop p))) (by omega) _ rfl ho.2.1 ?_)
        have e1 : spanL ne10 (s.data.toList.drop p) = 1 + spanL ne10 (s.data.toList.drop (p + 1)) := span_next hlt (by rw [hh]; rfl)
        have e2 := skip_true (s := s) (s.size - (p + 1)) (p + 1) rfl (by omega)
        rw [e2] at hl
        rw [e1, show p + (1 + spanL ne10 (s.data.toList.drop (p + 1))) = p + 1 + spanL ne10 (s.data.toList.drop (p + 1)) by omega]
        rw [show p + (1 + (spanL ne10 (s.data.toList.drop (p + 1)) + skipL false (s.data.toList.drop (p + 1 + spanL ne10 (s.data.toList.drop (p + 1)))))) = p + 1 + spanL ne10 (s.data.toList.drop (p + 1)) + skipL false (s.data.toList.drop (p + 1 + spanL ne10 (s.data.toList.drop (p + 1)))) by omega] at hl
        exact hl
      · rw [if_neg h35] at hl
        cases hw : whiteI ((s.get! p).toNat : Int)
        · rw [hw] at hl
          simpa using hl
        · rw [hw, if_pos rfl] at hl
          refine .white hlt hw (ih (s.size - (p + 1)) (by omega) (p + 1) rfl (by omega) ?_)
          rwa [show p + 1 + skipL false (s.data.toList.drop (p + 1)) = p + (1 + skipL false (s.data.toList.drop (p + 1))) by omega]
    · have : s.data.toList.drop p = [] := List.drop_of_length_le (by simp; omega)
      rw [this] at hl
      simpa [skipL] using hl
theorem skip_stop {s : ByteArray} : ∀ (n p : Nat), s.size - p = n → p ≤ s.size → p + skipL false (s.data.toList.drop p) < s.size →
    whiteI (s.get! (p + skipL false (s.data.toList.drop p))).toNat = false ∧ (s.get! (p + skipL false (s.data.toList.drop p))).toNat ≠ 35 := by
  intro n
  induction n using Nat.strongRecOn with
  | ind n ih =>
    intro p h hp hl
    by_cases hlt : p < s.size
    · rw [drop_get s p hlt] at hl ⊢
      simp only [skipL] at hl ⊢
      by_cases h35 : (s.get! p) = 35
      · rw [if_pos h35] at hl ⊢
        have hh : (s.get! p).toNat = 35 := by rw [h35]; rfl
        have e2 := skip_true (s := s) (s.size - (p + 1)) (p + 1) rfl (by omega)
        rw [e2] at hl ⊢
        have hle := spanL_le ne10 (s.data.toList.drop (p + 1))
        simp at hle
        rw [show p + (1 + (spanL ne10 (s.data.toList.drop (p + 1)) + skipL false (s.data.toList.drop (p + 1 + spanL ne10 (s.data.toList.drop (p + 1)))))) = p + 1 + spanL ne10 (s.data.toList.drop (p + 1)) + skipL false (s.data.toList.drop (p + 1 + spanL ne10 (s.data.toList.drop (p + 1)))) by omega] at hl ⊢
        exact ih _ (by omega) _ rfl (by omega) hl
      · rw [if_neg h35] at hl ⊢
        cases hw : whiteI ((s.get! p).toNat : Int)
        · refine ⟨by simpa using hw, ?_⟩
          intro hh
          apply h35
          exact UInt8.toNat_inj.1 (by simpa using hh)
        · rw [hw, if_pos rfl] at hl
          simp only [if_true]
          rw [show p + (1 + skipL false (s.data.toList.drop (p + 1))) = p + 1 + skipL false (s.data.toList.drop (p + 1)) by omega] at hl ⊢
          exact ih (s.size - (p + 1)) (by omega) (p + 1) rfl (by omega) hl
    · omega
end Go.Proofs
