/- Plain: the tokens cover the source. -/
import Derived.Test.YtphncipfcekilaaO2
import Derived.Test.YtphncipfcekilaaU
namespace Go.Proofs
open Go Lx
set_option linter.unusedSimpArgs false
set_option linter.unusedVariables false
/-- Where Skip stops from place p on. -/
def skipTo (s : ByteArray) (p : Nat) : Nat := p + skipL false (s.data.toList.drop p)
/-- The tokens l lie one behind the other from place p on; the last is the End token. -/
inductive Cov (s : ByteArray) : Nat → List Tok → Prop where
  | fin : Cov s s.size [⟨0, s.size, ⟨#[]⟩, 0⟩]
  | tok {p : Nat} {x : Tok} {l : List Tok} : x.a = p → x.k ≠ 0 → 1 ≤ x.t.size → p + x.t.size ≤ s.size → s.extract p (p + x.t.size) = x.t → Cov s (skipTo s (p + x.t.size)) l → Cov s p (x :: l)
theorem skip_le {s : ByteArray} {p : Nat} (h : p ≤ s.size) : skipTo s p ≤ s.size := by
  have := skipL_le (s.data.toList.drop p) false
  rw [List.length_drop, size_list] at this
  unfold skipTo
  omega
theorem skip_white {s : ByteArray} {p : Nat} (hp : p < s.size) (h : whiteI (s.get! p).toNat = true) : skipTo s p = skipTo s (p + 1) := by
  have h35 : ¬ (s.get! p) = 35 := by intro e; rw [e] at h; exact absurd h (by decide)
  unfold skipTo
  rw [drop_get s p hp]
  simp only [skipL, h35, h, if_false, if_true]
  omega
theorem skip_here {s : ByteArray} {p : Nat} (hp : p < s.size) (h : whiteI (s.get! p).toNat = false) (h35 : (s.get! p).toNat ≠ 35) : skipTo s p = p := by
  have h35 : ¬ (s.get! p) = 35 := by intro e; rw [e] at h35; exact absurd rfl h35
  unfold skipTo
  rw [drop_get s p hp]
  simp only [skipL, h35, h, if_false, Bool.false_eq_true]
  omega
theorem skip_hash {s : ByteArray} {p : Nat} (hp : p < s.size) (h : (s.get! p).toNat = 35) : skipTo s p = skipTo s (p + spanL ne10 (s.data.toList.drop p)) := by
  have h35 : (s.get! p) = 35 := UInt8.toNat_inj.1 h
  have ht := skip_true (s := s) (s.size - p) p rfl (by omega)
  unfold skipTo
  have e : skipL false (s.data.toList.drop p) = skipL true (s.data.toList.drop p) := by
    rw [drop_get s p hp]
    simp only [skipL, h35, if_true]
    rw [show (!((35 : UInt8) == 10)) = true from by decide]
  rw [e, ht]
  omega
theorem skip_end {s : ByteArray} {p : Nat} (hp : s.size ≤ p) (hp2 : p ≤ s.size) : skipTo s p = s.size := by
  unfold skipTo
  rw [List.drop_of_length_le (by rw [size_list]; exact hp)]
  simp [skipL]
  omega
theorem tok_k {s : ByteArray} {p : Nat} {x : Tok} (h : tokP s p = (x, 0)) : x.k ≠ 0 := by
  unfold tokP wordP numberP symbolP at h
  split at h
  · split at h
    · simp at h
    · simp only [Prod.mk.injEq, and_true] at h; subst h; simp
  · split at h
    · split at h
      · simp at h
      · split at h
        · simp at h
        · simp only [Prod.mk.injEq, and_true] at h; subst h; simp
    · split at h
      · simp at h
      · simp only [Prod.mk.injEq, and_true] at h; subst h; simp
theorem lex_cov {s : ByteArray} {p : Nat} {acc : List Tok} {r : List Tok × Nat × Int} (h : Lex s p acc r) : p ≤ s.size → r.2.2 = 0 → ∃ l, r.1 = acc ++ l ∧ Cov s (skipTo s p) l := by
  induction h with
  | @fin p acc hp =>
    intro hp2 _
    exact ⟨_, rfl, by rw [skip_end hp hp2]; exact .fin⟩
  | @white p acc r hp hw _ ih =>
    intro _ h0
    obtain ⟨l, h1, h2⟩ := ih (by omega) h0
    exact ⟨l, h1, by rw [skip_white hp hw]; exact h2⟩
  | @hash p acc r hp hw _ ih =>
    intro _ h0
    have hle := spanL_le ne10 (s.data.toList.drop p)
    rw [List.length_drop, size_list] at hle
    obtain ⟨l, h1, h2⟩ := ih (by omega) h0
    exact ⟨l, h1, by rw [skip_hash hp hw]; exact h2⟩
  | @tok p acc r x hp hw h35 ht _ ih =>
    intro _ h0
    have hok := tokP_ok hp ht
    obtain ⟨l, h1, h2⟩ := ih (by omega) h0
    refine ⟨_ :: l, by rw [h1, List.append_assoc]; rfl, ?_⟩
    rw [skip_here hp hw h35]
    exact .tok rfl (@tok_k s p x ht) hok.2.1 hok.2.2.1 hok.2.2.2.1.symm h2
  | err _ _ _ _ he => intro _ h0; exact absurd h0 he
theorem cov_ne {s : ByteArray} {q : Nat} {l : List Tok} (h : Cov s q l) : l ≠ [] := by cases h <;> simp
theorem cov_step {s : ByteArray} {q : Nat} {x : Tok} {l : List Tok} (h : Cov s q (x :: l)) : x.a = q ∧ q + x.t.size ≤ s.size ∧ s.extract q (q + x.t.size) = x.t ∧
    ((x.k = 0 ∧ l = [] ∧ x.t = ⟨#[]⟩ ∧ q = s.size) ∨ (x.k ≠ 0 ∧ l ≠ [] ∧ 1 ≤ x.t.size ∧ Cov s (skipTo s (q + x.t.size)) l)) := by
  cases h with
  | fin => exact ⟨rfl, Nat.le_refl _, ba_ext (by rw [extract_list]; simp), .inl ⟨rfl, rfl, rfl, rfl⟩⟩
  | tok h1 h2 h3 h4 h5 h6 => exact ⟨h1, h4, h5, .inr ⟨h2, cov_ne h6, h3, h6⟩⟩
end Go.Proofs
