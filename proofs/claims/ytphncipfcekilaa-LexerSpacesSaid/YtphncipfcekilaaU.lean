/- Plain: where the tokens lie. -/
import Derived.Test.YtphncipfcekilaaV
import Derived.Test.YtphncipfcekilaaQ
namespace Go.Proofs
open Go Lx
theorem lex_a {s : ByteArray} {p : Nat} {acc : List Tok} {r : List Tok × Nat × Int} (h : Lex s p acc r) : (∀ x ∈ acc, 0 ≤ x.a ∧ x.a ≤ s.size) → ∀ x ∈ r.1, 0 ≤ x.a ∧ x.a ≤ s.size := by
  induction h with
  | fin hp =>
    intro ha x hx
    rcases List.mem_append.1 hx with hx | hx
    · exact ha x hx
    · rw [List.mem_singleton] at hx
      subst hx
      exact ⟨by simp, by simp⟩
  | white _ _ _ ih => exact ih
  | hash _ _ _ ih => exact ih
  | tok hp _ _ _ _ ih =>
    intro ha
    refine ih fun x hx => ?_
    rcases List.mem_append.1 hx with hx | hx
    · exact ha x hx
    · rw [List.mem_singleton] at hx
      subst hx
      exact ⟨by simp, by simp; omega⟩
  | err => intro _ x hx; cases hx
theorem tokR_a {s : ByteArray} {r : List Tok × Nat × Int} (h : TokensR s r) : ∀ x ∈ r.1, -1000000 ≤ x.a ∧ x.a ≤ 1000000 := by
  rcases h with ⟨_, rfl⟩ | ⟨h1, h2⟩
  · intro x hx; cases hx
  · intro x hx
    have := lex_a h2 (by simp) x hx
    omega
theorem same_self (l : List Tok) : sameB 0 l l = true := by
  induction l with
  | nil => rfl
  | cons x l ih => simp [sameB, ih]
end Go.Proofs
