/- Plain: Lex is a function; it is reckoned. -/
import Derived.Test.YtphncipfcekilaaN
namespace Go.Proofs.Lx
open Go
theorem lex_det {s : ByteArray} {p : Nat} {acc : List Tok} {r r' : List Tok × Nat × Int} (h : Lex s p acc r) : Lex s p acc r' → r = r' := by
  induction h with
  | fin hp => intro h'; cases h' <;> first | rfl | omega
  | white hp hw _ ih =>
    intro h'
    cases h' with
    | fin h => omega
    | white _ _ h => exact ih h
    | hash _ h35 _ => rw [h35] at hw; exact absurd hw (by decide)
    | tok _ h _ _ _ => rw [hw] at h; cases h
    | err _ h _ _ _ => rw [hw] at h; cases h
  | hash hp h35 _ ih =>
    intro h'
    cases h' with
    | fin h => omega
    | white _ hw _ => rw [h35] at hw; exact absurd hw (by decide)
    | hash _ _ h => exact ih h
    | tok _ _ h _ _ => exact absurd h35 h
    | err _ _ h _ _ => exact absurd h35 h
  | tok hp hw h35 ht _ ih =>
    intro h'
    cases h' with
    | fin h => omega
    | white _ h _ => rw [hw] at h; cases h
    | hash _ h _ => exact absurd h h35
    | tok _ _ _ h h2 =>
      rw [ht] at h
      simp only [Prod.mk.injEq, and_true] at h
      subst h
      exact ih h2
    | err _ _ _ h he =>
      rw [ht] at h
      simp only [Prod.mk.injEq] at h
      exact absurd h.2.symm he
  | err hp hw h35 ht he =>
    intro h'
    cases h' with
    | fin h => omega
    | white _ h _ => rw [hw] at h; cases h
    | hash _ h _ => exact absurd h h35
    | tok _ _ _ h _ =>
      rw [ht] at h
      simp only [Prod.mk.injEq] at h
      exact absurd h.2 he
    | err _ _ _ h _ =>
      rw [ht] at h
      simp only [Prod.mk.injEq] at h
      rw [h.2]
/-- Lex, reckoned with fuel. -/
def lexF (s : ByteArray) : Nat → Nat → List Tok → Option (List Tok × Nat × Int)
  | 0, _, _ => none
  | f + 1, p, acc =>
    if p < s.size then
      if whiteI (s.get! p).toNat = true then lexF s f (p + 1) acc
      else if (s.get! p).toNat = 35 then lexF s f (p + spanL ne10 (s.data.toList.drop p)) acc
      else if (tokP s p).2 = 0 then lexF s f (p + (tokP s p).1.t.size) (acc ++ [{ (tokP s p).1 with a := p }])
      else some ([], p, (tokP s p).2)
    else some (acc ++ [⟨0, s.size, ⟨#[]⟩, 0⟩], 0, 0)
theorem lexF_ok {s : ByteArray} : ∀ (f p : Nat) (acc : List Tok) (r : List Tok × Nat × Int), lexF s f p acc = some r → Lex s p acc r := by
  intro f
  induction f with
  | zero => intro p acc r h; simp [lexF] at h
  | succ f ih =>
    intro p acc r h
    rw [lexF] at h
    by_cases hp : p < s.size
    · rw [if_pos hp] at h
      by_cases hw : whiteI (s.get! p).toNat = true
      · rw [if_pos hw] at h; exact .white hp hw (ih _ _ _ h)
      · rw [if_neg hw] at h
        have hw' : whiteI (s.get! p).toNat = false := by simpa using hw
        by_cases h35 : (s.get! p).toNat = 35
        · rw [if_pos h35] at h; exact .hash hp h35 (ih _ _ _ h)
        · rw [if_neg h35] at h
          by_cases ht : (tokP s p).2 = 0
          · rw [if_pos ht] at h; exact .tok (x := (tokP s p).1) hp hw' h35 (Prod.ext rfl ht) (ih _ _ _ h)
          · rw [if_neg ht, Option.some.injEq] at h
            subst h
            exact .err (x := (tokP s p).1) hp hw' h35 rfl ht
    · rw [if_neg hp, Option.some.injEq] at h
      subst h
      exact .fin (by omega)
def TokensR (s : ByteArray) (r : List Tok × Nat × Int) : Prop := (4000 < s.size ∧ r = ([], 4000, 2)) ∨ (s.size ≤ 4000 ∧ Lex s 0 [] r)
theorem tokR_det {s : ByteArray} {r r' : List Tok × Nat × Int} (h : TokensR s r) (h' : TokensR s r') : r = r' := by
  rcases h with ⟨h1, rfl⟩ | ⟨h1, h2⟩ <;> rcases h' with ⟨h3, rfl⟩ | ⟨h3, h4⟩
  · rfl
  · omega
  · omega
  · exact lex_det h2 h4
def ex1 : List Tok := [⟨1, 0, ⟨#[120]⟩, 0⟩, ⟨3, 1, ⟨#[60, 61]⟩, 0⟩, ⟨2, 3, ⟨#[49, 48]⟩, 10⟩, ⟨0, 9, ⟨#[]⟩, 0⟩]
theorem r_ex1 : TokensR ⟨#[120, 60, 61, 49, 48, 32, 35, 32, 121]⟩ (ex1, 0, 0) := .inr ⟨by decide, lexF_ok 20 _ _ _ (by rfl)⟩
theorem r_ex2 : TokensR ⟨#[97, 38, 98]⟩ ([], 1, 11) := .inr ⟨by decide, lexF_ok 20 _ _ _ (by rfl)⟩
theorem r_ex3 : TokensR ⟨#[48, 48, 55]⟩ ([], 0, 11) := .inr ⟨by decide, lexF_ok 20 _ _ _ (by rfl)⟩
theorem r_ex4 : TokensR ⟨#[49, 32, 50, 49, 52, 55, 52, 56, 51, 54, 52, 56]⟩ ([], 2, 5) := .inr ⟨by decide, lexF_ok 20 _ _ _ (by rfl)⟩
end Go.Proofs.Lx
