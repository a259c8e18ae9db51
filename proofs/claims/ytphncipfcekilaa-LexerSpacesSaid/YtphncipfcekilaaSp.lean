/- Plain: tokens joined by spaces are the same tokens. -/
import Derived.Test.YtphncipfcekilaaC1
import Derived.Lib.Strings
namespace Go.Proofs
open Go Lx
set_option linter.unusedSimpArgs false
set_option linter.unusedVariables false
/-- The texts of tokens, joined by spaces. -/
def spL : List Tok → List UInt8
  | [] => []
  | [x] => x.t.data.toList
  | x :: y :: l => x.t.data.toList ++ 32 :: spL (y :: l)
/-- What of a token is compared. -/
def same3 (x y : Tok) : Prop := x.k = y.k ∧ x.t = y.t ∧ x.n = y.n
inductive Same3 : List Tok → List Tok → Prop where
  | nil : Same3 [] []
  | cons {x y : Tok} {l m : List Tok} : same3 x y → Same3 l m → Same3 (x :: l) (y :: m)
theorem Same3.len {l m : List Tok} (h : Same3 l m) : l.length = m.length := by
  induction h with
  | nil => rfl
  | cons _ _ ih => simp [ih]
theorem Same3.get {l m : List Tok} (h : Same3 l m) : ∀ (i : Nat) (hi : i < l.length) (hj : i < m.length), same3 l[i] m[i] := by
  induction h with
  | nil => intro i hi; simp at hi
  | cons h1 _ ih =>
    intro i hi hj
    cases i with
    | zero => exact h1
    | succ i => exact ih i (by simpa using hi) (by simpa using hj)
theorem lex_ne {s : ByteArray} {p : Nat} {acc : List Tok} {r : List Tok × Nat × Int} (h : Lex s p acc r) : r.2.2 = 0 → ∃ x l, r.1 = acc ++ x :: l := by
  intro h0
  obtain ⟨ts, e⟩ := lex_end h h0
  induction h with
  | fin _ => exact ⟨_, [], rfl⟩
  | white _ _ _ ih => exact ih h0 e
  | hash _ _ _ ih => exact ih h0 e
  | tok _ _ _ _ _ ih =>
    obtain ⟨x, l, h⟩ := ih h0 e
    exact ⟨_, x :: l, by rw [h, List.append_assoc]; rfl⟩
  | err _ _ _ _ he => exact absurd h0 he
theorem lex_sp {s : ByteArray} {p : Nat} {acc : List Tok} {r : List Tok × Nat × Int} (h : Lex s p acc r) : r.2.2 = 0 → ∀ (l : List Tok), r.1 = acc ++ l → ∀ (s' : ByteArray) (q : Nat) (acc' : List Tok), q ≤ s'.size → s'.data.toList.drop q = spL l →
    ∃ l', Lex s' q acc' (acc' ++ l', 0, 0) ∧ Same3 l l' := by
  induction h with
  | @fin p acc hp =>
    intro _ l hl s' q acc' hq hd
    obtain rfl : l = [⟨0, s.size, ⟨#[]⟩, 0⟩] := (List.append_cancel_left hl).symm
    have h0 : s'.data.toList.drop q = [] := hd
    have : s'.size ≤ q := by
      have := congrArg List.length h0
      rw [List.length_drop, size_list] at this
      simp at this; omega
    exact ⟨[⟨0, s'.size, ⟨#[]⟩, 0⟩], .fin this, .cons ⟨rfl, rfl, rfl⟩ .nil⟩
  | white _ _ _ ih => exact ih
  | hash _ _ _ ih => exact ih
  | @tok p acc r x hp hw h35 ht hlex ih =>
    intro h0 l hl s' q acc' hq hd
    obtain ⟨y, l2, e2⟩ := lex_ne hlex h0
    obtain rfl : l = { x with a := p } :: y :: l2 := by
      rw [e2, List.append_assoc] at hl
      exact (List.append_cancel_left hl).symm
    have hok := tokP_ok hp ht
    have hd' : s'.data.toList.drop q = x.t.data.toList ++ 32 :: spL (y :: l2) := hd
    rw [tokP_L hp] at ht
    have hxt : (s.data.toList.drop p).take x.t.size = x.t.data.toList := by
      have h := congrArg (fun b : ByteArray => b.data.toList) hok.2.2.2.1
      have h2 := Lib.extract_data s p (p + x.t.size)
      rw [Nat.add_sub_cancel_left] at h2
      exact (h.trans h2).symm
    have hl2 := tok_loc (rest := 32 :: spL (y :: l2)) ht (fun c hc => by
      simp only [List.head?_cons, Option.some.injEq] at hc
      subst hc; exact .inl (by decide))
    rw [hxt, ← hd'] at hl2
    have hlen := congrArg List.length hd'
    rw [List.length_drop, size_list, List.length_append, size_list] at hlen
    simp only [List.length_cons] at hlen
    have hq' : q < s'.size := by omega
    have hhd : s'.get! q = s.get! p := by
      rw [get_hd hq', get_hd hp, hd', ← hxt]
      have hne : s.data.toList.drop p ≠ [] := by rw [drop_get s p hp]; simp
      exact headD_take hok.2.1 hne
    have hdrop : s'.data.toList.drop (q + x.t.size) = 32 :: spL (y :: l2) := by
      rw [← List.drop_drop, hd', List.drop_append_of_le_length (by rw [size_list]; exact Nat.le_refl _), List.drop_of_length_le (by rw [size_list]; exact Nat.le_refl _)]
      rfl
    have h32 : s'.get! (q + x.t.size) = 32 := by
      rw [get_hd (by omega), hdrop]; rfl
    obtain ⟨l', h3, h4⟩ := ih h0 (y :: l2) e2 s' (q + x.t.size + 1) (acc' ++ [{ x with a := q }]) (by omega) (by
      rw [← List.drop_drop, hdrop]; rfl)
    refine ⟨{ x with a := q } :: l', ?_, .cons ⟨rfl, rfl, rfl⟩ h4⟩
    refine .tok (x := x) hq' (by rw [hhd]; exact hw) (by rw [hhd]; exact h35) (by rw [tokP_L hq']; exact hl2) ?_
    refine .white (by omega) (by rw [h32]; decide) ?_
    rw [List.append_assoc] at h3
    exact h3
  | err _ _ _ _ he => intro h0; exact absurd h0 he
/-- A source has tokens, or an error. -/
theorem lex_total (s : ByteArray) : ∀ (n p : Nat) (acc : List Tok), s.size - p ≤ n → ∃ r, Lex s p acc r := by
  intro n
  induction n with
  | zero => intro p acc h; exact ⟨_, .fin (by omega)⟩
  | succ n ih =>
    intro p acc h
    by_cases hp : p < s.size
    · cases hw : whiteI (s.get! p).toNat with
      | true =>
        obtain ⟨r, hr⟩ := ih (p + 1) acc (by omega)
        exact ⟨r, .white hp hw hr⟩
      | false =>
        by_cases h35 : (s.get! p).toNat = 35
        · have h1 : 1 ≤ spanL ne10 (s.data.toList.drop p) := by
            rw [drop_get s p hp]
            exact spanL_pos _ _ _ (by rw [h35]; decide)
          obtain ⟨r, hr⟩ := ih (p + spanL ne10 (s.data.toList.drop p)) acc (by omega)
          exact ⟨r, .hash hp h35 hr⟩
        · by_cases he : (tokP s p).2 = 0
          · have ht : tokP s p = ((tokP s p).1, 0) := Prod.ext rfl he
            have hok := tokP_ok hp ht
            obtain ⟨r, hr⟩ := ih (p + (tokP s p).1.t.size) (acc ++ [{ (tokP s p).1 with a := p }]) (by have := hok.2.1; omega)
            exact ⟨r, .tok hp hw h35 ht hr⟩
          · exact ⟨_, .err hp hw h35 (Prod.ext rfl rfl) he⟩
    · exact ⟨_, .fin (by omega)⟩
theorem tokensR_total (s : ByteArray) : ∃ r, TokensR s r := by
  by_cases h : 4000 < s.size
  · exact ⟨_, .inl ⟨h, rfl⟩⟩
  · obtain ⟨r, hr⟩ := lex_total s s.size 0 [] (by omega)
    exact ⟨r, .inr ⟨by omega, hr⟩⟩
end Go.Proofs
