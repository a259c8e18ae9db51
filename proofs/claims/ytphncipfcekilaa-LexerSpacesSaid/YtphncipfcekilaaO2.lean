/- Plain: sources joined, moved, cut. -/
import Derived.Test.YtphncipfcekilaaO
import Derived.Test.YtphncipfcekilaaK
namespace Go.Proofs.Lx
open Go
set_option linter.unusedSimpArgs false
set_option linter.unusedVariables false
def mv (d : Nat) (x : Tok) : Tok := { x with a := x.a + d }
theorem size_list (s : ByteArray) : s.data.toList.length = s.size := by rw [Array.length_toList]; rfl
theorem lex_shift {b : ByteArray} {p : Nat} {acc : List Tok} {r : List Tok × Nat × Int} (h : Lex b p acc r) : r.2.2 = 0 → ∀ (s : ByteArray) (pre : List UInt8) (hd : List Tok), s.data.toList = pre ++ b.data.toList →
    Lex s (pre.length + p) (hd ++ acc.map (mv pre.length)) (hd ++ r.1.map (mv pre.length), 0, 0) := by
  have hsz : ∀ {s : ByteArray} {pre : List UInt8}, s.data.toList = pre ++ b.data.toList → s.size = pre.length + b.size := by
    intro s pre hs
    have := congrArg List.length hs
    rwa [List.length_append, size_list, size_list] at this
  have hdr : ∀ {s : ByteArray} {pre : List UInt8} (p : Nat), s.data.toList = pre ++ b.data.toList → s.data.toList.drop (pre.length + p) = b.data.toList.drop p := by
    intro s pre p hs
    rw [hs, ← List.drop_drop, List.drop_left]
  have hget : ∀ {s : ByteArray} {pre : List UInt8} {p : Nat}, s.data.toList = pre ++ b.data.toList → p < b.size → s.get! (pre.length + p) = b.get! p := by
    intro s pre p hs hp
    rw [get_hd (by have := hsz hs; omega), get_hd hp, hdr p hs]
  induction h with
  | @fin p acc hp =>
    intro _ s pre hd hs
    have := hsz hs
    have h1 := Lex.fin (s := s) (p := pre.length + p) (acc := hd ++ List.map (mv pre.length) acc) (by omega)
    rw [List.map_append, ← List.append_assoc]
    have e : [({ k := 0, a := (s.size : Int), t := ⟨#[]⟩, n := 0 } : Tok)] = List.map (mv pre.length) [{ k := 0, a := (b.size : Int), t := ⟨#[]⟩, n := 0 }] := by
      simp only [List.map_cons, List.map_nil, mv]
      rw [this, Int.natCast_add, Int.add_comm]
    rw [e] at h1
    exact h1
  | @white p acc r hp hw _ ih =>
    intro h0 s pre hd hs
    have := hsz hs
    exact .white (by omega) (by rw [hget hs hp]; exact hw) (ih h0 s pre hd hs)
  | @hash p acc r hp hw _ ih =>
    intro h0 s pre hd hs
    have := hsz hs
    exact .hash (by omega) (by rw [hget hs hp]; exact hw) (by rw [hdr _ hs, Nat.add_assoc]; exact ih h0 s pre hd hs)
  | @tok p acc r x hp hw h35 ht _ ih =>
    intro h0 s pre hd hs
    have := hsz hs
    refine .tok (by omega) (by rw [hget hs hp]; exact hw) (by rw [hget hs hp]; exact h35) (by rw [tokP_L (by omega), hdr _ hs, ← tokP_L hp]; exact ht) ?_
    have h1 := ih h0 s pre hd hs
    rw [List.map_append, ← List.append_assoc] at h1
    simp only [List.map_cons, List.map_nil, mv] at h1
    rw [Int.add_comm, ← Int.natCast_add] at h1
    rw [Nat.add_assoc]
    exact h1
  | err _ _ _ _ he => intro h0; exact absurd h0 he
theorem lex_end {s : ByteArray} {p : Nat} {acc : List Tok} {r : List Tok × Nat × Int} (h : Lex s p acc r) : r.2.2 = 0 → ∃ ts, r = (ts ++ [⟨0, s.size, ⟨#[]⟩, 0⟩], 0, 0) := by
  induction h with
  | @fin p acc hp => exact fun _ => ⟨_, rfl⟩
  | white _ _ _ ih => exact ih
  | hash _ _ _ ih => exact ih
  | tok _ _ _ _ _ ih => exact ih
  | err _ _ _ _ he => intro h0; exact absurd h0 he
theorem lex_cat {a : ByteArray} {p : Nat} {acc : List Tok} {r : List Tok × Nat × Int} (h : Lex a p acc r) : p ≤ a.size → r.2.2 = 0 → ∃ ts, r = (ts ++ [⟨0, a.size, ⟨#[]⟩, 0⟩], 0, 0) ∧
    ∀ (s : ByteArray) (b : List UInt8), s.data.toList = a.data.toList ++ 10 :: b → ∀ r', Lex s a.size ts r' → Lex s p acc r' := by
  have hsz : ∀ {s : ByteArray} {b : List UInt8}, s.data.toList = a.data.toList ++ 10 :: b → a.size < s.size := by
    intro s b hs
    have := congrArg List.length hs
    rw [List.length_append, size_list, size_list, List.length_cons] at this
    omega
  have hdr : ∀ {s : ByteArray} {b : List UInt8} {p : Nat}, s.data.toList = a.data.toList ++ 10 :: b → p < a.size → s.data.toList.drop p = a.data.toList.drop p ++ 10 :: b := by
    intro s b p hs hp
    rw [hs, List.drop_append_of_le_length (by rw [size_list]; omega)]
  have hget : ∀ {s : ByteArray} {b : List UInt8} {p : Nat}, s.data.toList = a.data.toList ++ 10 :: b → p < a.size → s.get! p = a.get! p := by
    intro s b p hs hp
    rw [get_hd (by have := hsz hs; omega), hdr hs hp, get_hd hp, drop_get a p hp]
    rfl
  induction h with
  | @fin p acc hp =>
    intro hp2 _
    refine ⟨_, rfl, fun s b hs r' h' => ?_⟩
    rwa [Nat.le_antisymm hp2 hp]
  | @white p acc r hp hw _ ih =>
    intro _ h0
    obtain ⟨ts, h1, h2⟩ := ih (by omega) h0
    refine ⟨ts, h1, fun s b hs r' h' => ?_⟩
    have := hsz hs
    exact .white (by omega) (by rw [hget hs hp]; exact hw) (h2 s b hs r' h')
  | @hash p acc r hp hw _ ih =>
    intro _ h0
    have hle := spanL_le ne10 (a.data.toList.drop p)
    rw [List.length_drop, size_list] at hle
    obtain ⟨ts, h1, h2⟩ := ih (by omega) h0
    refine ⟨ts, h1, fun s b hs r' h' => ?_⟩
    have := hsz hs
    exact .hash (by omega) (by rw [hget hs hp]; exact hw) (by rw [hdr hs hp, span_app _ _ _ _ (by decide)]; exact h2 s b hs r' h')
  | @tok p acc r x hp hw h35 ht _ ih =>
    intro _ h0
    have hok := tokP_ok hp ht
    obtain ⟨ts, h1, h2⟩ := ih (by omega) h0
    refine ⟨ts, h1, fun s b hs r' h' => ?_⟩
    have := hsz hs
    refine .tok (by omega) (by rw [hget hs hp]; exact hw) (by rw [hget hs hp]; exact h35) ?_ (h2 s b hs r' h')
    rw [tokP_L hp] at ht
    rw [tokP_L (by omega), hdr hs hp]
    have := tok_loc (rest := (a.data.toList.drop p).drop x.t.size ++ 10 :: b) ht (fun c hc => by
      cases hd : (a.data.toList.drop p).drop x.t.size with
      | nil => rw [hd] at hc; simp at hc; subst hc; exact .inl (by decide)
      | cons d l => rw [hd] at hc; simp at hc; subst hc; exact .inr (by first | rfl | (rw [hd]; rfl) | simp))
    rwa [← List.append_assoc, List.take_append_drop] at this
  | err _ _ _ _ he => intro _ h0; exact absurd h0 he
theorem lex_prefix {s : ByteArray} {p : Nat} {acc : List Tok} {r : List Tok × Nat × Int} (h : Lex s p acc r) : r.2.2 ≠ 0 → r.1 = [] ∧ p ≤ r.2.1 ∧ r.2.1 < s.size ∧ ∃ ts, Lex (s.extract 0 r.2.1) p acc (ts, 0, 0) := by
  have hsz : ∀ {q : Nat}, q < s.size → (s.extract 0 q).size = q := by intro q hq; simp; omega
  have hdr : ∀ {p q : Nat}, (s.extract 0 q).data.toList.drop p = (s.data.toList.drop p).take (q - p) := by
    intro p q
    rw [extract_list, List.drop_zero, Nat.sub_zero, List.drop_take]
  have hget : ∀ {p q : Nat}, p < q → q < s.size → (s.extract 0 q).get! p = s.get! p := by
    intro p q hpq hq
    rw [get_hd (by rw [hsz hq]; exact hpq), hdr, get_hd (by omega), drop_get s p (by omega)]
    obtain ⟨n, hn⟩ : ∃ n, q - p = n + 1 := ⟨q - p - 1, by omega⟩
    rw [hn]
    rfl
  induction h with
  | @fin p acc hp => intro h; exact absurd rfl h
  | @white p acc r hp hw _ ih =>
    intro h0
    obtain ⟨h1, h2, h3, ts, h4⟩ := ih h0
    exact ⟨h1, by omega, h3, ts, .white (by rw [hsz h3]; omega) (by rw [hget (by omega) h3]; exact hw) h4⟩
  | @hash p acc r hp hw _ ih =>
    intro h0
    obtain ⟨h1, h2, h3, ts, h4⟩ := ih h0
    have hpos : 1 ≤ spanL ne10 (s.data.toList.drop p) := by
      rw [drop_get s p hp]
      refine spanL_pos _ _ _ ?_
      rw [hw]
      decide
    exact ⟨h1, by omega, h3, ts, .hash (by rw [hsz h3]; omega) (by rw [hget (by omega) h3]; exact hw) (by rw [hdr, span_take _ _ _ (by omega)]; exact h4)⟩
  | @tok p acc r x hp hw h35 ht _ ih =>
    intro h0
    obtain ⟨h1, h2, h3, ts, h4⟩ := ih h0
    have hok := tokP_ok hp ht
    refine ⟨h1, by omega, h3, ts, .tok (by rw [hsz h3]; omega) (by rw [hget (by omega) h3]; exact hw) (by rw [hget (by omega) h3]; exact h35) ?_ h4⟩
    rw [tokP_L hp] at ht
    rw [tokP_L (by rw [hsz h3]; omega), hdr]
    have := tok_loc (rest := ((s.data.toList.drop p).drop x.t.size).take (r.2.1 - p - x.t.size)) ht (fun c hc => by
      right
      rw [List.head?_take] at hc
      split at hc
      · cases hc
      · exact hc)
    rwa [show ∀ (l : List UInt8) (n m : Nat), n ≤ m → l.take n ++ (l.drop n).take (m - n) = l.take m from fun l n m h => by rw [← List.drop_take]; have := List.take_append_drop n (l.take m); rwa [List.take_take, Nat.min_eq_left h] at this] at this
    omega
  | err hp hw h35 ht he =>
    intro _
    exact ⟨rfl, Nat.le_refl _, hp, _, .fin (by rw [hsz hp]; exact Nat.le_refl _)⟩
end Go.Proofs.Lx
