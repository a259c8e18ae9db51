/- Plain laws on bytes: what a range over a string meets. -/
import Derived.Laws.RangeAny
namespace Go.Proofs.Lx
open Go
/-- bytes: the length of the longest prefix that satisfies g. -/
def spanL (g : Int → Bool) (l : List UInt8) : Nat := (l.takeWhile (fun b => g b.toNat)).length
def Flat (g : Int → Bool) : Prop := ∀ c : Int, 128 ≤ c → g c = g 128

theorem at_more (s : ByteArray) (p n : Nat) (h : p < s.size) (hn : 1 ≤ n) (hc : ∀ k, 1 ≤ k → k < n → p + k < s.size ∧ 128 ≤ (s.get! (p + k)).toNat) :
    1 ≤ n ∧ p + n ≤ s.size ∧ ∀ j, p < j → j < p + n → 128 ≤ (s.get! j).toNat := by
  refine ⟨hn, ?_, fun j h1 h2 => ?_⟩
  · rcases Nat.lt_or_ge 1 n with hl | hl
    · have := (hc (n - 1) (by omega) (by omega)).1
      omega
    · omega
  · have := (hc (j - p) (by omega) (by omega)).2
    rwa [show p + (j - p) = j by omega] at this

theorem decode_len (s : ByteArray) (p : Nat) (h : p < s.size) :
    1 ≤ (Utf8.decode s p).2 ∧ p + (Utf8.decode s p).2 ≤ s.size ∧ ∀ j, p < j → j < p + (Utf8.decode s p).2 → 128 ≤ (s.get! j).toNat := by
  have hc : ∀ k, (decide (p + k < s.size) && ((s.get! (p + k)).toNat / 64 == 2)) = true → p + k < s.size ∧ 128 ≤ (s.get! (p + k)).toNat := by
    intro k hk
    simp at hk
    omega
  have one := at_more s p 1 h (by omega) (fun k h1 h2 => by omega)
  simp only [Utf8.decode]
  split
  · exact one
  · split
    · rename_i hx
      rw [Bool.and_eq_true] at hx
      have h1 := hc 1 hx.2
      split
      · exact at_more s p 2 h (by omega) (fun k hk1 hk2 => by obtain rfl : k = 1 := by omega
                                                              exact h1)
      · exact one
    · split
      · rename_i hx
        rw [Bool.and_eq_true, Bool.and_eq_true] at hx
        have h1 := hc 1 hx.1.2
        have h2 := hc 2 hx.2
        split
        · refine at_more s p 3 h (by omega) (fun k hk1 hk2 => ?_)
          have : k = 1 ∨ k = 2 := by omega
          rcases this with rfl | rfl
          · exact h1
          · exact h2
        · exact one
      · split
        · rename_i hx
          rw [Bool.and_eq_true, Bool.and_eq_true, Bool.and_eq_true] at hx
          have h1 := hc 1 hx.1.1.2
          have h2 := hc 2 hx.1.2
          have h3 := hc 3 hx.2
          split
          · refine at_more s p 4 h (by omega) (fun k hk1 hk2 => ?_)
            have : k = 1 ∨ k = 2 ∨ k = 3 := by omega
            rcases this with rfl | rfl | rfl
            · exact h1
            · exact h2
            · exact h3
          · exact one
        · exact one

theorem get_list (s : ByteArray) (p : Nat) (h : p < s.size) : s.data.toList[p]? = some (s.get! p) := by
  rw [List.getElem?_eq_getElem (by simpa using h)]
  congr 1
  have := get_at s p h
  simp only [Nat.add_zero] at this
  rw [this]
  rfl

theorem decode_g (s : ByteArray) (g : Int → Bool) (hf : Flat g) (p : Nat) (h : p < s.size) : g ((Utf8.decode s p).1 : Int) = g ((s.get! p).toNat : Int) := by
  have e := get_at s p h
  simp only [Nat.add_zero] at e
  by_cases ha : (s.get! p).toNat < 128
  · rw [decode_ascii s p h (by rw [← e]; exact ha), ← e]
  · have hh := (decode_high s p h (by rw [← e]; omega)).1
    rw [hf _ (by omega), hf ((s.get! p).toNat : Int) (by omega)]

theorem drop_get (s : ByteArray) (p : Nat) (h : p < s.size) : s.data.toList.drop p = s.get! p :: s.data.toList.drop (p + 1) := by
  have hg := get_list s p h
  rw [List.getElem?_eq_some_iff] at hg
  obtain ⟨hl, he⟩ := hg
  rw [List.drop_eq_getElem_cons hl, he]

theorem span_stop (s : ByteArray) (g : Int → Bool) (p : Nat) (h : p < s.size) (hg : g ((s.get! p).toNat : Int) = false) : spanL g (s.data.toList.drop p) = 0 := by
  rw [drop_get s p h]
  simp [spanL, hg]

theorem span_more (s : ByteArray) (g : Int → Bool) (n : Nat) : ∀ p, p + n ≤ s.size → (∀ j, p ≤ j → j < p + n → g ((s.get! j).toNat : Int) = true) → spanL g (s.data.toList.drop p) = n + spanL g (s.data.toList.drop (p + n)) := by
  induction n with
  | zero => intro p _ _; simp
  | succ n ih =>
    intro p h hg
    have h0 := hg p (by omega) (by omega)
    rw [drop_get s p (by omega)]
    have := ih (p + 1) (by omega) (fun j h1 h2 => hg j (by omega) (by omega))
    have e : p + (n + 1) = p + 1 + n := by omega
    rw [e, spanL, List.takeWhile_cons, h0]
    simp only [if_true, List.length_cons]
    unfold spanL at this
    unfold spanL
    omega

theorem span_end (s : ByteArray) (g : Int → Bool) : spanL g (s.data.toList.drop s.size) = 0 := by
  rw [List.drop_of_length_le (by simp)]; rfl

theorem span_step (s : ByteArray) (g : Int → Bool) (hf : Flat g) (p : Nat) (h : p < s.size) (hg : g ((Utf8.decode s p).1 : Int) = true) :
    spanL g (s.data.toList.drop p) = (Utf8.decode s p).2 + spanL g (s.data.toList.drop (p + (Utf8.decode s p).2)) := by
  obtain ⟨h1, h2, h3⟩ := decode_len s p h
  refine span_more s g _ p h2 fun j hj1 hj2 => ?_
  rw [decode_g s g hf p h] at hg
  rcases Nat.eq_or_lt_of_le hj1 with rfl | hlt
  · exact hg
  · have hb := h3 j hlt hj2
    have hcont : 1 < (Utf8.decode s p).2 := by omega
    have hhi : 128 ≤ (s.get! p).toNat := by
      rcases Nat.lt_or_ge (s.get! p).toNat 128 with hl | hl
      · have e := get_at s p h
        simp only [Nat.add_zero] at e
        rw [decode_ascii s p h (by rw [← e]; exact hl)] at hcont
        simp at hcont
      · exact hl
    rw [hf _ (by omega)] at hg ⊢
    exact hg
end Go.Proofs.Lx
