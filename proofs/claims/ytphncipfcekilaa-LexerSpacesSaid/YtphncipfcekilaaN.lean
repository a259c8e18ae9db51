/- Plain: what a token's text is. -/
import Derived.Test.YtphncipfcekilaaM
namespace Go.Proofs.Lx
open Go
set_option linter.unusedSimpArgs false
theorem spanL_le (g : Int → Bool) (l : List UInt8) : spanL g l ≤ l.length := (List.takeWhile_sublist _).length_le
theorem spanL_get (g : Int → Bool) (l : List UInt8) : ∀ j, j < spanL g l → ∃ b, l[j]? = some b ∧ g b.toNat = true := by
  induction l with
  | nil => intro j h; simp [spanL] at h
  | cons b l ih =>
    intro j h
    cases hb : g b.toNat
    · simp [spanL, List.takeWhile_cons, hb] at h
    · cases j with
      | zero => exact ⟨b, rfl, hb⟩
      | succ j =>
        have : j < spanL g l := by
          simp only [spanL, List.takeWhile_cons, hb, if_true, List.length_cons] at h ⊢
          omega
        obtain ⟨c, h1, h2⟩ := ih j this
        exact ⟨c, by simpa using h1, h2⟩
theorem spanL_pos (g : Int → Bool) (b : UInt8) (l : List UInt8) (h : g b.toNat = true) : 1 ≤ spanL g (b :: l) := by
  simp [spanL, List.takeWhile_cons, h]
theorem ext_list (s : ByteArray) (p : Nat) (h : p ≤ s.size) : (s.extract p s.size).data.toList = s.data.toList.drop p := by
  rw [extract_list, List.take_of_length_le (by simp)]
theorem ext_size (s : ByteArray) (p : Nat) : (s.extract p s.size).size = s.size - p := by simp
theorem ba_ext {a b : ByteArray} (h : a.data.toList = b.data.toList) : a = b := by
  obtain ⟨⟨a⟩⟩ := a
  obtain ⟨⟨b⟩⟩ := b
  simp only at h
  rw [h]
theorem ext_ext (s : ByteArray) (p n : Nat) (h : p + n ≤ s.size) : (s.extract p s.size).extract 0 n = s.extract p (p + n) := by
  have e : ((s.extract p s.size).extract 0 n).data.toList = (s.extract p (p + n)).data.toList := by
    rw [extract_list, extract_list, extract_list, List.drop_zero, Nat.sub_zero, List.take_take, Nat.min_eq_left (by omega), Nat.add_sub_cancel_left]
  exact ba_ext e
theorem get_of (s : ByteArray) (j : Nat) (b : UInt8) (h : s.data.toList[j]? = some b) : j < s.size ∧ s.get! j = b := by
  have hl : j < s.size := by
    rw [List.getElem?_eq_some_iff] at h
    obtain ⟨h, _⟩ := h
    simpa using h
  rw [get_list s j hl] at h
  exact ⟨hl, by injection h⟩
theorem letter_lt (c : Int) (h : wordI c = true) : c < 128 := by simp [wordI, letterI, digitI] at h; omega
theorem digit_lt (c : Int) (h : digitI c = true) : c < 128 := by simp [digitI] at h; omega

theorem seg_ok {s : ByteArray} {p : Nat} (g : Int → Bool) (hg : ∀ c, g c = true → c < 128) (hp : p < s.size) (h0 : g (s.get! p).toNat = true) :
    1 ≤ spanL g (s.data.toList.drop p) ∧ p + spanL g (s.data.toList.drop p) ≤ s.size ∧ ∀ j, p ≤ j → j < p + spanL g (s.data.toList.drop p) → (s.get! j).toNat < 128 := by
  refine ⟨?_, ?_, ?_⟩
  · rw [drop_get s p hp]; exact spanL_pos g _ _ h0
  · have := spanL_le g (s.data.toList.drop p)
    simp at this
    omega
  · intro j h1 h2
    obtain ⟨b, hb, hgb⟩ := spanL_get g (s.data.toList.drop p) (j - p) (by omega)
    rw [List.getElem?_drop, show p + (j - p) = j by omega] at hb
    rw [(get_of s j b hb).2]
    have := hg _ hgb
    omega

theorem sym_ok {s : ByteArray} {p : Nat} (hp : p < s.size) (hn : symN (s.data.toList.drop p) ≠ 0) :
    1 ≤ symN (s.data.toList.drop p) ∧ p + symN (s.data.toList.drop p) ≤ s.size ∧ ∀ j, p ≤ j → j < p + symN (s.data.toList.drop p) → (s.get! j).toNat < 128 := by
  unfold symN at hn ⊢
  by_cases h2 : 1 < (s.data.toList.drop p).length ∧ (s.data.toList.drop p).take 2 ∈ sym2
  · rw [if_pos h2]
    obtain ⟨hl, hm⟩ := h2
    have hl' : p + 2 ≤ s.size := by simp at hl; omega
    refine ⟨by omega, hl', fun j h1 h2 => ?_⟩
    rw [drop_get s p hp, drop_get s (p + 1) (by omega)] at hm
    simp only [List.take_succ_cons, List.take_zero, sym2, List.mem_cons, List.cons.injEq, and_true, List.not_mem_nil, or_false] at hm
    have hj : j = p ∨ j = p + 1 := by omega
    rcases hj with rfl | rfl <;> rcases hm with h | h | h | h | h | h <;> simp [h.1, h.2]
  · rw [if_neg h2] at hn ⊢
    rw [drop_get s p hp] at hn ⊢
    simp only [List.head?_cons, Option.any_some] at hn ⊢
    cases hc : sym1.contains (s.get! p)
    · rw [hc] at hn; exact absurd rfl hn
    · simp only [cond_true]
      refine ⟨by omega, by omega, fun j h1 h2 => ?_⟩
      obtain rfl : j = p := by omega
      have hm := List.contains_iff_mem.1 hc
      simp only [sym1, List.mem_cons, List.not_mem_nil, or_false] at hm
      rcases hm with h | h | h | h | h | h | h | h | h | h | h | h | h | h | h | h <;> simp [h]

/-- A token's text: from its place on, not empty, within the source, of plain bytes. -/
theorem tokP_ok {s : ByteArray} {p : Nat} {x : Tok} (hp : p < s.size) (h : tokP s p = (x, 0)) :
    x.a = 0 ∧ 1 ≤ x.t.size ∧ p + x.t.size ≤ s.size ∧ x.t = s.extract p (p + x.t.size) ∧ ∀ j, p ≤ j → j < p + x.t.size → (s.get! j).toNat < 128 := by
  have hsz : ∀ n, p + n ≤ s.size → (s.extract p (p + n)).size = n := fun n hn => by simp; omega
  have fin : ∀ n, 1 ≤ n → p + n ≤ s.size → (∀ j, p ≤ j → j < p + n → (s.get! j).toNat < 128) → ∀ y : Tok, y.a = 0 → y.t = (s.extract p s.size).extract 0 n →
      y.a = 0 ∧ 1 ≤ y.t.size ∧ p + y.t.size ≤ s.size ∧ y.t = s.extract p (p + y.t.size) ∧ ∀ j, p ≤ j → j < p + y.t.size → (s.get! j).toNat < 128 := by
    intro n h1 h2 h3 y ha hy
    rw [ext_ext s p n h2] at hy
    rw [hy, hsz n h2]
    exact ⟨ha, h1, h2, rfl, h3⟩
  unfold tokP at h
  by_cases hl : letterI (s.get! p).toNat = true
  · rw [if_pos hl] at h
    unfold wordP at h
    by_cases h12 : 12 < spanL wordI (s.extract p s.size).data.toList
    · rw [if_pos h12] at h; simp at h
    · rw [if_neg h12, ext_list s p (by omega)] at h
      have hw : wordI (s.get! p).toNat = true := by simp [wordI, hl]
      obtain ⟨h1, h2, h3⟩ := seg_ok wordI letter_lt hp hw
      simp only [Prod.mk.injEq, and_true] at h
      subst h
      exact fin _ h1 h2 h3 _ rfl rfl
  · rw [if_neg hl] at h
    by_cases hd : digitI (s.get! p).toNat = true
    · rw [if_pos hd, ext_list s p (by omega)] at h
      obtain ⟨h1, h2, h3⟩ := seg_ok digitI digit_lt hp hd
      unfold numberP at h
      split at h
      · simp at h
      · split at h
        · simp at h
        · simp only [Prod.mk.injEq, and_true] at h
          subst h
          exact fin _ h1 h2 h3 _ rfl rfl
    · rw [if_neg hd] at h
      unfold symbolP at h
      rw [ext_list s p (by omega)] at h
      by_cases h0 : symN (s.data.toList.drop p) = 0
      · rw [if_pos h0] at h; simp at h
      · rw [if_neg h0] at h
        obtain ⟨h1, h2, h3⟩ := sym_ok hp h0
        simp only [Prod.mk.injEq, and_true] at h
        subst h
        exact fin _ h1 h2 h3 _ rfl rfl

theorem hash_ok {s : ByteArray} {p : Nat} (hp : p < s.size) (h : (s.get! p).toNat = 35) :
    1 ≤ spanL ne10 (s.data.toList.drop p) ∧ p + spanL ne10 (s.data.toList.drop p) ≤ s.size ∧ Bd s p (p + spanL ne10 (s.data.toList.drop p)) := by
  have h1 : 1 ≤ spanL ne10 (s.data.toList.drop p) := by rw [drop_get s p hp]; exact spanL_pos _ _ _ (by rw [h]; rfl)
  have h2 : p + spanL ne10 (s.data.toList.drop p) ≤ s.size := by
    have := spanL_le ne10 (s.data.toList.drop p)
    simp at this
    omega
  refine ⟨h1, h2, ?_⟩
  rcases Nat.eq_or_lt_of_le h2 with he | hlt
  · exact .inr (.inl he)
  · right; right
    refine ⟨hlt, ?_⟩
    -- the byte behind the span is a line feed
    have key : ∀ (l : List UInt8), spanL ne10 l < l.length → l[spanL ne10 l]? = some 10 := by
      intro l
      induction l with
      | nil => intro h; simp at h
      | cons b l ih =>
        intro h
        cases hb : ne10 b.toNat
        · have : b.toNat = 10 := by simp [ne10] at hb; omega
          have hb10 : b = 10 := UInt8.toNat_inj.1 (by simpa using this)
          simp [spanL, hb10, ne10]
        · have e : spanL ne10 (b :: l) = spanL ne10 l + 1 := by simp [spanL, List.takeWhile_cons, hb]
          rw [e] at h ⊢
          simpa using ih (by simpa using h)
    have := key (s.data.toList.drop p) (by simp; omega)
    rw [List.getElem?_drop] at this
    rw [(get_of s _ _ this).2]
    decide
end Go.Proofs.Lx
