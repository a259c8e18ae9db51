/- Plain: a token is known by its own bytes and the byte behind it; sources joined, moved, cut. -/
import Derived.Test.YtphncipfcekilaaV
import Derived.Test.YtphncipfcekilaaU
namespace Go.Proofs.Lx
open Go
set_option linter.unusedSimpArgs false
set_option linter.unusedVariables false
def mkB (l : List UInt8) : ByteArray := ⟨l.toArray⟩
theorem mkB_size (l : List UInt8) : (mkB l).size = l.length := by simp [mkB, ByteArray.size]
theorem mkB_list (l : List UInt8) : (mkB l).data.toList = l := by simp [mkB]
def numL (D : List UInt8) : Tok × Int := if 1 < D.length ∧ D[0]? = some 48 then (noTok, 11) else if valI 0 D > 2147483647 then (noTok, 5) else (⟨2, 0, mkB D, valI 0 D⟩, 0)
def tokL (l : List UInt8) : Tok × Int :=
  if letterI (l.headD 0).toNat then (if 12 < spanL wordI l then (noTok, 2) else (⟨1, 0, mkB (l.take (spanL wordI l)), 0⟩, 0))
  else if digitI (l.headD 0).toNat then numL (l.take (spanL digitI l))
  else if symN l = 0 then (noTok, 11) else (⟨3, 0, mkB (l.take (symN l)), 0⟩, 0)
theorem ext_mkB (s : ByteArray) (p n : Nat) (h : p ≤ s.size) : (s.extract p s.size).extract 0 n = mkB ((s.data.toList.drop p).take n) := ba_ext (by rw [extract_list, ext_list s p h, mkB_list]; simp)
theorem get_hd {s : ByteArray} {p : Nat} (hp : p < s.size) : s.get! p = (s.data.toList.drop p).headD 0 := by rw [drop_get s p hp]; rfl
theorem numberP_L (D : List UInt8) : numberP (mkB D) = numL D := by
  unfold numberP numL
  rw [mkB_size, mkB_list]
theorem tokP_L {s : ByteArray} {p : Nat} (hp : p < s.size) : tokP s p = tokL (s.data.toList.drop p) := by
  unfold tokP tokL
  rw [get_hd hp, ext_mkB s p _ (by omega)]
  unfold wordP symbolP
  rw [numberP_L, ext_mkB s p _ (by omega), ext_mkB s p _ (by omega), ext_list s p (by omega)]
theorem span_loc (g : Int → Bool) (l rest : List UInt8) (h : ∀ c, rest.head? = some c → g c.toNat = false) : spanL g (l.take (spanL g l) ++ rest) = spanL g l := by
  induction l with
  | nil => cases rest with
    | nil => rfl
    | cons c r => simp [spanL, h c rfl]
  | cons b l ih =>
    cases hb : g b.toNat with
    | false =>
      have e : spanL g (b :: l) = 0 := by simp [spanL, hb]
      rw [e, List.take_zero, List.nil_append]
      cases rest with
      | nil => rfl
      | cons c r => simp [spanL, h c rfl]
    | true =>
      have e2 : ∀ m, spanL g (b :: m) = spanL g m + 1 := fun m => by simp [spanL, hb]
      rw [e2, List.take_succ_cons, List.cons_append, e2, ih]
theorem span_halt (g : Int → Bool) (l : List UInt8) (c : UInt8) (h : (l.drop (spanL g l)).head? = some c) : g c.toNat = false := by
  induction l with
  | nil => simp [spanL] at h
  | cons b l ih =>
    cases hb : g b.toNat with
    | false =>
      have e : spanL g (b :: l) = 0 := by simp [spanL, hb]
      rw [e] at h
      simp at h
      subst h
      exact hb
    | true =>
      have e : spanL g (b :: l) = spanL g l + 1 := by simp [spanL, hb]
      rw [e, List.drop_succ_cons] at h
      exact ih h
theorem span_app (g : Int → Bool) (l b : List UInt8) (c : UInt8) (h : g c.toNat = false) : spanL g (l ++ c :: b) = spanL g l := by
  induction l with
  | nil => simp [spanL, h]
  | cons d l ih =>
    cases hd : g d.toNat with
    | false => simp [spanL, hd]
    | true =>
      have e2 : ∀ m, spanL g (d :: m) = spanL g m + 1 := fun m => by simp [spanL, hd]
      rw [List.cons_append, e2, e2, ih]
theorem span_take (g : Int → Bool) (l : List UInt8) (n : Nat) (h : spanL g l ≤ n) : spanL g (l.take n) = spanL g l := by
  induction l generalizing n with
  | nil => simp
  | cons d l ih =>
    cases hd : g d.toNat with
    | false => cases n <;> simp [spanL, hd]
    | true =>
      have e2 : ∀ m, spanL g (d :: m) = spanL g m + 1 := fun m => by simp [spanL, hd]
      rw [e2] at h
      obtain ⟨n, rfl⟩ : ∃ m, n = m + 1 := ⟨n - 1, by omega⟩
      rw [List.take_succ_cons, e2, e2, ih n (by omega)]
theorem white_word {c : UInt8} (h : whiteI c.toNat = true) : wordI c.toNat = false ∧ digitI c.toNat = false ∧ ∀ a, [a, c] ∉ sym2 := by
  simp only [whiteI, decide_eq_true_eq] at h
  refine ⟨?_, ?_, ?_⟩
  · simp [wordI, letterI, digitI]; omega
  · simp [digitI]; omega
  · intro a hm
    simp [sym2] at hm
    have hc : c = 124 ∨ c = 38 ∨ c = 61 := by
      rcases hm with h | h | h | h | h | h <;> simp [h.2]
    rcases hc with rfl | rfl | rfl <;> simp at h
theorem headD_take {l rest : List UInt8} {n : Nat} (h : 1 ≤ n) (hl : l ≠ []) : (l.take n ++ rest).headD 0 = l.headD 0 := by
  cases l with
  | nil => exact absurd rfl hl
  | cons b l => obtain ⟨n, rfl⟩ : ∃ m, n = m + 1 := ⟨n - 1, by omega⟩; rfl
theorem sym_loc {l rest : List UInt8} (hn : symN l ≠ 0) (hc : ∀ c, rest.head? = some c → whiteI c.toNat = true ∨ (l.drop (symN l)).head? = some c) : symN (l.take (symN l) ++ rest) = symN l ∧ 1 ≤ symN l ∧ symN l ≤ l.length := by
  by_cases h2 : 1 < l.length ∧ l.take 2 ∈ sym2
  · have e : symN l = 2 := by unfold symN; rw [if_pos h2]
    rw [e]
    refine ⟨?_, by omega, by omega⟩
    unfold symN
    rw [if_pos ⟨by simp; omega, by rw [List.take_left' (by simp; omega)]; exact h2.2⟩]
  · have e0 : symN l = cond ((l.head?).any (fun b => sym1.contains b)) 1 0 := by unfold symN; rw [if_neg h2]
    cases l with
    | nil => simp [e0] at hn
    | cons a l =>
      rw [List.head?_cons, Option.any_some] at e0
      have hs : sym1.contains a = true := by
        cases hs : sym1.contains a with
        | true => rfl
        | false => rw [hs] at e0; exact absurd e0 hn
      have e : symN (a :: l) = 1 := by rw [e0, hs]; rfl
      rw [e] at hc ⊢
      refine ⟨?_, by omega, by simp⟩
      rw [List.take_succ_cons, List.take_zero, List.cons_append, List.nil_append]
      unfold symN
      rw [if_neg, List.head?_cons, Option.any_some, hs]
      · rfl
      · rintro ⟨_, hm⟩
        cases rest with
        | nil => simp [sym2] at hm
        | cons c r =>
          rcases hc c rfl with hw | hw
          · exact (white_word hw).2.2 a (by simpa using hm)
          · cases l with
            | nil => simp at hw
            | cons d l =>
              simp at hw
              subst hw
              exact h2 ⟨by simp, by simpa using hm⟩
theorem tok_loc {l rest : List UInt8} {x : Tok} (h : tokL l = (x, 0)) (hc : ∀ c, rest.head? = some c → whiteI c.toNat = true ∨ (l.drop x.t.size).head? = some c) : tokL (l.take x.t.size ++ rest) = (x, 0) := by
  unfold tokL at h
  by_cases hl : letterI (l.headD 0).toNat = true
  · rw [if_pos hl] at h
    by_cases h12 : 12 < spanL wordI l
    · rw [if_pos h12] at h; simp at h
    · rw [if_neg h12] at h
      simp only [Prod.mk.injEq, and_true] at h
      subst h
      have hn : (mkB (l.take (spanL wordI l))).size = spanL wordI l := by rw [mkB_size, List.length_take]; have := spanL_le wordI l; omega
      dsimp only at hc ⊢
      rw [hn] at hc ⊢
      have hs := span_loc wordI l rest (fun c h => (hc c h).elim (fun h => (white_word h).1) (fun h => span_halt _ _ _ h))
      cases l with
      | nil => exact absurd hl (by decide)
      | cons b l =>
        have hp := spanL_pos wordI b l (by simp [wordI] ; left; exact hl)
        have hh : ((b :: l).take (spanL wordI (b :: l)) ++ rest).headD 0 = (b :: l).headD 0 := headD_take hp (by simp)
        unfold tokL
        rw [hh, if_pos hl, hs, if_neg h12, List.take_left' (by rw [List.length_take]; have := spanL_le wordI (b :: l); omega)]
  · rw [if_neg hl] at h
    by_cases hd : digitI (l.headD 0).toNat = true
    · rw [if_pos hd] at h
      have hn : x.t.size = spanL digitI l := by
        unfold numL at h
        split at h
        · simp at h
        · split at h
          · simp at h
          · simp only [Prod.mk.injEq, and_true] at h
            subst h
            rw [mkB_size, List.length_take]
            have := spanL_le digitI l
            omega
      rw [hn] at hc ⊢
      have hs := span_loc digitI l rest (fun c h => (hc c h).elim (fun h => (white_word h).2.1) (fun h => span_halt _ _ _ h))
      cases l with
      | nil => exact absurd hd (by decide)
      | cons b l =>
        have hp := spanL_pos digitI b l hd
        have hh : ((b :: l).take (spanL digitI (b :: l)) ++ rest).headD 0 = (b :: l).headD 0 := headD_take hp (by simp)
        unfold tokL
        rw [hh, if_neg hl, if_pos hd, hs, List.take_left' (by rw [List.length_take]; have := spanL_le digitI (b :: l); omega), h]
    · rw [if_neg hd] at h
      by_cases h0 : symN l = 0
      · rw [if_pos h0] at h; simp at h
      · rw [if_neg h0] at h
        simp only [Prod.mk.injEq, and_true] at h
        subst h
        have hle : symN l ≤ l.length := (sym_loc (rest := []) h0 (fun c h => by simp at h)).2.2
        have hn : (mkB (l.take (symN l))).size = symN l := by rw [mkB_size, List.length_take]; omega
        dsimp only at hc ⊢
        rw [hn] at hc ⊢
        obtain ⟨hs, hp, _⟩ := sym_loc h0 hc
        have hh : (l.take (symN l) ++ rest).headD 0 = l.headD 0 := headD_take hp (by rintro rfl; simp [symN] at h0)
        unfold tokL
        rw [hh, if_neg hl, if_neg hd, hs, if_neg h0, List.take_left' (by rw [List.length_take]; omega)]
end Go.Proofs.Lx
