/- Plain: which symbol a string begins with. -/
import Derived.Test.YtphncipfcekilaaL
import Derived.Lib.Bytealg
namespace Go.Proofs.Lx
open Go
theorem takeWhile_take (p : UInt8 → Bool) (l : List UInt8) : l.take (l.takeWhile p).length = l.takeWhile p := by
  induction l with
  | nil => rfl
  | cons b l ih =>
    cases hb : p b
    · simp [hb]
    · simp [hb, ih]
theorem extract_list (r : ByteArray) (a b : Nat) : (r.extract a b).data.toList = (r.data.toList.drop a).take (b - a) := by
  simp [ByteArray.data_extract, List.extract_eq_take_drop]
def sym1 : List UInt8 := [123, 125, 40, 41, 61, 59, 44, 58, 60, 62, 43, 45, 42, 47, 33, 46]
def sym2 : List (List UInt8) := [[124, 124], [38, 38], [60, 61], [62, 61], [61, 61], [33, 61]]
def symN (l : List UInt8) : Nat :=
  if 1 < l.length ∧ l.take 2 ∈ sym2 then 2 else cond ((l.head?).any (fun b => sym1.contains b)) 1 0
theorem idx_mem (l : List UInt8) (c : UInt8) : l.contains c = true ↔ 0 ≤ Lib.indexByte l c := by
  induction l with
  | nil => simp [Lib.indexByte]
  | cons b l ih =>
    have hg := Lib.indexByte_ge l c
    have e : Lib.indexByte (b :: l) c = if b == c then 0 else if Lib.indexByte l c == -1 then -1 else Lib.indexByte l c + 1 := rfl
    rw [e, List.contains_cons, Bool.or_eq_true, ih]
    by_cases hb : b = c
    · subst hb; simp
    · have hb' : (b == c) = false := by simpa using hb
      have hc' : ¬ ((c == b) = true) := by simpa using fun h => hb h.symm
      simp only [hb', Bool.false_eq_true, if_false, hc', false_or]
      by_cases hm : Lib.indexByte l c = -1
      · simp [hm]
      · have : (Lib.indexByte l c == -1) = false := by simpa using hm
        simp only [this, Bool.false_eq_true, if_false]
        omega
theorem symN_two {r t : ByteArray} (h1 : 1 < r.size) (ht : t = r.extract 0 2) (hm : t.data.toList ∈ sym2) : symN r.data.toList = 2 := by
  rw [ht, extract_list] at hm
  simp only [List.drop_zero] at hm
  unfold symN
  rw [if_pos ⟨by simpa using h1, hm⟩]
theorem symN_one {r : ByteArray} (h0 : 0 < r.size) (hm : ¬ (1 < r.data.toList.length ∧ r.data.toList.take 2 ∈ sym2)) : symN r.data.toList = if (0 : Int) ≤ Lib.indexByte sym1 r[0] then 1 else 0 := by
  have hg := drop_get r 0 h0
  have e := get_at r 0 h0
  simp only [Nat.add_zero] at e
  rw [List.drop_zero, e] at hg
  unfold symN
  rw [if_neg hm, hg]
  simp only [List.head?_cons, Option.any_some]
  by_cases h : (0 : Int) ≤ Lib.indexByte sym1 r[0]
  · rw [if_pos h, (idx_mem _ _).2 h]; rfl
  · rw [if_neg h, Bool.eq_false_iff.2 (fun h' => h ((idx_mem _ _).1 h'))]; rfl
theorem sym2_not {r t : ByteArray} (ht : t = r.extract 0 2) (hm : ∀ l ∈ sym2, t ≠ ⟨l.toArray⟩) : ¬ (1 < r.data.toList.length ∧ r.data.toList.take 2 ∈ sym2) := by
  rintro ⟨_, h⟩
  refine hm _ h ?_
  rw [ht]
  have := extract_list r 0 2
  simp only [List.drop_zero] at this
  rw [← this]
end Go.Proofs.Lx
