/- Texts cut at a byte: the library's Cut and Split, as lists. -/
import Derived.Test.YtnjpgkaignfcaaaDoorUq
import Derived.Test.YtnjpgkaignfcaaaDoorAmZ
import Derived.Lib.CountLaws
import Derived.Lib.CutLaws
import Derived.Lib.SplitLaws
namespace Go.Proofs.YtnjpgkaignfcaaaDoor
open Go Go.Am
/-- What lies before the first byte c, what behind it, whether there is one. -/
def cutA (c : UInt8) : List UInt8 → List UInt8 × List UInt8 × Bool
  | [] => ([], [], false)
  | x :: l => if x = c then ([], l, true) else (x :: (cutA c l).1, (cutA c l).2.1, (cutA c l).2.2)
/-- The parts between the bytes c. -/
def splL (c : UInt8) : List UInt8 → List (List UInt8)
  | [] => [[]]
  | x :: l => if x = c then [] :: splL c l else match splL c l with
    | [] => [[x]]
    | h :: t => (x :: h) :: t
theorem index_nil (c : UInt8) : Lib.index [] [c] = -1 := rfl
theorem index_eq (c : UInt8) (l : List UInt8) : Lib.index (c :: l) [c] = 0 := by
  unfold Lib.index
  rw [if_pos (by simp [List.isPrefixOf])]
theorem index_ne {x c : UInt8} (l : List UInt8) (h : x ≠ c) : Lib.index (x :: l) [c] = if Lib.index l [c] == -1 then -1 else Lib.index l [c] + 1 := by
  rw [Lib.index, if_neg (by simp [List.isPrefixOf, Ne.symm h])]
theorem index_nat {l : List UInt8} {c : UInt8} (h : Lib.index l [c] ≠ -1) : ∃ i : Nat, Lib.index l [c] = i := by
  have := Lib.index_ge l [c]
  exact ⟨(Lib.index l [c]).toNat, by omega⟩
theorem cut_A (c : UInt8) : ∀ s, Lib.cut s [c] = cutA c s
  | [] => by simp [Lib.cut, index_nil, cutA]
  | x :: l => by
    by_cases h : x = c
    · subst h
      simp [Lib.cut, index_eq, cutA]
    · have ih := cut_A c l
      unfold cutA
      rw [if_neg h, ← ih]
      by_cases h1 : Lib.index l [c] = -1
      · simp [Lib.cut, index_ne l h, h1]
      · obtain ⟨i, hi⟩ := index_nat h1
        have h2 : Lib.index (x :: l) [c] = ((i + 1 : Nat) : Int) := by
          rw [index_ne l h, hi, if_neg (by simp)]; omega
        unfold Lib.cut
        rw [hi, h2, if_pos (by omega), if_pos (by omega)]
        simp
theorem splL_ne {c : UInt8} : ∀ l, ∃ h t, splL c l = h :: t
  | [] => ⟨[], [], rfl⟩
  | x :: l => by
    unfold splL
    split
    · exact ⟨_, _, rfl⟩
    · obtain ⟨h, t, e⟩ := splL_ne (c := c) l
      rw [e]
      exact ⟨_, _, rfl⟩
theorem splL_len (c : UInt8) : ∀ l, (splL c l).length = Lib.count l [c] + 1
  | [] => by rw [Lib.count_miss (index_nil c)]; rfl
  | x :: l => by
    have ih := splL_len c l
    by_cases h : x = c
    · subst h
      rw [Lib.count_cons_eq]
      simp [splL, ih]; omega
    · rw [Lib.count_cons_ne x c l h, ← ih]
      obtain ⟨a, t, e⟩ := splL_ne (c := c) l
      simp [splL, h, e]
theorem splitK_L (c : UInt8) : ∀ (s : List UInt8) (k : Nat), Lib.count s [c] = k → Lib.splitK [c] 0 k s = splL c s
  | [], k, hk => by
    rw [Lib.count_miss (index_nil c)] at hk
    subst hk
    rfl
  | x :: l, k, hk => by
    by_cases h : x = c
    · subst h
      rw [Lib.count_cons_eq] at hk
      obtain ⟨k', rfl⟩ : ∃ k', k = k' + 1 := ⟨k - 1, by omega⟩
      have ih := splitK_L x l k' (by omega)
      rw [Lib.splitK, index_eq, if_neg (by decide)]
      simp [splL, ih]
    · rw [Lib.count_cons_ne x c l h] at hk
      have ih := splitK_L c l k hk
      unfold splL
      rw [if_neg h, ← ih]
      cases k with
      | zero => rfl
      | succ k =>
        have h1 : Lib.index l [c] ≠ -1 := fun e => by rw [Lib.count_miss e] at hk; omega
        obtain ⟨i, hi⟩ := index_nat h1
        have h2 : Lib.index (x :: l) [c] = ((i + 1 : Nat) : Int) := by
          rw [index_ne l h, hi, if_neg (by simp)]; omega
        rw [Lib.splitK, Lib.splitK, hi, h2, if_neg (by simp; omega), if_neg (by simp)]
        simp
/-- The parts of a text between the bytes c. -/
def pts (c : UInt8) (s : ByteArray) : List ByteArray := (splL c s.data.toList).map fun l => ⟨l.toArray⟩
theorem pts_B (c : UInt8) (s : ByteArray) : Lib.splitB ⟨#[c]⟩ 0 (Lib.countB s ⟨#[c]⟩) s = pts c s := by
  have h := Lib.splitB_data ⟨#[c]⟩ 0 (Lib.countB s ⟨#[c]⟩) s
  have h1 : Lib.splitK [c] 0 (Lib.countB s ⟨#[c]⟩) s.data.toList = splL c s.data.toList := splitK_L c _ _ rfl
  have h2 := congrArg (List.map fun l : List UInt8 => (⟨l.toArray⟩ : ByteArray)) (h.trans h1)
  rw [List.map_map] at h2
  rw [show (fun l : List UInt8 => (⟨l.toArray⟩ : ByteArray)) ∘ (fun x : ByteArray => x.data.toList) = id from by funext x; simp, List.map_id] at h2
  exact h2
theorem pts_len (c : UInt8) (s : ByteArray) : (pts c s).length = Lib.countB s ⟨#[c]⟩ + 1 := by
  unfold pts
  rw [List.length_map, splL_len]
/-- Number j of the parts. -/
def pt (c : UInt8) (s : ByteArray) (j : Nat) : ByteArray := (pts c s)[j]?.getD ByteArray.empty
theorem splL_size (c : UInt8) : ∀ l, ∀ x ∈ splL c l, x.length ≤ l.length
  | [], x, hx => by simp [splL] at hx; subst hx; simp
  | y :: l, x, hx => by
    have ih := splL_size c l
    unfold splL at hx
    split at hx
    · rcases List.mem_cons.1 hx with rfl | hx
      · simp
      · have := ih x hx; simp; omega
    · obtain ⟨h, t, e⟩ := splL_ne (c := c) l
      rw [e] at hx ih
      rcases List.mem_cons.1 hx with rfl | hx
      · have := ih h (by simp); simp; omega
      · have := ih x (by simp [hx]); simp; omega
theorem pt_size (c : UInt8) (s : ByteArray) (j : Nat) : (pt c s j).size ≤ s.size := by
  unfold pt
  cases h : (pts c s)[j]? with
  | none => simp
  | some x =>
    obtain ⟨y, hy, rfl⟩ : ∃ y ∈ splL c s.data.toList, (⟨y.toArray⟩ : ByteArray) = x := by
      have := List.mem_of_getElem? h
      simpa [pts] using this
    have := splL_size c _ y hy
    rw [Lib.size_eq s, Option.getD_some, Lib.size_eq ⟨y.toArray⟩]
    simpa using this
/-- Before, behind, whether. -/
def cA (c : UInt8) (s : ByteArray) : ByteArray := ⟨(cutA c s.data.toList).1.toArray⟩
def cB (c : UInt8) (s : ByteArray) : ByteArray := ⟨(cutA c s.data.toList).2.1.toArray⟩
def cF (c : UInt8) (s : ByteArray) : Bool := (cutA c s.data.toList).2.2
theorem cutA_size (c : UInt8) : ∀ l, (cutA c l).1.length ≤ l.length ∧ (cutA c l).2.1.length ≤ l.length
  | [] => by simp [cutA]
  | x :: l => by
    have ih := cutA_size c l
    unfold cutA
    split <;> simp <;> omega
theorem cA_size (c : UInt8) (s : ByteArray) : (cA c s).size ≤ s.size := by
  have := (cutA_size c s.data.toList).1
  rw [Lib.size_eq s, Lib.size_eq (cA c s)]; simpa [cA] using this
theorem cB_size (c : UInt8) (s : ByteArray) : (cB c s).size ≤ s.size := by
  have := (cutA_size c s.data.toList).2
  rw [Lib.size_eq s, Lib.size_eq (cB c s)]; simpa [cB] using this
/-- The parts, by the first cut. -/
theorem splL_cut (c : UInt8) : ∀ l, splL c l = if (cutA c l).2.2 = true then (cutA c l).1 :: splL c (cutA c l).2.1 else [(cutA c l).1]
  | [] => by simp [splL, cutA]
  | x :: l => by
    have ih := splL_cut c l
    unfold cutA
    by_cases h : x = c
    · simp [splL, h]
    · rw [if_neg h, splL, if_neg h, ih]
      by_cases h2 : (cutA c l).2.2 = true <;> simp [h2]
theorem cutA_no (c : UInt8) : ∀ l, (cutA c l).2.2 = false → (cutA c l).1 = l
  | [], _ => rfl
  | x :: l, h => by
    unfold cutA at h ⊢
    by_cases hx : x = c
    · simp [hx] at h
    · simp only [hx, if_false] at h ⊢
      rw [cutA_no c l h]
end Go.Proofs.YtnjpgkaignfcaaaDoor
