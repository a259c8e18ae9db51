/- The executor made quick: frames as trees, memory as a list of what has changed. The same answers. -/
import Derived.Test.YtniogljhkjbcgaaDoorAmU
namespace Go.Am
open Go
set_option linter.unusedSimpArgs false
set_option linter.unusedVariables false

/-! ### Frames as trees: slot 0 at the root, odd ones on the left, even ones on the right -/
inductive FT where
  | e
  | nd (l : FT) (v : V) (r : FT)
noncomputable def FT.get (T : FT) : Nat → V :=
  FT.rec (motive := fun _ => Nat → V) (fun _ => .junk)
    (fun _ v _ gl gr t => Nat.rec (motive := fun _ => V) v (fun t _ => Bool.rec (motive := fun _ => V) (gr (Nat.div t 2)) (gl (Nat.div t 2)) (Nat.beq (Nat.mod t 2) 0)) t) T
noncomputable def FT.has (T : FT) : Nat → Bool :=
  FT.rec (motive := fun _ => Nat → Bool) (fun _ => false)
    (fun _ v _ gl gr t => Nat.rec (motive := fun _ => Bool) true (fun t _ => Bool.rec (motive := fun _ => Bool) (gr (Nat.div t 2)) (gl (Nat.div t 2)) (Nat.beq (Nat.mod t 2) 0)) t) T
/-- A slot that is there, written. -/
noncomputable def FT.set (T : FT) : Nat → V → FT :=
  FT.rec (motive := fun _ => Nat → V → FT) (fun _ _ => .e)
    (fun l a r sl sr t v => Nat.rec (motive := fun _ => FT) (.nd l v r) (fun t _ => Bool.rec (motive := fun _ => FT) (.nd l a (sr (Nat.div t 2) v)) (.nd (sl (Nat.div t 2) v) a r) (Nat.beq (Nat.mod t 2) 0)) t) T
noncomputable def FT.setK (T : FT) : Nat → V → (FT → Option Ans) → Option Ans :=
  FT.rec (motive := fun _ => Nat → V → (FT → Option Ans) → Option Ans) (fun _ _ k => k .e)
    (fun l a r sl sr t v k => Nat.rec (motive := fun _ => Option Ans) (k (.nd l v r)) (fun t _ => Bool.rec (motive := fun _ => Option Ans) (sr (Nat.div t 2) v fun r => k (.nd l a r)) (sl (Nat.div t 2) v fun l => k (.nd l a r)) (Nat.beq (Nat.mod t 2) 0)) t) T
/-- A slot added. -/
noncomputable def FT.add (T : FT) : Nat → V → FT :=
  FT.rec (motive := fun _ => Nat → V → FT) (fun _ v => .nd .e v .e)
    (fun l a r sl sr t v => Nat.rec (motive := fun _ => FT) (.nd l v r) (fun t _ => Bool.rec (motive := fun _ => FT) (.nd l a (sr (Nat.div t 2) v)) (.nd (sl (Nat.div t 2) v) a r) (Nat.beq (Nat.mod t 2) 0)) t) T
noncomputable def FT.addK (T : FT) : Nat → V → (FT → Option Ans) → Option Ans :=
  FT.rec (motive := fun _ => Nat → V → (FT → Option Ans) → Option Ans) (fun _ v k => k (.nd .e v .e))
    (fun l a r sl sr t v k => Nat.rec (motive := fun _ => Option Ans) (k (.nd l v r)) (fun t _ => Bool.rec (motive := fun _ => Option Ans) (sr (Nat.div t 2) v fun r => k (.nd l a r)) (sl (Nat.div t 2) v fun l => k (.nd l a r)) (Nat.beq (Nat.mod t 2) 0)) t) T

theorem FT.get_e (t : Nat) : FT.e.get t = .junk := rfl
theorem FT.get_0 (l : FT) (v : V) (r : FT) : (FT.nd l v r).get 0 = v := rfl
theorem FT.get_l (l : FT) (v : V) (r : FT) (t : Nat) : (FT.nd l v r).get (2 * t + 1) = l.get t := by
  show (Bool.rec (motive := fun _ => V) _ _ (Nat.beq (2 * t % 2) 0) : V) = _
  have h1 : 2 * t % 2 = 0 := by omega
  have h2 : Nat.div (2 * t) 2 = t := by show 2 * t / 2 = t; omega
  rw [h1, h2]; rfl
theorem FT.get_r (l : FT) (v : V) (r : FT) (t : Nat) : (FT.nd l v r).get (2 * t + 2) = r.get t := by
  show (Bool.rec (motive := fun _ => V) _ _ (Nat.beq ((2 * t + 1) % 2) 0) : V) = _
  have h1 : (2 * t + 1) % 2 = 1 := by omega
  have h2 : Nat.div (2 * t + 1) 2 = t := by show (2 * t + 1) / 2 = t; omega
  rw [h1, h2]; rfl
theorem FT.has_e (t : Nat) : FT.e.has t = false := rfl
theorem FT.has_0 (l : FT) (v : V) (r : FT) : (FT.nd l v r).has 0 = true := rfl
theorem FT.has_l (l : FT) (v : V) (r : FT) (t : Nat) : (FT.nd l v r).has (2 * t + 1) = l.has t := by
  show (Bool.rec (motive := fun _ => Bool) _ _ (Nat.beq (2 * t % 2) 0) : Bool) = _
  have h1 : 2 * t % 2 = 0 := by omega
  have h2 : Nat.div (2 * t) 2 = t := by show 2 * t / 2 = t; omega
  rw [h1, h2]; rfl
theorem FT.has_r (l : FT) (v : V) (r : FT) (t : Nat) : (FT.nd l v r).has (2 * t + 2) = r.has t := by
  show (Bool.rec (motive := fun _ => Bool) _ _ (Nat.beq ((2 * t + 1) % 2) 0) : Bool) = _
  have h1 : (2 * t + 1) % 2 = 1 := by omega
  have h2 : Nat.div (2 * t + 1) 2 = t := by show (2 * t + 1) / 2 = t; omega
  rw [h1, h2]; rfl
theorem FT.set_l (l : FT) (a : V) (r : FT) (t : Nat) (v : V) : (FT.nd l a r).set (2 * t + 1) v = .nd (l.set t v) a r := by
  show (Bool.rec (motive := fun _ => FT) _ _ (Nat.beq (2 * t % 2) 0) : FT) = _
  have h1 : 2 * t % 2 = 0 := by omega
  have h2 : Nat.div (2 * t) 2 = t := by show 2 * t / 2 = t; omega
  rw [h1, h2]; rfl
theorem FT.set_r (l : FT) (a : V) (r : FT) (t : Nat) (v : V) : (FT.nd l a r).set (2 * t + 2) v = .nd l a (r.set t v) := by
  show (Bool.rec (motive := fun _ => FT) _ _ (Nat.beq ((2 * t + 1) % 2) 0) : FT) = _
  have h1 : (2 * t + 1) % 2 = 1 := by omega
  have h2 : Nat.div (2 * t + 1) 2 = t := by show (2 * t + 1) / 2 = t; omega
  rw [h1, h2]; rfl
theorem FT.add_l (l : FT) (a : V) (r : FT) (t : Nat) (v : V) : (FT.nd l a r).add (2 * t + 1) v = .nd (l.add t v) a r := by
  show (Bool.rec (motive := fun _ => FT) _ _ (Nat.beq (2 * t % 2) 0) : FT) = _
  have h1 : 2 * t % 2 = 0 := by omega
  have h2 : Nat.div (2 * t) 2 = t := by show 2 * t / 2 = t; omega
  rw [h1, h2]; rfl
theorem FT.add_r (l : FT) (a : V) (r : FT) (t : Nat) (v : V) : (FT.nd l a r).add (2 * t + 2) v = .nd l a (r.add t v) := by
  show (Bool.rec (motive := fun _ => FT) _ _ (Nat.beq ((2 * t + 1) % 2) 0) : FT) = _
  have h1 : (2 * t + 1) % 2 = 1 := by omega
  have h2 : Nat.div (2 * t + 1) 2 = t := by show (2 * t + 1) / 2 = t; omega
  rw [h1, h2]; rfl
theorem slot_cases (t : Nat) : t = 0 ∨ (∃ s, t = 2 * s + 1) ∨ ∃ s, t = 2 * s + 2 := by
  by_cases h : t = 0
  · exact .inl h
  · by_cases h2 : t % 2 = 1
    · exact .inr (.inl ⟨t / 2, by omega⟩)
    · exact .inr (.inr ⟨t / 2 - 1, by omega⟩)
theorem FT.setK_eq : ∀ (T : FT) (t : Nat) (v : V) (k : FT → Option Ans), T.setK t v k = k (T.set t v)
  | .e, _, _, _ => rfl
  | .nd l a r, t, v, k => by
    rcases slot_cases t with rfl | ⟨s, rfl⟩ | ⟨s, rfl⟩
    · rfl
    · rw [FT.set_l, ← FT.setK_eq l s v fun l => k (.nd l a r)]
      show (Bool.rec (motive := fun _ => Option Ans) _ _ (Nat.beq (2 * s % 2) 0) : Option Ans) = _
      have h1 : 2 * s % 2 = 0 := by omega
      have h2 : Nat.div (2 * s) 2 = s := by show 2 * s / 2 = s; omega
      rw [h1, h2]; rfl
    · rw [FT.set_r, ← FT.setK_eq r s v fun r => k (.nd l a r)]
      show (Bool.rec (motive := fun _ => Option Ans) _ _ (Nat.beq ((2 * s + 1) % 2) 0) : Option Ans) = _
      have h1 : (2 * s + 1) % 2 = 1 := by omega
      have h2 : Nat.div (2 * s + 1) 2 = s := by show (2 * s + 1) / 2 = s; omega
      rw [h1, h2]; rfl
theorem FT.addK_eq : ∀ (T : FT) (t : Nat) (v : V) (k : FT → Option Ans), T.addK t v k = k (T.add t v)
  | .e, _, _, _ => rfl
  | .nd l a r, t, v, k => by
    rcases slot_cases t with rfl | ⟨s, rfl⟩ | ⟨s, rfl⟩
    · rfl
    · rw [FT.add_l, ← FT.addK_eq l s v fun l => k (.nd l a r)]
      show (Bool.rec (motive := fun _ => Option Ans) _ _ (Nat.beq (2 * s % 2) 0) : Option Ans) = _
      have h1 : 2 * s % 2 = 0 := by omega
      have h2 : Nat.div (2 * s) 2 = s := by show 2 * s / 2 = s; omega
      rw [h1, h2]; rfl
    · rw [FT.add_r, ← FT.addK_eq r s v fun r => k (.nd l a r)]
      show (Bool.rec (motive := fun _ => Option Ans) _ _ (Nat.beq ((2 * s + 1) % 2) 0) : Option Ans) = _
      have h1 : (2 * s + 1) % 2 = 1 := by omega
      have h2 : Nat.div (2 * s + 1) 2 = s := by show (2 * s + 1) / 2 = s; omega
      rw [h1, h2]; rfl
theorem FT.get_has : ∀ (T : FT) (t : Nat), T.has t = false → T.get t = .junk
  | .e, _, _ => rfl
  | .nd l a r, t, h => by
    rcases slot_cases t with rfl | ⟨s, rfl⟩ | ⟨s, rfl⟩
    · cases h
    · rw [FT.has_l] at h; rw [FT.get_l]; exact FT.get_has l s h
    · rw [FT.has_r] at h; rw [FT.get_r]; exact FT.get_has r s h
theorem FT.has_set : ∀ (T : FT) (t s : Nat) (v : V), (T.set t v).has s = T.has s
  | .e, _, _, _ => rfl
  | .nd l a r, t, s, v => by
    rcases slot_cases t with rfl | ⟨t, rfl⟩ | ⟨t, rfl⟩
    · rcases slot_cases s with rfl | ⟨s, rfl⟩ | ⟨s, rfl⟩
      · rfl
      · show (FT.nd l v r).has _ = _; rw [FT.has_l, FT.has_l]
      · show (FT.nd l v r).has _ = _; rw [FT.has_r, FT.has_r]
    · rw [FT.set_l]
      rcases slot_cases s with rfl | ⟨s, rfl⟩ | ⟨s, rfl⟩
      · rfl
      · rw [FT.has_l, FT.has_l, FT.has_set l]
      · rw [FT.has_r, FT.has_r]
    · rw [FT.set_r]
      rcases slot_cases s with rfl | ⟨s, rfl⟩ | ⟨s, rfl⟩
      · rfl
      · rw [FT.has_l, FT.has_l]
      · rw [FT.has_r, FT.has_r, FT.has_set r]
theorem FT.get_set : ∀ (T : FT) (t s : Nat) (v : V), (T.set t v).get s = if s = t ∧ T.has t = true then v else T.get s
  | .e, t, s, v => by simp [FT.has_e]; rfl
  | .nd l a r, t, s, v => by
    rcases slot_cases t with rfl | ⟨t, rfl⟩ | ⟨t, rfl⟩
    · rcases slot_cases s with rfl | ⟨s, rfl⟩ | ⟨s, rfl⟩
      · rw [if_pos ⟨rfl, rfl⟩]; rfl
      · rw [if_neg (by omega)]; show (FT.nd l v r).get _ = _; rw [FT.get_l, FT.get_l]
      · rw [if_neg (by omega)]; show (FT.nd l v r).get _ = _; rw [FT.get_r, FT.get_r]
    · rw [FT.set_l, FT.has_l]
      rcases slot_cases s with rfl | ⟨s, rfl⟩ | ⟨s, rfl⟩
      · rw [if_neg (by omega)]; rfl
      · rw [FT.get_l, FT.get_l, FT.get_set l]
        by_cases h : s = t
        · subst h; simp
        · rw [if_neg (fun g => h g.1), if_neg (fun g => h (by omega))]
      · rw [if_neg (by omega), FT.get_r, FT.get_r]
    · rw [FT.set_r, FT.has_r]
      rcases slot_cases s with rfl | ⟨s, rfl⟩ | ⟨s, rfl⟩
      · rw [if_neg (by omega)]; rfl
      · rw [if_neg (by omega), FT.get_l, FT.get_l]
      · rw [FT.get_r, FT.get_r, FT.get_set r]
        by_cases h : s = t
        · subst h; simp
        · rw [if_neg (fun g => h g.1), if_neg (fun g => h (by omega))]
/-- It holds the slots below n, and no other. -/
def FT.Inv (T : FT) (n : Nat) : Prop := ∀ t, T.has t = true ↔ t < n
theorem FT.inv_e : FT.e.Inv 0 := fun t => by simp [FT.has_e]
theorem FT.inv_l {l : FT} {v : V} {r : FT} {n : Nat} (h : (FT.nd l v r).Inv n) : l.Inv (n / 2) := fun t => by
  have := h (2 * t + 1)
  rw [FT.has_l] at this
  rw [this]; omega
theorem FT.inv_r {l : FT} {v : V} {r : FT} {n : Nat} (h : (FT.nd l v r).Inv n) : r.Inv ((n - 1) / 2) := fun t => by
  have := h (2 * t + 2)
  rw [FT.has_r] at this
  rw [this]; omega
theorem FT.inv_set {T : FT} {n t : Nat} {v : V} (h : T.Inv n) : (T.set t v).Inv n := fun s => by rw [FT.has_set]; exact h s
theorem FT.add_spec : ∀ (T : FT) (n : Nat) (v : V), T.Inv n → (T.add n v).Inv (n + 1) ∧ ∀ s, (T.add n v).get s = if s = n then v else T.get s
  | .e, n, v, h => by
    have h0 : n = 0 := by
      have := h 0
      rw [FT.has_e] at this
      by_cases g : n = 0
      · exact g
      · exact absurd (this.2 (by omega)) (by decide)
    subst h0
    refine ⟨fun s => ?_, fun s => ?_⟩
    · show (FT.nd .e v .e).has s = true ↔ _
      rcases slot_cases s with rfl | ⟨s, rfl⟩ | ⟨s, rfl⟩
      · simp [FT.has_0]
      · rw [FT.has_l]; simp [FT.has_e]
      · rw [FT.has_r]; simp [FT.has_e]
    · show (FT.nd .e v .e).get s = _
      rcases slot_cases s with rfl | ⟨s, rfl⟩ | ⟨s, rfl⟩
      · rfl
      · rw [FT.get_l, if_neg (by omega)]; rfl
      · rw [FT.get_r, if_neg (by omega)]; rfl
  | .nd l a r, n, v, h => by
    have h0 : 0 < n := (h 0).1 rfl
    rcases slot_cases n with rfl | ⟨m, rfl⟩ | ⟨m, rfl⟩
    · omega
    · rw [FT.add_l]
      have hl := FT.inv_l h
      rw [show (2 * m + 1) / 2 = m by omega] at hl
      obtain ⟨g1, g2⟩ := FT.add_spec l m v hl
      refine ⟨fun s => ?_, fun s => ?_⟩
      · rcases slot_cases s with rfl | ⟨s, rfl⟩ | ⟨s, rfl⟩
        · simp [FT.has_0]
        · rw [FT.has_l, g1 s]; omega
        · have := h (2 * s + 2); rw [FT.has_r] at this ⊢; rw [this]; omega
      · rcases slot_cases s with rfl | ⟨s, rfl⟩ | ⟨s, rfl⟩
        · rw [if_neg (by omega)]; rfl
        · rw [FT.get_l, FT.get_l, g2]
          by_cases hs : s = m
          · rw [if_pos hs, if_pos (by omega)]
          · rw [if_neg hs, if_neg (by omega)]
        · rw [FT.get_r, FT.get_r, if_neg (by omega)]
    · rw [FT.add_r]
      have hl := FT.inv_r h
      rw [show (2 * m + 2 - 1) / 2 = m by omega] at hl
      obtain ⟨g1, g2⟩ := FT.add_spec r m v hl
      refine ⟨fun s => ?_, fun s => ?_⟩
      · rcases slot_cases s with rfl | ⟨s, rfl⟩ | ⟨s, rfl⟩
        · simp [FT.has_0]
        · have := h (2 * s + 1); rw [FT.has_l] at this ⊢; rw [this]; omega
        · rw [FT.has_r, g1 s]; omega
      · rcases slot_cases s with rfl | ⟨s, rfl⟩ | ⟨s, rfl⟩
        · rw [if_neg (by omega)]; rfl
        · rw [FT.get_l, FT.get_l, if_neg (by omega)]
        · rw [FT.get_r, FT.get_r, g2]
          by_cases hs : s = m
          · rw [if_pos hs, if_pos (by omega)]
          · rw [if_neg hs, if_neg (by omega)]
/-- The frame that it stands for. -/
noncomputable def FT.toL (T : FT) (n : Nat) : List V := (List.range n).map T.get
theorem FT.toL_getD {T : FT} {n : Nat} (h : T.Inv n) (t : Nat) : (T.toL n).getD t .junk = T.get t := by
  unfold FT.toL
  by_cases ht : t < n
  · simp [List.getD, List.getElem?_range ht]
  · rw [FT.get_has T t (by cases g : T.has t with | false => rfl | true => exact absurd ((h t).1 g) ht)]
    simp [List.getD, ht]
theorem FT.toL_set {T : FT} {n : Nat} (h : T.Inv n) (t : Nat) (v : V) : (T.set t v).toL n = (T.toL n).set t v := by
  apply List.ext_getElem?
  intro j
  unfold FT.toL
  by_cases hj : j < n
  · rw [List.getElem?_set]
    simp only [List.getElem?_map, List.getElem?_range hj, Option.map_some, FT.get_set]
    by_cases hjt : t = j
    · subst hjt
      rw [if_pos ⟨rfl, (h t).2 hj⟩]
      simp [hj]
    · rw [if_neg (fun g => hjt g.1.symm)]; simp [hjt]
  · simp [hj, List.getElem?_set]
/-- A tree for a frame. -/
noncomputable def FT.ofK : List V → Nat → FT → (FT → Nat → Option Ans) → Option Ans
  | [], n, T, k => k T n
  | v :: l, n, T, k => T.addK n v fun T => FT.ofK l (n + 1) T k
theorem FT.ofK_spec : ∀ (l : List V) (n : Nat) (T : FT) (k : FT → Nat → Option Ans), T.Inv n → ∃ T', FT.ofK l n T k = k T' (n + l.length) ∧ T'.Inv (n + l.length) ∧ T'.toL (n + l.length) = T.toL n ++ l
  | [], n, T, k, h => ⟨T, rfl, h, by simp⟩
  | v :: l, n, T, k, h => by
    obtain ⟨g1, g2⟩ := FT.add_spec T n v h
    obtain ⟨T', e1, e2, e3⟩ := FT.ofK_spec l (n + 1) (T.add n v) k g1
    refine ⟨T', ?_, ?_, ?_⟩
    · rw [FT.ofK, FT.addK_eq, e1]; congr 1; simp; omega
    · rw [show n + (v :: l).length = n + 1 + l.length by simp; omega]; exact e2
    · rw [show n + (v :: l).length = n + 1 + l.length by simp; omega, e3]
      have : (T.add n v).toL (n + 1) = T.toL n ++ [v] := by
        unfold FT.toL
        rw [List.range_succ, List.map_append]
        congr 1
        · apply List.map_congr_left
          intro s hs
          rw [g2, if_neg (by have := List.mem_range.1 hs; omega)]
        · simp [g2]
      rw [this, List.append_assoc]; rfl
end Go.Am
