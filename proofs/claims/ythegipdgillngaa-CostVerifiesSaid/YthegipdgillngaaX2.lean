/- What the maker of code makes (plain). -/
import Derived.Test.YthegipdgillngaaX1
namespace Go.Proofs.Ythegipdgillngaa
open Go Go.Am Go.Proofs
set_option linter.unusedSimpArgs false
set_option linter.unusedVariables false
set_option maxRecDepth 100000
/-- It answers, and so. -/
def Runs {α : Type} (o : Option α) (P : α → Prop) : Prop := ∃ z, o = some z ∧ P z
theorem Runs.bind {α β : Type} {o : Option α} {f : α → Option β} {P : α → Prop} {Q : β → Prop} (h : Runs o P) (g : ∀ z, P z → Runs (f z) Q) : Runs (o.bind f) Q := by
  obtain ⟨z, rfl, hz⟩ := h
  exact g z hz
theorem Runs.some {α : Type} {z : α} {P : α → Prop} (h : P z) : Runs (some z) P := ⟨z, rfl, h⟩
theorem Runs.mono {α : Type} {o : Option α} {P Q : α → Prop} (h : Runs o P) (g : ∀ z, P z → Q z) : Runs o Q := by
  obtain ⟨z, h1, h2⟩ := h
  exact ⟨z, h1, g z h2⟩
theorem Runs.if_pos {α : Type} {c : Prop} [Decidable c] {a b : Option α} {P : α → Prop} (hc : c) (h : Runs a P) : Runs (ite c a b) P := by rw [_root_.if_pos hc]; exact h
theorem Runs.if_neg {α : Type} {c : Prop} [Decidable c] {a b : Option α} {P : α → Prop} (hc : ¬ c) (h : Runs b P) : Runs (ite c a b) P := by rw [_root_.if_neg hc]; exact h
theorem Runs.ite {α : Type} {c : Prop} [Decidable c] {a b : Option α} {P : α → Prop} (h1 : c → Runs a P) (h2 : ¬ c → Runs b P) : Runs (_root_.ite c a b) P := by
  by_cases h : c
  · exact Runs.if_pos h (h1 h)
  · exact Runs.if_neg h (h2 h)
abbrev MT : Type := Nat × (Nat → Int) × Int × Bool × Nat × (Nat → Int) × (Nat → Int)
abbrev Is : Type := List (Int × Int)
/-- The maker holds this code. -/
structure MS (m : Nat) (y : Nat → Int) (tl : Bool) (l : Is) (z : MT) : Prop where
  m : z.1 = m
  y : z.2.1 = y
  tl : z.2.2.2.1 = tl
  n : z.2.2.2.2.1 = l.length
  row : ∀ j, j < l.length → z.2.2.2.2.2.1 j = (l.getD j (0, 0)).1 ∧ z.2.2.2.2.2.2 j = (l.getD j (0, 0)).2
section
variable {m : Nat} {y : Nat → Int} {tl : Bool} {q : Nat}
theorem pick_runs (hy : ∀ j, j < m → inR (y j)) (i : Int) {k : Int} (hk : 0 < k) : Runs (Pick q (m, y, i, k)) (fun v => 0 ≤ v ∧ v < k) := by
  unfold Pick t_Pick
  have hk0 : ¬ k = 0 := by omega
  refine Runs.ite (fun _ => Runs.some ⟨Int.le_refl 0, hk⟩) fun h1 => Runs.ite (fun _ => Runs.some ⟨Int.le_refl 0, hk⟩) fun h2 => ?_
  simp only [decide_eq_true_eq] at h1 h2
  refine Runs.if_pos (show (0 : Int) ≤ i ∧ i < (m : Int) by omega) ?_
  have ha := around_in (hy i.toNat (by omega)) hk
  unfold around at ha
  refine Runs.ite (fun h => Runs.if_neg hk0 (Runs.some ?_)) fun h => Runs.if_neg hk0 (Runs.some ?_)
  · rw [_root_.if_pos (by simpa using h)] at ha; exact ha
  · rw [_root_.if_neg (by simpa using h)] at ha; exact ha
theorem next_runs (hy : ∀ j, j < m → inR (y j)) {l : Is} {s : MT} (hs : MS m y tl l s) {k : Int} (hk : 0 < k) : Runs (nextA q (k, s)) (fun z => (0 ≤ z.1 ∧ z.1 < k) ∧ MS m y tl l z.2) := by
  obtain ⟨m', y', a, tl', n, op, ar⟩ := s
  obtain ⟨rfl, rfl, rfl, h4, h5⟩ := hs
  exact Runs.bind (pick_runs hy _ hk) fun v hv => Runs.some ⟨hv, ⟨rfl, rfl, rfl, h4, h5⟩⟩
theorem nextZ_runs (hy : ∀ j, j < m → inR (y j)) {a : Int} {k : Int} (hk : 0 < k) : Runs (nextZ q (k, m, y, a, tl)) (fun z => (0 ≤ z.1 ∧ z.1 < k) ∧ ∃ a', z.2 = (m, y, a', tl)) :=
  Runs.bind (pick_runs hy _ hk) fun v hv => Runs.some ⟨hv, _, rfl⟩
theorem getD_app (l : Is) (p : Int × Int) (j : Nat) : (l ++ [p]).getD j (0, 0) = if j < l.length then l.getD j (0, 0) else if j = l.length then p else (0, 0) := by
  simp only [List.getD_eq_getElem?_getD, List.getElem?_append]
  split
  · rfl
  · split
    · rename_i h; subst h; simp
    · rename_i h1 h2
      rw [List.getElem?_eq_none (by simp; omega)]; rfl
theorem put_runs {l : Is} {s : MT} (hs : MS m y tl l s) (o t : Int) (hl : l.length ≤ 300) : Runs (putA q (o, t, s)) (fun z => z.1 = l.length ∧ MS m y tl (l ++ [(o, t)]) z.2) := by
  obtain ⟨m', y', a, tl', n, op, ar⟩ := s
  obtain ⟨rfl, rfl, rfl, h4, h5⟩ := hs
  simp only at h4 h5
  subst h4
  unfold putA t_putA
  refine Runs.if_pos ⟨by simp only [roomBound]; omega, by simp only [maxLen]; omega, Nat.le_refl _⟩ (Runs.some ⟨?_, ⟨rfl, rfl, rfl, by simp, fun j hj => ?_⟩⟩)
  · show w (((l.length + 1 : Nat) : Int) - 1) = _
    rw [w_in (by unfold inR; omega)]; omega
  · simp only [getD_app]
    simp only [List.length_append, List.length_cons, List.length_nil] at hj
    by_cases h : j < l.length
    · simp only [h, if_true]; exact h5 j h
    · have : j = l.length := by omega
      simp only [h, if_false, this, if_true, and_self]
      simp
theorem putZ_runs (o t a : Int) : Runs (putZ q (o, t, m, y, a, tl)) (fun z => MS m y tl (([] : Is) ++ [(o, t)]) (z.1, z.2.1, z.2.2.1, z.2.2.2.1, 1, z.2.2.2.2)) := by
  unfold putZ t_putZ
  refine Runs.some ⟨rfl, rfl, rfl, rfl, fun j hj => ?_⟩
  have : j = 0 := by simpa using hj
  subst this
  exact ⟨rfl, rfl⟩
/-! ### Pieces of code -/
/-- A condition. -/
inductive Cond : Is → Prop
  | mk (t p o : Int) (ht : 0 ≤ t ∧ t < 6) (hp : -500 ≤ p ∧ p < 500) (ho : 10 ≤ o ∧ o ≤ 12) : Cond [(4, t), (1, p), (o, 0)]
  | not (t p o : Int) (ht : 0 ≤ t ∧ t < 6) (hp : -500 ≤ p ∧ p < 500) (ho : 10 ≤ o ∧ o ≤ 12) : Cond [(4, t), (1, p), (o, 0), (13, 0)]
def okOne (o a : Int) : Prop := (o = 23 ∧ 0 ≤ a ∧ a ≤ 7000049 ∧ a % 1000000 < 50) ∨ (o = 24 ∧ 0 ≤ a ∧ a < 4000) ∨ (o = 25 ∧ 0 ≤ a ∧ a < 4000) ∨ (o = 18 ∧ 0 ≤ a ∧ a < 50) ∨ (o = 26 ∧ 0 ≤ a ∧ a < 100)
/-- Statements from place i on; plain ones without branches. -/
inductive Seg (pl : Bool) : Nat → Is → Prop
  | nil (i : Nat) : Seg pl i []
  | app {i : Nat} {s t : Is} : Seg pl i s → Seg pl (i + s.length) t → Seg pl i (s ++ t)
  | one {i : Nat} {o a : Int} : okOne o a → Seg pl i [(o, a)]
  | point {i : Nat} {a : Int} : -360 ≤ a ∧ a < 360 → Seg pl i [(1, a), (22, 0)]
  | req {i : Nat} {c : Is} : Cond c → Seg pl i (c ++ [(21, 0)])
  | loop {i : Nat} {N : Int} {b : Is} : 1 ≤ N ∧ N ≤ 4 → Seg pl (i + 1) b → Seg pl i ((16, N) :: (b ++ [(17, (i : Int) + 1)]))
  | wait {i : Nat} {n : Int} {c : Is} : pl = false → 0 ≤ n ∧ n < 30 → Cond c → Seg pl i ((19, n) :: (c ++ [(20, (i : Int) + 1)]))
  | abort {i : Nat} {n : Int} : pl = false → 0 ≤ n ∧ n < 1000 → Seg pl i [(27, n)]
  | ite1 {i : Nat} {c b : Is} : pl = false → Cond c → Seg pl (i + c.length + 1) b → Seg pl i (c ++ (15, ((i + c.length + 1 + b.length : Nat) : Int)) :: b)
  | ite2 {i : Nat} {c b d : Is} : pl = false → Cond c → Seg pl (i + c.length + 1) b → Seg pl (i + c.length + 1 + b.length + 1) d → Seg pl i (c ++ (15, ((i + c.length + 1 + b.length + 1 : Nat) : Int)) :: (b ++ (14, ((i + c.length + 1 + b.length + 1 + d.length : Nat) : Int)) :: d))
theorem Cond.len {c : Is} (h : Cond c) : 3 ≤ c.length ∧ c.length ≤ 4 := by cases h <;> simp
theorem cond_runs (hy : ∀ j, j < m → inR (y j)) {l : Is} {s : MT} (hs : MS m y tl l s) (hl : l.length ≤ 290) : Runs (condA q s) (fun z => ∃ c, Cond c ∧ MS m y tl (l ++ c) z) := by
  unfold condA t_condA
  refine Runs.bind (next_runs hy hs (by omega)) fun z1 h1 => ?_
  refine Runs.bind (put_runs h1.2 4 z1.1 (by omega)) fun z2 h2 => ?_
  refine Runs.bind (next_runs hy h2.2 (by omega)) fun z3 h3 => ?_
  refine Runs.bind (put_runs h3.2 1 (w (z3.1 - 500)) (by simp; omega)) fun z4 h4 => ?_
  refine Runs.bind (next_runs hy h4.2 (by omega)) fun z5 h5 => ?_
  refine Runs.if_pos h5.1 (Runs.if_pos ⟨by omega, rfl⟩ ?_)
  have hw : w (z3.1 - 500) = z3.1 - 500 := w_in (by unfold inR; omega)
  generalize ho : (if 0 + z5.1.toNat = 0 then (10 : Int) else if 0 + z5.1.toNat - 1 = 0 then 11 else 12) = o
  have ho2 : 10 ≤ o ∧ o ≤ 12 := by subst ho; split <;> (try split) <;> omega
  refine Runs.bind (put_runs h5.2 o 0 (by simp; omega)) fun z6 h6 => ?_
  refine Runs.bind (next_runs hy h6.2 (by omega)) fun z7 h7 => ?_
  refine Runs.ite (fun _ => ?_) (fun _ => Runs.some ⟨_, Cond.mk z1.1 (z3.1 - 500) o h1.1 (by omega) ho2, ?_⟩)
  · refine Runs.bind (put_runs h7.2 13 0 (by simp; omega)) fun z8 h8 => Runs.some ⟨_, Cond.not z1.1 (z3.1 - 500) o h1.1 (by omega) ho2, ?_⟩
    have := h8.2
    rw [hw] at this
    simpa [List.append_assoc] using this
  · have := h7.2
    rw [hw] at this
    simpa [List.append_assoc] using this
theorem condZ_runs (hy : ∀ j, j < m → inR (y j)) (a : Int) : Runs (condZ q (m, y, a, tl)) (fun z => ∃ c, Cond c ∧ MS m y tl (([] : Is) ++ c) z) := by
  unfold condZ t_condZ
  refine Runs.bind (nextZ_runs hy (by omega)) fun z1 h1 => ?_
  obtain ⟨g1, a1, e1⟩ := h1
  obtain ⟨v1, s1⟩ := z1
  simp only at e1 g1
  subst e1
  refine Runs.bind (putZ_runs 4 v1 a1) fun z2 h2 => ?_
  refine Runs.bind (next_runs hy h2 (by omega)) fun z3 h3 => ?_
  refine Runs.bind (put_runs h3.2 1 (w (z3.1 - 500)) (by simp)) fun z4 h4 => ?_
  refine Runs.bind (next_runs hy h4.2 (by omega)) fun z5 h5 => ?_
  refine Runs.if_pos h5.1 (Runs.if_pos ⟨by omega, rfl⟩ ?_)
  have hw : w (z3.1 - 500) = z3.1 - 500 := w_in (by unfold inR; omega)
  generalize ho : (if 0 + z5.1.toNat = 0 then (10 : Int) else if 0 + z5.1.toNat - 1 = 0 then 11 else 12) = o
  have ho2 : 10 ≤ o ∧ o ≤ 12 := by subst ho; split <;> (try split) <;> omega
  refine Runs.bind (put_runs h5.2 o 0 (by simp)) fun z6 h6 => ?_
  refine Runs.bind (next_runs hy h6.2 (by omega)) fun z7 h7 => ?_
  refine Runs.ite (fun _ => ?_) (fun _ => Runs.some ⟨_, Cond.mk v1 (z3.1 - 500) o g1 (by omega) ho2, ?_⟩)
  · refine Runs.bind (put_runs h7.2 13 0 (by simp)) fun z8 h8 => Runs.some ⟨_, Cond.not v1 (z3.1 - 500) o g1 (by omega) ho2, ?_⟩
    have := h8.2
    rw [hw] at this
    simpa [List.append_assoc] using this
  · have := h7.2
    rw [hw] at this
    simpa [List.append_assoc] using this
end
end Go.Proofs.Ythegipdgillngaa
