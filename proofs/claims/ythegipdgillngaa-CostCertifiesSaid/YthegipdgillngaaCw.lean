/- Plain: where loops end, in code that passes the checks. -/
import Derived.Test.YthegipdgillngaaCv
namespace Go.Proofs.Cv
set_option linter.unusedSimpArgs false
set_option linter.unusedVariables false
def hit (c : Cd) (j t : Nat) : Prop := c.op j = 17 ∧ c.arg j = (t : Int) + 1
instance (c : Cd) (j t : Nat) : Decidable (hit c j t) := by unfold hit; infer_instance
structure InvS (i : Nat) (q : Rg) : Prop where
  lt : ∀ k, k < q.m → 0 ≤ q.stk k ∧ q.stk k < i
  inc : ∀ k l, k < l → l < q.m → q.stk k < q.stk l
theorem InvS.next {i : Nat} {L W : Nat → Int} {m : Nat} {stk : Nat → Int} {wa : Int} {L' W' : Nat → Int} {wa' : Int} (h : InvS i ⟨L, W, m, stk, wa⟩) : InvS (i + 1) ⟨L', W', m, stk, wa'⟩ :=
  ⟨fun k hk => by have := h.lt k hk; simp only at this ⊢; omega, h.inc⟩
theorem InvS.push {i : Nat} {L W : Nat → Int} {m : Nat} {stk : Nat → Int} {wa : Int} {L' W' : Nat → Int} {wa' : Int} (h : InvS i ⟨L, W, m, stk, wa⟩) : InvS (i + 1) ⟨L', W', m + 1, upd stk m i, wa'⟩ := by
  refine ⟨fun k hk => ?_, fun k l hkl hl => ?_⟩
  · simp only [upd] at hk ⊢
    split
    · omega
    · have := h.lt k (by simp only; omega); simp only at this; omega
  · simp only [upd] at hl ⊢
    rw [if_neg (by omega)]
    split
    · have := h.lt k (by simp only; omega); simp only at this; omega
    · exact h.inc k l hkl (by simp only; omega)
theorem InvS.pop {i : Nat} {L W : Nat → Int} {m : Nat} {stk : Nat → Int} {wa : Int} {L' W' : Nat → Int} {wa' : Int} (h : InvS i ⟨L, W, m, stk, wa⟩) : InvS (i + 1) ⟨L', W', m - 1, stk, wa'⟩ :=
  ⟨fun k hk => by have := h.lt k (by simp only at hk ⊢; omega); simp only at this ⊢; omega, fun k l hkl hl => h.inc k l hkl (by simp only at hl ⊢; omega)⟩
theorem regR_split (c : Cd) : ∀ (a b i : Nat) (q q' : Rg), regR c (a + b) i q = some q' → ∃ q1, regR c a i q = some q1 ∧ regR c b (i + a) q1 = some q' := by
  intro a
  induction a with
  | zero => intro b i q q' h; rw [Nat.zero_add] at h; exact ⟨q, rfl, h⟩
  | succ a ih =>
    intro b i q q' h
    rw [show a + 1 + b = (a + b) + 1 by omega, regR] at h
    rw [regR]
    rw [show i + (a + 1) = i + 1 + a by omega]
    split at h
    · cases h
    rename_i h1
    rw [if_neg h1]
    split at h
    · rename_i h2; rw [if_pos h2]; exact ih _ _ _ _ h
    rename_i h2
    rw [if_neg h2]
    split at h
    · rename_i h3
      rw [if_pos h3]
      split at h
      · cases h
      · rename_i h4; rw [if_neg h4]; exact ih _ _ _ _ h
    rename_i h3
    rw [if_neg h3]
    split at h
    · rename_i h4; rw [if_pos h4]; exact ih _ _ _ _ h
    rename_i h4
    rw [if_neg h4]
    split at h
    · rename_i h5
      rw [if_pos h5]
      split at h
      · cases h
      · rename_i h6; rw [if_neg h6]; exact ih _ _ _ _ h
    · rename_i h5; rw [if_neg h5]; exact ih _ _ _ _ h
theorem regR_inv (c : Cd) : ∀ (r i : Nat) (q q' : Rg), InvS i q → regR c r i q = some q' → InvS (i + r) q' := by
  intro r
  induction r with
  | zero => intro i q q' h e; cases e; exact h
  | succ r ih =>
    intro i q q' h e
    rw [regR] at e
    rw [show i + (r + 1) = i + 1 + r by omega]
    split at e
    · cases e
    split at e
    · exact ih _ _ _ h.push e
    split at e
    · split at e
      · cases e
      · exact ih _ _ _ h.pop e
    split at e
    · exact ih _ _ _ h.next e
    split at e
    · split at e
      · cases e
      · exact ih _ _ _ h.next e
    · exact ih _ _ _ h.next e
def onS (m : Nat) (stk : Nat → Int) (t : Nat) : Prop := ∃ k, k < m ∧ stk k = t
/-- What the rest of the code says of the loop that began at t. -/
def Rest (c : Cd) (i e t : Nat) (on : Prop) : Prop := (on → ∃ j, i ≤ j ∧ j < e ∧ hit c j t ∧ ∀ j', i ≤ j' → j' < e → hit c j' t → j' = j) ∧ (¬ on → ∀ j', i ≤ j' → j' < e → ¬ hit c j' t)
theorem Rest.skip {c : Cd} {i e t : Nat} {on : Prop} (h : Rest c (i + 1) e t on) (hn : ¬ hit c i t) : Rest c i e t on := by
  refine ⟨fun ho => ?_, fun ho j' h1 h2 h3 => ?_⟩
  · obtain ⟨j, g1, g2, g3, g4⟩ := h.1 ho
    refine ⟨j, by omega, g2, g3, fun j' h1 h2 h3 => ?_⟩
    by_cases hj : j' = i
    · subst hj; exact absurd h3 hn
    · exact g4 j' (by omega) h2 h3
  · by_cases hj : j' = i
    · subst hj; exact hn h3
    · exact h.2 ho j' (by omega) h2 h3
theorem regR_hit (c : Cd) : ∀ (r i : Nat) (q q' : Rg), InvS i q → regR c r i q = some q' → q'.m = 0 → ∀ t, t < i → Rest c i (i + r) t (onS q.m q.stk t) := by
  intro r
  induction r with
  | zero =>
    intro i q q' h e hm t ht
    cases e
    exact ⟨fun ⟨k, hk, _⟩ => by omega, fun _ j' h1 h2 => by omega⟩
  | succ r ih =>
    intro i q q' h e hm t ht
    obtain ⟨L, W, m, stk, wa⟩ := q
    rw [regR] at e
    rw [show i + (r + 1) = i + 1 + r by omega]
    split at e
    · cases e
    split at e
    · rename_i h16
      have := ih _ _ _ h.push e hm t (by omega)
      refine Rest.skip (?_ : Rest c (i + 1) (i + 1 + r) t (onS m stk t)) (fun hh => by have := hh.1; omega)
      have eo : onS m stk t ↔ onS (m + 1) (upd stk m i) t := by
        constructor
        · rintro ⟨k, hk, e⟩
          exact ⟨k, by omega, by rw [upd_ne (by omega)]; exact e⟩
        · rintro ⟨k, hk, e⟩
          by_cases hkm : k = m
          · subst hkm; rw [upd_same] at e; omega
          · rw [upd_ne hkm] at e; exact ⟨k, by omega, e⟩
      exact ⟨fun ho => this.1 (eo.1 ho), fun ho => this.2 fun g => ho (eo.2 g)⟩
    split at e
    · rename_i h16 h17
      split at e
      · cases e
      · rename_i ha
        have ht0 : ¬ Rg.top ⟨L, W, m, stk, wa⟩ < 0 := fun g => ha (.inl g)
        have hta : c.arg i = Rg.top ⟨L, W, m, stk, wa⟩ + 1 := Classical.not_not.1 fun g => ha (.inr g)
        have hm0 : 0 < m := by
          by_cases g : 0 < m
          · exact g
          · exact absurd (show Rg.top ⟨L, W, m, stk, wa⟩ < 0 by unfold Rg.top; rw [if_neg g]; omega) ht0
        have etop : Rg.top ⟨L, W, m, stk, wa⟩ = stk (m - 1) := by unfold Rg.top; exact if_pos hm0
        rw [etop] at hta ht0
        have hih := ih _ _ _ h.pop e hm t (by omega)
        simp only at hih
        have einc : ∀ k, k < m - 1 → stk k < stk (m - 1) := fun k hk => h.inc k (m - 1) hk (show m - 1 < m by omega)
        by_cases htt : stk (m - 1) = t
        · have hno : ¬ onS (m - 1) stk t := by
            rintro ⟨k, hk, e⟩
            have := einc k hk
            omega
          refine ⟨fun _ => ⟨i, Nat.le_refl _, by omega, ⟨h17, by rw [hta, htt]⟩, fun j' h1 h2 h3 => ?_⟩, fun ho => absurd ⟨m - 1, show m - 1 < m by omega, htt⟩ ho⟩
          by_cases hj : j' = i
          · exact hj
          · exact absurd h3 (hih.2 hno j' (by omega) h2)
        · refine Rest.skip (?_ : Rest c (i + 1) (i + 1 + r) t (onS m stk t)) (fun hh => by have := hh.2; omega)
          have eo : onS m stk t ↔ onS (m - 1) stk t := by
            constructor
            · rintro ⟨k, hk, e⟩
              refine ⟨k, ?_, e⟩
              by_cases hkm : k = m - 1
              · subst hkm; exact absurd e htt
              · omega
            · rintro ⟨k, hk, e⟩; exact ⟨k, by omega, e⟩
          exact ⟨fun ho => hih.1 (eo.1 ho), fun ho => hih.2 fun g => ho (eo.2 g)⟩
    rename_i h16 h17
    have hn : ¬ hit c i t := fun hh => h17 hh.1
    split at e
    · exact (ih _ _ _ h.next e hm t (by omega)).skip hn
    split at e
    · split at e
      · cases e
      · exact (ih _ _ _ h.next e hm t (by omega)).skip hn
    · exact (ih _ _ _ h.next e hm t (by omega)).skip hn
/-- A loop ends at one place. -/
theorem loop_end {c : Cd} (hv : VP c) {i : Nat} (hi : i < c.n) (h16 : c.op i = 16) : ∃ j, i < j ∧ j + 1 < c.n ∧ hit c j i ∧ ∀ j', j' < c.n → hit c j' i → j' = j := by
  obtain ⟨h1, ⟨q, h2, h3, _⟩, _⟩ := (VP_VR c).1 hv
  have hr : ∀ j, j < c.n → rng c j ∧ stopOk c j := hv.1
  have e0 : c.n = i + (c.n - i) := by omega
  rw [e0] at h2
  obtain ⟨q1, g1, g2⟩ := regR_split c i (c.n - i) 0 _ _ h2
  rw [Nat.zero_add] at g2
  have v0 : InvS 0 ⟨zero, zero, 0, zero, -1⟩ := ⟨fun k hk => by simp at hk, fun k l _ hl => by simp at hl⟩
  have v1 := regR_inv c i 0 _ _ v0 g1
  rw [Nat.zero_add] at v1
  obtain ⟨L, W, m, stk, wa⟩ := q1
  have e1 : c.n - i = (c.n - i - 1) + 1 := by omega
  rw [e1, regR] at g2
  split at g2
  · cases g2
  have key := regR_hit c (c.n - i - 1) (i + 1) _ _ v1.push g2 h3.1 i (by omega)
  have hon : onS (m + 1) (upd stk m i) i := ⟨m, by omega, upd_same _ _ _⟩
  obtain ⟨j, a1, a2, a3, a4⟩ := key.1 hon
  have hjn : j < c.n := by omega
  have hs := (hr j hjn).2
  have hj17 := a3.1
  refine ⟨j, by omega, ?_, a3, fun j' b1 b2 => ?_⟩
  · by_cases hl : j + 1 = c.n
    · have := hs.2 hl; omega
    · omega
  · have hb := (rng_17 (c := c) (i := j') (.inl b2.1)).1 (hr j' b1).1
    have := b2.2
    exact a4 j' (by omega) (by omega) b2
/-! Two ways to find it. -/
def endA (c : Cd) : Nat → Nat → Int
  | 0 => zero
  | k + 1 => if c.op k = 17 then upd (endA c k) (c.arg k - 1).toNat k else endA c k
theorem endA_eq {c : Cd} {i j : Nat} (h17 : ∀ k, k < c.n → c.op k = 17 → 1 ≤ c.arg k) (hj : j < c.n) (hh : hit c j i) (hu : ∀ j', j' < c.n → hit c j' i → j' = j) : ∀ k, k ≤ c.n → endA c k i = if j < k then (j : Int) else 0 := by
  intro k
  induction k with
  | zero => intro _; rw [if_neg (by omega)]; rfl
  | succ k ih =>
    intro hk
    have ih' := ih (by omega)
    rw [endA]
    by_cases h : c.op k = 17
    · have ha := h17 k (by omega) h
      rw [if_pos h]
      by_cases hi : (c.arg k - 1).toNat = i
      · have hhk : hit c k i := ⟨h, by omega⟩
        have : k = j := hu k (by omega) hhk
        subst this
        rw [hi, upd_same, if_pos (by omega)]
      · rw [upd_ne (Ne.symm hi), ih']
        have : k ≠ j := fun e => by subst e; exact hi (by have := hh.2; omega)
        by_cases hjk : j < k
        · rw [if_pos hjk, if_pos (by omega)]
        · rw [if_neg hjk, if_neg (by omega)]
    · rw [if_neg h, ih']
      have : k ≠ j := fun e => by subst e; exact h hh.1
      by_cases hjk : j < k
      · rw [if_pos hjk, if_pos (by omega)]
      · rw [if_neg hjk, if_neg (by omega)]
def endB (c : Cd) (i : Nat) : Nat → Nat → Int
  | 0, _ => i
  | r + 1, j => if hit c j i then j else endB c i r (j + 1)
theorem endB_eq {c : Cd} {i j0 : Nat} (hh : hit c j0 i) : ∀ (r j : Nat), (∀ j', j ≤ j' → j' < j + r → hit c j' i → j' = j0) → j ≤ j0 → j0 < j + r → endB c i r j = j0 := by
  intro r
  induction r with
  | zero => intro j _ h1 h2; omega
  | succ r ih =>
    intro j hu h1 h2
    rw [endB]
    by_cases h : hit c j i
    · rw [if_pos h, hu j (Nat.le_refl _) (by omega) h]
    · rw [if_neg h]
      have : j ≠ j0 := fun e => by subst e; exact h hh
      exact ih (j + 1) (fun j' g1 g2 g3 => hu j' (by omega) (by omega) g3) (by omega) (by omega)
def endF (c : Cd) : Nat → Int := endA c c.n
def endR (c : Cd) (i : Nat) : Int := endB c i (c.n - (i + 1)) (i + 1)
theorem end_same {c : Cd} (hv : VP c) {i : Nat} (hi : i < c.n) (h16 : c.op i = 16) : endF c i = endR c i ∧ (i : Int) < endF c i ∧ endF c i + 1 < c.n := by
  obtain ⟨j, h1, h2, h3, h4⟩ := loop_end hv hi h16
  have h17 : ∀ k, k < c.n → c.op k = 17 → 1 ≤ c.arg k := fun k hk h => ((rng_17 (c := c) (i := k) (.inl h)).1 (hv.1 k hk).1).1
  have eA := endA_eq h17 (by omega) h3 h4 c.n (Nat.le_refl _)
  rw [if_pos (by omega)] at eA
  have eB := endB_eq h3 (c.n - (i + 1)) (i + 1) (fun j' g1 g2 g3 => h4 j' (by omega) g3) (by omega) (by omega)
  unfold endF endR
  rw [eA, eB]
  exact ⟨rfl, by omega, by omega⟩
end Go.Proofs.Cv
