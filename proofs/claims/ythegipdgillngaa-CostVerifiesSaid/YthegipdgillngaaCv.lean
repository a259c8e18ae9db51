/- Plain: two ways to check code are the same. -/
import Derived.KernelRfl
namespace Go.Proofs.Cv
set_option linter.unusedSimpArgs false
set_option linter.unusedVariables false
/-- Code: its operators, its operands, how many, how many variables. -/
structure Cd where
  op : Nat → Int
  arg : Nat → Int
  n : Nat
  vars : Int
def upd (f : Nat → Int) (k : Nat) (v : Int) : Nat → Int := fun j => if j = k then v else f j
theorem upd_same (f : Nat → Int) (k : Nat) (v : Int) : upd f k v k = v := by simp [upd]
theorem upd_ne {f : Nat → Int} {k j : Nat} {v : Int} (h : j ≠ k) : upd f k v j = f j := by simp [upd, h]
theorem upd_id {f : Nat → Int} {k : Nat} {v : Int} (h : f k = v) : upd f k v = f := by
  funext j
  unfold upd
  split
  · rename_i e; rw [e, h]
  · rfl
/-! ### Operands -/
def rngL (o : Int) (i : Nat) : Int :=
  if o = 1 then -2147483647 else if o = 14 ∨ o = 15 then (i : Int) + 1 else if o = 16 ∨ o = 17 ∨ o = 20 then 1 else 0
def rngH (o : Int) (i n : Nat) (vars : Int) : Int :=
  if o = 1 then 2147483647 else if o = 2 ∨ o = 3 then vars - 1 else if o = 4 then 5 else if o = 14 ∨ o = 15 then (n : Int) - 1
  else if o = 16 then 100 else if o = 17 ∨ o = 20 then (i : Int) else if o = 18 ∨ o = 19 then 1000000 else if o = 23 then 7999999
  else if o = 24 ∨ o = 25 then 2147483647 else if o = 26 then 99 else if o = 27 then 999 else 0
def okOp (o : Int) : Prop := 1 ≤ o ∧ o ≤ 28
def rng (c : Cd) (i : Nat) : Prop := rngL (c.op i) i ≤ c.arg i ∧ c.arg i ≤ rngH (c.op i) i c.n c.vars
def stopOk (c : Cd) (i : Nat) : Prop := c.op i = 28 ↔ i + 1 = c.n
def opnd (c : Cd) (i : Nat) : Prop :=
  if c.op i = 1 then -2147483647 ≤ c.arg i ∧ c.arg i ≤ 2147483647
  else if c.op i = 2 ∨ c.op i = 3 then 0 ≤ c.arg i ∧ c.arg i ≤ c.vars - 1
  else if c.op i = 4 then 0 ≤ c.arg i ∧ c.arg i ≤ 5
  else if (5 ≤ c.op i ∧ c.op i ≤ 13) ∨ c.op i = 21 ∨ c.op i = 22 ∨ c.op i = 28 then c.arg i = 0
  else if c.op i = 14 ∨ c.op i = 15 then (i : Int) + 1 ≤ c.arg i ∧ c.arg i ≤ (c.n : Int) - 1
  else if c.op i = 16 then 1 ≤ c.arg i ∧ c.arg i ≤ 100
  else if c.op i = 18 ∨ c.op i = 19 then 0 ≤ c.arg i ∧ c.arg i ≤ 1000000
  else if c.op i = 23 then 0 ≤ c.arg i ∧ c.arg i ≤ 7999999
  else if c.op i = 24 ∨ c.op i = 25 then 0 ≤ c.arg i ∧ c.arg i ≤ 2147483647
  else if c.op i = 26 then 0 ≤ c.arg i ∧ c.arg i ≤ 99
  else if c.op i = 27 then 0 ≤ c.arg i ∧ c.arg i ≤ 999
  else c.op i = 17 ∨ c.op i = 20
theorem opnd_ok {c : Cd} {i : Nat} (h : opnd c i) : okOp (c.op i) := by
  unfold opnd at h
  unfold okOp
  generalize c.op i = o at *
  generalize c.arg i = a at *
  repeat' split at h
  all_goals omega
theorem opnd_rng {c : Cd} {i : Nat} (h : okOp (c.op i)) (h17 : c.op i ≠ 17) (h20 : c.op i ≠ 20) : opnd c i ↔ rng c i := by
  unfold okOp at h
  unfold opnd rng rngL rngH
  generalize c.op i = o at *
  generalize c.arg i = a at *
  by_cases h1 : o = 1
  · subst h1; simp
  by_cases h2 : o = 2 ∨ o = 3
  · have e1 : ¬ (o = 14 ∨ o = 15) := by omega
    have e2 : ¬ (o = 16 ∨ o = 17 ∨ o = 20) := by omega
    simp only [if_neg h1, if_pos h2, if_neg e1, if_neg e2]
  by_cases h4 : o = 4
  · subst h4; simp
  by_cases h5 : (5 ≤ o ∧ o ≤ 13) ∨ o = 21 ∨ o = 22 ∨ o = 28
  · have e1 : ¬ (o = 14 ∨ o = 15) := by omega
    have e2 : ¬ (o = 16 ∨ o = 17 ∨ o = 20) := by omega
    have e3 : ¬ o = 16 := by omega
    have e4 : ¬ (o = 17 ∨ o = 20) := by omega
    have e5 : ¬ (o = 18 ∨ o = 19) := by omega
    have e6 : ¬ o = 23 := by omega
    have e7 : ¬ (o = 24 ∨ o = 25) := by omega
    have e8 : ¬ o = 26 := by omega
    have e9 : ¬ o = 27 := by omega
    simp only [if_neg h1, if_neg h2, if_neg h4, if_pos h5, if_neg e1, if_neg e2, if_neg e3, if_neg e4, if_neg e5, if_neg e6, if_neg e7, if_neg e8, if_neg e9]
    omega
  by_cases h14 : o = 14 ∨ o = 15
  · simp only [if_neg h1, if_neg h2, if_neg h4, if_neg h5, if_pos h14]
  by_cases h16 : o = 16
  · subst h16; simp
  have e2 : ¬ (o = 16 ∨ o = 17 ∨ o = 20) := by omega
  have e4 : ¬ (o = 17 ∨ o = 20) := by omega
  simp only [if_neg h1, if_neg h2, if_neg h4, if_neg h5, if_neg h14, if_neg h16, if_neg e2, if_neg e4]
  by_cases h18 : o = 18 ∨ o = 19
  · simp only [if_pos h18]
  by_cases h23 : o = 23
  · subst h23; simp
  by_cases h24 : o = 24 ∨ o = 25
  · simp only [if_neg h18, if_neg h23, if_pos h24]
  by_cases h26 : o = 26
  · subst h26; simp
  by_cases h27 : o = 27
  · subst h27; simp
  omega
theorem rng_17 {c : Cd} {i : Nat} (h : c.op i = 17 ∨ c.op i = 20) : rng c i ↔ 1 ≤ c.arg i ∧ c.arg i ≤ (i : Int) := by
  unfold rng rngL rngH
  rcases h with h | h <;> rw [h] <;> simp
theorem opnd_17 {c : Cd} {i : Nat} (h : c.op i = 17 ∨ c.op i = 20) : opnd c i := by
  unfold opnd
  rcases h with h | h <;> rw [h] <;> simp
theorem rng_jump {c : Cd} {i : Nat} (h : c.op i = 14 ∨ c.op i = 15) (hr : rng c i) : (i : Int) + 1 ≤ c.arg i ∧ c.arg i ≤ (c.n : Int) - 1 := by
  unfold rng rngL rngH at hr
  rcases h with h | h <;> rw [h] at hr <;> simpa using hr
/-! ### Loops and waits -/
def pureP (o : Int) : Bool := decide (o ≤ 15) && decide (o ≠ 3)
def pureR (o : Int) : Bool := decide (o = 1 ∨ o = 2 ∨ o = 4 ∨ (5 ≤ o ∧ o ≤ 13) ∨ o = 14 ∨ o = 15)
theorem pure_same {o : Int} (h : okOp o) : pureP o = pureR o := by
  unfold okOp at h
  unfold pureP pureR
  rw [Bool.eq_iff_iff]
  simp
  omega
structure Pl where
  oL : Nat → Int
  oW : Nat → Int
  lo : Int
  wa : Int
def plcP (c : Cd) : Nat → Nat → Pl → Option Pl
  | 0, _, q => some q
  | r + 1, i, q =>
    if q.wa ≠ -1 ∧ c.op i ≠ 20 ∧ pureP (c.op i) = false then none
    else if c.op i = 16 then plcP c r (i + 1) ⟨upd q.oL i q.lo, upd q.oW i q.wa, i, q.wa⟩
    else if c.op i = 19 then plcP c r (i + 1) ⟨upd q.oL i q.lo, upd q.oW i q.wa, q.lo, i⟩
    else if c.op i = 17 then (if q.lo = -1 ∨ c.arg i ≠ q.lo + 1 then none else plcP c r (i + 1) ⟨upd q.oL i q.lo, upd q.oW i q.wa, upd q.oL i q.lo q.lo.toNat, upd q.oW i q.wa q.lo.toNat⟩)
    else if c.op i = 20 then (if q.wa = -1 ∨ c.arg i ≠ q.wa + 1 then none else plcP c r (i + 1) ⟨upd q.oL i q.lo, upd q.oW i q.wa, q.lo, -1⟩)
    else plcP c r (i + 1) ⟨upd q.oL i q.lo, upd q.oW i q.wa, q.lo, q.wa⟩
structure Rg where
  L : Nat → Int
  W : Nat → Int
  m : Nat
  stk : Nat → Int
  wa : Int
def Rg.top (q : Rg) : Int := if 0 < q.m then q.stk (q.m - 1) else -1
def regR (c : Cd) : Nat → Nat → Rg → Option Rg
  | 0, _, q => some q
  | r + 1, i, q =>
    if 0 ≤ q.wa ∧ c.op i ≠ 20 ∧ pureR (c.op i) = false then none
    else if c.op i = 16 then regR c r (i + 1) ⟨upd q.L i q.top, upd q.W i q.wa, q.m + 1, upd q.stk q.m i, q.wa⟩
    else if c.op i = 17 then (if q.top < 0 ∨ c.arg i ≠ q.top + 1 then none else regR c r (i + 1) ⟨upd q.L i q.top, upd q.W i q.wa, q.m - 1, q.stk, q.wa⟩)
    else if c.op i = 19 then regR c r (i + 1) ⟨upd q.L i q.top, upd q.W i q.wa, q.m, q.stk, i⟩
    else if c.op i = 20 then (if q.wa < 0 ∨ c.arg i ≠ q.wa + 1 then none else regR c r (i + 1) ⟨upd q.L i q.top, upd q.W i q.wa, q.m, q.stk, -1⟩)
    else regR c r (i + 1) ⟨upd q.L i q.top, upd q.W i q.wa, q.m, q.stk, q.wa⟩
/-- What holds of the stack of loops before instruction i. -/
structure Stk (i : Nat) (q : Rg) : Prop where
  lt : ∀ k, k < q.m → 0 ≤ q.stk k ∧ q.stk k < i
  loop : ∀ k, k < q.m → q.L (q.stk k).toNat = if 0 < k then q.stk (k - 1) else -1
  wait : ∀ k, k < q.m → q.W (q.stk k).toNat = -1
  wa : q.wa = -1 ∨ (0 ≤ q.wa ∧ q.wa < i)
def Rg.pl (q : Rg) : Pl := ⟨q.L, q.W, q.top, q.wa⟩
theorem top_cases {i : Nat} {q : Rg} (h : Stk i q) : (q.m = 0 ∧ q.top = -1) ∨ (0 < q.m ∧ q.top = q.stk (q.m - 1) ∧ 0 ≤ q.top ∧ q.top < i) := by
  unfold Rg.top
  by_cases hm : 0 < q.m
  · rw [if_pos hm]; exact .inr ⟨hm, rfl, h.lt _ (by omega)⟩
  · rw [if_neg hm]; exact .inl ⟨by omega, rfl⟩
/-- The stack after an instruction that leaves it. -/
theorem Stk.keep {i : Nat} {q : Rg} (h : Stk i q) {wa : Int} (hw : wa = -1 ∨ (0 ≤ wa ∧ wa < (i + 1 : Nat))) : Stk (i + 1) ⟨upd q.L i q.top, upd q.W i q.wa, q.m, q.stk, wa⟩ := by
  refine ⟨fun k hk => ?_, fun k hk => ?_, fun k hk => ?_, hw⟩
  · have := h.lt k hk; simp only at hk ⊢; omega
  · have h1 := h.lt k hk
    have := h.loop k hk
    show upd q.L i q.top (q.stk k).toNat = _
    rw [upd_ne (by omega)]; exact this
  · have h1 := h.lt k hk
    show upd q.W i q.wa (q.stk k).toNat = _
    rw [upd_ne (by omega)]; exact h.wait k hk
theorem plc_reg (c : Cd) (hok : ∀ i, i < c.n → okOp (c.op i)) : ∀ (r i : Nat) (q : Rg), i + r = c.n → Stk i q → plcP c r i q.pl = (regR c r i q).map Rg.pl := by
  intro r
  induction r with
  | zero => intro i q _ _; rfl
  | succ r ih =>
    intro i q hi hs
    have ho := hok i (by omega)
    have hp := pure_same ho
    have ht := top_cases hs
    have e1 : (q.wa ≠ -1 ∧ c.op i ≠ 20 ∧ pureP (c.op i) = false) ↔ (0 ≤ q.wa ∧ c.op i ≠ 20 ∧ pureR (c.op i) = false) := by
      rw [hp]
      have := hs.wa
      constructor
      · rintro ⟨a, b⟩; exact ⟨by omega, b⟩
      · rintro ⟨a, b⟩; exact ⟨by omega, b⟩
    rw [plcP, regR]
    show (if q.wa ≠ -1 ∧ c.op i ≠ 20 ∧ pureP (c.op i) = false then none else _) = _
    by_cases hbad : 0 ≤ q.wa ∧ c.op i ≠ 20 ∧ pureR (c.op i) = false
    · rw [if_pos hbad, if_pos (e1.2 hbad)]; rfl
    rw [if_neg hbad, if_neg (fun h => hbad (e1.1 h))]
    have impure : (c.op i = 16 ∨ c.op i = 17 ∨ c.op i = 19) → q.wa = -1 := by
      intro h
      have h1 : pureR (c.op i) = false := by unfold pureR; simp; omega
      have := hs.wa
      by_cases hw : 0 ≤ q.wa
      · exact absurd ⟨hw, by omega, h1⟩ hbad
      · omega
    by_cases h16 : c.op i = 16
    · rw [if_pos h16, if_pos h16]
      have hw := impure (.inl h16)
      have := ih (i + 1) ⟨upd q.L i q.top, upd q.W i q.wa, q.m + 1, upd q.stk q.m i, q.wa⟩ (by omega) ?_
      · rw [← this]
        have et : Rg.top ⟨upd q.L i q.top, upd q.W i q.wa, q.m + 1, upd q.stk q.m i, q.wa⟩ = i := by
          unfold Rg.top
          rw [if_pos (by simp)]
          exact upd_same _ _ _
        unfold Rg.pl
        rw [et]
      · refine ⟨fun k hk => ?_, fun k hk => ?_, fun k hk => ?_, by simp only; omega⟩
        · simp only at hk ⊢
          by_cases hk2 : k = q.m
          · subst hk2; rw [upd_same]; omega
          · rw [upd_ne hk2]; have := hs.lt k (by omega); omega
        · simp only at hk ⊢
          by_cases hk2 : k = q.m
          · subst hk2
            rw [upd_same, Int.toNat_natCast, upd_same]
            by_cases h0 : 0 < q.m
            · rw [if_pos h0, upd_ne (by omega)]; unfold Rg.top; rw [if_pos h0]
            · rw [if_neg h0]; unfold Rg.top; rw [if_neg h0]
          · have h1 := hs.lt k (by omega)
            have h2 := hs.loop k (by omega)
            rw [upd_ne hk2, upd_ne (by omega), h2]
            by_cases h0 : 0 < k
            · rw [if_pos h0, if_pos h0, upd_ne (by omega)]
            · rw [if_neg h0, if_neg h0]
        · simp only at hk ⊢
          by_cases hk2 : k = q.m
          · subst hk2
            rw [upd_same, Int.toNat_natCast, upd_same]; exact hw
          · have h1 := hs.lt k (by omega)
            rw [upd_ne hk2, upd_ne (by omega)]; exact hs.wait k (by omega)
    rw [if_neg h16, if_neg h16]
    by_cases h19 : c.op i = 19
    · rw [if_pos h19, if_neg (by omega), if_pos h19]
      exact ih (i + 1) _ (by omega) (hs.keep (wa := (i : Int)) (by omega))
    rw [if_neg h19]
    by_cases h17 : c.op i = 17
    · rw [if_pos h17, if_pos h17]
      have hw := impure (.inr (.inl h17))
      show (if q.top = -1 ∨ c.arg i ≠ q.top + 1 then none else _) = _
      by_cases hb : q.top < 0 ∨ c.arg i ≠ q.top + 1
      · rw [if_pos hb, if_pos (by omega)]; rfl
      · rw [if_neg hb, if_neg (by omega)]
        rcases ht with ⟨h1, h2⟩ | ⟨h1, h2, h3, h4⟩
        · omega
        · have hk := hs.keep (wa := q.wa) (by omega)
          have := ih (i + 1) ⟨upd q.L i q.top, upd q.W i q.wa, q.m - 1, q.stk, q.wa⟩ (by omega) ⟨fun k hk' => hk.lt k (by simp only at hk' ⊢; omega), fun k hk' => hk.loop k (by simp only at hk' ⊢; omega), fun k hk' => hk.wait k (by simp only at hk' ⊢; omega), hk.wa⟩
          rw [← this]
          have a1 : upd q.L i q.top q.top.toNat = Rg.top ⟨upd q.L i q.top, upd q.W i q.wa, q.m - 1, q.stk, q.wa⟩ := by
            rw [upd_ne (by omega), h2, hs.loop _ (by omega)]
            unfold Rg.top
            simp only
          have a2 : upd q.W i q.wa q.top.toNat = q.wa := by
            rw [upd_ne (by omega), h2, hs.wait _ (by omega), hw]
          show plcP c r (i + 1) ⟨upd q.L i q.top, upd q.W i q.wa, upd q.L i q.top q.top.toNat, upd q.W i q.wa q.top.toNat⟩ = _
          rw [a1, a2]
          rfl
    rw [if_neg h17, if_neg h17, if_neg h19]
    by_cases h20 : c.op i = 20
    · rw [if_pos h20, if_pos h20]
      have := hs.wa
      show (if q.wa = -1 ∨ c.arg i ≠ q.wa + 1 then none else _) = _
      by_cases hb : q.wa < 0 ∨ c.arg i ≠ q.wa + 1
      · rw [if_pos hb, if_pos (by omega)]; rfl
      · rw [if_neg hb, if_neg (by omega)]
        exact ih (i + 1) _ (by omega) (hs.keep (wa := -1) (.inl rfl))
    rw [if_neg h20, if_neg h20]
    exact ih (i + 1) _ (by omega) (hs.keep (wa := q.wa) (by have := hs.wa; omega))
theorem reg_stk (c : Cd) : ∀ (r i : Nat) (q q' : Rg), i + r = c.n → (∀ k, k < q.m → 0 ≤ q.stk k) → regR c r i q = some q' → ∀ k, k < q'.m → 0 ≤ q'.stk k := by
  intro r
  induction r with
  | zero => intro i q q' _ h e; cases e; exact h
  | succ r ih =>
    intro i q q' hi h e
    rw [regR] at e
    split at e
    · cases e
    split at e
    · refine ih (i + 1) _ _ (by omega) (fun k hk => ?_) e
      simp only at hk ⊢
      by_cases hk2 : k = q.m
      · subst hk2; rw [upd_same]; omega
      · rw [upd_ne hk2]; exact h k (by omega)
    split at e
    · split at e
      · cases e
      · refine ih (i + 1) _ _ (by omega) ?_ e
        intro k hk
        simp only at hk ⊢
        exact h k (by omega)
    split at e
    · refine ih (i + 1) _ _ (by omega) ?_ e
      exact h
    split at e
    · split at e
      · cases e
      · refine ih (i + 1) _ _ (by omega) ?_ e
        exact h
    · refine ih (i + 1) _ _ (by omega) ?_ e
      exact h
/-- The operand of an end of a loop or of a wait, if all is well formed. -/
theorem plc_args (c : Cd) : ∀ (r i : Nat) (q q' : Rg), i + r = c.n → Stk i q → regR c r i q = some q' → ∀ j, i ≤ j → j < c.n → (c.op j = 17 ∨ c.op j = 20) → 1 ≤ c.arg j ∧ c.arg j ≤ (j : Int) := by
  intro r
  induction r with
  | zero => intro i q q' hi _ _ j h1 h2; omega
  | succ r ih =>
    intro i q q' hi hs e j hj1 hj2 hj
    have ht := top_cases hs
    have hwa := hs.wa
    rw [regR] at e
    split at e
    · cases e
    rename_i hbad
    have impure : (c.op i = 16 ∨ c.op i = 17 ∨ c.op i = 19) → q.wa = -1 := by
      intro h
      have h1 : pureR (c.op i) = false := by unfold pureR; simp; omega
      by_cases hw : 0 ≤ q.wa
      · exact absurd ⟨hw, by omega, h1⟩ hbad
      · omega
    by_cases hji : j = i
    · subst hji
      rcases hj with h | h
      · rw [if_neg (by omega), if_pos h] at e
        split at e
        · cases e
        · omega
      · rw [if_neg (by omega), if_neg (by omega), if_neg (by omega), if_pos h] at e
        split at e
        · cases e
        · omega
    split at e
    · rename_i h16
      have hw := impure (.inl h16)
      refine ih (i + 1) _ _ (by omega) ?_ e j (by omega) hj2 hj
      refine ⟨fun k hk => ?_, fun k hk => ?_, fun k hk => ?_, by simp only; omega⟩
      · simp only at hk ⊢
        by_cases hk2 : k = q.m
        · subst hk2; rw [upd_same]; omega
        · rw [upd_ne hk2]; have := hs.lt k (by omega); omega
      · simp only at hk ⊢
        by_cases hk2 : k = q.m
        · subst hk2
          rw [upd_same, Int.toNat_natCast, upd_same]
          by_cases h0 : 0 < q.m
          · rw [if_pos h0, upd_ne (by omega)]; unfold Rg.top; rw [if_pos h0]
          · rw [if_neg h0]; unfold Rg.top; rw [if_neg h0]
        · have h1 := hs.lt k (by omega)
          have h2 := hs.loop k (by omega)
          rw [upd_ne hk2, upd_ne (by omega), h2]
          by_cases h0 : 0 < k
          · rw [if_pos h0, if_pos h0, upd_ne (by omega)]
          · rw [if_neg h0, if_neg h0]
      · simp only at hk ⊢
        by_cases hk2 : k = q.m
        · subst hk2
          rw [upd_same, Int.toNat_natCast, upd_same]; exact hw
        · have h1 := hs.lt k (by omega)
          rw [upd_ne hk2, upd_ne (by omega)]; exact hs.wait k (by omega)
    split at e
    · split at e
      · cases e
      · have hk := hs.keep (wa := q.wa) (by omega)
        refine ih (i + 1) _ _ (by omega) ?_ e j (by omega) hj2 hj
        exact ⟨fun k hk' => hk.lt k (by simp only at hk' ⊢; omega), fun k hk' => hk.loop k (by simp only at hk' ⊢; omega), fun k hk' => hk.wait k (by simp only at hk' ⊢; omega), hk.wa⟩
    split at e
    · exact ih (i + 1) _ _ (by omega) (hs.keep (wa := (i : Int)) (by omega)) e j (by omega) hj2 hj
    split at e
    · split at e
      · cases e
      · exact ih (i + 1) _ _ (by omega) (hs.keep (wa := -1) (.inl rfl)) e j (by omega) hj2 hj
    · exact ih (i + 1) _ _ (by omega) (hs.keep (wa := q.wa) (by omega)) e j (by omega) hj2 hj
/-! ### Depths -/
def effLo (o : Int) : Int := if o = 1 ∨ o = 2 ∨ o = 4 then 0 else if o = 3 ∨ o = 21 ∨ o = 22 ∨ o = 20 then 1 else if o = 9 ∨ o = 13 then 1 else if 5 ≤ o ∧ o ≤ 12 then 2 else if o = 14 then 0 else if o = 15 then 1 else 0
def effHi (o : Int) : Int := if o = 1 ∨ o = 2 ∨ o = 4 then 15 else if o = 3 ∨ o = 21 ∨ o = 22 ∨ o = 20 then 1 else if o = 9 ∨ o = 13 then 16 else if 5 ≤ o ∧ o ≤ 12 then 16 else if o = 14 then 16 else if o = 15 then 16 else 0
def effBy (o : Int) : Int := if o = 1 ∨ o = 2 ∨ o = 4 then 1 else if o = 3 ∨ o = 21 ∨ o = 22 ∨ o = 20 then -1 else if o = 9 ∨ o = 13 then 0 else if 5 ≤ o ∧ o ≤ 12 then -1 else if o = 14 then 0 else if o = 15 then -1 else 0
def leftV (o d : Int) : Int := if o = 1 ∨ o = 2 ∨ o = 4 then d + 1 else if (5 ≤ o ∧ o ≤ 8) ∨ (10 ≤ o ∧ o ≤ 12) then d - 1 else if o = 9 ∨ o = 13 then d else if o = 14 then d else if o = 15 then d - 1 else 0
def leftB (o d : Int) : Prop := if o = 1 ∨ o = 2 ∨ o = 4 then d < 16 else if (5 ≤ o ∧ o ≤ 8) ∨ (10 ≤ o ∧ o ≤ 12) then 2 ≤ d else if o = 9 ∨ o = 13 then 1 ≤ d else if o = 14 then True else if o = 15 then 1 ≤ d else if o = 3 ∨ o = 21 ∨ o = 22 ∨ o = 20 then d = 1 else d = 0
theorem eff_left {o d : Int} (ho : okOp o) (hd : d ≤ 16) : (effLo o ≤ d ∧ d ≤ effHi o) ↔ (0 ≤ d ∧ leftB o d) := by
  unfold okOp at ho
  unfold effLo effHi leftB
  by_cases h1 : o = 1 ∨ o = 2 ∨ o = 4
  · simp only [if_pos h1]; (try simp only [true_and, and_true]); omega
  by_cases h3 : o = 3 ∨ o = 21 ∨ o = 22 ∨ o = 20
  · simp only [if_neg h1, if_pos h3, if_neg (show ¬ ((5 ≤ o ∧ o ≤ 8) ∨ (10 ≤ o ∧ o ≤ 12)) by omega), if_neg (show ¬ (o = 9 ∨ o = 13) by omega), if_neg (show ¬ o = 14 by omega), if_neg (show ¬ o = 15 by omega)]; (try simp only [true_and, and_true]); omega
  by_cases h9 : o = 9 ∨ o = 13
  · simp only [if_neg h1, if_neg h3, if_pos h9, if_neg (show ¬ ((5 ≤ o ∧ o ≤ 8) ∨ (10 ≤ o ∧ o ≤ 12)) by omega)]; (try simp only [true_and, and_true]); omega
  by_cases h5 : 5 ≤ o ∧ o ≤ 12
  · simp only [if_neg h1, if_neg h3, if_neg h9, if_pos h5, if_pos (show ((5 ≤ o ∧ o ≤ 8) ∨ (10 ≤ o ∧ o ≤ 12)) by omega)]; (try simp only [true_and, and_true]); omega
  have h5' : ¬ ((5 ≤ o ∧ o ≤ 8) ∨ (10 ≤ o ∧ o ≤ 12)) := by omega
  by_cases h14 : o = 14
  · simp only [if_neg h1, if_neg h3, if_neg h9, if_neg h5, if_neg h5', if_pos h14]; (try simp only [true_and, and_true]); omega
  by_cases h15 : o = 15
  · simp only [if_neg h1, if_neg h3, if_neg h9, if_neg h5, if_neg h5', if_neg h14, if_pos h15]; (try simp only [true_and, and_true]); omega
  simp only [if_neg h1, if_neg h3, if_neg h9, if_neg h5, if_neg h5', if_neg h14, if_neg h15]; (try simp only [true_and, and_true]); omega
theorem eff_val {o d : Int} (ho : okOp o) (h0 : 0 ≤ d) (h16 : d ≤ 16) (hl : leftB o d) : d + effBy o = leftV o d ∧ 0 ≤ leftV o d ∧ leftV o d ≤ 16 := by
  unfold okOp at ho
  unfold leftB at hl
  unfold effBy leftV
  by_cases h1 : o = 1 ∨ o = 2 ∨ o = 4
  · simp only [if_pos h1] at hl ⊢; (try simp only [true_and, and_true]); omega
  by_cases h3 : o = 3 ∨ o = 21 ∨ o = 22 ∨ o = 20
  · simp only [if_neg h1, if_pos h3, if_neg (show ¬ ((5 ≤ o ∧ o ≤ 8) ∨ (10 ≤ o ∧ o ≤ 12)) by omega), if_neg (show ¬ (o = 9 ∨ o = 13) by omega), if_neg (show ¬ o = 14 by omega), if_neg (show ¬ o = 15 by omega)] at hl ⊢; (try simp only [true_and, and_true]); omega
  by_cases h9 : o = 9 ∨ o = 13
  · simp only [if_neg h1, if_neg h3, if_pos h9, if_neg (show ¬ ((5 ≤ o ∧ o ≤ 8) ∨ (10 ≤ o ∧ o ≤ 12)) by omega)] at hl ⊢; (try simp only [true_and, and_true]); omega
  by_cases h5 : 5 ≤ o ∧ o ≤ 12
  · simp only [if_neg h1, if_neg h3, if_neg h9, if_pos h5, if_pos (show ((5 ≤ o ∧ o ≤ 8) ∨ (10 ≤ o ∧ o ≤ 12)) by omega)] at hl ⊢; (try simp only [true_and, and_true]); omega
  have h5' : ¬ ((5 ≤ o ∧ o ≤ 8) ∨ (10 ≤ o ∧ o ≤ 12)) := by omega
  by_cases h14 : o = 14
  · simp only [if_neg h1, if_neg h3, if_neg h9, if_neg h5, if_neg h5', if_pos h14] at hl ⊢; (try simp only [true_and, and_true]); omega
  by_cases h15 : o = 15
  · simp only [if_neg h1, if_neg h3, if_neg h9, if_neg h5, if_neg h5', if_neg h14, if_pos h15] at hl ⊢; (try simp only [true_and, and_true]); omega
  simp only [if_neg h1, if_neg h3, if_neg h9, if_neg h5, if_neg h5', if_neg h14, if_neg h15] at hl ⊢; (try simp only [true_and, and_true]); omega
def jmp (o : Int) : Prop := o = 14 ∨ o = 15
instance (o : Int) : Decidable (jmp o) := by unfold jmp; infer_instance
def rchD (n : Nat) (dp : Nat → Int) (to d : Int) : Nat → Int := if to < n ∧ dp to.toNat = -1 then upd dp to.toNat d else dp
def rchB (n : Nat) (dp : Nat → Int) (to d : Int) : Prop := (n : Int) ≤ to ∨ rchD n dp to d to.toNat = d
def balP (c : Cd) : Nat → Nat → (Nat → Int) → Prop
  | 0, _, _ => True
  | r + 1, i, dp => (okOp (c.op i) ∧ effLo (c.op i) ≤ dp i ∧ dp i ≤ effHi (c.op i)) ∧
    (jmp (c.op i) → rchB c.n dp (c.arg i) (dp i + effBy (c.op i))) ∧
    (c.op i ≠ 14 → rchB c.n (if jmp (c.op i) then rchD c.n dp (c.arg i) (dp i + effBy (c.op i)) else dp) ((i + 1 : Nat) : Int) (dp i + effBy (c.op i))) ∧
    balP c r (i + 1) (if c.op i ≠ 14 then rchD c.n (if jmp (c.op i) then rchD c.n dp (c.arg i) (dp i + effBy (c.op i)) else dp) ((i + 1 : Nat) : Int) (dp i + effBy (c.op i)) else (if jmp (c.op i) then rchD c.n dp (c.arg i) (dp i + effBy (c.op i)) else dp))
def bad (dp : Nat → Int) (t : Nat) (d : Int) : Prop := 0 ≤ dp t ∧ dp t ≠ d
def depR (c : Cd) : Nat → Nat → (Nat → Int) → Prop
  | 0, _, _ => True
  | r + 1, i, dp => (0 ≤ dp i ∧ leftB (c.op i) (dp i)) ∧
    ((c.op i ≠ 14 ∧ i + 1 < c.n) → ¬ bad dp (i + 1) (leftV (c.op i) (dp i))) ∧
    (jmp (c.op i) → ¬ bad (if c.op i ≠ 14 ∧ i + 1 < c.n then upd dp (i + 1) (leftV (c.op i) (dp i)) else dp) (c.arg i).toNat (leftV (c.op i) (dp i))) ∧
    depR c r (i + 1) (if jmp (c.op i) then upd (if c.op i ≠ 14 ∧ i + 1 < c.n then upd dp (i + 1) (leftV (c.op i) (dp i)) else dp) (c.arg i).toNat (leftV (c.op i) (dp i)) else (if c.op i ≠ 14 ∧ i + 1 < c.n then upd dp (i + 1) (leftV (c.op i) (dp i)) else dp))
def Dv (dp : Nat → Int) : Prop := ∀ t, dp t = -1 ∨ (0 ≤ dp t ∧ dp t ≤ 16)
theorem Dv.upd {dp : Nat → Int} (h : Dv dp) {t : Nat} {d : Int} (h0 : 0 ≤ d) (h1 : d ≤ 16) : Dv (Cv.upd dp t d) := by
  intro j
  unfold Cv.upd
  split
  · exact .inr ⟨h0, h1⟩
  · exact h j
theorem rch_iff {n : Nat} {dp : Nat → Int} {to d : Int} (h : Dv dp) (h0 : 0 ≤ to) (hn : to < n) (hd : 0 ≤ d) (X : (Nat → Int) → Prop) : (rchB n dp to d ∧ X (rchD n dp to d)) ↔ (¬ bad dp to.toNat d ∧ X (upd dp to.toNat d)) := by
  have hv := h to.toNat
  unfold rchB rchD bad
  by_cases hm : dp to.toNat = -1
  · rw [if_pos ⟨hn, hm⟩, upd_same]
    constructor
    · rintro ⟨_, hx⟩; exact ⟨fun hb => by omega, hx⟩
    · rintro ⟨_, hx⟩; exact ⟨.inr rfl, hx⟩
  · rw [if_neg (fun hb => hm hb.2)]
    constructor
    · rintro ⟨h1, hx⟩
      have h2 : dp to.toNat = d := by omega
      exact ⟨fun hb => hb.2 h2, by rw [upd_id h2]; exact hx⟩
    · rintro ⟨h1, hx⟩
      have h2 : dp to.toNat = d := by
        rcases hv with hv | hv
        · exact absurd hv hm
        · exact Classical.not_not.1 fun h3 => h1 ⟨hv.1, h3⟩
      exact ⟨.inr h2, by rw [upd_id h2] at hx; exact hx⟩
theorem rch_end {n : Nat} {dp : Nat → Int} {d : Int} : rchB n dp ((n : Nat) : Int) d ∧ rchD n dp ((n : Nat) : Int) d = dp := by
  unfold rchB rchD
  exact ⟨.inl (Int.le_refl _), if_neg (by omega)⟩
theorem upd_comm {f : Nat → Int} {a b : Nat} {d : Int} : upd (upd f a d) b d = upd (upd f b d) a d := by
  funext j
  unfold upd
  split <;> split <;> simp_all
theorem bal_dep (c : Cd) (hok : ∀ i, i < c.n → okOp (c.op i)) (harg : ∀ i, i < c.n → jmp (c.op i) → (i : Int) + 1 ≤ c.arg i ∧ c.arg i ≤ (c.n : Int) - 1) : ∀ (r i : Nat) (dp : Nat → Int), i + r = c.n → Dv dp → (balP c r i dp ↔ depR c r i dp) := by
  intro r
  induction r with
  | zero => intro i dp _ _; exact Iff.rfl
  | succ r ih =>
    intro i dp hi hv
    have ho := hok i (by omega)
    have hvi := hv i
    have h16 : dp i ≤ 16 := by omega
    rw [balP, depR]
    have e1 := eff_left ho h16
    by_cases hl' : ¬ (0 ≤ dp i ∧ leftB (c.op i) (dp i))
    · constructor
      · rintro ⟨⟨_, h2⟩, _⟩; exact absurd (e1.1 h2) hl'
      · rintro ⟨h2, _⟩; exact absurd h2 hl'
    have hl := Classical.not_not.1 hl'
    obtain ⟨v1, v2, v3⟩ := eff_val ho hl.1 h16 hl.2
    have hA : (okOp (c.op i) ∧ effLo (c.op i) ≤ dp i ∧ dp i ≤ effHi (c.op i)) ↔ (0 ≤ dp i ∧ leftB (c.op i) (dp i)) := ⟨fun _ => hl, fun _ => ⟨ho, e1.2 hl⟩⟩
    rw [hA, v1]
    refine and_congr_right fun _ => ?_
    generalize leftV (c.op i) (dp i) = d at *
    by_cases hj : jmp (c.op i)
    · obtain ⟨a1, a2⟩ := harg i (by omega) hj
      simp only [hj, if_true, true_implies]
      by_cases h14 : c.op i = 14
      · simp only [h14, ne_eq, not_true_eq_false, false_and, if_false, false_implies, true_and]
        rw [rch_iff hv (by omega) (by omega) v2 (fun f => balP c r (i + 1) f)]
        exact and_congr_right fun _ => ih (i + 1) _ (by omega) (hv.upd v2 v3)
      · have hin : c.op i ≠ 14 ∧ i + 1 < c.n := ⟨h14, by omega⟩
        simp only [h14, ne_eq, not_false_eq_true, true_and, if_true, true_implies, show i + 1 < c.n from hin.2]
        have key1 := rch_iff (n := c.n) hv (to := c.arg i) (by omega) (by omega) v2 (fun f => rchB c.n f ((i + 1 : Nat) : Int) d ∧ balP c r (i + 1) (rchD c.n f ((i + 1 : Nat) : Int) d))
        have key2 := rch_iff (n := c.n) (hv.upd (t := (c.arg i).toNat) v2 v3) (to := ((i + 1 : Nat) : Int)) (by omega) (by omega) v2 (fun f => balP c r (i + 1) f)
        rw [key1, key2, Int.toNat_natCast, upd_comm, ih (i + 1) _ (by omega) ((hv.upd v2 v3).upd v2 v3)]
        have hb : ∀ x y : Nat, (¬ bad dp x d ∧ ¬ bad (upd dp x d) y d) ↔ (¬ bad dp x d ∧ ¬ bad dp y d) := by
          intro x y
          refine and_congr_right fun hx => ?_
          by_cases hxy : y = x
          · subst hxy
            refine ⟨fun _ => hx, fun _ h => h.2 (upd_same _ _ _)⟩
          · unfold bad; rw [upd_ne hxy]
        constructor
        · rintro ⟨p1, p2, p3⟩
          have := (hb _ _).1 ⟨p1, p2⟩
          have q := (hb (i + 1) (c.arg i).toNat).2 ⟨this.2, this.1⟩
          exact ⟨q.1, q.2, p3⟩
        · rintro ⟨p1, p2, p3⟩
          have := (hb _ _).1 ⟨p1, p2⟩
          have q := (hb (c.arg i).toNat (i + 1)).2 ⟨this.2, this.1⟩
          exact ⟨q.1, q.2, p3⟩
    · have h14 : c.op i ≠ 14 := fun h => hj (.inl h)
      simp only [hj, if_false, false_implies, true_and]
      by_cases hin : i + 1 < c.n
      · simp only [h14, ne_eq, not_false_eq_true, true_and, hin, if_true, true_implies]
        rw [rch_iff hv (by omega) (by omega) v2 (fun f => balP c r (i + 1) f), Int.toNat_natCast]
        exact and_congr_right fun _ => ih (i + 1) _ (by omega) (hv.upd v2 v3)
      · have hn : i + 1 = c.n := by omega
        simp only [h14, ne_eq, not_false_eq_true, true_and, hin, if_true, if_false, true_implies, false_implies]
        rw [hn]
        obtain ⟨g1, g2⟩ := rch_end (n := c.n) (dp := dp) (d := d)
        rw [g2]
        have hr : r = 0 := by omega
        subst hr
        exact ⟨fun h => h.2, fun h => ⟨g1, h⟩⟩
theorem bal_ok (c : Cd) : ∀ (r i : Nat) (dp : Nat → Int), balP c r i dp → ∀ j, i ≤ j → j < i + r → okOp (c.op j) := by
  intro r
  induction r with
  | zero => intro i dp _ j h1 h2; omega
  | succ r ih =>
    intro i dp h j h1 h2
    rw [balP] at h
    by_cases hj : j = i
    · subst hj; exact h.1.1
    · exact ih (i + 1) _ h.2.2.2 j (by omega) (by omega)
/-! ### All -/
def zero : Nat → Int := fun _ => 0
def dp0 : Nat → Int := fun j => if j = 0 then 0 else -1
def jmps (c : Cd) (oL oW : Nat → Int) : Prop := ∀ i, i < c.n → jmp (c.op i) → oL (c.arg i).toNat = oL i ∧ oW (c.arg i).toNat = oW i
def VP (c : Cd) : Prop := (∀ i, i < c.n → rng c i ∧ stopOk c i) ∧ (∃ q, plcP c c.n 0 ⟨zero, zero, -1, -1⟩ = some q ∧ (q.lo = -1 ∧ q.wa = -1) ∧ jmps c q.oL q.oW) ∧ balP c c.n 0 dp0
def VR (c : Cd) : Prop := (∀ i, i < c.n → stopOk c i ∧ opnd c i) ∧ (∃ q, regR c c.n 0 ⟨zero, zero, 0, zero, -1⟩ = some q ∧ (q.m = 0 ∧ q.wa < 0) ∧ jmps c q.L q.W) ∧ depR c c.n 0 dp0
theorem Dv0 : Dv dp0 := by
  intro t
  unfold dp0
  split
  · exact .inr ⟨by decide, by decide⟩
  · exact .inl rfl
theorem Stk0 : Stk 0 ⟨zero, zero, 0, zero, -1⟩ := ⟨fun k hk => by simp at hk, fun k hk => by simp at hk, fun k hk => by simp at hk, .inl rfl⟩
theorem reg_wa (c : Cd) : ∀ (r i : Nat) (q q' : Rg), (q.wa = -1 ∨ 0 ≤ q.wa) → regR c r i q = some q' → (q'.wa = -1 ∨ 0 ≤ q'.wa) := by
  intro r
  induction r with
  | zero => intro i q q' h e; cases e; exact h
  | succ r ih =>
    intro i q q' h e
    rw [regR] at e
    split at e
    · cases e
    split at e
    · refine ih (i + 1) _ _ ?_ e
      exact h
    split at e
    · split at e
      · cases e
      · refine ih (i + 1) _ _ ?_ e
        exact h
    split at e
    · refine ih (i + 1) _ _ ?_ e
      right; simp only; omega
    split at e
    · split at e
      · cases e
      · refine ih (i + 1) _ _ ?_ e
        exact .inl rfl
    · refine ih (i + 1) _ _ ?_ e
      exact h
theorem VP_VR (c : Cd) : VP c ↔ VR c := by
  have fin : ∀ q, regR c c.n 0 ⟨zero, zero, 0, zero, -1⟩ = some q → ((q.top = -1 ∧ q.wa = -1) ↔ (q.m = 0 ∧ q.wa < 0)) := by
    intro q hq
    have h1 := reg_stk c c.n 0 _ q (by omega) (fun k hk => by simp at hk) hq
    have h2 := reg_wa c c.n 0 _ q (.inl rfl) hq
    unfold Rg.top
    by_cases hm : 0 < q.m
    · have := h1 (q.m - 1) (by omega)
      rw [if_pos hm]; omega
    · rw [if_neg hm]; omega
  constructor
  · rintro ⟨h1, ⟨q, h2, h3, h4⟩, h5⟩
    have hok : ∀ i, i < c.n → okOp (c.op i) := fun i hi => bal_ok c c.n 0 dp0 h5 i (by omega) (by omega)
    have harg : ∀ i, i < c.n → jmp (c.op i) → (i : Int) + 1 ≤ c.arg i ∧ c.arg i ≤ (c.n : Int) - 1 := fun i hi hj => rng_jump hj (h1 i hi).1
    have e := plc_reg c hok c.n 0 ⟨zero, zero, 0, zero, -1⟩ (by omega) Stk0
    have e0 : Rg.pl ⟨zero, zero, 0, zero, -1⟩ = ⟨zero, zero, -1, -1⟩ := rfl
    rw [e0, h2] at e
    obtain ⟨q', g1, g2⟩ : ∃ q', regR c c.n 0 ⟨zero, zero, 0, zero, -1⟩ = some q' ∧ q'.pl = q := by
      cases hr : regR c c.n 0 ⟨zero, zero, 0, zero, -1⟩ with
      | none => rw [hr] at e; cases e
      | some q' => rw [hr] at e; simp only [Option.map_some, Option.some.injEq] at e; exact ⟨q', rfl, e.symm⟩
    subst g2
    refine ⟨fun i hi => ⟨(h1 i hi).2, ?_⟩, ⟨q', g1, (fin q' g1).1 h3, h4⟩, (bal_dep c hok harg c.n 0 dp0 (by omega) Dv0).1 h5⟩
    by_cases h17 : c.op i = 17 ∨ c.op i = 20
    · exact opnd_17 h17
    · exact (opnd_rng (hok i hi) (fun h => h17 (.inl h)) (fun h => h17 (.inr h))).2 (h1 i hi).1
  · rintro ⟨h1, ⟨q, h2, h3, h4⟩, h5⟩
    have hok : ∀ i, i < c.n → okOp (c.op i) := fun i hi => opnd_ok (h1 i hi).2
    have hr : ∀ i, i < c.n → rng c i := by
      intro i hi
      by_cases h17 : c.op i = 17 ∨ c.op i = 20
      · exact (rng_17 h17).2 (plc_args c c.n 0 _ q (by omega) Stk0 h2 i (by omega) hi h17)
      · exact (opnd_rng (hok i hi) (fun h => h17 (.inl h)) (fun h => h17 (.inr h))).1 (h1 i hi).2
    have harg : ∀ i, i < c.n → jmp (c.op i) → (i : Int) + 1 ≤ c.arg i ∧ c.arg i ≤ (c.n : Int) - 1 := fun i hi hj => rng_jump hj (hr i hi)
    have e := plc_reg c hok c.n 0 ⟨zero, zero, 0, zero, -1⟩ (by omega) Stk0
    rw [h2] at e
    exact ⟨fun i hi => ⟨hr i hi, (h1 i hi).1⟩, ⟨q.pl, e, (fin q h2).2 h3, h4⟩, (bal_dep c hok harg c.n 0 dp0 (by omega) Dv0).2 h5⟩
end Go.Proofs.Cv
