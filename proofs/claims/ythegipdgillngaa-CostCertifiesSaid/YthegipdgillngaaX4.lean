/- The code that is made: pieces put together (plain). -/
import Derived.Test.YthegipdgillngaaX3
namespace Go.Proofs.Ythegipdgillngaa
open Go Go.Am Go.Proofs
set_option linter.unusedSimpArgs false
set_option linter.unusedVariables false
set_option maxRecDepth 100000
theorem lp_step {α γ : Type} {st : α → Option (α ⊕ γ)} {q : Nat} {y : α} {P : γ → Prop} (h : Runs (st y) (fun r => Sum.elim (fun y' => Runs (lpG st q y') P) P r)) : Runs (lpG st (q + 1) y) P := by
  obtain ⟨r, h1, h2⟩ := h
  rw [lpG_succ, h1]
  cases r with
  | inl y' => exact h2
  | inr z => exact ⟨z, rfl, h2⟩
section
variable {m : Nat} {y : Nat → Int} {tl : Bool}
def StA (m : Nat) (y : Nat → Int) (tl : Bool) (c : a_stmtA → Option g_stmtA) (e : Nat) : Prop := ∀ (l : Is) (s : MT), MS m y tl l s → l.length < 200 → Runs (c ((e : Int), s)) (SP m y tl e l)
theorem tmU {v : Int} (h : 0 ≤ v ∧ v < 12) : (v < 7 ∧ v.tmod 7 = v) ∨ (7 ≤ v ∧ v.tmod 7 = v - 7) := by
  have : v = 0 ∨ v = 1 ∨ v = 2 ∨ v = 3 ∨ v = 4 ∨ v = 5 ∨ v = 6 ∨ v = 7 ∨ v = 8 ∨ v = 9 ∨ v = 10 ∨ v = 11 := by omega
  rcases this with rfl | rfl | rfl | rfl | rfl | rfl | rfl | rfl | rfl | rfl | rfl | rfl <;> decide
theorem stmtA_runs (hy : ∀ j, j < m → inR (y j)) {q e : Nat} (he2 : e ≤ 2) (hB : 0 < e → Blk m y tl q e) : StA m y tl (made (q + 1)).1 e := by
  intro l s hs hl
  show Runs (t_stmtA (nextA q) (putA q) (condA q) (made q).2 ((e : Int), s) some) _
  unfold t_stmtA
  refine Runs.bind (next_runs hy hs (by omega)) fun z hz => ?_
  obtain ⟨hu, h⟩ := hz
  have key := fun (u : Int) (hu : 0 ≤ u ∧ u < 12) h8 he => chA_runs (q := q) hy he2 hB h hl hu h8 he
  have hU := tmU hu
  have htl := h.tl
  refine Runs.ite (fun ht => ?_) fun ht => ?_
  all_goals
    rw [htl] at ht
    repeat' first
    | exact key z.1 hu (by simp only [decide_eq_true_eq, beq_iff_eq, Bool.not_eq_true] at *; first | (intro; assumption) | omega) (by simp only [decide_eq_true_eq, beq_iff_eq, Bool.not_eq_true] at *; omega)
    | exact key (z.1.tmod 7) (by omega) (by simp only [decide_eq_true_eq, beq_iff_eq, Bool.not_eq_true] at *; first | (intro; assumption) | omega) (by simp only [decide_eq_true_eq, beq_iff_eq, Bool.not_eq_true] at *; omega)
    | refine Runs.ite (fun _ => ?_) (fun _ => ?_)
theorem stmtZ_runs (hy : ∀ j, j < m → inR (y j)) {q e : Nat} (he2 : e ≤ 2) (hB : 0 < e → Blk m y tl q e) (a : Int) : Runs (stmtZ q ((e : Int), m, y, a, tl)) (SP m y tl e []) := by
  show Runs (t_stmtZ (nextZ q) (putA q) (putZ q) (condA q) (condZ q) (made q).2 ((e : Int), m, y, a, tl) some) _
  unfold t_stmtZ
  refine Runs.bind (nextZ_runs hy (by omega)) fun z hz => ?_
  obtain ⟨hu, a', he⟩ := hz
  obtain ⟨v, s⟩ := z
  simp only at he hu
  subst he
  have key := fun (u : Int) (hu : 0 ≤ u ∧ u < 12) h8 he => chZ_runs (q := q) hy he2 hB a' hu h8 he
  have hU := tmU hu
  refine Runs.ite (fun ht => ?_) fun ht => ?_
  all_goals
    simp only at ht
    repeat' first
    | exact key v hu (by simp only [decide_eq_true_eq, beq_iff_eq, Bool.not_eq_true] at *; first | (intro; assumption) | omega) (by simp only [decide_eq_true_eq, beq_iff_eq, Bool.not_eq_true] at *; omega)
    | exact key (v.tmod 7) (by omega) (by simp only [decide_eq_true_eq, beq_iff_eq, Bool.not_eq_true] at *; first | (intro; assumption) | omega) (by simp only [decide_eq_true_eq, beq_iff_eq, Bool.not_eq_true] at *; omega)
    | refine Runs.ite (fun _ => ?_) (fun _ => ?_)
theorem BP.of_SP {e : Nat} {l : Is} {z : MT} (h : SP m y tl e l z) : BP m y tl e l z := by
  obtain ⟨s, h1, h2, h3⟩ := h
  exact ⟨s, h1, h2, .inl h3⟩
theorem BP.none {e : Nat} {l : Is} {s : MT} (h : MS m y tl l s) : BP m y tl e l s := ⟨[], .nil _, by simpa using h, .inr (by simp)⟩
theorem BP.next {e : Nat} {l s : Is} {z : MT} (h : Seg tl l.length s) (hl : (l ++ s).length ≤ 206 + 2 * e) (g : BP m y tl e (l ++ s) z) : BP m y tl e l z := by
  obtain ⟨t, h1, h2, h3⟩ := g
  refine ⟨s ++ t, .app h (by simpa using h1), by simpa [List.append_assoc] using h2, .inl ?_⟩
  rw [← List.append_assoc]
  rcases h3 with h3 | h3 <;> omega
theorem loopA_runs {x : a_blockA} {cN : a_nextA → Option g_nextA} {cS : a_stmtA → Option g_stmtA} {e : Nat} (hx : x.2.1 = e) (hst : StA m y tl cS e) : ∀ (r q : Nat) (k i : Int) (l : Is) (s : MT), 0 ≤ i → k ≤ 10 → k ≤ i + r → r < q → MS m y tl l s → Runs (blockA_l0 cN cS q x (k, s.1, s.2.1, s.2.2.1, s.2.2.2.1, s.2.2.2.2.1, s.2.2.2.2.2.1, s.2.2.2.2.2.2, i)) (BP m y tl e l) := by
  intro r
  induction r with
  | zero =>
    intro q k i l s h0 hk hr hq hs
    obtain ⟨q, rfl⟩ : ∃ q', q = q' + 1 := ⟨q - 1, by omega⟩
    refine lp_step ?_
    unfold blockA_l0_t
    exact Runs.if_neg (by simp; omega) (Runs.some (BP.none hs))
  | succ r ih =>
    intro q k i l s h0 hk hr hq hs
    obtain ⟨q, rfl⟩ : ∃ q', q = q' + 1 := ⟨q - 1, by omega⟩
    refine lp_step ?_
    unfold blockA_l0_t
    refine Runs.ite (fun h1 => ?_) fun _ => Runs.some (BP.none hs)
    refine Runs.ite (fun h2 => ?_) fun _ => Runs.some (BP.none hs)
    simp only [decide_eq_true_eq] at h1 h2
    have hn := hs.n
    rw [hn] at h2
    refine Runs.bind (P := SP m y tl e l) (by rw [hx]; exact hst l s hs (by omega)) fun z hz => Runs.some ?_
    obtain ⟨t, t1, t2, t3⟩ := hz
    have ew : w (i + 1) = i + 1 := w_in (by unfold inR; omega)
    show Runs (lpG _ q _) _
    refine Runs.mono (ih q k (w (i + 1)) (l ++ t) z (by omega) hk (by omega) (by omega) t2) fun z' hz' => BP.next t1 t3 hz'
theorem loopZ_runs {x : a_blockZ} {cN : a_nextZ → Option g_nextZ} {cS : a_stmtA → Option g_stmtA} {cZ : a_stmtZ → Option g_stmtZ} {e : Nat} (hx : x.2.1 = e) (hst : StA m y tl cS e) : ∀ (r q : Nat) (k i : Int) (l : Is) (s : MT), 0 ≤ i → k ≤ 10 → k ≤ i + r → r < q → MS m y tl l s → Runs (blockZ_l0 cN cS cZ q x (.inr (k, s.1, s.2.1, s.2.2.1, s.2.2.2.1, s.2.2.2.2.1, s.2.2.2.2.2.1, s.2.2.2.2.2.2, i))) (fun z => Sum.elim (fun _ => False) (BP m y tl e l) z) := by
  intro r
  induction r with
  | zero =>
    intro q k i l s h0 hk hr hq hs
    obtain ⟨q, rfl⟩ : ∃ q', q = q' + 1 := ⟨q - 1, by omega⟩
    refine lp_step ?_
    simp only [Sum.elim_inr]
    unfold blockZ_l0_t1
    exact Runs.if_neg (by simp; omega) (Runs.some (BP.none hs))
  | succ r ih =>
    intro q k i l s h0 hk hr hq hs
    obtain ⟨q, rfl⟩ : ∃ q', q = q' + 1 := ⟨q - 1, by omega⟩
    refine lp_step ?_
    simp only [Sum.elim_inr]
    unfold blockZ_l0_t1
    refine Runs.ite (fun h1 => ?_) fun _ => Runs.some (BP.none hs)
    refine Runs.ite (fun h2 => ?_) fun _ => Runs.some (BP.none hs)
    simp only [decide_eq_true_eq] at h1 h2
    have hn := hs.n
    rw [hn] at h2
    refine Runs.bind (P := SP m y tl e l) (by rw [hx]; exact hst l s hs (by omega)) fun z hz => Runs.some ?_
    obtain ⟨t, t1, t2, t3⟩ := hz
    have ew : w (i + 1) = i + 1 := w_in (by unfold inR; omega)
    show Runs (lpG _ q _) _
    refine Runs.mono (ih q k (w (i + 1)) (l ++ t) z (by omega) hk (by omega) (by omega) t2) fun z' hz' => ?_
    cases z' with
    | inl _ => exact hz'
    | inr z' => exact BP.next t1 t3 hz'
theorem blockA_runs (hy : ∀ j, j < m → inR (y j)) {q e : Nat} (hq : 7 ≤ q) (hst : StA m y tl (made q).1 e) {d : Int} (hd : 0 ≤ d ∧ d ≤ 5) {l : Is} {s : MT} (hs : MS m y tl l s) : Runs ((made (q + 1)).2 (d, (e : Int), s)) (BP m y tl e l) := by
  show Runs (t_blockA (nextA q) (made q).1 (blockA_l0 (nextA q) (made q).1 q (d, (e : Int), s)) (d, (e : Int), s) some) _
  unfold t_blockA
  have ew : w (d + 1) = d + 1 := w_in (by unfold inR; omega)
  refine Runs.bind (next_runs hy hs (by simp only; omega)) fun z hz => ?_
  obtain ⟨g, h⟩ := hz
  simp only at g
  refine Runs.bind (P := BP m y tl e l) ?_ fun z' hz' => Runs.some hz'
  exact loopA_runs rfl hst 6 q z.1 0 l z.2 (by omega) (by omega) (by omega) (by omega) h
theorem levels (hy : ∀ j, j < m → inR (y j)) : ∀ (e : Nat), e ≤ 2 → ∀ q, 10 + 2 * e ≤ q → StA m y tl (made q).1 e := by
  intro e
  induction e with
  | zero =>
    intro _ q hq
    obtain ⟨q, rfl⟩ : ∃ q', q = q' + 1 := ⟨q - 1, by omega⟩
    exact stmtA_runs hy (by omega) (fun h => absurd h (by omega))
  | succ e ih =>
    intro he q hq
    obtain ⟨q, rfl⟩ : ∃ q', q = q' + 1 + 1 := ⟨q - 2, by omega⟩
    refine stmtA_runs hy he fun _ l s hs hl => ?_
    have ew : w (((e + 1 : Nat) : Int) - 1) = (e : Int) := by rw [w_in (by unfold inR; omega)]; omega
    rw [ew]
    exact blockA_runs hy (by omega) (ih (by omega) q (by omega)) (by omega) hs
theorem blk2 (hy : ∀ j, j < m → inR (y j)) {q : Nat} (hq : 14 ≤ q) : Blk m y tl q 2 := by
  intro l s hs hl
  obtain ⟨q, rfl⟩ : ∃ q', q = q' + 1 := ⟨q - 1, by omega⟩
  have ew : w (((2 : Nat) : Int) - 1) = ((1 : Nat) : Int) := by decide
  rw [ew]
  exact blockA_runs hy (by omega) (levels hy 1 (by omega) q (by omega)) (by omega) hs
/-- A block from nothing on. -/
def BZ (m : Nat) (y : Nat → Int) (tl : Bool) (z : g_blockZ) : Prop := Sum.elim (fun z => ∃ s, Seg tl 0 s ∧ MS m y tl s z ∧ s.length ≤ 210) (fun z => ∃ a, z = (m, y, a, tl)) z
theorem blockZ_runs (hy : ∀ j, j < m → inR (y j)) {q : Nat} (hq : 20 ≤ q) (a : Int) : Runs (blockZ q (5, 2, m, y, a, tl)) (BZ m y tl) := by
  show Runs (t_blockZ (nextZ q) (stmtA q) (stmtZ q) (blockZ_l0 (nextZ q) (stmtA q) (stmtZ q) q (5, 2, m, y, a, tl)) (5, 2, m, y, a, tl) some) _
  unfold t_blockZ
  refine Runs.bind (nextZ_runs hy (show (0 : Int) < w (5 + 1) by decide)) fun z hz => ?_
  obtain ⟨g, a', he⟩ := hz
  obtain ⟨v, s⟩ := z
  simp only at he g
  subst he
  have e6 : w ((5 : Int) + 1) = 6 := by decide
  rw [e6] at g
  have hl : Runs (blockZ_l0 (nextZ q) (stmtA q) (stmtZ q) q (5, 2, m, y, a, tl) (.inl (v, m, y, a', tl))) (fun z => Sum.elim (fun z => ∃ a, z = (m, y, a, tl)) (fun z => ∃ s, Seg tl 0 s ∧ MS m y tl s z ∧ s.length ≤ 210) z) := by
    obtain ⟨q, rfl⟩ : ∃ q', q = q' + 1 := ⟨q - 1, by omega⟩
    refine lp_step ?_
    simp only [Sum.elim_inl]
    unfold blockZ_l0_t0
    refine Runs.ite (fun h1 => ?_) fun _ => Runs.some ⟨a', rfl⟩
    refine Runs.bind (stmtZ_runs (e := 2) hy (by omega) (fun _ => blk2 hy (by omega)) a') fun z hz => Runs.some ?_
    obtain ⟨t, t1, t2, t3⟩ := hz
    refine Runs.mono (loopZ_runs (e := 2) (x := (5, 2, m, y, a, tl)) (cS := stmtA (q + 1)) rfl (levels hy 2 (by omega) (q + 1) (by omega)) 6 q v 1 ([] ++ t) z (by omega) (by omega) (by omega) (by omega) t2) fun z' hz' => ?_
    cases z' with
    | inl _ => exact hz'.elim
    | inr z' =>
      obtain ⟨r, r1, r2, r3⟩ := BP.next (l := []) t1 t3 hz'
      exact ⟨r, r1, r2, by simp only [List.nil_append, List.length_nil] at r3; omega⟩
  refine Runs.bind hl fun z hz => ?_
  cases z with
  | inl z => exact Runs.some hz
  | inr z => exact Runs.some hz
end
end Go.Proofs.Ythegipdgillngaa
