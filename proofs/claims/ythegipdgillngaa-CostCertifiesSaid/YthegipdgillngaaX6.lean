/- CostCertifies, CostVerifies. -/
import Derived.Test.YthegipdgillngaaX5
namespace Go.Proofs.Ythegipdgillngaa
open Go Go.Am Go.Proofs
set_option linter.unusedSimpArgs false
set_option linter.unusedVariables false
set_option maxRecDepth 100000
/-! ### What comes in -/
theorem in_ints {v : V} (h : WTV E.P 22 v) : ∃ (n : Nat) (y : Nat → Int), Le v (.ro 1 n (fun j => [i64 (y j)])) ∧ n ≤ Go.maxLen ∧ ∀ j, j < n → inR (y j) := by
  obtain ⟨n, f, rfl, hn, d, h⟩ := h.slice (e := 3) (c := 1) (by kernel_rfl) (by kernel_rfl) (by kernel_rfl) (by omega)
  refine ⟨n, fun j => nthI (f j) 0, Le.ro_eq fun j hj => ?_, hn, fun j hj => ?_⟩
  · obtain ⟨a, hf, _⟩ := wt3 (h j hj)
    exact ⟨by simp only [hf]; rfl, rfl⟩
  · obtain ⟨a, hf, ra⟩ := wt3 (h j hj)
    simp only [hf]; exact ra
theorem in_code {v : V} (h : WTV E.P 25 v) : ∃ (nm : ByteArray) (ps vs : Int) (n : Nat) (op ar : Nat → Int), Le v (.agg [st nm, i64 ps, i64 vs, .ro 2 n (fun j => [i64 (op j), i64 (ar j)])]) ∧ n ≤ Go.maxLen := by
  obtain ⟨d, vs, rfl, g⟩ := h.struct (l := [9, 3, 3, 23]) (by kernel_rfl)
  obtain ⟨d, c1, r1, rfl, g1, c2, r2, rfl, g2, c3, r3, rfl, g3, c4, r4, rfl, g4, rfl⟩ := g.struct (l := [9, 3, 3, 23]) (by kernel_rfl)
  obtain ⟨s, rfl, _⟩ := g1.str (by kernel_rfl)
  obtain ⟨u, rfl, ru⟩ := wt3 g2
  obtain ⟨w, rfl, rw⟩ := wt3 g3
  obtain ⟨n, f, rfl, hn, d, h⟩ := g4.slice (e := 74) (c := 2) (by kernel_rfl) (by kernel_rfl) (by omega)
  refine ⟨s, u, w, n, fun j => nthI (f j) 0, fun j => nthI (f j) 1, Le.agg (LeL.cons (Le.refl _) (LeL.cons (Le.refl _) (LeL.cons (Le.refl _) (LeL.cons (Le.ro_eq fun j hj => ?_) LeL.nil)))), hn⟩
  obtain ⟨d, c1, r1, hf, g1, c2, r2, rfl, g2, rfl⟩ := (h j hj).struct (l := [3, 3]) (by kernel_rfl)
  obtain ⟨a, rfl, _⟩ := wt3 g1
  obtain ⟨b, rfl, _⟩ := wt3 g2
  exact ⟨by simp only [hf]; rfl, rfl⟩
theorem in_rig {v : V} (h : WTV E.P 28 v) : ∃ (k : Nat) (a b c : Nat → Int) (R W : Int), Le v (.agg [.ro 3 k (fun j => [i64 (a j), i64 (b j), i64 (c j)]), i64 R, i64 W]) := by
  obtain ⟨d, vs, rfl, g⟩ := h.struct (l := [26, 3, 3]) (by kernel_rfl)
  obtain ⟨d, c1, r1, rfl, g1, c2, r2, rfl, g2, c3, r3, rfl, g3, rfl⟩ := g.struct (l := [26, 3, 3]) (by kernel_rfl)
  obtain ⟨u, rfl, ru⟩ := wt3 g2
  obtain ⟨w, rfl, rw⟩ := wt3 g3
  obtain ⟨n, f, rfl, hn, d, h⟩ := g1.slice (e := 59) (c := 3) (by kernel_rfl) (by kernel_rfl) (by omega)
  refine ⟨n, fun j => nthI (f j) 0, fun j => nthI (f j) 1, fun j => nthI (f j) 2, u, w, Le.agg (LeL.cons (Le.ro_eq fun j hj => ?_) (LeL.cons (Le.refl _) (LeL.cons (Le.refl _) LeL.nil)))⟩
  obtain ⟨d, c1, r1, hf, g1, c2, r2, rfl, g2, c3, r3, rfl, g3, rfl⟩ := (h j hj).struct (l := [3, 3, 3]) (by kernel_rfl)
  obtain ⟨a, rfl, _⟩ := wt3 g1
  obtain ⟨b, rfl, _⟩ := wt3 g2
  obtain ⟨c, rfl, _⟩ := wt3 g3
  exact ⟨by simp only [hf]; rfl, rfl⟩
theorem in_cert {v : V} (h : WTV E.P 31 v) : ∃ (n : Nat) (x0 x1 x2 x3 x4 x5 : Nat → Int), Le v (.ro 6 n (fun j => [i64 (x0 j), i64 (x1 j), i64 (x2 j), i64 (x3 j), i64 (x4 j), i64 (x5 j)])) ∧ n ≤ Go.maxLen := by
  obtain ⟨n, f, rfl, hn, d, h⟩ := h.slice (e := 45) (c := 6) (by kernel_rfl) (by kernel_rfl) (by kernel_rfl) (by omega)
  refine ⟨n, fun j => nthI (f j) 0, fun j => nthI (f j) 1, fun j => nthI (f j) 2, fun j => nthI (f j) 3, fun j => nthI (f j) 4, fun j => nthI (f j) 5, Le.ro_eq fun j hj => ?_, hn⟩
  obtain ⟨d, c1, r1, hf, g1, c2, r2, rfl, g2, c3, r3, rfl, g3, c4, r4, rfl, g4, c5, r5, rfl, g5, c6, r6, rfl, g6, rfl⟩ := (h j hj).struct (l := [3, 3, 3, 3, 3, 3]) (by kernel_rfl)
  obtain ⟨a, rfl, _⟩ := wt3 g1
  obtain ⟨b, rfl, _⟩ := wt3 g2
  obtain ⟨c, rfl, _⟩ := wt3 g3
  obtain ⟨d', rfl, _⟩ := wt3 g4
  obtain ⟨e, rfl, _⟩ := wt3 g5
  obtain ⟨f', rfl, _⟩ := wt3 g6
  exact ⟨by simp only [hf]; rfl, rfl⟩
/-! ### The code that is made -/
theorem Seg.len {pl : Bool} {i : Nat} {s : Is} (h : Seg pl i s) : True := trivial
/-- What Code makes of numbers. -/
def Made (tl : Bool) (z : g_CodeR) : Prop := ∃ s, Seg tl 0 s ∧ s.length ≤ 210 ∧ z.1 = s.length + 1 ∧ ∀ j, j < z.1 → z.2.1 j = ((s ++ [(28, 0)]).getD j (0, 0)).1 ∧ z.2.2 j = ((s ++ [(28, 0)]).getD j (0, 0)).2
theorem ints_runs {q n : Nat} {y : Nat → Int} (hn : n ≤ Go.maxLen) (hy : ∀ j, j < n → inR (y j)) : Runs (IntsR q (n, y)) (fun z => ∀ j, j < z.1 → inR (z.2 j)) := by
  unfold IntsR Ints t_Ints
  have hm : n ≤ 9223372036854775807 := by simp only [maxLen] at hn; omega
  generalize hk : (if (120 : Int) < ((n : Nat) : Int) then (120 : Int) else ((n : Nat) : Int)) = k
  have hk' : 0 ≤ k ∧ k ≤ n ∧ k ≤ 120 := by subst hk; split <;> omega
  simp only [hk]
  rw [if_pos ⟨Int.le_refl 0, hk'.1, hk'.2.1⟩]
  by_cases h0 : k.toNat - 0 = 0
  · rw [if_pos h0]
    exact ⟨_, rfl, fun j hj => absurd hj (Nat.not_lt_zero j)⟩
  · rw [if_neg h0, if_pos ⟨by simp only [roomBound]; omega, by simp only [maxLen]; omega⟩]
    refine ⟨_, rfl, fun j hj => ?_⟩
    have hj' : j < k.toNat - 0 := hj
    exact hy (0 + j) (by omega)
theorem code_runs {tl : Bool} {n : Nat} {y : Nat → Int} (hn : n ≤ Go.maxLen) (hy : ∀ j, j < n → inR (y j)) {q : Nat} (hq : 20 ≤ q) : Runs (CodeR q (tl, n, y)) (Made tl) := by
  show Runs (t_Code (IntsR q) (blockZ q) (putA q) (putZ q) (tl, n, y) some) _
  unfold t_Code
  refine Runs.bind (ints_runs hn hy) fun z hz => ?_
  obtain ⟨m, y'⟩ := z
  refine Runs.bind (blockZ_runs hz hq 0) fun r hr => ?_
  cases r with
  | inl r =>
    obtain ⟨s, h1, h2, h3⟩ := hr
    refine Runs.bind (put_runs h2 28 0 (by omega)) fun z g => Runs.some ⟨s, h1, h3, ?_, ?_⟩
    · have := g.2.n; simpa using this
    · intro j hj
      have := g.2.n
      refine g.2.row j ?_
      rw [← this]; exact hj
  | inr r =>
    obtain ⟨a, rfl⟩ := hr
    show Runs ((putZ q (28, 0, m, y', a, tl)).bind fun z => some (1, z.2.2.2.2)) _
    refine Runs.bind (putZ_runs (m := m) (y := y') (tl := tl) (q := q) 28 0 a) fun z g => Runs.some ⟨[], .nil _, by simp, rfl, ?_⟩
    intro j hj
    exact g.row j (by simpa using hj)
/-! ### Certificates changed -/
theorem around_runs {q : Nat} {a m : Int} (ha : inR a) (hm : 0 < m) : Runs (Around q (a, m)) (fun v => 0 ≤ v ∧ v < m) := by
  unfold Around t_Around
  have h := around_in ha hm
  unfold around at h
  have hm0 : ¬ m = 0 := by omega
  refine Runs.ite (fun h1 => Runs.if_neg hm0 (Runs.some ?_)) fun h1 => Runs.if_neg hm0 (Runs.some ?_)
  · rw [_root_.if_pos (by simpa using h1)] at h; exact h
  · rw [_root_.if_neg (by simpa using h1)] at h; exact h
theorem bound_runs {q : Nat} {a : Int} (ha : inR a) : Runs (Bound q (a, 1000)) (fun _ => True) := by
  unfold Bound t_Bound
  exact Runs.bind (around_runs ha (show (0 : Int) < w (w (2 * 1000) + 1) by decide)) fun z hz => Runs.some trivial
theorem toNat_lt' {k : Int} {n : Nat} (h : 0 ≤ k ∧ k < n) : 0 + k.toNat < n := by omega
theorem changed_loop {x : a_changed} (hx : 0 < x.1 ∧ x.1 ≤ 300) (hn : x.2.2.2.2.2.2.2.1 ≤ Go.maxLen) (hy : ∀ j, j < x.2.2.2.2.2.2.2.1 → inR (x.2.2.2.2.2.2.2.2 j)) {q' : Nat} : ∀ (r q : Nat) (y : changed_l0_1_a), 0 ≤ y.1 → 30 ≤ y.1 + 3 * r → r < q → Runs (changed_l0_1 (Around q') (Bound q') q x y) (fun _ => True) := by
  have hm : x.2.2.2.2.2.2.2.1 ≤ 9223372036854775807 := by simp only [maxLen] at hn; omega
  intro r
  induction r with
  | zero =>
    intro q y h0 hr hq
    obtain ⟨q, rfl⟩ : ∃ k, q = k + 1 := ⟨q - 1, by omega⟩
    refine lp_step ?_
    unfold changed_l0_1_t
    refine Runs.ite (fun h1 => ?_) fun _ => Runs.some trivial
    exact Runs.if_neg (by simp; omega) (Runs.some trivial)
  | succ r ih =>
    intro q y h0 hr hq
    obtain ⟨q, rfl⟩ : ∃ k, q = k + 1 := ⟨q - 1, by omega⟩
    refine lp_step ?_
    unfold changed_l0_1_t
    refine Runs.ite (fun h1 => ?_) fun _ => Runs.some trivial
    refine Runs.ite (fun h2 => ?_) fun _ => Runs.some trivial
    refine Runs.ite (fun h3 => ?_) fun _ => Runs.some trivial
    simp only [decide_eq_true_eq] at h1 h2 h3
    have e2 : w (y.1 + 2) = y.1 + 2 := w_in (by unfold inR; omega)
    have e1 : w (y.1 + 1) = y.1 + 1 := w_in (by unfold inR; omega)
    have e3 : w (y.1 + 3) = y.1 + 3 := w_in (by unfold inR; omega)
    rw [e2] at h1
    refine Runs.if_pos ⟨h0, by omega⟩ ?_
    refine Runs.bind (around_runs (hy _ (by omega)) (by omega)) fun k hk => ?_
    refine Runs.if_pos (by rw [e2]; omega) ?_
    refine Runs.bind (bound_runs (hy _ (by rw [e2]; omega))) fun v _ => ?_
    refine Runs.if_pos (by rw [e1]; omega) ?_
    refine Runs.bind (around_runs (hy _ (by rw [e1]; omega)) (by omega)) fun u hu => ?_
    have fin : ∀ y' : changed_l0_1_a, y'.1 = w (y.1 + 3) → Runs (lpG (fun y => changed_l0_1_t (Around q') (Bound q') x y (fun y => some (.inl y)) (fun z => some (.inr z))) q y') (fun _ => True) := fun y' h => ih q y' (by rw [h, e3]; omega) (by rw [h, e3]; omega) (by omega)
    have c1 : (0 : Int) ≤ k ∧ k < ((x.1 : Nat) : Int) := hk
    have c2 : 0 + Int.toNat k < x.1 ∧ 6 = 6 := ⟨toNat_lt' hk, rfl⟩
    repeat' first
      | exact Runs.some (fin _ rfl)
      | refine Runs.if_pos c1 ?_
      | refine Runs.if_pos c2 ?_
      | refine Runs.ite (fun _ => ?_) fun _ => ?_
theorem changed_runs {x : a_changed} (hx : x.1 ≤ 300) (hn : x.2.2.2.2.2.2.2.1 ≤ Go.maxLen) (hy : ∀ j, j < x.2.2.2.2.2.2.2.1 → inR (x.2.2.2.2.2.2.2.2 j)) {q : Nat} (hq : 20 ≤ q) : Runs (changedR q x) (fun z => z.1 = x.1) := by
  have key : Runs (changed q x) (fun z => Sum.elim (fun _ => x.1 = 0) (fun z => z.1 = x.1) z) := by
    unfold changed t_changed
    refine Runs.ite (fun h => ?_) fun h => Runs.if_pos ⟨by simp only [roomBound]; omega, by simp only [maxLen]; omega⟩ ?_
    · refine Runs.bind (P := fun _ => True) ?_ fun z _ => Runs.some h
      obtain ⟨q, rfl⟩ : ∃ k, q = k + 1 := ⟨q - 1, by omega⟩
      refine lp_step ?_
      unfold changed_l0_t
      exact Runs.ite (fun _ => Runs.some trivial) fun _ => Runs.some trivial
    · exact Runs.bind (changed_loop ⟨by omega, hx⟩ hn hy 10 q _ (Int.le_refl 0) (by simp) (by omega)) fun z _ => Runs.some rfl
  obtain ⟨z, h1, h2⟩ := key
  unfold changedR
  rw [h1]
  cases z with
  | inl z => exact ⟨_, rfl, h2.symm⟩
  | inr z => exact ⟨_, rfl, h2⟩
/-! ### The laws -/
theorem made_len {tl : Bool} {z : g_CodeR} (h : Made tl z) : z.1 ≤ Go.maxLen := by
  obtain ⟨s, _, h2, h3, _⟩ := h
  simp only [maxLen]; omega
theorem cert_some {q : Nat} {x : a_Cert} (h : x.2.2.2.1 ≤ Go.maxLen) : Cert q x = some (certO x) := if_pos h
theorem rcert_some {q : Nat} {x : a_RCert} (h : x.2.2.2.1 ≤ Go.maxLen) : RCert q x = some (certO x) := if_pos h
theorem cver_some {q : Nat} {x : a_CVer} (h : x.2.2.2.1 ≤ Go.maxLen) : CVer q x = some (cverO x) := if_pos h
theorem rcver_some {q : Nat} {x : a_RCVer} (h : x.2.2.2.1 ≤ Go.maxLen) : RCVer q x = some (cverO x) := if_pos h
theorem certN_le {ps vs : Int} {n : Nat} {op arg : Nat → Int} {k : Nat} {a b c : Nat → Int} {R W : Int} : certN ps vs n op arg k a b c R W ≤ 300 := by
  unfold certN
  split
  · rename_i h; exact (fit_of h).n3
  · omega
theorem certO_le (x : aCert) : (certO x).2.1 ≤ 300 := certN_le
theorem same_some {q : Nat} {x : a_Same} (h : (x.1, x.2.1, x.2.2.1, x.2.2.2.1, x.2.2.2.2.1, x.2.2.2.2.2.1, x.2.2.2.2.2.2.1) = x.2.2.2.2.2.2.2) (hn : x.1 ≤ 300) : Same q x = some true := if_pos ⟨h, by simp only [maxLen]; omega⟩
theorem law3_true (x : a_law3) (h1 : x.1 ≤ Go.maxLen) (h2 : ∀ j, j < x.1 → inR (x.2.1 j)) (h3 : x.2.2.1 ≤ Go.maxLen) (h4 : x.2.2.2.2.2.2.2.1 ≤ Go.maxLen) : law3 20 x = some true := by
  obtain ⟨z, hz, hm⟩ := code_runs (tl := false) h1 h2 (q := 20) (by omega)
  have hn := made_len hm
  unfold law3 t_law3
  rw [hz]
  simp only [Option.bind_some, Rig, Cert, RCert, if_pos h3, if_pos hn, if_pos h4]
  rw [same_some rfl (certO_le _)]
  simp only [Option.bind_some, if_true, beq_self_eq_true]
  rw [same_some rfl (certO_le _)]
  simp only [Option.bind_some, if_true, beq_self_eq_true]
  rw [same_some rfl (certO_le _)]
  simp only [Option.bind_some, if_true, beq_self_eq_true]
  rfl
theorem law4_true (x : a_law4) (h1 : x.1 ≤ Go.maxLen) (h2 : ∀ j, j < x.1 → inR (x.2.1 j)) (h3 : x.2.2.1 ≤ Go.maxLen) (h5 : x.2.2.2.2.2.2.2.2.2.2.2.1 ≤ Go.maxLen) (h6 : ∀ j, j < x.2.2.2.2.2.2.2.2.2.2.2.1 → inR (x.2.2.2.2.2.2.2.2.2.2.2.2 j)) : law4 20 x = some true := by
  obtain ⟨z, hz, hm⟩ := code_runs (tl := false) h1 h2 (q := 20) (by omega)
  have hn := made_len hm
  unfold law4 t_law4
  rw [hz]
  simp only [Option.bind_some, Rig, RCert, CVer, RCVer, if_pos h3, if_pos hn, beq_self_eq_true, if_true]
  obtain ⟨u, hu, _⟩ := changed_runs (q := 20) (x := ((certO (pName, 0, 0, z.1, z.2.1, z.2.2, dn x.2.2.1, dA x.2.2.2.1, dB x.2.2.2.1, dC x.2.2.2.1, w (1 + pick x.2.2.1 x.2.2.2.1 0 360), pick x.2.2.1 x.2.2.2.1 1 1001)).2.1, (certO (pName, 0, 0, z.1, z.2.1, z.2.2, dn x.2.2.1, dA x.2.2.2.1, dB x.2.2.2.1, dC x.2.2.2.1, w (1 + pick x.2.2.1 x.2.2.2.1 0 360), pick x.2.2.1 x.2.2.2.1 1 1001)).2.2.1, (certO (pName, 0, 0, z.1, z.2.1, z.2.2, dn x.2.2.1, dA x.2.2.2.1, dB x.2.2.2.1, dC x.2.2.2.1, w (1 + pick x.2.2.1 x.2.2.2.1 0 360), pick x.2.2.1 x.2.2.2.1 1 1001)).2.2.2.1, (certO (pName, 0, 0, z.1, z.2.1, z.2.2, dn x.2.2.1, dA x.2.2.2.1, dB x.2.2.2.1, dC x.2.2.2.1, w (1 + pick x.2.2.1 x.2.2.2.1 0 360), pick x.2.2.1 x.2.2.2.1 1 1001)).2.2.2.2.1, (certO (pName, 0, 0, z.1, z.2.1, z.2.2, dn x.2.2.1, dA x.2.2.2.1, dB x.2.2.2.1, dC x.2.2.2.1, w (1 + pick x.2.2.1 x.2.2.2.1 0 360), pick x.2.2.1 x.2.2.2.1 1 1001)).2.2.2.2.2.1, (certO (pName, 0, 0, z.1, z.2.1, z.2.2, dn x.2.2.1, dA x.2.2.2.1, dB x.2.2.2.1, dC x.2.2.2.1, w (1 + pick x.2.2.1 x.2.2.2.1 0 360), pick x.2.2.1 x.2.2.2.1 1 1001)).2.2.2.2.2.2.1, (certO (pName, 0, 0, z.1, z.2.1, z.2.2, dn x.2.2.1, dA x.2.2.2.1, dB x.2.2.2.1, dC x.2.2.2.1, w (1 + pick x.2.2.1 x.2.2.2.1 0 360), pick x.2.2.1 x.2.2.2.1 1 1001)).2.2.2.2.2.2.2, x.2.2.2.2.2.2.2.2.2.2.2.1, x.2.2.2.2.2.2.2.2.2.2.2.2)) (certO_le _) h5 h6 (by omega)
  rw [hu]
  simp only [Option.bind_some, beq_self_eq_true, if_true]
  rfl
theorem toE {f : FuncId} {args : List V} {cr : CRes} (h : SC E3 f args [] cr) : SC E f args [] cr := sc2.1 (sc3.1 h)
theorem costCertifies (v0 v1 v2 v3 : V) (h0 : WTV E.P 22 v0) (h1 : WTV E.P 22 v1) (h2 : WTV E.P 25 v2) (h3 : WTV E.P 28 v3) : ∃ l', LeL [v0, v1, v2, v3] l' ∧ SC E 3 l' [] (.ret (bo true) []) := by
  obtain ⟨n, y, l0, b0, c0⟩ := in_ints h0
  obtain ⟨n1, y1, l1, b1, c1⟩ := in_ints h1
  obtain ⟨nm, ps, vs, n2, op, ar, l2, b2⟩ := in_code h2
  obtain ⟨k, a, b, c, R, W, l3⟩ := in_rig h3
  refine ⟨_, LeL.cons l0 (LeL.cons l1 (LeL.cons l2 (LeL.cons l3 LeL.nil))), ?_⟩
  exact toE (sc_law3 20 (n, y, n1, y1, nm, ps, vs, n2, op, ar, k, a, b, c, R, W) true (law3_true _ b0 c0 b1 b2))
theorem costVerifies (v0 v1 v2 v3 : V) (h0 : WTV E.P 22 v0) (h1 : WTV E.P 22 v1) (h2 : WTV E.P 31 v2) (h3 : WTV E.P 22 v3) : ∃ l', LeL [v0, v1, v2, v3] l' ∧ SC E 4 l' [] (.ret (bo true) []) := by
  obtain ⟨n, y, l0, b0, c0⟩ := in_ints h0
  obtain ⟨n1, y1, l1, b1, c1⟩ := in_ints h1
  obtain ⟨n2, x0, x1, x2, x3, x4, x5, l2, b2⟩ := in_cert h2
  obtain ⟨n3, y3, l3, b3, c3⟩ := in_ints h3
  refine ⟨_, LeL.cons l0 (LeL.cons l1 (LeL.cons l2 (LeL.cons l3 LeL.nil))), ?_⟩
  exact toE (sc_law4 20 (n, y, n1, y1, n2, x0, x1, x2, x3, x4, x5, n3, y3) true (law4_true _ b0 c0 b1 b3 c3))
end Go.Proofs.Ythegipdgillngaa
