/- Texts joined. -/
import Derived.Test.YthegipdgillngaaQF
/- CostMonotone. -/
namespace Go.Proofs.Ythegipdgillngaa
open Go Go.Am Go.Proofs
set_option linter.unusedSimpArgs false
set_option linter.unusedVariables false
set_option maxRecDepth 100000
theorem chk_two {n : Nat} {op ar : Nat → Int} {k : Nat} {a b c a' b' c' : Nat → Int} {R W R' W' : Int} (h1 : rigP k a b c R W) (h2 : rigP k a' b' c' R' W') : chkV 0 0 n op ar k a b c R W = chkV 0 0 n op ar k a' b' c' R' W' := by
  have e : suiD n op ar k a b c R W = suiD n op ar k a' b' c' R' W' := by
    rw [Bool.eq_iff_iff, suiD_iff, suiD_iff]
    exact ⟨fun g => ⟨h2, g.2⟩, fun g => ⟨h1, g.2⟩⟩
  unfold chkV
  rw [e]
theorem made_rig {n : Nat} {y : Nat → Int} (hy : ∀ j, j < n → inR (y j)) : rigP (dn n) (dA y) (dB y) (dC y) (w (1 + pick n y 0 360)) (pick n y 1 1001) ∧ pick n y 1 1001 ≤ 1000 ∧ ∀ j, j < dn n → dA y j ≤ 1000 ∧ dB y j ≤ 1000 := by
  have p0 := pick_in hy 0 (m := 360) (by decide)
  have p1 := pick_in hy 1 (m := 1001) (by decide)
  have e : w (1 + pick n y 0 360) = 1 + pick n y 0 360 := w_in (by unfold inR; omega)
  rw [e]
  have key : ∀ j, j < dn n → (0 ≤ dA y j ∧ dA y j ≤ 1000) ∧ (0 ≤ dB y j ∧ dB y j ≤ 1000) ∧ (0 ≤ dC y j ∧ dC y j ≤ 7) := fun j hj => by
    unfold dn at hj
    have h1 := around_in (hy (3 * j + 2) (by omega)) (m := 1001) (by decide)
    have h2 := around_in (hy (3 * j + 3) (by omega)) (m := 1001) (by decide)
    have h3 := around_in (hy (3 * j + 4) (by omega)) (m := 8) (by decide)
    unfold dA dB dC
    exact ⟨⟨by omega, by omega⟩, ⟨by omega, by omega⟩, ⟨by omega, by omega⟩⟩
  refine ⟨⟨⟨by unfold dn; omega, by omega, by omega, by omega, by omega⟩, fun j _ hj => ?_⟩, by omega, fun j hj => ⟨(key j hj).1.2, (key j hj).2.1.2⟩⟩
  have := key j hj
  omega
theorem ceil_mono {R R' : Int} (h1 : 1 ≤ R') (h2 : R' ≤ R) (h3 : R ≤ 360) : w (Int.tdiv (w (w (360 + R) - 1)) R) ≤ w (Int.tdiv (w (w (360 + R') - 1)) R') := by
  have bound : ∀ R : Int, 1 ≤ R → R ≤ 360 → w (Int.tdiv (w (w (360 + R) - 1)) R) = (359 + R) / R ∧ 1 ≤ (359 + R) / R ∧ (359 + R) / R * R ≤ 359 + R := by
    intro R h1 h2
    have e1 : w (w (360 + R) - 1) = 359 + R := by rw [w_in (n := 360 + R) (by unfold inR; omega), w_in (by unfold inR; omega)]; omega
    rw [e1, Int.tdiv_eq_ediv_of_nonneg (by omega)]
    have g1 : (359 + R) / R * R ≤ 359 + R := Int.ediv_mul_le _ (by omega)
    have g2 : 1 ≤ (359 + R) / R := by rw [Int.le_ediv_iff_mul_le (by omega)]; omega
    have g3 : (359 + R) / R ≤ 359 + R := Int.ediv_le_self _ (by omega)
    exact ⟨w_in (by unfold inR; omega), g2, g1⟩
  obtain ⟨e1, g1, g2⟩ := bound R (by omega) h3
  obtain ⟨e2, g3, g4⟩ := bound R' h1 (by omega)
  rw [e1, e2, Int.le_ediv_iff_mul_le (by omega)]
  generalize (359 + R) / R = q at *
  have m1 := Int.mul_le_mul_of_nonneg_left h2 (show 0 ≤ q - 1 by omega)
  rw [Int.sub_mul, Int.sub_mul, Int.one_mul, Int.one_mul] at m1
  omega
theorem trn_mono {R W R' W' : Int} (h1 : 1 ≤ R') (h2 : R' ≤ R) (h3 : R ≤ 360) (h4 : 0 ≤ W) (h5 : W ≤ W') (h6 : W' ≤ 1000000) : trn R W ≤ trn R' W' := by
  have c1 := ceil_le (R := R) (by omega) h3
  have c2 := ceil_le (R := R') h1 (by omega)
  have cm := ceil_mono h1 h2 h3
  unfold trn
  generalize w (Int.tdiv (w (w (360 + R) - 1)) R) = q at *
  generalize w (Int.tdiv (w (w (360 + R') - 1)) R') = q' at *
  have a1 : W * q ≤ W' * q' := Int.mul_le_mul h5 cm c1.1 (by omega)
  have a0 : 0 ≤ W * q := Int.mul_nonneg h4 c1.1
  have a2 : W' * q' ≤ 1000000 * 719 := Int.mul_le_mul h6 c2.2 c2.1 (by omega)
  rw [w_in (by unfold inR; omega), w_in (by unfold inR; omega)]
  exact a1
theorem l6_le {a b c d e f a' b' c' d' e' f' : Int} (h : a ≤ a' ∧ b ≤ b' ∧ c ≤ c' ∧ d ≤ d' ∧ e ≤ e' ∧ f ≤ f') {q : Nat} (hq : q < 6) : l6 a b c d e f q ≤ l6 a' b' c' d' e' f' q := by
  obtain ⟨h1, h2, h3, h4, h5, h6⟩ := h
  have : q = 0 ∨ q = 1 ∨ q = 2 ∨ q = 3 ∨ q = 4 ∨ q = 5 := by omega
  rcases this with rfl | rfl | rfl | rfl | rfl | rfl <;> assumption
section
variable {n : Nat} {op ar : Nat → Int} {k : Nat} {a b c a' b' c' : Nat → Int} {R W R' W' : Int}
/-- The second rig uses at least as much. -/
structure More (k : Nat) (a b : Nat → Int) (R W : Int) (a' b' : Nat → Int) (R' W' : Int) : Prop where
  dev : ∀ j, j < k → a j ≤ a' j ∧ b j ≤ b' j
  rate : 1 ≤ R' ∧ R' ≤ R
  wheel : W ≤ W'
theorem own_le (h : Fit 0 n op ar k a b c R W) (h' : Fit 0 n op ar k a' b' c' R' W') (hm : More k a b R W a' b' R' W') {i : Nat} (hi : i < n) {q : Nat} (hq : q < 6) : owE a b R W (op i) (ar i) q ≤ owE a' b' R' W' (op i) (ar i) q := by
  have hr := h.rig.1
  have hr' := h'.rig.1
  have ha := h.opnd hi
  unfold owE
  by_cases h18 : op i = 18 ∨ op i = 19
  · simp only [if_pos h18]; exact Int.le_refl _
  simp only [if_neg h18]
  by_cases h22 : op i = 22
  · simp only [if_pos h22]
    exact l6_le ⟨trn_mono hm.rate.1 hm.rate.2 hr.2.2.1 hr.2.2.2.1 hm.wheel hr'.2.2.2.2, Int.le_refl _, Int.le_refl _, Int.le_refl _, Int.le_refl _, Int.le_refl _⟩ hq
  simp only [if_neg h22]
  by_cases h23 : op i = 23
  · simp only [if_pos h23]
    have hw := h.work hi h23
    unfold Cv.rngL Cv.rngH at ha
    rw [h23] at ha
    simp at ha
    have ht : 0 ≤ Int.tmod (ar i) 1000000 ∧ Int.tmod (ar i) 1000000 ≤ 1000000 := by
      rw [Int.tmod_eq_emod_of_nonneg ha.1]; omega
    have hj : Int.toNat (w (Int.tdiv (ar i) 1000000)) < k := by omega
    have d1 := h.rig.2 _ (Nat.zero_le _) hj
    have d2 := h'.rig.2 _ (Nat.zero_le _) hj
    have dm := hm.dev _ hj
    exact l6_le ⟨tmE_mono ⟨d1.1.1, by omega⟩ ⟨d2.1.1, by omega⟩ ht dm.1, tmE_mono ⟨d1.2.1.1, by omega⟩ ⟨d2.2.1.1, by omega⟩ ht dm.2, Int.le_refl _, Int.le_refl _, Int.le_refl _, Int.le_refl _⟩ hq
  simp only [if_neg h23]
  exact Int.le_refl _
theorem nd_le (h : Fit 0 n op ar k a b c R W) (h' : Fit 0 n op ar k a' b' c' R' W') (hm : More k a b R W a' b' R' W') {i : Nat} (hi : i < n) {x : Nat → Nat → Int} (hx : rowsIn n i x) {q : Nat} (hq : q < 6) : ndF (mkC 0 n op ar) a b R W x i q ≤ ndF (mkC 0 n op ar) a' b' R' W' x i q := by
  unfold ndF
  have eo : (mkC 0 n op ar).op i = op i := rfl
  have ea : (mkC 0 n op ar).arg i = ar i := rfl
  rw [eo, ea]
  by_cases h0 : op i = 28 ∨ op i = 27 ∨ op i = 17
  · simp only [if_pos h0]; exact Int.le_refl _
  simp only [if_neg h0]
  have hs := h.stop hi (fun g => h0 (.inl g))
  by_cases h14 : op i = 14
  · simp only [if_pos h14]; exact Int.le_refl _
  simp only [if_neg h14]
  by_cases h15 : op i = 15
  · simp only [if_pos h15]; exact Int.le_refl _
  simp only [if_neg h15]
  by_cases h16 : op i = 16
  · simp only [if_pos h16]; exact Int.le_refl _
  simp only [if_neg h16, nthI_rc x _ hq]
  exact addE_mono (own_in h hi hq) (hx _ (by omega) hs q hq) (own_in h' hi hq) (hx _ (by omega) hs q hq) (own_le h h' hm hi hq) (Int.le_refl _)
/-- The certificate for the second rig is accepted for the first. -/
theorem more_ok (h : Fit 0 n op ar k a b c R W) (h' : Fit 0 n op ar k a' b' c' R' W') (hm : More k a b R W a' b' R' W') : okC 0 n op ar a b R W (certF 0 n op ar a' b' R' W') := by
  have hr := cert_rows h' n 0 (by omega)
  refine ⟨fun j _ hj => rng6_of.2 fun q hq => hr j (Nat.zero_le _) hj q hq, fun j _ hj => wit6_of.2 fun q hq => ?_⟩
  rw [cert_fix h' hj hq]
  exact nd_le h h' hm hj (fun l l1 l2 q hq => hr l (Nat.zero_le _) l2 q hq) hq
end
def DevOk (a b c a' b' c' : Nat → Int) (j : Nat) : Prop := (a j ≤ a' j ∧ a' j ≤ a j + 50) ∧ (b j ≤ b' j ∧ b' j ≤ b j + 50) ∧ c' j = c j
section
variable {n : Nat} {op ar : Nat → Int} {k : Nat} {a b c : Nat → Int} {R W R' W' : Int} {l : Nat} {ly : Nat → Int} {g : Nat} {gy : Nat → Int} {m : Nat} {y : Nat → Int}
theorem dev_w {u v : Int} (hu : 0 ≤ u ∧ u ≤ 1000000) (hv : 0 ≤ v ∧ v < 50) : u ≤ w (u + v) ∧ w (u + v) ≤ u + 50 := by
  rw [w_in (by unfold inR; omega)]; omega
theorem l0_t1 (hy : ∀ j, j < m → inR (y j)) (hr : rigP k a b c R W) (q' : Nat) {len : Nat} {a' b' c' : Nat → Int} (h1 : 1 ≤ len) (h2 : len ≤ k) (hd : ∀ j, j < len → DevOk a b c a' b' c' j) {P : law10_l0_a ⊕ law10_l0_g → Prop}
    (hnx : len < k → ∀ a' b' c', (∀ j, j < len + 1 → DevOk a b c a' b' c' j) → P (.inl (.inr (n, op, ar, k, a, b, c, R, W, R', W', a', b', c', ((len + 1 : Nat) : Int), len + 1)))) (hdn : len = k → P (.inr (.inr (n, op, ar, k, a, b, c, R, W, k, R', W', a', b', c')))) :
    Runs (law10_l0_t1 (CodeR q') (Rig q') (Pick q') (CertRow q') (CertNil q') (Cert q') (Within q') (CVer q') (lives q') (l, ly, g, gy, m, y) (n, op, ar, k, a, b, c, R, W, R', W', a', b', c', (len : Int), len) (fun y => some (.inl y)) (fun z => some (.inr z))) P := by
  have hk := hr.1.1
  unfold law10_l0_t1
  dsimp only
  refine Runs.ite (fun hc => ?_) fun hc => ?_
  · simp only [decide_eq_true_eq] at hc
    refine Runs.if_pos ⟨by omega, hc⟩ ?_
    refine Runs.bind (pick_runs hy _ (by decide)) fun u hu => Runs.bind (pick_runs hy _ (by decide)) fun v hv => ?_
    refine Runs.if_pos ⟨by simp only [roomBound]; omega, by simp only [maxLen]; omega, Nat.le_refl _⟩ (Runs.some ?_)
    have e : w ((len : Int) + 1) = ((len + 1 : Nat) : Int) := by rw [w_in (by unfold inR; omega)]; omega
    have d := hr.2 len (Nat.zero_le _) (by omega)
    rw [e, Int.toNat_natCast]
    refine hnx (by omega) _ _ _ fun j hj => ?_
    unfold DevOk
    by_cases hjl : j < len
    · simp only [if_pos hjl]; exact hd j hjl
    · have : j = len := by omega
      subst this
      simp only [if_neg hjl]
      exact ⟨dev_w d.1 hu, dev_w d.2.1 hv, by first | trivial | rfl⟩
  · simp only [decide_eq_true_eq] at hc
    have e : len = k := by omega
    subst e
    exact Runs.some (hdn rfl)
theorem l0_loop (hy : ∀ j, j < m → inR (y j)) (hr : rigP k a b c R W) (q' : Nat) : ∀ (r q len : Nat) (a' b' c' : Nat → Int), 1 ≤ len → len + r = k → r < q → (∀ j, j < len → DevOk a b c a' b' c' j) →
    Runs (law10_l0 (CodeR q') (Rig q') (Pick q') (CertRow q') (CertNil q') (Cert q') (Within q') (CVer q') (lives q') q (l, ly, g, gy, m, y) (.inr (n, op, ar, k, a, b, c, R, W, R', W', a', b', c', (len : Int), len))) (fun z => ∃ a' b' c', z = .inr (n, op, ar, k, a, b, c, R, W, k, R', W', a', b', c') ∧ ∀ j, j < k → DevOk a b c a' b' c' j) := by
  intro r
  induction r with
  | zero =>
    intro q len a' b' c' h1 h2 hq hd
    obtain ⟨q, rfl⟩ : ∃ k, q = k + 1 := ⟨q - 1, by omega⟩
    refine lp_step (l0_t1 hy hr q' h1 (by omega) hd (fun hl => by omega) fun he => ⟨a', b', c', rfl, fun j hj => hd j (by omega)⟩)
  | succ r ih =>
    intro q len a' b' c' h1 h2 hq hd
    obtain ⟨q, rfl⟩ : ∃ k, q = k + 1 := ⟨q - 1, by omega⟩
    refine lp_step (l0_t1 hy hr q' h1 (by omega) hd (fun hl a' b' c' hd' => ih q (len + 1) a' b' c' (by omega) (by omega) (by omega) hd') fun he => by omega)
theorem l0_t0 (hy : ∀ j, j < m → inR (y j)) (hr : rigP k a b c R W) (q' : Nat) {P : law10_l0_a ⊕ law10_l0_g → Prop}
    (hnx : 0 < k → ∀ a' b' c', (∀ j, j < 1 → DevOk a b c a' b' c' j) → P (.inl (.inr (n, op, ar, k, a, b, c, R, W, R', W', a', b', c', ((1 : Nat) : Int), 1)))) (hdn : k = 0 → P (.inr (.inl (n, op, ar, k, a, b, c, R, W, R', W')))) :
    Runs (law10_l0_t0 (CodeR q') (Rig q') (Pick q') (CertRow q') (CertNil q') (Cert q') (Within q') (CVer q') (lives q') (l, ly, g, gy, m, y) (n, op, ar, k, a, b, c, R, W, R', W') (fun y => some (.inl y)) (fun z => some (.inr z))) P := by
  unfold law10_l0_t0
  dsimp only
  refine Runs.ite (fun hc => ?_) fun hc => ?_
  · simp only [decide_eq_true_eq] at hc
    refine Runs.if_pos ⟨by omega, hc⟩ ?_
    refine Runs.bind (pick_runs hy _ (by decide)) fun u hu => Runs.bind (pick_runs hy _ (by decide)) fun v hv => Runs.some ?_
    have d := hr.2 0 (Nat.zero_le _) (by omega)
    refine hnx (by omega) _ _ _ fun j hj => ?_
    have : j = 0 := by omega
    subst this
    exact ⟨dev_w d.1 hu, dev_w d.2.1 hv, rfl⟩
  · simp only [decide_eq_true_eq] at hc
    exact Runs.some (hdn (by omega))
theorem l0_runs (hy : ∀ j, j < m → inR (y j)) (hr : rigP k a b c R W) (q' q : Nat) (hq : 20 < q) :
    Runs (law10_l0 (CodeR q') (Rig q') (Pick q') (CertRow q') (CertNil q') (Cert q') (Within q') (CVer q') (lives q') q (l, ly, g, gy, m, y) (.inl (n, op, ar, k, a, b, c, R, W, R', W'))) (fun z => (k = 0 ∧ z = .inl (n, op, ar, k, a, b, c, R, W, R', W')) ∨ ∃ a' b' c', z = .inr (n, op, ar, k, a, b, c, R, W, k, R', W', a', b', c') ∧ ∀ j, j < k → DevOk a b c a' b' c' j) := by
  obtain ⟨q, rfl⟩ : ∃ k, q = k + 1 := ⟨q - 1, by omega⟩
  have hk := hr.1.1
  exact lp_step (l0_t0 hy hr q' (fun h0 a' b' c' hd => (l0_loop hy hr q' (k - 1) q 1 a' b' c' (Nat.le_refl _) (by omega) (by omega) hd).mono fun z hz => .inr hz) fun h0 => .inl ⟨h0, rfl⟩)
end
section
variable {x : a_law10} {q' : Nat} {n : Nat} {op ar : Nat → Int} {k : Nat} {a b c : Nat → Int} {R W : Int} {t : Nat} {a0 a1 a2 a3 a4 a5 b0 b1 b2 b3 b4 b5 : Nat → Int}
theorem l2_runs (h3 : t ≤ 300) (hw : ∀ j, j < t → a0 j ≤ b0 j ∧ a1 j ≤ b1 j ∧ a2 j ≤ b2 j ∧ a3 j ≤ b3 j ∧ a4 j ≤ b4 j ∧ a5 j ≤ b5 j) : ∀ (r q i : Nat), i + r = t → r < q →
    Runs (law10_l2 (CodeR q') (Rig q') (Pick q') (CertRow q') (CertNil q') (Cert q') (Within q') (CVer q') (lives q') q x (t, a0, a1, a2, a3, a4, a5, t, b0, b1, b2, b3, b4, b5, n, op, ar, k, a, b, c, R, W, (i : Int))) (fun z => z = .inr (t, b0, b1, b2, b3, b4, b5, n, op, ar, k, a, b, c, R, W)) := by
  intro r
  induction r with
  | zero =>
    intro q i hi hq
    obtain ⟨q, rfl⟩ : ∃ k, q = k + 1 := ⟨q - 1, by omega⟩
    refine lp_step ?_
    unfold law10_l2_t
    exact Runs.if_neg (by simp; omega) (Runs.some rfl)
  | succ r ih =>
    intro q i hi hq
    obtain ⟨q, rfl⟩ : ∃ k, q = k + 1 := ⟨q - 1, by omega⟩
    refine lp_step ?_
    unfold law10_l2_t
    obtain ⟨w0, w1, w2, w3, w4, w5⟩ := hw i (by omega)
    have ew : w ((i : Int) + 1) = ((i + 1 : Nat) : Int) := by rw [w_in (by unfold inR; omega)]; omega
    dsimp only
    rw [Int.toNat_natCast]
    refine Runs.if_pos (by simp only [decide_eq_true_eq]; omega) (Runs.if_pos (by omega) (Runs.if_pos (by omega) ?_))
    refine Runs.bind (P := fun z => z = true) ⟨true, within_true w0 w1 w2 w3 w4 w5, rfl⟩ fun z hz => ?_
    subst hz
    refine Runs.if_neg (by decide) (Runs.some ?_)
    rw [ew]
    exact ih q (i + 1) (by omega) (by omega)
theorem l22_runs (h3 : t ≤ 300) (hw : ∀ j, j < t → a0 j ≤ b0 j ∧ a1 j ≤ b1 j ∧ a2 j ≤ b2 j ∧ a3 j ≤ b3 j ∧ a4 j ≤ b4 j ∧ a5 j ≤ b5 j) : ∀ (r q i : Nat), i + r = t → r < q →
    Runs (law10_l2_2 (CodeR q') (Rig q') (Pick q') (CertRow q') (CertNil q') (Cert q') (Within q') (CVer q') (lives q') q x (t, a0, a1, a2, a3, a4, a5, t, n, op, ar, k, a, b, c, R, W, b0, b1, b2, b3, b4, b5, (i : Int))) (fun z => z = .inr (t, n, op, ar, k, a, b, c, R, W, b0, b1, b2, b3, b4, b5)) := by
  intro r
  induction r with
  | zero =>
    intro q i hi hq
    obtain ⟨q, rfl⟩ : ∃ k, q = k + 1 := ⟨q - 1, by omega⟩
    refine lp_step ?_
    unfold law10_l2_2_t
    exact Runs.if_neg (by simp; omega) (Runs.some rfl)
  | succ r ih =>
    intro q i hi hq
    obtain ⟨q, rfl⟩ : ∃ k, q = k + 1 := ⟨q - 1, by omega⟩
    refine lp_step ?_
    unfold law10_l2_2_t
    obtain ⟨w0, w1, w2, w3, w4, w5⟩ := hw i (by omega)
    have ew : w ((i : Int) + 1) = ((i + 1 : Nat) : Int) := by rw [w_in (by unfold inR; omega)]; omega
    dsimp only
    rw [Int.toNat_natCast, Nat.zero_add]
    refine Runs.if_pos (by simp only [decide_eq_true_eq]; omega) (Runs.if_pos (by omega) (Runs.if_pos (by omega) (Runs.if_pos ⟨by omega, by trivial⟩ ?_)))
    refine Runs.bind (P := fun z => z = true) ⟨true, within_true w0 w1 w2 w3 w4 w5, rfl⟩ fun z hz => ?_
    subst hz
    refine Runs.if_neg (by decide) (Runs.some ?_)
    rw [ew]
    exact ih q (i + 1) (by omega) (by omega)
end
theorem cert_two {z : g_CodeR} {k : Nat} {a b c : Nat → Int} {R W : Int} (hc : chkV 0 0 z.1 z.2.1 z.2.2 k a b c R W = 0) : (certO (pName, 0, 0, z.1, z.2.1, z.2.2, k, a, b, c, R, W)) = (0, z.1, certF 0 z.1 z.2.1 z.2.2 a b R W 0, certF 0 z.1 z.2.1 z.2.2 a b R W 1, certF 0 z.1 z.2.1 z.2.2 a b R W 2, certF 0 z.1 z.2.1 z.2.2 a b R W 3, certF 0 z.1 z.2.1 z.2.2 a b R W 4, certF 0 z.1 z.2.1 z.2.2 a b R W 5) := by
  unfold certO
  simp only
  rw [hc, show certN 0 0 z.1 z.2.1 z.2.2 k a b c R W = z.1 from if_pos hc]
theorem law10_true (x : a_law10) (h1 : x.1 ≤ Go.maxLen) (h2 : ∀ j, j < x.1 → inR (x.2.1 j)) (h3 : x.2.2.1 ≤ Go.maxLen) (h4 : ∀ j, j < x.2.2.1 → inR (x.2.2.2.1 j)) (h6 : ∀ j, j < x.2.2.2.2.1 → inR (x.2.2.2.2.2 j)) : law10 400 x = some true := by
  obtain ⟨z, hz, hm⟩ := code_runs (tl := false) h1 h2 (q := 400) (by omega)
  have hn := made_len hm
  obtain ⟨l, ly, g, gy, m, y⟩ := x
  simp only at h1 h2 h3 h4 h6 hz
  obtain ⟨hr, hW, hD⟩ := made_rig h4
  unfold law10 t_law10
  simp only
  rw [hz]
  simp only [Option.bind_some, Rig, if_pos h3]
  generalize dn g = k at *
  generalize dA gy = a at *
  generalize dB gy = b at *
  generalize dC gy = c at *
  generalize w (1 + pick g gy 0 360) = R at *
  generalize pick g gy 1 1001 = W at *
  have hr1 := hr.1
  have hr2 := hr.2
  obtain ⟨p0, hp0, hp0b⟩ : ∃ i : Int, Pick 400 (m, y, 0, R) = some i ∧ 0 ≤ i ∧ i < R := pick_runs (q := 400) h6 0 (k := R) (by omega)
  obtain ⟨p1, hp1, hp1b⟩ : ∃ i : Int, Pick 400 (m, y, 1, 100) = some i ∧ 0 ≤ i ∧ i < 100 := pick_runs (q := 400) h6 1 (k := 100) (by omega)
  rw [hp0, hp1]
  simp only [Option.bind_some]
  have eR : w (1 + p0) = 1 + p0 := w_in (by unfold inR; omega)
  have eW : w (W + p1) = W + p1 := w_in (by unfold inR; omega)
  rw [eR, eW]
  obtain ⟨v, hv, hvp⟩ := l0_runs (n := z.1) (op := z.2.1) (ar := z.2.2) (R' := 1 + p0) (W' := W + p1) (l := l) (ly := ly) (g := g) (gy := gy) h6 hr 400 400 (by omega)
  rw [hv]
  simp only [Option.bind_some]
  have hlv : lives 400 () = some true := rfl
  have hcert : ∀ (k : Nat) (a b c : Nat → Int) (R W : Int), Cert 400 (pName, 0, 0, z.1, z.2.1, z.2.2, k, a, b, c, R, W) = some (certO (pName, 0, 0, z.1, z.2.1, z.2.2, k, a, b, c, R, W)) := fun _ _ _ _ _ _ => if_pos hn
  rcases hvp with ⟨rfl, rfl⟩ | ⟨a', b', c', rfl, hd⟩
  · simp only [Sum.elim_inl]
    have hr' : rigP 0 (fun _ => 0) (fun _ => 0) (fun _ => 0) (1 + p0) (W + p1) := ⟨⟨by omega, by omega, by omega, by omega, by omega⟩, fun j _ hj => by omega⟩
    rw [hcert, show CertNil 400 (pName, 0, 0, z.1, z.2.1, z.2.2, 1 + p0, W + p1) = some (certO (pName, 0, 0, z.1, z.2.1, z.2.2, 0, fun _ => 0, fun _ => 0, fun _ => 0, 1 + p0, W + p1)) from hcert 0 _ _ _ _ _]
    simp only [Option.bind_some]
    have ec := chk_two (n := z.1) (op := z.2.1) (ar := z.2.2) hr hr'
    rcases (chk_made hm 0 a b c R W).symm with hc | hc
    · have e1 : (certO (pName, 0, 0, z.1, z.2.1, z.2.2, 0, a, b, c, R, W)).1 = 5 := hc
      have e2 : (certO (pName, 0, 0, z.1, z.2.1, z.2.2, 0, fun _ => 0, fun _ => 0, fun _ => 0, 1 + p0, W + p1)).1 = 5 := ec.symm.trans hc
      rw [e1, e2, hlv]
      rfl
    · have hc' := ec.symm.trans hc
      have hf := fit_of hc
      have hf' := fit_of hc'
      rw [cert_two hc, cert_two hc']
      have ho := more_ok hf hf' ⟨fun j hj => by omega, by omega, by omega⟩
      obtain ⟨u, hu, rfl⟩ := l2_runs (x := (l, ly, g, gy, m, y)) (q' := 400) (n := z.1) (op := z.2.1) (ar := z.2.2) (k := 0) (a := a) (b := b) (c := c) (R := R) (W := W) (a0 := certF 0 z.1 z.2.1 z.2.2 a b R W 0) (a1 := certF 0 z.1 z.2.1 z.2.2 a b R W 1) (a2 := certF 0 z.1 z.2.1 z.2.2 a b R W 2) (a3 := certF 0 z.1 z.2.1 z.2.2 a b R W 3) (a4 := certF 0 z.1 z.2.1 z.2.2 a b R W 4) (a5 := certF 0 z.1 z.2.1 z.2.2 a b R W 5) (b0 := certF 0 z.1 z.2.1 z.2.2 (fun _ => 0) (fun _ => 0) (1 + p0) (W + p1) 0) (b1 := certF 0 z.1 z.2.1 z.2.2 (fun _ => 0) (fun _ => 0) (1 + p0) (W + p1) 1) (b2 := certF 0 z.1 z.2.1 z.2.2 (fun _ => 0) (fun _ => 0) (1 + p0) (W + p1) 2) (b3 := certF 0 z.1 z.2.1 z.2.2 (fun _ => 0) (fun _ => 0) (1 + p0) (W + p1) 3) (b4 := certF 0 z.1 z.2.1 z.2.2 (fun _ => 0) (fun _ => 0) (1 + p0) (W + p1) 4) (b5 := certF 0 z.1 z.2.1 z.2.2 (fun _ => 0) (fun _ => 0) (1 + p0) (W + p1) 5) hf.n3 (fun j hj => least_le hf ho hj) z.1 400 0 (by omega) (by have := hf.n3; omega)
      simp only [bne_self_eq_false, Bool.false_eq_true, if_false]
      rw [show ((0 : Nat) : Int) = 0 from rfl] at hu
      rw [hu]
      simp only [Option.bind_some, Sum.elim_inr]
      rw [show CVer 400 (pName, 0, 0, z.1, z.2.1, z.2.2, 0, a, b, c, R, W, z.1, certF 0 z.1 z.2.1 z.2.2 (fun _ => 0) (fun _ => 0) (1 + p0) (W + p1) 0, certF 0 z.1 z.2.1 z.2.2 (fun _ => 0) (fun _ => 0) (1 + p0) (W + p1) 1, certF 0 z.1 z.2.1 z.2.2 (fun _ => 0) (fun _ => 0) (1 + p0) (W + p1) 2, certF 0 z.1 z.2.1 z.2.2 (fun _ => 0) (fun _ => 0) (1 + p0) (W + p1) 3, certF 0 z.1 z.2.1 z.2.2 (fun _ => 0) (fun _ => 0) (1 + p0) (W + p1) 4, certF 0 z.1 z.2.1 z.2.2 (fun _ => 0) (fun _ => 0) (1 + p0) (W + p1) 5) = some 0 from (if_pos hn).trans (congrArg some (cver_zero hc rfl ho)), hlv]
      rfl
  · simp only [Sum.elim_inr]
    have hr' : rigP k a' b' c' (1 + p0) (W + p1) := ⟨⟨by omega, by omega, by omega, by omega, by omega⟩, fun j _ hj => by
      have d := hr2 j (Nat.zero_le _) hj
      have d1 := hD j hj
      obtain ⟨m1, m2, m3⟩ := hd j hj
      rw [m3]
      omega⟩
    rw [hcert]
    simp only [Option.bind_some]
    have ec := chk_two (n := z.1) (op := z.2.1) (ar := z.2.2) hr hr'
    rcases (chk_made hm k a b c R W).symm with hc | hc
    · have e1 : (certO (pName, 0, 0, z.1, z.2.1, z.2.2, k, a, b, c, R, W)).1 = 5 := hc
      have e2 := ec.symm.trans hc
      rw [e1, show CertRow 400 (pName, 0, 0, z.1, z.2.1, z.2.2, k, a', b', c', 1 + p0, W + p1) = some (.inr (k, a', b', c')) from (if_pos hn).trans ((if_neg (by show ¬ chkV _ _ _ _ _ _ _ _ _ _ _ = 0; rw [e2]; decide)).trans (if_pos e2)), hlv]
      rfl
    · have hc' := ec.symm.trans hc
      have hf := fit_of hc
      have hf' := fit_of hc'
      rw [cert_two hc, show CertRow 400 (pName, 0, 0, z.1, z.2.1, z.2.2, k, a', b', c', 1 + p0, W + p1) = some (.inl (k, a', b', c', z.1, certF 0 z.1 z.2.1 z.2.2 a' b' (1 + p0) (W + p1) 0, certF 0 z.1 z.2.1 z.2.2 a' b' (1 + p0) (W + p1) 1, certF 0 z.1 z.2.1 z.2.2 a' b' (1 + p0) (W + p1) 2, certF 0 z.1 z.2.1 z.2.2 a' b' (1 + p0) (W + p1) 3, certF 0 z.1 z.2.1 z.2.2 a' b' (1 + p0) (W + p1) 4, certF 0 z.1 z.2.1 z.2.2 a' b' (1 + p0) (W + p1) 5)) from (if_pos hn).trans (if_pos hc')]
      have ho := more_ok hf hf' ⟨fun j hj => ⟨(hd j hj).1.1, (hd j hj).2.1.1⟩, by omega, by omega⟩
      obtain ⟨u, hu, rfl⟩ := l22_runs (x := (l, ly, g, gy, m, y)) (q' := 400) (n := z.1) (op := z.2.1) (ar := z.2.2) (k := k) (a := a) (b := b) (c := c) (R := R) (W := W) (a0 := certF 0 z.1 z.2.1 z.2.2 a b R W 0) (a1 := certF 0 z.1 z.2.1 z.2.2 a b R W 1) (a2 := certF 0 z.1 z.2.1 z.2.2 a b R W 2) (a3 := certF 0 z.1 z.2.1 z.2.2 a b R W 3) (a4 := certF 0 z.1 z.2.1 z.2.2 a b R W 4) (a5 := certF 0 z.1 z.2.1 z.2.2 a b R W 5) (b0 := certF 0 z.1 z.2.1 z.2.2 a' b' (1 + p0) (W + p1) 0) (b1 := certF 0 z.1 z.2.1 z.2.2 a' b' (1 + p0) (W + p1) 1) (b2 := certF 0 z.1 z.2.1 z.2.2 a' b' (1 + p0) (W + p1) 2) (b3 := certF 0 z.1 z.2.1 z.2.2 a' b' (1 + p0) (W + p1) 3) (b4 := certF 0 z.1 z.2.1 z.2.2 a' b' (1 + p0) (W + p1) 4) (b5 := certF 0 z.1 z.2.1 z.2.2 a' b' (1 + p0) (W + p1) 5) hf.n3 (fun j hj => least_le hf ho hj) z.1 400 0 (by omega) (by have := hf.n3; omega)
      rw [show ((0 : Nat) : Int) = 0 from rfl] at hu
      simp only [Option.bind_some, Sum.elim_inl, bne_self_eq_false, Bool.false_eq_true, if_false]
      rw [hu]
      simp only [Option.bind_some, Sum.elim_inr, Nat.zero_add]
      rw [if_pos ⟨Nat.le_refl _, by trivial⟩]
      rw [show CVer 400 (pName, 0, 0, z.1, z.2.1, z.2.2, k, a, b, c, R, W, z.1, fun j => certF 0 z.1 z.2.1 z.2.2 a' b' (1 + p0) (W + p1) 0 j, fun j => certF 0 z.1 z.2.1 z.2.2 a' b' (1 + p0) (W + p1) 1 j, fun j => certF 0 z.1 z.2.1 z.2.2 a' b' (1 + p0) (W + p1) 2 j, fun j => certF 0 z.1 z.2.1 z.2.2 a' b' (1 + p0) (W + p1) 3 j, fun j => certF 0 z.1 z.2.1 z.2.2 a' b' (1 + p0) (W + p1) 4 j, fun j => certF 0 z.1 z.2.1 z.2.2 a' b' (1 + p0) (W + p1) 5 j) = some 0 from (if_pos hn).trans (congrArg some (cver_zero hc rfl ho)), hlv]
      rfl
theorem costMonotone (v0 v1 v2 : V) (h0 : WTV E.P 22 v0) (h1 : WTV E.P 22 v1) (h2 : WTV E.P 22 v2) : ∃ l', LeL [v0, v1, v2] l' ∧ SC E 10 l' [] (.ret (bo true) []) := by
  obtain ⟨n, y, l0, b0, c0⟩ := in_ints h0
  obtain ⟨n1, y1, l1, b1, c1⟩ := in_ints h1
  obtain ⟨n2, y2, l2, b2, c2⟩ := in_ints h2
  refine ⟨_, LeL.cons l0 (LeL.cons l1 (LeL.cons l2 LeL.nil)), ?_⟩
  exact toE (sc_law10 400 (n, y, n1, y1, n2, y2) true (law10_true _ b0 c0 b1 c1 c2))
end Go.Proofs.Ythegipdgillngaa
