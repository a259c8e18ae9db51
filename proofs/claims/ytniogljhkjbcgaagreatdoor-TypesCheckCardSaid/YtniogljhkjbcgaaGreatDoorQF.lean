/- Texts joined. -/
import Derived.Test.YtniogljhkjbcgaaGreatDoorQE
/- TypesCheck (plain). -/
namespace Go.Proofs.YtniogljhkjbcgaaGreatDoor
open Go Go.Am Go.Proofs
set_option linter.unusedSimpArgs false
set_option linter.unusedVariables false
set_option maxRecDepth 100000
theorem rlook_V (q : Nat) (u : ByteArray) : Runs (RLookup q u) (fun z => z = lookV u ∧ R8 (z.1, z.2.1, z.2.2.1, z.2.2.2.1, z.2.2.2.2.1)) := by
  obtain ⟨z, h1, h2, h3, _⟩ := lookup_both 0 q u
  refine ⟨z, h2, ?_, h3⟩
  have := look_eq 0 u
  rw [h1] at this
  exact Option.some.inj this
def ParR (r : Int × Sg) (z : Params_l0_g) : Prop := Sum.elim (fun e => e ≠ 0 ∧ r.1 = e) (Sum.elim (fun _ => r = (0, 0, fun _ => none)) (fun v => r.1 = 0 ∧ VOk v ∧ absV v = r.2)) z
theorem unit_none {u : ByteArray} (h : ¬ u = { data := #[] }) (hf : ¬ (lookV u).2.2.2.2.2.2 = true) : unitV u = none := by unfold unitV; rw [if_neg h, if_neg hf]
theorem unit_some {u : ByteArray} (h : ¬ u = { data := #[] }) (hf : (lookV u).2.2.2.2.2.2 = true) : unitV u = some ((lookV u).1, (lookV u).2.1, (lookV u).2.2.1, (lookV u).2.2.2.1, (lookV u).2.2.2.2.1) := by unfold unitV; rw [if_neg h, if_pos hf]
theorem unit_zero {u : ByteArray} (h : u = { data := #[] }) : unitV u = some (0, 0, 0, 0, 0) := by unfold unitV; rw [if_pos h]
theorem parV_none {pa pu : Nat → ByteArray} {r i : Nat} {g : Sg} (h : unitV (pu i) = none) : parV pa pu (r + 1) i g = (10, g) := by rw [parV, h]
theorem parV_some {pa pu : Nat → ByteArray} {r i : Nat} {g : Sg} {d : DimT} (h : unitV (pu i) = some d) : parV pa pu (r + 1) i g = if (declV (pa i) d g).1 = 0 then parV pa pu r (i + 1) (declV (pa i) d g).2 else declV (pa i) d g := by rw [parV, h]
theorem rpar_t1 {pm : Nat} {pa pu : Nat → ByteArray} {q' : Nat} (hm : pm ≤ 9223372036854775807) (hq' : 20 < q') :
    ∀ (r q i : Nat) (v : VarT), i + r = pm → r < q → VOk v → Runs (Params_l0 (RLookup q') (DeclZR q') (Decl q') q (pm, pa, pu) (.inr (v.1, v.2.1, v.2.2.1, v.2.2.2.1, v.2.2.2.2.1, v.2.2.2.2.2.1, v.2.2.2.2.2.2, (i : Int)))) (ParR (parV pa pu r i (absV v))) := by
  intro r
  induction r with
  | zero =>
    intro q i v hi hq hv
    obtain ⟨q, rfl⟩ : ∃ k, q = k + 1 := ⟨q - 1, by omega⟩
    refine lp_step ?_
    dsimp only [Sum.elim_inr]
    unfold Params_l0_t1
    exact Runs.if_neg (show ¬ decide ((i : Int) < (pm : Int)) = true by simp only [decide_eq_true_eq]; omega) (Runs.some ⟨rfl, hv, rfl⟩)
  | succ r ih =>
    intro q i v hi hq hv
    obtain ⟨q, rfl⟩ : ∃ k, q = k + 1 := ⟨q - 1, by omega⟩
    refine lp_step ?_
    dsimp only [Sum.elim_inr]
    unfold Params_l0_t1
    have hI : (0 : Int) ≤ (i : Int) ∧ (i : Int) < (pm : Int) := ⟨by omega, by omega⟩
    refine Runs.if_pos (show decide ((i : Int) < (pm : Int)) = true by simp only [decide_eq_true_eq]; omega) (Runs.if_pos hI ?_)
    dsimp only
    rw [Int.toNat_natCast, w_succ (i := i) (by omega)]
    have dcl : ∀ d : DimT, unitV (pu i) = some d → R8 d → Runs ((Decl q' (v.1, v.2.1, v.2.2.1, v.2.2.2.1, v.2.2.2.2.1, v.2.2.2.2.2.1, v.2.2.2.2.2.2, pa i, d.1, d.2.1, d.2.2.1, d.2.2.2.1, d.2.2.2.2)).bind fun z => if (z.2.2.2.2.2.2.2 != (0 : Int)) = true then (some (.inr (.inl z.2.2.2.2.2.2.2)) : Option (Params_l0_a ⊕ Params_l0_g)) else some (.inl (.inr (mkD (decV z) ((i + 1 : Nat) : Int)))))
        (fun r' => Sum.elim (fun y' => Runs (Params_l0 (RLookup q') (DeclZR q') (Decl q') q (pm, pa, pu) y') (ParR (parV pa pu (r + 1) i (absV v)))) (ParR (parV pa pu (r + 1) i (absV v))) r') := fun d hd h8 => by
      refine Runs.bind (decl_V hv h8 hq') fun z hz => ?_
      obtain ⟨h1, h2⟩ := hz
      rw [parV_some hd]
      refine Runs.ite (fun h => Runs.some ?_) fun h => Runs.some ?_
      · have h : ¬ z.2.2.2.2.2.2.2 = 0 := by simpa using h
        have h : ¬ decE z = 0 := h
        rw [if_neg (by rw [← h1]; exact h)]
        exact ⟨h, h1.symm⟩
      · have h : z.2.2.2.2.2.2.2 = 0 := by simpa using h
        have h : decE z = 0 := h
        obtain ⟨h3, h4⟩ := h2 h
        rw [if_pos (by rw [← h1]; exact h), ← h4]
        exact ih q (i + 1) (decV z) (by omega) (by omega) h3
    refine Runs.ite (fun h => Runs.if_pos hI ?_) fun h => Runs.if_pos hI ?_
    · have h : ¬ pu i = { data := #[] } := fun e => by
        rw [e] at h; simp at h
      refine Runs.bind (rlook_V q' (pu i)) fun z hz => ?_
      obtain ⟨rfl, h8⟩ := hz
      by_cases hf : (lookV (pu i)).2.2.2.2.2.2 = true
      · refine Runs.if_neg (by rw [hf]; decide) (Runs.if_pos hI ?_)
        exact dcl ((lookV (pu i)).1, (lookV (pu i)).2.1, (lookV (pu i)).2.2.1, (lookV (pu i)).2.2.2.1, (lookV (pu i)).2.2.2.2.1) (unit_some h hf) h8
      · refine Runs.if_pos (by simpa using hf) (Runs.some ?_)
        rw [parV_none (unit_none h hf)]
        exact ⟨by decide, rfl⟩
    · have h : pu i = { data := #[] } := tl_eq.1 (by simpa using h)
      exact dcl (0, 0, 0, 0, 0) (unit_zero h) r8z
theorem rpar_t0 {pm : Nat} {pa pu : Nat → ByteArray} {q' : Nat} (hm : pm ≤ 9223372036854775807) (hq' : 20 < q') {q : Nat} (hq : pm < q) : Runs (Params_l0 (RLookup q') (DeclZR q') (Decl q') q (pm, pa, pu) (.inl ())) (ParR (parV pa pu pm 0 (0, fun _ => none))) := by
  obtain ⟨q, rfl⟩ : ∃ k, q = k + 1 := ⟨q - 1, by omega⟩
  refine lp_step ?_
  dsimp only [Sum.elim_inl]
  unfold Params_l0_t0
  refine Runs.ite (fun h => ?_) fun h => Runs.some ?_
  · have h : (0 : Int) < (pm : Int) := of_decide_eq_true h
    have hI : (0 : Int) ≤ (0 : Int) ∧ (0 : Int) < (pm : Int) := ⟨by omega, h⟩
    obtain ⟨r, rfl⟩ : ∃ r, pm = r + 1 := ⟨pm - 1, by omega⟩
    refine Runs.if_pos hI ?_
    dsimp only
    have dcl : ∀ d : DimT, unitV (pu 0) = some d → R8 d → Runs ((DeclZR q' (pa 0, d.1, d.2.1, d.2.2.1, d.2.2.2.1, d.2.2.2.2)).bind fun z => if (z.2.2.2.2.2.2.2 != (0 : Int)) = true then (some (.inr (.inl z.2.2.2.2.2.2.2)) : Option (Params_l0_a ⊕ Params_l0_g)) else some (.inl (.inr (mkD (decV z) ((1 : Nat) : Int)))))
        (fun r' => Sum.elim (fun y' => Runs (Params_l0 (RLookup q') (DeclZR q') (Decl q') q (r + 1, pa, pu) y') (ParR (parV pa pu (r + 1) 0 (0, fun _ => none)))) (ParR (parV pa pu (r + 1) 0 (0, fun _ => none))) r') := fun d hd h8 => by
      refine Runs.bind (declZ_V h8 hq') fun z hz => ?_
      obtain ⟨h1, h2⟩ := hz
      rw [parV_some hd]
      refine Runs.ite (fun h => Runs.some ?_) fun h => Runs.some ?_
      · have h : ¬ z.2.2.2.2.2.2.2 = 0 := by simpa using h
        have h : ¬ decE z = 0 := h
        rw [if_neg (by rw [← h1]; exact h)]
        exact ⟨h, h1.symm⟩
      · have h : z.2.2.2.2.2.2.2 = 0 := by simpa using h
        have h : decE z = 0 := h
        obtain ⟨h3, h4⟩ := h2 h
        rw [if_pos (by rw [← h1]; exact h), ← h4]
        exact rpar_t1 hm hq' r q 1 (decV z) (by omega) (by omega) h3
    refine Runs.ite (fun h => Runs.if_pos hI ?_) fun h => Runs.if_pos hI ?_
    · have h : ¬ pu 0 = { data := #[] } := fun e => by
        rw [e] at h; simp at h
      refine Runs.bind (rlook_V q' (pu 0)) fun z hz => ?_
      obtain ⟨rfl, h8⟩ := hz
      by_cases hf : (lookV (pu 0)).2.2.2.2.2.2 = true
      · refine Runs.if_neg (by rw [hf]; decide) (Runs.if_pos hI ?_)
        exact dcl ((lookV (pu 0)).1, (lookV (pu 0)).2.1, (lookV (pu 0)).2.2.1, (lookV (pu 0)).2.2.2.1, (lookV (pu 0)).2.2.2.2.1) (unit_some h hf) h8
      · refine Runs.if_pos (by simpa using hf) (Runs.some ?_)
        rw [parV_none (unit_none h hf)]
        exact ⟨by decide, rfl⟩
    · have h : pu 0 = { data := #[] } := tl_eq.1 (by simpa using h)
      exact dcl (0, 0, 0, 0, 0) (unit_zero h) r8z
  · have h : ¬ (0 : Int) < (pm : Int) := by simpa using h
    have : pm = 0 := by omega
    subst this
    rfl
theorem params_V {pm : Nat} {pa pu : Nat → ByteArray} (hm : pm ≤ 9223372036854775807) {q : Nat} (hq : pm + 20 < q) : Runs (ParamsR q (pm, pa, pu)) (OutR (parV pa pu pm 0 (0, fun _ => none))) := by
  have key : Runs (Params q (pm, pa, pu)) (fun z => OutR (parV pa pu pm 0 (0, fun _ => none)) (cv_Params z)) := by
    unfold Params t_Params
    refine Runs.bind (rpar_t0 hm (by omega) (by omega)) fun z hz => ?_
    generalize parV pa pu pm 0 (0, fun _ => none) = r at hz ⊢
    rcases z with z | z | z
    · obtain ⟨h1, h2⟩ := hz
      refine Runs.some ?_
      show OutR r (mkD (0, (fun _ => ByteArray.empty), (fun _ => 0), (fun _ => 0), (fun _ => 0), (fun _ => 0), (fun _ => 0)) z)
      exact OutR.bad h2.symm h1
    · have hz : r = (0, 0, fun _ => none) := hz
      subst hz
      refine Runs.some ?_
      refine ⟨rfl, fun _ => ⟨⟨by show (0 : Nat) ≤ 12; omega, fun i j _ hj => absurd hj (Nat.not_lt_zero _), fun j hj => absurd hj (Nat.not_lt_zero _)⟩, ?_⟩⟩
      refine Prod.ext rfl ?_
      funext x
      rfl
    · obtain ⟨h1, h2, h3⟩ := hz
      refine Runs.some ?_
      exact ⟨h1.symm, fun _ => ⟨h2, h3⟩⟩
  obtain ⟨z, h1, h2⟩ := key
  unfold ParamsR
  rw [h1]
  exact ⟨_, rfl, h2⟩
theorem rcheck_V {pn : ByteArray} {pm : Nat} {pa pu : Nat → ByteArray} {b : Tr} {nd : NodeT} {q : Nat} (hr : Rep b nd) (hm : pm ≤ 9223372036854775807) (hq : pm + 2 * siz b + 50 < q) (hs : siz b ≤ 1000) :
    Runs (RCheck q (pn, pm, pa, pu, nd)) (fun (e : Int) => e = checkV pm pa pu b) := by
  unfold RCheck t_RCheck checkV
  refine Runs.bind (params_V hm (by omega)) fun z hz => ?_
  obtain ⟨h1, h2⟩ := hz
  generalize parV pa pu pm 0 (0, fun _ => none) = o at h1 h2 ⊢
  have hkd : nd.1 = kdT b := rep_kd hr
  by_cases h0 : decE z = 0
  · obtain ⟨h3, h4⟩ := h2 h0
    have h0' : z.2.2.2.2.2.2.2 = 0 := h0
    rw [if_pos (show o.1 = 0 by rw [← h1]; exact h0)]
    refine Runs.if_neg (by simpa using h0') ?_
    by_cases hk : kdT b = 14
    · rw [if_pos hk, ← h4]
      refine Runs.if_neg (by show ¬ (!(nd.1 == (14 : Int))) = true; rw [hkd, hk]; decide) (Runs.bind ((rSB_V q).1 b nd (decV z) h3 hr (by omega) hs) fun y hy => Runs.some hy.1)
    · rw [if_neg hk]
      exact Runs.if_pos (by show (!(nd.1 == (14 : Int))) = true; rw [hkd]; simpa using hk) (Runs.some rfl)
  · have h0' : ¬ z.2.2.2.2.2.2.2 = 0 := h0
    rw [if_neg (show ¬ o.1 = 0 by rw [← h1]; exact h0)]
    exact Runs.if_pos (by simpa using h0') (Runs.some h1)
theorem lawC_true {pn : ByteArray} {pm : Nat} {pa pu : Nat → ByteArray} {tr : Tr} {nd : NodeT} (hr : Rep tr nd) (hm : pm ≤ Go.maxLen) :
    ∃ q, Runs (lawC q (pn, pm, pa, pu, nd)) (fun z => z = true) := by
  obtain ⟨q, hq⟩ : ∃ q, q = 400 + 3 * siz tr + pm := ⟨_, rfl⟩
  refine ⟨q, ?_⟩
  have hml : Go.maxLen = 9223372036854775807 := by decide
  unfold lawC t_lawC
  have liv : ∀ {β : Type} {k : g_lives → Option β} {P : β → Prop}, Runs (k true) P → Runs ((lives q ()).bind k) P := fun h => h
  refine Runs.bind (nodes_V q tr nd 300 hr (by omega) (by omega)) fun (z : Int) hz => ?_
  refine Runs.ite (fun _ => liv (Runs.some rfl)) fun g1 => Runs.ite (fun _ => liv (Runs.some rfl)) fun g2 => ?_
  have g1 : ¬ ((z : Int) > 300) := by simpa using g1
  have hs : siz tr ≤ 300 := by omega
  refine Runs.bind (check_V (pn := pn) (pa := pa) (pu := pu) hr (by omega) (by omega) (by omega)) fun (e : Int) he => Runs.bind (rcheck_V (pn := pn) (pa := pa) (pu := pu) hr (by omega) (by omega) (by omega)) fun (e' : Int) he' => ?_
  have : e = e' := by rw [he, he']
  exact Runs.if_pos (by simpa using this) (liv (Runs.some rfl))
theorem param_in {d : Nat} {l : List V} (h : WT E.P d 49 l) : ∃ a u, l = [st a, st u] ∧ a.size ≤ Go.maxLen ∧ u.size ≤ Go.maxLen := by
  obtain ⟨d, _, a0, rfl, ha, _, b0, rfl, hb, rfl⟩ := h.struct (l := [9, 9]) (by kernel_rfl)
  obtain ⟨a, rfl, h1⟩ := ha.str (by kernel_rfl)
  obtain ⟨u, rfl, h2⟩ := hb.str (by kernel_rfl)
  exact ⟨a, u, rfl, h1, h2⟩
theorem params_in {d : Nat} {l : List V} (h : WT E.P d 22 l) : ∃ (n : Nat) (pa pu : Nat → ByteArray), LeL l [.ro 2 n (fun j => [st (pa j), st (pu j)])] ∧ n ≤ Go.maxLen ∧ ∀ j, j < n → (pa j).size ≤ Go.maxLen ∧ (pu j).size ≤ Go.maxLen := by
  obtain ⟨d, rfl⟩ : ∃ k, d = k + 1 := by cases d with
    | zero => cases h
    | succ k => exact ⟨k, rfl⟩
  obtain ⟨n, f, rfl, hn, hf⟩ := wt_slice h (e := 49) (c := 2) (by kernel_rfl) (by kernel_rfl) (by omega)
  have key : ∀ j, ∃ (x : ByteArray × ByteArray), j < n → f j = [st x.1, st x.2] ∧ x.1.size ≤ Go.maxLen ∧ x.2.size ≤ Go.maxLen := fun j => by
    by_cases hj : j < n
    · obtain ⟨a, u, e, h2⟩ := param_in (hf j hj)
      exact ⟨(a, u), fun _ => ⟨e, h2⟩⟩
    · exact ⟨(ByteArray.empty, ByteArray.empty), fun h => absurd h hj⟩
  obtain ⟨g, hg⟩ := Classical.axiomOfChoice key
  exact ⟨n, fun j => (g j).1, fun j => (g j).2, LeL.cons (Le.ro_eq fun j hj => ⟨(hg j hj).1, rfl⟩) LeL.nil, hn, fun j hj => (hg j hj).2⟩
theorem denL_split {β : Bt} {S D : Pr} {w : World} : ∀ {xs1 bs : List V} {us : List Value}, denL β S w D (xs1 ++ bs) us → ∃ u1 u2, us = u1 ++ u2 ∧ denL β S w D xs1 u1 ∧ denL β S w D bs u2
  | [], bs, us, h => ⟨[], us, rfl, by simp [denL], h⟩
  | a :: xs1, bs, us, h => by
    simp only [List.cons_append, denL] at h
    obtain ⟨x, xs, rfl, h1, h2⟩ := h
    obtain ⟨u1, u2, rfl, g1, g2⟩ := denL_split h2
    exact ⟨x :: u1, u2, rfl, by simp only [denL]; exact ⟨x, u1, rfl, h1, g1⟩, g2⟩
theorem leL_app {a a' b b' : List V} (h : LeL a a') (g : LeL b b') : LeL (a ++ b) (a' ++ b') := by
  intro β S w D us hd
  obtain ⟨u1, u2, rfl, h1, h2⟩ := denL_split hd
  exact denL_app (h _ _ _ _ _ h1) (g _ _ _ _ _ h2)
theorem proc_in {v : V} (h : WTV E.P 27 v) : ∃ (pn : ByteArray) (pm : Nat) (pa pu : Nat → ByteArray) (k n : Int) (s : ByteArray) (m : Nat) (f : Nat → List V) (tr : Tr),
    Le v (.agg [st pn, .ro 2 pm (fun j => [st (pa j), st (pu j)]), i64 k, i64 n, st s, .ro 4 m f]) ∧ pm ≤ Go.maxLen ∧ OpenA m f ∧ Rep tr (k, n, s, m, f) := by
  obtain ⟨d, vs, rfl, g⟩ := h.struct (l := [9, 22, 25]) (by kernel_rfl)
  obtain ⟨d, _, a0, rfl, ha, _, b0, rfl, hb, l, c0, rfl, hc, rfl⟩ := g.struct (l := [9, 22, 25]) (by kernel_rfl)
  obtain ⟨pn, rfl, _⟩ := ha.str (by kernel_rfl)
  obtain ⟨pm, pa, pu, h1, h2, _⟩ := params_in hb
  obtain ⟨l', h3, h4⟩ := node_in d l hc
  obtain ⟨k, n, s, m, f, tr, rfl, _, _, ho, hr⟩ := rep_in d l' h4
  refine ⟨pn, pm, pa, pu, k, n, s, m, f, tr, Le.agg ?_, h2, ho, hr⟩
  have e : ∀ (x : V) (y z : List V), [x] ++ (y ++ (z ++ [])) = x :: (y ++ z) := by intros; simp
  rw [e]
  refine LeL.cons (Le.refl _) ?_
  exact leL_app h1 h3
theorem typesCheck (v0 : V) (h0 : WTV E.P 27 v0) : ∃ l', LeL [v0] l' ∧ SC E 3 l' [] (.ret (bo true) []) := by
  obtain ⟨pn, pm, pa, pu, k, n, s, m, f, tr, g0, k0, _, hr⟩ := proc_in h0
  refine ⟨_, LeL.cons g0 LeL.nil, ?_⟩
  obtain ⟨q, z, hz, rfl⟩ := lawC_true (pn := pn) (pa := pa) (pu := pu) hr k0
  exact toE (sc_lawC q _ true hz)
end Go.Proofs.YtniogljhkjbcgaaGreatDoor
