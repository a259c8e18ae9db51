/- Texts joined. -/
import Derived.Test.YtniogljhkjbcgaaDoorQE
/- Types: Check on trees as data; TypesPrefixes (plain). -/
namespace Go.Proofs.YtniogljhkjbcgaaDoor
open Go Go.Am Go.Proofs
set_option linter.unusedSimpArgs false
set_option linter.unusedVariables false
set_option maxRecDepth 100000
theorem wf_len {k : Int} {l : List Tr} (h : wfV k l = true) : (k = 1 ∨ k = 2 ∨ k = 7 ∨ k = 8 ∨ k = 5 ∨ k = 9 ∨ k = 10 ∨ k = 11 ∨ k = 6 ∨ k = 3 → 0 < l.length) ∧ (k = 6 → 1 < l.length) ∧ (k = 3 → 1 < l.length) := by
  refine ⟨fun g => ?_, fun g => ?_, fun g => ?_⟩
  · rcases g with rfl | rfl | rfl | rfl | rfl | rfl | rfl | rfl | rfl | rfl <;> simp [wfV] at h <;> omega
  · subst g; simp [wfV] at h; omega
  · subst g; simp [wfV] at h; omega
theorem alls_loop {c : a_stmt → Option g_stmt} {l : List Tr} {f : Nat → List V} {t0 : TabT} (hl : l.length ≤ 9223372036854775807)
    (hc : ∀ (j : Nat) (tr : Tr) (t : TabT), l[j]? = some tr → Runs (c (opK f j, opN f j, opS f j, opM f j, opF f j, t)) (Out (stV tr (absS t)))) :
    ∀ (r q i : Nat) (t : TabT), i + r = l.length → r < q → Runs (allsN_l0 c q (l.length, opK f, opN f, opS f, opM f, opF f, t0) ((i : Int), t)) (fun z => Out (alV 0 (l.drop i) (absS t)) (Sum.elim id (fun t => (0, t)) z)) := by
  intro r
  induction r with
  | zero =>
    intro q i t hi hq
    obtain ⟨q, rfl⟩ : ∃ k, q = k + 1 := ⟨q - 1, by omega⟩
    refine lp_step ?_
    unfold allsN_l0_t
    dsimp only
    rw [List.drop_of_length_le (by omega), alV_nil]
    exact Runs.if_neg (by simp only [decide_eq_true_eq]; omega) (Runs.some rfl)
  | succ r ih =>
    intro q i t hi hq
    obtain ⟨q, rfl⟩ : ∃ k, q = k + 1 := ⟨q - 1, by omega⟩
    refine lp_step ?_
    unfold allsN_l0_t
    dsimp only
    have hil : i < l.length := by omega
    have ht : l[i]? = some l[i] := List.getElem?_eq_getElem hil
    rw [List.drop_eq_getElem_cons hil, alV_cons]
    refine Runs.if_pos (by simp only [decide_eq_true_eq]; omega) (Runs.if_pos ⟨by omega, by omega⟩ ?_)
    rw [Int.toNat_natCast, w_succ (by omega)]
    refine Runs.bind (hc i _ t ht) fun z hz => ?_
    have h1 : z.1 = (stV l[i] (absS t)).1 := congrArg Prod.fst hz
    have h2 : absS z.2 = (stV l[i] (absS t)).2 := congrArg Prod.snd hz
    refine Runs.ite (fun h => Runs.some ?_) fun h => Runs.some ?_
    · have h : ¬ z.1 = 0 := by simpa using h
      rw [if_neg (by rw [← h1]; exact h)]
      exact hz
    · have h : z.1 = 0 := by simpa using h
      rw [if_pos (by rw [← h1]; exact h), ← h2]
      exact ih q (i + 1) z.2 (by omega) (by omega)
theorem repL_tail {a : Tr} {l : List Tr} {f : Nat → List V} (h : RepL (a :: l) f 0) : RepL l (fun j => f (1 + j)) 0 := by
  simp only [RepL] at h
  refine repL_mk l _ 0 fun j t e => ?_
  have := repL_at l f (0 + 1) h.2 j t e
  rw [Nat.zero_add] at this ⊢
  exact this
theorem stAl_V : ∀ q : Nat, (∀ (tr : Tr) (x : NodeT) (t : TabT), Rep tr x → 2 * siz tr < q → siz tr ≤ 9223372036854775807 → Runs (stmt q (x.1, x.2.1, x.2.2.1, x.2.2.2.1, x.2.2.2.2, t)) (Out (stV tr (absS t)))) ∧
    (∀ (l : List Tr) (f : Nat → List V) (t : TabT), RepL l f 0 → OpenN f → 2 * sizL l + 1 < q → sizL l ≤ 9223372036854775807 → Runs (alls q (l.length, f, t)) (Out (alV 0 l (absS t)))) := by
  intro q
  induction q with
  | zero => exact ⟨fun _ _ _ _ h => by omega, fun _ _ _ _ _ h => by omega⟩
  | succ q ih =>
    obtain ⟨ih1, ih2⟩ := ih
    refine ⟨?_, ?_⟩
    · rintro ⟨k, n, s, l⟩ ⟨k', n', s', m', f⟩ t hr hq hm
      simp only [Rep] at hr
      obtain ⟨rfl, rfl, rfl, rfl, hl, ho, hk⟩ := hr
      simp only [siz] at hq hm
      unfold stmt stAl
      dsimp only
      rw [_root_.if_pos ho]
      unfold t_stmtN
      dsimp only
      refine Runs.bind (wellF_V q k' n' s' hk) fun b hb => ?_
      subst hb
      rw [stV_node]
      by_cases hw : wfV k' l = false
      · rw [if_pos hw]
        exact Runs.if_pos (by rw [hw]; rfl) (Runs.some rfl)
      rw [if_neg hw]
      have hw' : wfV k' l = true := by simpa using hw
      obtain ⟨w1, w2, w3⟩ := wf_len hw'
      refine Runs.if_neg (by rw [hw']; decide) (Runs.bind (inRange_V q k' n' s' l.length _) fun b hb => ?_)
      subst hb
      by_cases hg : rgV k' n' = false
      · rw [if_pos hg]
        exact Runs.if_pos (by rw [hg]; rfl) (Runs.some rfl)
      rw [if_neg hg]
      have hg' : rgV k' n' = true := by simpa using hg
      refine Runs.if_neg (by rw [hg']; decide) ?_
      have allC : ∀ t', Runs (((stAl q).2 (l.length, fun j => [i64 (opK f j), i64 (opN f j), st (opS f j), V.ro 4 (opM f j) (opF f j)], t')).bind fun z => some z) (Out (alV 0 l (absS t'))) := fun t' => by
        rw [open_eq ho]
        exact Runs.bind (ih2 l f t' hk ho (by omega) (by omega)) fun z hz => Runs.some hz
      by_cases h1 : k' = 1
      · rw [if_pos (show k' = 1 ∨ k' = 2 by omega)]
        exact Runs.if_pos (by simpa using h1) (Runs.bind (letS_V hk (w1 (by omega)) (.inl h1) (by omega)) fun z hz => Runs.some hz)
      refine Runs.if_neg (by simpa using h1) ?_
      by_cases h2 : k' = 2
      · rw [if_pos (show k' = 1 ∨ k' = 2 by omega)]
        exact Runs.if_pos (by simpa using h2) (Runs.bind (letS_V hk (w1 (by omega)) (.inr h2) (by omega)) fun z hz => Runs.some hz)
      rw [if_neg (show ¬ (k' = 1 ∨ k' = 2) by omega)]
      refine Runs.if_neg (by simpa using h2) ?_
      by_cases h7 : k' = 7
      · rw [if_pos h7]
        obtain ⟨g1, g2⟩ := hd_rep hk (w1 (by omega))
        exact Runs.if_pos (by simpa using h7) (Runs.if_pos ⟨by omega, by have := w1 (by omega); omega⟩ (Runs.bind (cond_V g1 (by omega)) fun z hz => Runs.some hz))
      rw [if_neg h7]
      refine Runs.if_neg (by simpa using h7) ?_
      by_cases h8 : k' = 8
      · rw [if_pos h8]
        obtain ⟨g1, g2⟩ := hd_rep hk (w1 (by omega))
        exact Runs.if_pos (by simpa using h8) (Runs.if_pos ⟨by omega, by have := w1 (by omega); omega⟩ (Runs.bind (quant_V (d := (0, 0, 0, 1, 0)) g1 (by omega)) fun z hz => Runs.some hz))
      rw [if_neg h8]
      refine Runs.if_neg (by simpa using h8) ?_
      by_cases h5 : k' = 5
      · rw [if_pos (show k' = 5 ∨ k' = 9 by omega)]
        obtain ⟨g1, g2⟩ := hd_rep hk (w1 (by omega))
        exact Runs.if_pos (by simpa using h5) (Runs.if_pos ⟨by omega, by have := w1 (by omega); omega⟩ (Runs.bind (quant_V (d := (0, 0, 1, 0, 0)) g1 (by omega)) fun z hz => Runs.some hz))
      refine Runs.if_neg (by simpa using h5) ?_
      by_cases h9 : k' = 9
      · rw [if_pos (show k' = 5 ∨ k' = 9 by omega)]
        obtain ⟨g1, g2⟩ := hd_rep hk (w1 (by omega))
        exact Runs.if_pos (by simpa using h9) (Runs.if_pos ⟨by omega, by have := w1 (by omega); omega⟩ (Runs.bind (quant_V (d := (0, 0, 1, 0, 0)) g1 (by omega)) fun z hz => Runs.some hz))
      rw [if_neg (show ¬ (k' = 5 ∨ k' = 9) by omega)]
      refine Runs.if_neg (by simpa using h9) ?_
      by_cases h10 : k' = 10
      · rw [if_pos (show k' = 10 ∨ k' = 11 by omega)]
        obtain ⟨g1, g2⟩ := hd_rep hk (w1 (by omega))
        exact Runs.if_pos (by simpa using h10) (Runs.if_pos ⟨by omega, by have := w1 (by omega); omega⟩ (Runs.bind (quant_V (d := (0, 1, 0, 0, 0)) g1 (by omega)) fun z hz => Runs.some hz))
      refine Runs.if_neg (by simpa using h10) ?_
      by_cases h11 : k' = 11
      · rw [if_pos (show k' = 10 ∨ k' = 11 by omega)]
        obtain ⟨g1, g2⟩ := hd_rep hk (w1 (by omega))
        exact Runs.if_pos (by simpa using h11) (Runs.if_pos ⟨by omega, by have := w1 (by omega); omega⟩ (Runs.bind (quant_V (d := (0, 1, 0, 0, 0)) g1 (by omega)) fun z hz => Runs.some hz))
      rw [if_neg (show ¬ (k' = 10 ∨ k' = 11) by omega)]
      refine Runs.if_neg (by simpa using h11) ?_
      by_cases h6 : k' = 6
      · rw [if_pos h6]
        obtain ⟨g1, g2⟩ := hd_rep hk (w1 (by omega))
        obtain ⟨g3, g4⟩ := sd_rep hk (w2 h6)
        refine Runs.if_pos (by simpa using h6) (Runs.if_pos ⟨by omega, by have := w1 (by omega); omega⟩ (Runs.bind (cond_V g1 (by omega)) fun z hz => ?_))
        have e1 : z.1 = condV (hdT l) (absS t) := congrArg Prod.fst hz
        have e2 : absS z.2 = absS t := congrArg Prod.snd hz
        refine Runs.ite (fun h => Runs.some ?_) fun h => Runs.if_pos ⟨by omega, by have := w2 h6; omega⟩ ?_
        · have h : ¬ z.1 = 0 := by simpa using h
          rw [if_neg (by rw [← e1]; exact h)]
          exact hz
        · have h : z.1 = 0 := by simpa using h
          rw [if_pos (by rw [← e1]; exact h), ← e2]
          exact Runs.bind (quant_V (d := (0, 0, 1, 0, 0)) g3 (by omega)) fun z hz => Runs.some hz
      rw [if_neg h6]
      refine Runs.if_neg (by simpa using h6) ?_
      by_cases h3 : k' = 3
      · rw [if_pos h3]
        obtain ⟨g1, g2⟩ := hd_rep hk (w1 (by omega))
        have hlen := w3 h3
        refine Runs.if_pos (by simpa using h3) (Runs.if_pos ⟨by omega, by omega⟩ (Runs.bind (cond_V g1 (by omega)) fun z hz => ?_))
        have e1 : z.1 = condV (hdT l) (absS t) := congrArg Prod.fst hz
        have e2 : absS z.2 = absS t := congrArg Prod.snd hz
        refine Runs.ite (fun h => Runs.some ?_) fun h => Runs.if_pos ⟨by omega, by omega, by omega⟩ ?_
        · have h : ¬ z.1 = 0 := by simpa using h
          rw [if_neg (by rw [← e1]; exact h)]
          exact hz
        · have h : z.1 = 0 := by simpa using h
          rw [if_pos (by rw [← e1]; exact h), ← e2]
          cases l with
          | nil => simp at hlen
          | cons a l =>
            rw [alV_one]
            have ef : (fun j : Nat => [i64 (opK f (1 + j)), i64 (opN f (1 + j)), st (opS f (1 + j)), V.ro 4 (opM f (1 + j)) (opF f (1 + j))]) = fun j => f (1 + j) := funext fun j => (ho (1 + j)).symm
            have en : Int.toNat ((List.length (a :: l) : Nat) : Int) - 1 = l.length := by simp
            rw [ef, en]
            simp only [sizL] at hq hm
            exact Runs.bind (ih2 l (fun j => f (1 + j)) z.2 (repL_tail hk) (fun j => ho (1 + j)) (by have := siz_pos a; omega) (by omega)) fun z hz => Runs.some hz
      rw [if_neg h3]
      exact Runs.if_neg (by simpa using h3) (allC t)
    · intro l f t hk ho hq hm
      unfold alls stAl
      dsimp only
      rw [_root_.if_pos ho]
      unfold t_allsN
      have hlen := sizL_len l
      refine Runs.bind (alls_loop (by omega) (fun j tr t' hj => ?_) l.length q 0 t (by omega) (by omega)) fun z hz => ?_
      · have h1 := repL_at l f 0 hk j tr hj
        rw [Nat.zero_add] at h1
        have h2 := sizL_at l j tr hj
        exact ih1 tr (kidAt f j) t' h1 (by omega) (by omega)
      · rw [List.drop_zero] at hz
        rcases z with z | z
        · exact Runs.some hz
        · exact Runs.some hz
noncomputable def lookV (u : ByteArray) : g_Lookup := (Lookup 0 u).getD (0, 0, 0, 0, 0, 0, false)
theorem look_eq (q : Nat) (u : ByteArray) : Lookup q u = some (lookV u) := by
  obtain ⟨z, h, _⟩ := lookup_both 0 0 u
  exact (show Lookup q u = Lookup 0 u from rfl).trans (some_getD ⟨z, h⟩)
noncomputable def unitV (u : ByteArray) : Option DimT := if u = { data := #[] } then some (0, 0, 0, 0, 0) else if (lookV u).2.2.2.2.2.2 = true then some ((lookV u).1, (lookV u).2.1, (lookV u).2.2.1, (lookV u).2.2.2.1, (lookV u).2.2.2.2.1) else none
noncomputable def parV (pa pu : Nat → ByteArray) : Nat → Nat → Sg → Int × Sg
  | 0, _, g => (0, g)
  | r + 1, i, g => match unitV (pu i) with
    | none => (10, g)
    | some d => if (declV (pa i) d g).1 = 0 then parV pa pu r (i + 1) (declV (pa i) d g).2 else declV (pa i) d g
def ParP (r : Int × Sg) (z : Check_l0_g) : Prop := Sum.elim (fun e => e ≠ 0 ∧ r.1 = e) (fun t => r = (0, absS t)) z
theorem par_loop {pn : ByteArray} {pm : Nat} {pa pu : Nat → ByteArray} {nd : NodeT} {q' : Nat} {c : a_stmt → Option g_stmt} (hm : pm ≤ 9223372036854775807) :
    ∀ (r q i : Nat) (t : TabT), i + r = pm → r < q → Runs (Check_l0 (Lookup q') (declare q') c q (pn, pm, pa, pu, nd) ((i : Int), t)) (ParP (parV pa pu r i (absS t))) := by
  intro r
  induction r with
  | zero =>
    intro q i t hi hq
    obtain ⟨q, rfl⟩ : ∃ k, q = k + 1 := ⟨q - 1, by omega⟩
    refine lp_step ?_
    unfold Check_l0_t
    dsimp only
    exact Runs.if_neg (by simp only [decide_eq_true_eq]; omega) (Runs.some rfl)
  | succ r ih =>
    intro q i t hi hq
    obtain ⟨q, rfl⟩ : ∃ k, q = k + 1 := ⟨q - 1, by omega⟩
    refine lp_step ?_
    unfold Check_l0_t
    dsimp only
    refine Runs.if_pos (by simp only [decide_eq_true_eq]; omega) (Runs.if_pos ⟨by omega, by omega⟩ ?_)
    rw [Int.toNat_natCast, w_succ (by omega)]
    have dcl : ∀ d : DimT, unitV (pu i) = some d → Runs ((declare q' (pa i, d.1, d.2.1, d.2.2.1, d.2.2.2.1, d.2.2.2.2, t)).bind fun z => if (z.1 != (0 : Int)) = true then (some (.inr (.inl z.1)) : Option (Check_l0_a ⊕ Check_l0_g)) else some (.inl (((i + 1 : Nat) : Int), z.2)))
        (fun r' => Sum.elim (fun y' => Runs (Check_l0 (Lookup q') (declare q') c q (pn, pm, pa, pu, nd) y') (ParP (parV pa pu (r + 1) i (absS t)))) (ParP (parV pa pu (r + 1) i (absS t))) r') := fun d hd => by
      refine Runs.bind (declare_V q' (pa i) d t) fun z hz => ?_
      have e1 : z.1 = (declV (pa i) d (absS t)).1 := congrArg Prod.fst hz
      have e2 : absS z.2 = (declV (pa i) d (absS t)).2 := congrArg Prod.snd hz
      have ep : parV pa pu (r + 1) i (absS t) = if (declV (pa i) d (absS t)).1 = 0 then parV pa pu r (i + 1) (declV (pa i) d (absS t)).2 else declV (pa i) d (absS t) := by
        rw [parV, hd]
      rw [ep]
      refine Runs.ite (fun h => Runs.some ?_) fun h => Runs.some ?_
      · have h : ¬ z.1 = 0 := by simpa using h
        rw [if_neg (by rw [← e1]; exact h)]
        exact ⟨h, e1.symm⟩
      · have h : z.1 = 0 := by simpa using h
        rw [if_pos (by rw [← e1]; exact h), ← e2]
        exact ih q (i + 1) z.2 (by omega) (by omega)
    refine Runs.ite (fun h => ?_) fun h => ?_
    · have h : ¬ pu i = { data := #[] } := fun e => by rw [e] at h; simp at h
      refine Runs.bind (P := fun z => z = lookV (pu i)) ⟨_, look_eq _ _, rfl⟩ fun z hz => ?_
      subst hz
      by_cases hf : (lookV (pu i)).2.2.2.2.2.2 = true
      · exact Runs.if_neg (by rw [hf]; decide) (dcl ((lookV (pu i)).1, (lookV (pu i)).2.1, (lookV (pu i)).2.2.1, (lookV (pu i)).2.2.2.1, (lookV (pu i)).2.2.2.2.1) (by unfold unitV; rw [if_neg h, if_pos hf]))
      · refine Runs.if_pos (by simpa using hf) (Runs.some ?_)
        rw [parV, show unitV (pu i) = none by unfold unitV; rw [if_neg h, if_neg hf]]
        exact ⟨by decide, rfl⟩
    · have h : pu i = { data := #[] } := tl_eq.1 (by simpa using h)
      exact dcl (0, 0, 0, 0, 0) (by unfold unitV; rw [if_pos h])
noncomputable def checkV (pm : Nat) (pa pu : Nat → ByteArray) (b : Tr) : Int :=
  if (parV pa pu pm 0 (0, fun _ => none)).1 = 0 then (if kdT b = 14 then (stV b (parV pa pu pm 0 (0, fun _ => none)).2).1 else 7) else (parV pa pu pm 0 (0, fun _ => none)).1
theorem check_V {pn : ByteArray} {pm : Nat} {pa pu : Nat → ByteArray} {b : Tr} {nd : NodeT} {q : Nat} (hr : Rep b nd) (hm : pm ≤ 9223372036854775807) (hq : pm + 2 * siz b < q) (hs : siz b ≤ 9223372036854775807) :
    Runs (Check q (pn, pm, pa, pu, nd)) (fun (e : Int) => e = checkV pm pa pu b) := by
  unfold Check t_Check checkV
  have e0 : absS (0, (fun _ => false), (fun _ => 0), (fun _ => 0), (fun _ => 0), (fun _ => 0), (fun _ => 0)) = (0, fun _ => none) := by
    unfold absS tabOf; simp
  refine Runs.bind (par_loop (nd := nd) (pn := pn) hm pm q 0 (0, (fun _ => false), (fun _ => 0), (fun _ => 0), (fun _ => 0), (fun _ => 0), (fun _ => 0)) (by omega) (by omega)) fun z hz => ?_
  rw [e0] at hz
  generalize parV pa pu pm 0 (0, fun _ => none) = o at hz ⊢
  have hkd : nd.1 = kdT b := rep_kd hr
  rcases z with z | t
  · obtain ⟨h1, h2⟩ := hz
    rw [if_neg (by rw [h2]; exact h1)]
    exact Runs.some h2.symm
  · have hz : o = (0, absS t) := hz
    subst hz
    rw [if_pos rfl]
    by_cases hk : kdT b = 14
    · rw [if_pos hk]
      exact Runs.if_neg (by show ¬ (nd.1 != (14 : Int)) = true; rw [hkd, hk]; decide) (Runs.bind ((stAl_V q).1 b nd t hr (by omega) hs) fun y hy => Runs.some (congrArg Prod.fst hy))
    · rw [if_neg hk]
      exact Runs.if_pos (by show (nd.1 != (14 : Int)) = true; rw [hkd]; simpa using hk) (Runs.some rfl)
theorem alV_app : ∀ (a b : List Tr) (g : Sg), alV 0 (a ++ b) g = if (alV 0 a g).1 = 0 then alV 0 b (alV 0 a g).2 else alV 0 a g
  | [], b, g => by rw [alV_nil, List.nil_append, if_pos rfl]
  | t :: a, b, g => by
    rw [List.cons_append, alV_cons, alV_cons]
    by_cases h : (stV t g).1 = 0
    · rw [if_pos h, if_pos h, alV_app a b]
    · rw [if_neg h, if_neg h, if_neg h]
theorem alV_take {l : List Tr} {g : Sg} {i j : Nat} (hij : i ≤ j) (h : (alV 0 (l.take i) g).1 ≠ 0) : alV 0 (l.take j) g = alV 0 (l.take i) g := by
  have e : l.take j = l.take i ++ (l.drop i).take (j - i) := by
    rw [← List.take_append_drop i (l.take j), List.take_take, Nat.min_eq_left hij, List.drop_take]
  rw [e, alV_app, if_neg h]
theorem st14 (n : Int) (s : ByteArray) (l : List Tr) (g : Sg) : stV (.node 14 n s l) g = alV 0 l g := by
  rw [stV_node]
  simp [wfV, rgV]
theorem check14 (pm : Nat) (pa pu : Nat → ByteArray) (n : Int) (s : ByteArray) (l : List Tr) : checkV pm pa pu (.node 14 n s l) = if (parV pa pu pm 0 (0, fun _ => none)).1 = 0 then (alV 0 l (parV pa pu pm 0 (0, fun _ => none)).2).1 else (parV pa pu pm 0 (0, fun _ => none)).1 := by
  unfold checkV
  rw [st14, if_pos (show kdT (.node 14 n s l) = 14 from rfl)]
theorem check_take {pm : Nat} {pa pu : Nat → ByteArray} {l : List Tr} {n : Int} {s : ByteArray} {i j : Nat} (hij : i ≤ j) (h : checkV pm pa pu (.node 14 n s (l.take i)) ≠ 0) : checkV pm pa pu (.node 14 n s (l.take j)) = checkV pm pa pu (.node 14 n s (l.take i)) := by
  rw [check14] at h ⊢
  rw [check14]
  by_cases hp : (parV pa pu pm 0 (0, fun _ => none)).1 = 0
  · rw [if_pos hp] at h ⊢
    rw [if_pos hp, alV_take hij h]
  · rw [if_neg hp, if_neg hp]
theorem rep_take {k n : Int} {s : ByteArray} {l : List Tr} {f : Nat → List V} (hl : l.length ≤ Go.maxLen) (ho : OpenN f) (hk : RepL l f 0) {i : Nat} (hi : i ≤ l.length) : Rep (.node k n s (l.take i)) (k, n, s, i, f) := by
  simp only [Rep]
  refine ⟨trivial, trivial, trivial, by simp; omega, by simp; omega, ho, repL_mk _ _ _ fun j t e => ?_⟩
  refine repL_at l f 0 hk j t ?_
  rw [List.getElem?_take] at e
  split at e
  · exact e
  · cases e
theorem pre_loop {pn : ByteArray} {pm : Nat} {pa pu : Nat → ByteArray} {n : Int} {s : ByteArray} {l : List Tr} {f : Nat → List V} {q' : Nat} {c1 : a_Nodes → Option g_Nodes} {c2 : a_lives → Option g_lives} {wh : Int} {nd2 : Int × ByteArray} (hm : pm ≤ 9223372036854775807) (hl : l.length ≤ Go.maxLen) (ho : OpenN f) (hk : RepL l f 0) (hs : siz (.node 14 n s l) ≤ 1000) (hq' : pm + 2 * siz (.node 14 n s l) < q') :
    ∀ (r q i : Nat) (fst : Int), i + r = l.length + 1 → r < q → fst = (if i = 0 then 0 else checkV pm pa pu (.node 14 0 { data := #[] } (l.take (i - 1)))) →
      Runs (prefixes_l0 c1 c2 (Check q') q (pn, pm, pa, pu, 14, nd2.1, nd2.2, l.length, f) (wh, fst, (i : Int))) (fun z => z = .inr (wh, checkV pm pa pu (.node 14 0 { data := #[] } l))) := by
  have hsl := sizL_len l
  have hss : siz (.node 14 n s l) = 1 + sizL l := by simp only [siz]
  intro r
  induction r with
  | zero =>
    intro q i fst hi hq hf
    obtain ⟨q, rfl⟩ : ∃ k, q = k + 1 := ⟨q - 1, by omega⟩
    refine lp_step ?_
    unfold prefixes_l0_t
    dsimp only
    refine Runs.if_neg (by simp only [decide_eq_true_eq]; omega) (Runs.some ?_)
    show (Sum.inr (wh, fst) : prefixes_l0_g) = _
    rw [hf, if_neg (by omega), List.take_of_length_le (by omega)]
  | succ r ih =>
    intro q i fst hi hq hf
    obtain ⟨q, rfl⟩ : ∃ k, q = k + 1 := ⟨q - 1, by omega⟩
    refine lp_step ?_
    unfold prefixes_l0_t
    dsimp only
    refine Runs.if_pos (by simp only [decide_eq_true_eq]; omega) (Runs.if_pos ⟨by omega, by omega, by omega⟩ ?_)
    have ef : (fun j : Nat => f (0 + j)) = f := funext fun j => by rw [Nat.zero_add]
    have hrep : Rep (.node 14 0 { data := #[] } (l.take i)) (14, 0, { data := #[] }, Int.toNat (i : Int) - 0, fun j : Nat => f (0 + j)) := by
      rw [ef]; exact rep_take hl ho hk (by omega)
    rw [w_succ (by omega)]
    have hst : siz (.node 14 0 { data := #[] } (l.take i)) ≤ siz (.node 14 n s l) := by
      simp only [siz]
      have := sizL_take_le l i
      omega
    refine Runs.bind (check_V hrep hm (by omega) (by omega)) fun (e : Int) he => ?_
    have nxt : ∀ {fst' : Int}, fst' = e → Runs (prefixes_l0 c1 c2 (Check q') q (pn, pm, pa, pu, 14, nd2.1, nd2.2, l.length, f) (wh, fst', ((i + 1 : Nat) : Int))) (fun z => z = .inr (wh, checkV pm pa pu (.node 14 0 { data := #[] } l))) := fun {fst'} h =>
      ih q (i + 1) fst' (by omega) (by omega) (by rw [if_neg (by omega), Nat.add_sub_cancel, h, he])
    have same : fst ≠ 0 → e = fst := fun h => by
      by_cases hi0 : i = 0
      · rw [if_pos hi0] at hf; exact absurd hf h
      · rw [if_neg hi0] at hf
        rw [hf] at h
        rw [he, hf]
        exact check_take (by omega) h
    by_cases h0 : fst = 0
    · by_cases h1 : e = 0
      · refine Runs.if_neg (by simpa using h1) (Runs.if_neg (by simpa using h0) (Runs.some ?_))
        exact nxt (fst' := fst) (by rw [h0, h1])
      · refine Runs.if_pos (by simpa using h1) (Runs.if_pos (by simpa using h0) (Runs.if_pos (by simpa using h1) (Runs.if_neg (by simp) (Runs.some ?_))))
        exact nxt (fst' := e) rfl
    · have h2 := same h0
      have h1 : ¬ e = 0 := by rw [h2]; exact h0
      refine Runs.if_pos (by simpa using h1) (Runs.if_neg (by simpa using h0) (Runs.if_pos (by simpa using h0) (Runs.if_neg (by simp [h2]) (Runs.some ?_))))
      exact nxt (fst' := fst) h2.symm
theorem prefixes_true {pn : ByteArray} {pm : Nat} {pa pu : Nat → ByteArray} {tr : Tr} {nk nn : Int} {ns : ByteArray} {m : Nat} {f : Nat → List V} (hr : Rep tr (nk, nn, ns, m, f)) (hm : pm ≤ Go.maxLen) :
    ∃ q, Runs (prefixes q (pn, pm, pa, pu, nk, nn, ns, m, f)) (fun z => z = true) := by
  obtain ⟨q, hq⟩ : ∃ q, q = 400 + 3 * siz tr + pm := ⟨_, rfl⟩
  refine ⟨q, ?_⟩
  have hml : Go.maxLen = 9223372036854775807 := by decide
  unfold prefixes t_prefixes
  dsimp only
  have liv : ∀ {β : Type} {k : g_lives → Option β} {P : β → Prop}, Runs (k true) P → Runs ((lives q ()).bind k) P := fun h => h
  refine Runs.bind (nodes_V q tr _ 300 hr (by omega) (by omega)) fun (z : Int) hz => ?_
  refine Runs.ite (fun _ => liv (Runs.some rfl)) fun g1 => Runs.ite (fun _ => liv (Runs.some rfl)) fun g2 => Runs.ite (fun _ => liv (Runs.some rfl)) fun g3 => ?_
  have g1 : ¬ ((z : Int) > 300) := by simpa using g1
  have hs : siz tr ≤ 300 := by omega
  refine Runs.bind (check_V hr (by omega) (by omega) (by omega)) fun (e : Int) he => ?_
  obtain ⟨k, n, s, l⟩ := tr
  have hr0 := hr
  simp only [Rep] at hr
  obtain ⟨rfl, rfl, rfl, rfl, hl, ho, hk⟩ := hr
  have g3 : nk = 14 := by simpa using g3
  subst g3
  have hss : siz (.node 14 nn ns l) = 1 + sizL l := by simp only [siz]
  have hsl := sizL_len l
  refine Runs.bind (pre_loop (n := nn) (s := ns) (nd2 := (nn, ns)) (by omega) hl ho hk (by omega) (by omega) (l.length + 1) q 0 0 (by omega) (by omega) (by rw [if_pos rfl])) fun y hy => ?_
  subst hy
  have e2 : checkV pm pa pu (.node 14 0 { data := #[] } l) = e := by rw [he, check14, check14]
  exact Runs.if_pos (by simpa using e2) (liv (Runs.some rfl))
end Go.Proofs.YtniogljhkjbcgaaDoor
/- TypesSound, TypesPrefixes: what comes in. -/
namespace Go.Proofs.YtniogljhkjbcgaaDoor
open Go Go.Am Go.Proofs
set_option linter.unusedSimpArgs false
set_option linter.unusedVariables false
set_option maxRecDepth 100000
theorem ints_in {v : V} (h : WTV E.P 55 v) : ∃ (n : Nat) (lv : Nat → Int), Le v (.ro 1 n (fun j => [i64 (lv j)])) ∧ n ≤ Go.maxLen ∧ ∀ j, j < n → inR (lv j) := by
  obtain ⟨n, f, rfl, hn, d, hf⟩ := h.slice (e := 3) (c := 1) (by kernel_rfl) (by kernel_rfl) (by kernel_rfl) (by omega)
  have key : ∀ j, ∃ (x : Int), j < n → f j = [i64 x] ∧ inR x := fun j => by
    by_cases hj : j < n
    · obtain ⟨k, e, h2⟩ := (hf j hj).i64 (by kernel_rfl)
      exact ⟨k, fun _ => ⟨e, h2⟩⟩
    · exact ⟨0, fun h => absurd h hj⟩
  obtain ⟨g, hg⟩ := Classical.axiomOfChoice key
  exact ⟨n, g, Le.ro_eq fun j hj => ⟨(hg j hj).1, rfl⟩, hn, fun j hj => (hg j hj).2⟩
theorem param_in {d : Nat} {l : List V} (h : WT E.P d 51 l) : ∃ a u, l = [st a, st u] ∧ a.size ≤ Go.maxLen ∧ u.size ≤ Go.maxLen := by
  obtain ⟨d, _, a0, rfl, ha, _, b0, rfl, hb, rfl⟩ := h.struct (l := [9, 9]) (by kernel_rfl)
  obtain ⟨a, rfl, h1⟩ := ha.str (by kernel_rfl)
  obtain ⟨u, rfl, h2⟩ := hb.str (by kernel_rfl)
  exact ⟨a, u, rfl, h1, h2⟩
theorem params_in {d : Nat} {l : List V} (h : WT E.P d 46 l) : ∃ (n : Nat) (pa pu : Nat → ByteArray), LeL l [.ro 2 n (fun j => [st (pa j), st (pu j)])] ∧ n ≤ Go.maxLen ∧ ∀ j, j < n → (pa j).size ≤ Go.maxLen ∧ (pu j).size ≤ Go.maxLen := by
  obtain ⟨d, rfl⟩ : ∃ k, d = k + 1 := by cases d with
    | zero => cases h
    | succ k => exact ⟨k, rfl⟩
  obtain ⟨n, f, rfl, hn, hf⟩ := wt_slice h (e := 51) (c := 2) (by kernel_rfl) (by kernel_rfl) (by omega)
  have key : ∀ j, ∃ (x : ByteArray × ByteArray), j < n → f j = [st x.1, st x.2] ∧ x.1.size ≤ Go.maxLen ∧ x.2.size ≤ Go.maxLen := fun j => by
    by_cases hj : j < n
    · obtain ⟨a, u, e, h2⟩ := param_in (hf j hj)
      exact ⟨(a, u), fun _ => ⟨e, h2⟩⟩
    · exact ⟨(ByteArray.empty, ByteArray.empty), fun h => absurd h hj⟩
  obtain ⟨g, hg⟩ := Classical.axiomOfChoice key
  exact ⟨n, fun j => (g j).1, fun j => (g j).2, LeL.cons (Le.ro_eq fun j hj => ⟨(hg j hj).1, rfl⟩) LeL.nil, hn, fun j hj => (hg j hj).2⟩
theorem denL_split {β : Bt} {S D : Pr} {w : World} : ∀ {xs1 bs : List V} {us : List Value}, denL β S w D (xs1 ++ bs) us → ∃ u1 u2, us = u1 ++ u2 ∧ denL β S w D xs1 u1 ∧ denL β S w D bs u2
  | [], bs, us, h => ⟨[], us, rfl, by simp [denL], h⟩
  | a :: xs1, bs, us, h => by
    simp only [List.cons_append, denL] at h
    obtain ⟨x, xs, rfl, h1, h2⟩ := h
    obtain ⟨u1, u2, rfl, g1, g2⟩ := denL_split h2
    exact ⟨x :: u1, u2, rfl, by simp only [denL]; exact ⟨x, u1, rfl, h1, g1⟩, g2⟩
theorem leL_app {a a' b b' : List V} (h : LeL a a') (g : LeL b b') : LeL (a ++ b) (a' ++ b') := by
  intro β S w D us hd
  obtain ⟨u1, u2, rfl, h1, h2⟩ := denL_split hd
  exact denL_app (h _ _ _ _ _ h1) (g _ _ _ _ _ h2)
theorem proc_in {v : V} (h : WTV E.P 48 v) : ∃ (pn : ByteArray) (pm : Nat) (pa pu : Nat → ByteArray) (k n : Int) (s : ByteArray) (m : Nat) (f : Nat → List V) (tr : Tr),
    Le v (.agg [st pn, .ro 2 pm (fun j => [st (pa j), st (pu j)]), i64 k, i64 n, st s, .ro 4 m f]) ∧ pm ≤ Go.maxLen ∧ OpenA m f ∧ Rep tr (k, n, s, m, f) := by
  obtain ⟨d, vs, rfl, g⟩ := h.struct (l := [9, 46, 24]) (by kernel_rfl)
  obtain ⟨d, _, a0, rfl, ha, _, b0, rfl, hb, l, c0, rfl, hc, rfl⟩ := g.struct (l := [9, 46, 24]) (by kernel_rfl)
  obtain ⟨pn, rfl, _⟩ := ha.str (by kernel_rfl)
  obtain ⟨pm, pa, pu, h1, h2, _⟩ := params_in hb
  obtain ⟨l', h3, h4⟩ := node_in d l hc
  obtain ⟨k, n, s, m, f, tr, rfl, _, _, ho, hr⟩ := rep_in d l' h4
  refine ⟨pn, pm, pa, pu, k, n, s, m, f, tr, Le.agg ?_, h2, ho, hr⟩
  have e : ∀ (x : V) (y z : List V), [x] ++ (y ++ (z ++ [])) = x :: (y ++ z) := by intros; simp
  rw [e]
  refine LeL.cons (Le.refl _) ?_
  exact leL_app h1 h3
theorem typesSound (v0 v1 v2 : V) (h0 : WTV E.P 24 v0) (h1 : WTV E.P 25 v1) (h2 : WTV E.P 55 v2) : ∃ l', LeL [v0, v1, v2] l' ∧ SC E 8 l' [] (.ret (bo true) []) := by
  obtain ⟨d, l, g0, k0⟩ := nodeV_in h0
  obtain ⟨k, n, s, m, f, tr, rfl, _, _, _, hr⟩ := rep_in d l k0
  obtain ⟨vn, vs, a0, a1, a2, a3, a4, g1, k1, k2⟩ := vars_in h1
  obtain ⟨ln, lv, g2, _, _⟩ := ints_in h2
  refine ⟨_, LeL.cons g0 (LeL.cons g1 (LeL.cons g2 LeL.nil)), ?_⟩
  obtain ⟨q, z, hz, rfl⟩ := sound_true (ln := ln) (lv := lv) hr (fun j hj => (k2 j hj).2) k1 (vs := vs) (vn := vn)
  exact toE (sc_sound q _ true hz)
theorem typesPrefixes (v0 : V) (h0 : WTV E.P 48 v0) : ∃ l', LeL [v0] l' ∧ SC E 7 l' [] (.ret (bo true) []) := by
  obtain ⟨pn, pm, pa, pu, k, n, s, m, f, tr, g0, k0, _, hr⟩ := proc_in h0
  refine ⟨_, LeL.cons g0 LeL.nil, ?_⟩
  obtain ⟨q, z, hz, rfl⟩ := prefixes_true (pn := pn) (pa := pa) (pu := pu) hr k0
  exact toE (sc_prefixes q _ true hz)
end Go.Proofs.YtniogljhkjbcgaaDoor
