/- CostAdds: numbers in range, the law. -/
import Derived.Test.YthegipdgillngaaBa
import Derived.Test.YthegipdgillngaaAmW
namespace Go.Proofs.Ythegipdgillngaa
open Go Go.Am
theorem w_in {n : Int} (h : inR n) : w n = n := by
  unfold w; rw [IntKind.wrap_i64]; unfold inR at h; omega
theorem around_in {a m : Int} (ha : inR a) (hm : 0 < m) : 0 ≤ around a m ∧ around a m < m := by
  unfold around
  unfold inR at ha
  split
  · rw [w_in (n := a + 1) (by unfold inR; omega), w_in (by unfold inR; omega)]
    rw [Int.tmod_eq_emod_of_nonneg (by omega)]
    exact ⟨Int.emod_nonneg _ (by omega), Int.emod_lt_of_pos _ hm⟩
  · rw [Int.tmod_eq_emod_of_nonneg (by omega)]
    exact ⟨Int.emod_nonneg _ (by omega), Int.emod_lt_of_pos _ hm⟩
theorem okTot {g : FuncId} {n : Nat} {xa xb xc xd xe xf : Nat → Int} (h : callG E 20 g [r6 n xa xb xc xd xe xf] [] K = if ((n : Int) == 0) = true then some (.c (.ret (i6 0 0 0 0 0 0) [])) else if (0 : Int) ≤ 0 ∧ (0 : Int) < (n : Int) then some (.c (.ret (i6 (xa 0) (xb 0) (xc 0) (xd 0) (xe 0) (xf 0)) [])) else none) : OkT E g (tTot n xa xb xc xd xe xf) := by
  intro args L k r hr
  unfold tTot cl at hr
  split at hr
  · rename_i hc
    obtain ⟨rfl, rfl⟩ := hc
    refine ⟨_, hr, SC.g (n := 20) ?_⟩
    rw [h]
    unfold tl
    by_cases hn : n = 0
    · subst hn; simp
    · have : (0 : Int) < n := by omega
      have h0 : ¬ (n : Int) = 0 := by omega
      simp [hn, this, h0]
  · cases hr
theorem ok28 : OkT E 28 t28 := by
  intro args L k r hr
  unfold t28 at hr
  split at hr
  · exact ⟨_, hr, SC.of hW hX (tab_cons ok21 tab_nil) (soundL_none E) (tree28 _ _ _ _ _ _)⟩
  · cases hr
theorem ok17 : OkT E 17 t17 := by
  intro args L k r hr
  unfold t17 at hr
  split at hr
  · exact ⟨_, hr, lives_true⟩
  · cases hr
theorem lim_le {x y : Int} (hx : 0 ≤ x ∧ x < 2147483648) (hy : 0 ≤ y ∧ y < 2147483648) : x ≤ lim (w (x + y)) ∧ y ≤ lim (w (x + y)) := by
  rw [w_in (by unfold inR; omega)]; unfold lim; split <;> omega
theorem sub_back {x y : Int} (hx : 0 ≤ x ∧ x < 2147483648) (hy : 0 ≤ y ∧ y < 2147483648) (h : lim (w (x + y)) ≤ 2147483646) : pos (w (lim (w (x + y)) - y)) = x := by
  rw [w_in (n := x + y) (by unfold inR; omega)] at h ⊢
  unfold lim at h ⊢
  split at h
  · omega
  · rename_i h1
    rw [if_neg h1, w_in (by unfold inR; omega)]
    unfold pos; split <;> omega
theorem law11 (n : Nat) (xa xb xc xd xe xf : Nat → Int) {a b c d e f a' b' c' d' e' f' : Int} (h1 : inR a) (h2 : inR b) (h3 : inR c) (h4 : inR d) (h5 : inR e) (h6 : inR f) (g1 : inR a') (g2 : inR b') (g3 : inR c') (g4 : inR d') (g5 : inR e') (g6 : inR f') :
    SC E 11 [r6 n xa xb xc xd xe xf, i6 a b c d e f, i6 a' b' c' d' e' f'] [] (.ret (bo true) []) := by
  refine SC.of hW hX (ca := tab11 n xa xb xc xd xe xf) (lo := L0)
    (tab_cons ok17 (tab_cons (okTot (tree26 _ _ _ _ _ _ _)) (tab_cons (okTot (tree30 _ _ _ _ _ _ _)) (tab_cons ok28 (tab_cons (okAdd tree29) (tab_cons (okAdd tree32) (tab_cons (okSub tree33) (tab_cons (okSub tree34) (tab_cons (okIn tree24') (tab_cons (okIn tree31') tab_nil)))))))))) (soundL_none E) ?_
  refine (tree11 n xa xb xc xd xe xf a b c d e f a' b' c' d' e' f').trans ?_
  have r1 := around_in (m := 2147483648) h1 (by omega)
  have r2 := around_in (m := 2147483648) h2 (by omega)
  have r3 := around_in (m := 2147483648) h3 (by omega)
  have r4 := around_in (m := 2147483648) h4 (by omega)
  have r5 := around_in (m := 2147483648) h5 (by omega)
  have r6 := around_in (m := 2147483648) h6 (by omega)
  have s1 := around_in (m := 2147483648) g1 (by omega)
  have s2 := around_in (m := 2147483648) g2 (by omega)
  have s3 := around_in (m := 2147483648) g3 (by omega)
  have s4 := around_in (m := 2147483648) g4 (by omega)
  have s5 := around_in (m := 2147483648) g5 (by omega)
  have s6 := around_in (m := 2147483648) g6 (by omega)
  generalize around a 2147483648 = p1 at *
  generalize around b 2147483648 = p2 at *
  generalize around c 2147483648 = p3 at *
  generalize around d 2147483648 = p4 at *
  generalize around e 2147483648 = p5 at *
  generalize around f 2147483648 = p6 at *
  generalize around a' 2147483648 = q1 at *
  generalize around b' 2147483648 = q2 at *
  generalize around c' 2147483648 = q3 at *
  generalize around d' 2147483648 = q4 at *
  generalize around e' 2147483648 = q5 at *
  generalize around f' 2147483648 = q6 at *
  rw [cl_pos ⟨rfl, rfl⟩, cl_pos ⟨rfl, rfl⟩]
  simp only [beq_self_eq_true, Bool.and_true, Bool.not_true, Bool.false_eq_true, if_false]
  rw [if_pos (by simp [within6, lim_le r1 s1, lim_le r2 s2, lim_le r3 s3, lim_le r4 s4, lim_le r5 s5, lim_le r6 s6]), if_pos (by simp [within6, lim_le r1 s1, lim_le r2 s2, lim_le r3 s3, lim_le r4 s4, lim_le r5 s5, lim_le r6 s6])]
  split
  · rfl
  · rename_i hw
    simp only [within6, Bool.not_eq_true', Bool.not_eq_false, Bool.and_eq_true, decide_eq_true_eq] at hw
    obtain ⟨w1, w2, w3, w4, w5, w6⟩ := hw
    rw [if_pos (by simp [sub_back r1 s1 w1, sub_back r2 s2 w2, sub_back r3 s3 w3, sub_back r4 s4 w4, sub_back r5 s5 w5, sub_back r6 s6 w6])]
end Go.Proofs.Ythegipdgillngaa
