/- Types: the type of a tree (plain). -/
import Derived.Test.YtniogljhkjbcgaaDoorP3
namespace Go.Proofs.YtniogljhkjbcgaaDoor
open Go Go.Am Go.Proofs
set_option linter.unusedSimpArgs false
set_option linter.unusedVariables false
set_option maxRecDepth 100000
theorem formed_both (q q' : Nat) (k n : Int) (s : ByteArray) (m : Nat) : ∃ (r : Int) (b : Bool), (∀ f, kids q (k, n, s, m, f) = some r) ∧ (∀ f, formed q' (k, n, s, m, f) = some b) ∧ (b = true ↔ r = m) ∧ (b = true → (m = 0 ∧ (k = 15 ∨ k = 16 ∨ k = 17 ∨ k = 18)) ∨ (m = 1 ∧ k = 19) ∨ (m = 2 ∧ k = 20)) := by
  unfold kids formed t_kids t_formed
  dsimp only
  have b0 : ∀ {c : Prop} [Decidable c], (decide c = true) ↔ c := decide_eq_true_iff
  by_cases h15 : k = 15
  · subst h15
    refine ⟨0, (m : Int) == 0, fun f => by simp, fun f => by simp, by rw [beq_iff_eq]; omega, fun h => ?_⟩
    rw [beq_iff_eq] at h; omega
  by_cases h17 : k = 17
  · subst h17
    refine ⟨0, (m : Int) == 0, fun f => by simp, fun f => by simp, by rw [beq_iff_eq]; omega, fun h => ?_⟩
    rw [beq_iff_eq] at h; omega
  by_cases h18 : k = 18
  · subst h18
    refine ⟨0, (m : Int) == 0, fun f => by simp, fun f => by simp, by rw [beq_iff_eq]; omega, fun h => ?_⟩
    rw [beq_iff_eq] at h; omega
  by_cases h16 : k = 16
  · subst h16
    refine ⟨if n = 0 ∨ n = 1 then 0 else -1, decide ((m : Int) = 0 ∧ (n = 0 ∨ n = 1)), fun f => ?_, fun f => ?_, ?_, fun h => ?_⟩
    · by_cases h0 : n = 0 <;> by_cases h1 : n = 1 <;> simp [h0, h1]
    · by_cases hm : m = 0 <;> by_cases h0 : n = 0 <;> by_cases h1 : n = 1 <;> simp [h0, h1, hm]
    · rw [b0]; split <;> omega
    · rw [b0] at h; omega
  by_cases h19 : k = 19
  · subst h19
    obtain ⟨b1, x1⟩ : ∃ b, (ByteArray.toList s == ByteArray.toList { data := #[(33 : UInt8)] }) = b := ⟨_, rfl⟩
    obtain ⟨b2, x2⟩ : ∃ b, (ByteArray.toList s == ByteArray.toList { data := #[(45 : UInt8)] }) = b := ⟨_, rfl⟩
    cases b1 <;> cases b2
    · refine ⟨-1, false, fun f => by simp only [x1, x2]; simp, fun f => ?_, ?_, fun h => by cases h⟩
      · by_cases hm : (m : Int) = 1 <;> simp only [x1, x2] <;> simp [hm]
      · simp only [Bool.false_eq_true, false_iff]; omega
    all_goals
      refine ⟨1, (m : Int) == 1, fun f => by simp only [x1, x2]; simp, fun f => ?_, by rw [beq_iff_eq]; omega, fun h => ?_⟩
      · by_cases hm : (m : Int) = 1 <;> simp only [x1, x2] <;> simp [hm]
      · rw [beq_iff_eq] at h; omega
  by_cases h20 : k = 20
  · subst h20
    obtain ⟨(v : Int), hv1, hv2, hv3⟩ := kind_both q q' s
    refine ⟨if v > 0 then 2 else -1, decide ((m : Int) = 2 ∧ v > 0), fun f => ?_, fun f => ?_, ?_, fun h => ?_⟩
    · simp only [hv1, Option.bind_some]; by_cases h : v > 0 <;> simp [h]
    · simp only [hv2, Option.bind_some]; by_cases hm : (m : Int) = 2 <;> by_cases h : v > 0 <;> simp [h, hm]
    · rw [b0]; split <;> omega
    · rw [b0] at h; omega
  refine ⟨-1, false, fun f => ?_, fun f => ?_, ?_, fun h => by cases h⟩
  · simp [h15, h16, h17, h18, h19, h20]
  · simp [h15, h16, h17, h18, h19, h20]
  · simp only [Bool.false_eq_true, false_iff]; omega
theorem r8z : R8 (0, 0, 0, 0, 0) := by unfold R8; decide
theorem of_both {v : VarT} (hv : VOk v) {t : TabT} (ht : TR v v.1 t) : ∀ (d q q' : Nat) (k n : Int) (s : ByteArray) (m : Nat) (f : Nat → List V), Dp d m f → OpenA m f → d + 21 ≤ q → d + 21 ≤ q' →
    ∃ z : g_ROf, Of q (k, n, s, m, f, t) = some (z.1, z.2.1, z.2.2.1, z.2.2.2.1, z.2.2.2.2.1, z.2.2.2.2.2.1, z.2.2.2.2.2.2, t) ∧ ROf q' (k, n, s, m, f, v) = some z ∧ R8 (z.2.1, z.2.2.1, z.2.2.2.1, z.2.2.2.2.1, z.2.2.2.2.2.1) := by
  have hn := hv.n
  have leaf : ∀ (q q' : Nat) (k n : Int) (s : ByteArray) (f : Nat → List V), 20 ≤ q → 20 ≤ q' → OpenA 0 f → (k = 15 ∨ k = 16 ∨ k = 17 ∨ k = 18) → (∀ f, kids q (k, n, s, 0, f) = some 0) → (∀ f, formed q' (k, n, s, 0, f) = some true) →
      ∃ z : g_ROf, Of (q + 1) (k, n, s, 0, f, t) = some (z.1, z.2.1, z.2.2.1, z.2.2.2.1, z.2.2.2.2.1, z.2.2.2.2.2.1, z.2.2.2.2.2.2, t) ∧ ROf (q' + 1) (k, n, s, 0, f, v) = some z ∧ R8 (z.2.1, z.2.2.1, z.2.2.2.1, z.2.2.2.2.1, z.2.2.2.2.2.1) := by
    intro q q' k n s f hq hq' hf hk hr hb
    unfold Of ROf
    dsimp only
    rw [_root_.if_pos hf.here, _root_.if_pos hf.here]
    unfold t_OfN t_ROfN
    dsimp only
    simp only [hr, hb, Option.bind_some]
    rcases hk with rfl | rfl | rfl | rfl
    · obtain ⟨z, h1, h2, h3⟩ := number_both q q' (15, n, s, 0, f)
      unfold rleaf t_rleaf
      refine ⟨(false, z), ?_, ?_, h3⟩
      · simp [open_eq hf.here, h1]
      · simp [open_eq hf.here, h2]
    · refine ⟨(true, 0, 0, 0, 0, 0, 0), by simp, by unfold rleaf t_rleaf; simp, r8z⟩
    · obtain ⟨z, h1, h2⟩ := find_runs (n := v.1) (vs := v.2.1) (v0 := v.2.2.1) (v1 := v.2.2.2.1) (v2 := v.2.2.2.2.1) (v3 := v.2.2.2.2.2.1) (v4 := v.2.2.2.2.2.2) (s := s) (by omega) (q := q') (by omega)
      obtain ⟨t1, t2⟩ := ht s
      unfold rleaf t_rleaf found t_found
      rcases h2 with ⟨rfl, hno⟩ | ⟨i, hi, rfl, his, hno⟩
      · have hF : t.2.1 s = false := by
          rw [Bool.eq_false_iff]
          intro h
          obtain ⟨j, hj, hjs⟩ := t1.1 h
          exact hno j hj hjs
        refine ⟨(false, 0, 0, 0, 0, 0, 3), ?_, ?_, r8z⟩
        · simp [hF]
        · simp [h1]
      · have hT : t.2.1 s = true := t1.2 ⟨i, hi, his⟩
        obtain ⟨e0, e1, e2, e3, e4⟩ := t2 i hi his
        refine ⟨(false, v.2.2.1 i, v.2.2.2.1 i, v.2.2.2.2.1 i, v.2.2.2.2.2.1 i, v.2.2.2.2.2.2 i, 0), ?_, ?_, hv.d i hi⟩
        · simp [hT, e0, e1, e2, e3, e4]
        · have hI : (0 : Int) ≤ (i : Int) ∧ (i : Int) < (v.1 : Int) := ⟨by omega, by omega⟩
          have hN : ¬ ((i : Int) < 0) := by omega
          simp [h1, hI, hN, hi]
    · obtain ⟨z, h1, h2, h3⟩ := tele_both q q' s
      unfold rleaf t_rleaf found t_found
      by_cases hz : z.2.2.2.2.2.2 = true
      · refine ⟨(false, z.2.1, z.2.2.1, z.2.2.2.1, z.2.2.2.2.1, z.2.2.2.2.2.1, 0), ?_, ?_, h3⟩
        · simp [h1, hz]
        · simp [h2, hz]
      · refine ⟨(false, 0, 0, 0, 0, 0, 3), ?_, ?_, r8z⟩
        · simp [h1, hz]
        · simp [h2, hz]
  have bad : ∀ (q q' : Nat) (k n : Int) (s : ByteArray) (m : Nat) (f : Nat → List V) (r : Int), OpenA m f → r ≠ m → (∀ f, kids q (k, n, s, m, f) = some r) → (∀ f, formed q' (k, n, s, m, f) = some false) →
      ∃ z : g_ROf, Of (q + 1) (k, n, s, m, f, t) = some (z.1, z.2.1, z.2.2.1, z.2.2.2.1, z.2.2.2.2.1, z.2.2.2.2.2.1, z.2.2.2.2.2.2, t) ∧ ROf (q' + 1) (k, n, s, m, f, v) = some z ∧ R8 (z.2.1, z.2.2.1, z.2.2.2.1, z.2.2.2.2.1, z.2.2.2.2.2.1) := by
    intro q q' k n s m f r hf hrm hr hb
    unfold Of ROf
    dsimp only
    rw [_root_.if_pos hf.here, _root_.if_pos hf.here]
    unfold t_OfN t_ROfN
    dsimp only
    simp only [hr, hb, Option.bind_some]
    exact ⟨(false, 0, 0, 0, 0, 0, 7), by simp [hrm], by simp, r8z⟩
  intro d
  induction d with
  | zero =>
    intro q q' k n s m f hd hf hq hq'
    have hd : m = 0 := hd
    subst hd
    obtain ⟨q, rfl⟩ : ∃ k, q = k + 1 := ⟨q - 1, by omega⟩
    obtain ⟨q', rfl⟩ : ∃ k, q' = k + 1 := ⟨q' - 1, by omega⟩
    obtain ⟨r, b, hr, hb, h1, h2⟩ := formed_both q q' k n s 0
    by_cases hrm : r = (0 : Nat)
    · obtain rfl := h1.2 hrm
      subst hrm
      rcases h2 rfl with ⟨_, h⟩ | ⟨h, _⟩ | ⟨h, _⟩
      · exact leaf q q' k n s f (by omega) (by omega) hf h hr hb
      · omega
      · omega
    · have hb' : b = false := by cases b; rfl; exact absurd (h1.1 rfl) hrm
      subst hb'
      exact bad q q' k n s 0 f r hf hrm hr hb
  | succ d ih =>
    intro q q' k n s m f hd hf hq hq'
    obtain ⟨q, rfl⟩ : ∃ k, q = k + 1 := ⟨q - 1, by omega⟩
    obtain ⟨q', rfl⟩ : ∃ k, q' = k + 1 := ⟨q' - 1, by omega⟩
    obtain ⟨r, b, hr, hb, h1, h2⟩ := formed_both q q' k n s m
    by_cases hrm : r = (m : Nat)
    · obtain rfl := h1.2 hrm
      subst hrm
      rcases h2 rfl with ⟨rfl, h⟩ | ⟨rfl, rfl⟩ | ⟨rfl, rfl⟩
      · exact leaf q q' k n s f (by omega) (by omega) hf h hr hb
      · obtain ⟨z, g1, g2, g3⟩ := ih q q' (opK f 0) (opN f 0) (opS f 0) (opM f 0) (opF f 0) (hd 0 (by omega)) (hf.kid (by omega)) (by omega) (by omega)
        unfold Of ROf
        dsimp only
        rw [_root_.if_pos hf.here, _root_.if_pos hf.here]
        unfold t_OfN t_ROfN
        dsimp only
        simp only [hr, hb, Option.bind_some, g1, g2]
        by_cases he : z.2.2.2.2.2.2 = 0
        · by_cases hx : (!z.1 == (ByteArray.toList s == ByteArray.toList { data := #[(33 : UInt8)] })) = true
          · exact ⟨(false, 0, 0, 0, 0, 0, 12), by simp only [hx]; simp [he], by simp only [hx]; simp [he], r8z⟩
          · exact ⟨(z.1, z.2.1, z.2.2.1, z.2.2.2.1, z.2.2.2.2.1, z.2.2.2.2.2.1, 0), by simp only [hx]; simp [he], by simp only [hx]; simp [he], g3⟩
        · exact ⟨(false, 0, 0, 0, 0, 0, z.2.2.2.2.2.2), by simp [he], by simp [he], r8z⟩
      · obtain ⟨z, g1, g2, g3⟩ := ih q q' (opK f 0) (opN f 0) (opS f 0) (opM f 0) (opF f 0) (hd 0 (by omega)) (hf.kid (by omega)) (by omega) (by omega)
        obtain ⟨z', k1, k2, k3⟩ := ih q q' (opK f 1) (opN f 1) (opS f 1) (opM f 1) (opF f 1) (hd 1 (by omega)) (hf.kid (by omega)) (by omega) (by omega)
        unfold Of ROf
        dsimp only
        rw [_root_.if_pos hf.here, _root_.if_pos hf.here]
        unfold t_OfN t_ROfN
        dsimp only
        simp only [hr, hb, Option.bind_some, g1, g2, k1, k2]
        by_cases he : z.2.2.2.2.2.2 = 0
        · by_cases he' : z'.2.2.2.2.2.2 = 0
          · obtain ⟨u, l1, l2, l3⟩ := binary_both q q' (s, z.1, z'.1, z.2.1, z.2.2.1, z.2.2.2.1, z.2.2.2.2.1, z.2.2.2.2.2.1, z'.2.1, z'.2.2.1, z'.2.2.2.1, z'.2.2.2.2.1, z'.2.2.2.2.2.1) g3 k3
            exact ⟨u, by simp [he, he', l1], by simp [he, he', l2], l3⟩
          · exact ⟨(false, 0, 0, 0, 0, 0, z'.2.2.2.2.2.2), by simp [he, he'], by simp [he, he'], r8z⟩
        · exact ⟨(false, 0, 0, 0, 0, 0, z.2.2.2.2.2.2), by simp [he], by simp [he], r8z⟩
    · have hb' : b = false := by cases b; rfl; exact absurd (h1.1 rfl) hrm
      subst hb'
      exact bad q q' k n s m f r hf hrm hr hb
end Go.Proofs.YtniogljhkjbcgaaDoor
