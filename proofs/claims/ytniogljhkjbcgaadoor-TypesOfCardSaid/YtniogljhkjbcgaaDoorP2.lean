/- Types: trees and variables (plain). -/
import Derived.Test.YtniogljhkjbcgaaDoorB1
import Derived.Test.YtniogljhkjbcgaaDoorP1
namespace Go.Proofs.YtniogljhkjbcgaaDoor
open Go Go.Am Go.Proofs
set_option linter.unusedSimpArgs false
set_option linter.unusedVariables false
set_option maxRecDepth 100000
def Runs {α : Type} (o : Option α) (P : α → Prop) : Prop := ∃ z, o = some z ∧ P z
theorem Runs.bind {α β : Type} {o : Option α} {f : α → Option β} {P : α → Prop} {Q : β → Prop} (h : Runs o P) (g : ∀ z, P z → Runs (f z) Q) : Runs (o.bind f) Q := by
  obtain ⟨z, rfl, hz⟩ := h
  exact g z hz
theorem Runs.some {α : Type} {z : α} {P : α → Prop} (h : P z) : Runs (some z) P := ⟨z, rfl, h⟩
theorem Runs.mono {α : Type} {o : Option α} {P Q : α → Prop} (h : Runs o P) (g : ∀ z, P z → Q z) : Runs o Q := by
  obtain ⟨z, h1, h2⟩ := h
  exact ⟨z, h1, g z h2⟩
theorem Runs.if_pos {α : Type} {c : Prop} [Decidable c] {a b : Option α} {P : α → Prop} (hc : c) (h : Runs a P) : Runs (ite c a b) P := by rw [_root_.if_pos hc]; exact h
theorem Runs.if_neg {α : Type} {c : Prop} [Decidable c] {a b : Option α} {P : α → Prop} (hc : ¬ c) (h : Runs b P) : Runs (ite c a b) P := by rw [_root_.if_neg hc]; exact h
theorem Runs.ite {α : Type} {c : Prop} [Decidable c] {a b : Option α} {P : α → Prop} (h1 : c → Runs a P) (h2 : ¬ c → Runs b P) : Runs (_root_.ite c a b) P := by
  by_cases h : c
  · exact Runs.if_pos h (h1 h)
  · exact Runs.if_neg h (h2 h)
theorem lp_step {α γ : Type} {st : α → Option (α ⊕ γ)} {q : Nat} {y : α} {P : γ → Prop} (h : Runs (st y) (fun r => Sum.elim (fun y' => Runs (lpG st q y') P) P r)) : Runs (lpG st (q + 1) y) P := by
  obtain ⟨r, h1, h2⟩ := h
  rw [lpG_succ, h1]
  cases r with
  | inl y' => exact h2
  | inr z => exact ⟨z, rfl, h2⟩
/-! ### Trees -/
/-- So many levels of kids are nodes. -/
def OpenD : Nat → Nat → (Nat → List V) → Prop
  | 0, _, f => OpenN f
  | d + 1, m, f => OpenN f ∧ ∀ j, j < m → OpenD d (opM f j) (opF f j)
def OpenA (m : Nat) (f : Nat → List V) : Prop := ∀ d, OpenD d m f
theorem OpenA.here {m : Nat} {f : Nat → List V} (h : OpenA m f) : OpenN f := h 0
theorem OpenA.kid {m : Nat} {f : Nat → List V} (h : OpenA m f) {j : Nat} (hj : j < m) : OpenA (opM f j) (opF f j) := fun d => (h (d + 1)).2 j hj
theorem OpenA.of {m : Nat} {f : Nat → List V} (h : OpenN f) (g : ∀ j, j < m → OpenA (opM f j) (opF f j)) : OpenA m f
  | 0 => h
  | d + 1 => ⟨h, fun j hj => g j hj d⟩
/-- The tree is not deeper. -/
def Dp : Nat → Nat → (Nat → List V) → Prop
  | 0, m, f => m = 0
  | d + 1, m, f => ∀ j, j < m → Dp d (opM f j) (opF f j)
theorem Dp.succ : ∀ {d m : Nat} {f : Nat → List V}, Dp d m f → Dp (d + 1) m f
  | 0, m, f, h => fun j hj => by have h : m = 0 := h; omega
  | d + 1, m, f, h => fun j hj => Dp.succ (h j hj)
theorem Dp.le {d d' m : Nat} {f : Nat → List V} (h : Dp d m f) (hd : d ≤ d') : Dp d' m f := by
  induction d' with
  | zero => have : d = 0 := by omega
            subst this; exact h
  | succ d' ih =>
    by_cases hh : d = d' + 1
    · subst hh; exact h
    · exact (ih (by omega)).succ
def NP (most m : Nat) (f : Nat → List V) (z : Int) : Prop := 1 ≤ z ∧ z ≤ most + 1 ∧ (z ≤ most → Dp most m f)
theorem nodes_loop {c : a_Nodes → Option g_Nodes} {most m : Nat} {f : Nat → List V} {nk nn : Int} {ns : ByteArray} (hm : most ≤ 300)
    (hc : ∀ (most' j : Nat), most' < most → j < m → Runs (c (opK f j, opN f j, opS f j, opM f j, opF f j, (most' : Int))) (NP most' (opM f j) (opF f j))) :
    ∀ (r q kk i : Nat), kk + r = most + 1 → r < q → i < kk → (kk ≤ most → ∀ j, j < i → Dp (most - 1) (opM f j) (opF f j)) → i ≤ m →
      Runs (NodesN_l0 c q (nk, nn, ns, m, opK f, opN f, opS f, opM f, opF f, (most : Int)) ((kk : Int), (i : Int))) (NP most m f) := by
  intro r
  induction r using Nat.strongRecOn with
  | ind r ih =>
    intro q kk i hk hq hi hd him
    obtain ⟨q, rfl⟩ : ∃ k, q = k + 1 := ⟨q - 1, by omega⟩
    refine lp_step ?_
    unfold NodesN_l0_t
    dsimp only
    have fin : kk > most ∨ i = m → NP most m f (kk : Int) := fun h => by
      refine ⟨by omega, by omega, fun hz => ?_⟩
      have hkm : kk ≤ most := by omega
      have him : i = m := by omega
      subst him
      obtain ⟨d, rfl⟩ : ∃ d, most = d + 1 := ⟨most - 1, by omega⟩
      exact hd hkm
    refine Runs.ite (fun h1 => Runs.ite (fun h2 => Runs.if_pos ?_ ?_) fun h2 => Runs.some (fin ?_)) fun h1 => Runs.some (fin ?_)
    · simp only [decide_eq_true_eq] at h1; exact ⟨by omega, h1⟩
    · simp only [decide_eq_true_eq] at h1 h2
      have e1 : w ((most : Int) - (kk : Int)) = ((most - kk : Nat) : Int) := by rw [w_in (by unfold inR; omega)]; omega
      have e2 : w ((i : Int) + 1) = ((i + 1 : Nat) : Int) := by rw [w_in (by unfold inR; omega)]; omega
      rw [e1, e2, Int.toNat_natCast]
      refine Runs.bind (hc (most - kk) i (by omega) (by omega)) fun (z : Int) hz => Runs.some ?_
      obtain ⟨z1, z2, z3⟩ := hz
      obtain ⟨t, rfl⟩ : ∃ t : Nat, z = t := ⟨z.toNat, by omega⟩
      have e3 : w ((kk : Int) + (t : Int)) = ((kk + t : Nat) : Int) := by rw [w_in (by unfold inR; omega)]; omega
      rw [e3]
      refine ih (most + 1 - (kk + t)) (by omega) q (kk + t) (i + 1) (by omega) (by omega) (by omega) (fun hle j hj => ?_) (by omega)
      by_cases hji : j = i
      · subst hji
        exact (z3 (by omega)).le (by omega)
      · exact hd (by omega) j (by omega)
    · simp only [decide_eq_true_eq] at h2; omega
    · simp only [decide_eq_true_eq] at h1; omega
theorem nodes_runs : ∀ (N most : Nat), most < N → most ≤ 300 → ∀ (q : Nat), most + 3 ≤ q → ∀ (nk nn : Int) (ns : ByteArray) (m : Nat) (f : Nat → List V), OpenA m f → Runs (Nodes q (nk, nn, ns, m, f, (most : Int))) (NP most m f) := by
  intro N
  induction N with
  | zero => intro most h; omega
  | succ N ih =>
    intro most hN hm q hq nk nn ns m f hf
    obtain ⟨q, rfl⟩ : ∃ k, q = k + 1 := ⟨q - 1, by omega⟩
    unfold Nodes
    dsimp only
    rw [_root_.if_pos hf.here]
    unfold t_NodesN
    refine Runs.bind (P := NP most m f) ?_ fun z hz => Runs.some hz
    exact nodes_loop hm (fun most' j h1 h2 => ih most' (by omega) (by omega) q (by omega) _ _ _ _ _ (hf.kid h2)) most q 1 0 (by omega) (by omega) (by omega) (fun _ j hj => by omega) (by omega)
/-! ### Variables -/
theorem tl_eq {a b : ByteArray} : ((ByteArray.toList a == ByteArray.toList b) = true) ↔ a = b := by
  rw [beq_iff_eq, ByteArray.toList_eq, ByteArray.toList_eq]
  constructor
  · intro h
    obtain ⟨⟨x⟩⟩ := a
    obtain ⟨⟨y⟩⟩ := b
    simp only at h
    rw [h]
  · rintro rfl; rfl
abbrev VarT : Type := Nat × (Nat → ByteArray) × (Nat → Int) × (Nat → Int) × (Nat → Int) × (Nat → Int) × (Nat → Int)
def FP (n : Nat) (vs : Nat → ByteArray) (s : ByteArray) (z : Int) : Prop := (z = -1 ∧ ∀ j, j < n → vs j ≠ s) ∨ ∃ i : Nat, i < n ∧ z = i ∧ vs i = s ∧ ∀ j, j < i → vs j ≠ s
theorem find_runs {n : Nat} {vs : Nat → ByteArray} {v0 v1 v2 v3 v4 : Nat → Int} {s : ByteArray} (hn : n ≤ 1000) {q : Nat} (hq : n < q) : Runs (Find q (n, vs, v0, v1, v2, v3, v4, s)) (FP n vs s) := by
  have loop : ∀ (r q i : Nat), i + r = n → r < q → (∀ j, j < i → vs j ≠ s) → Runs (Find_l0 q (n, vs, v0, v1, v2, v3, v4, s) (i : Int)) (fun z => FP n vs s (Sum.elim id (fun _ => -1) z)) := by
    intro r
    induction r with
    | zero =>
      intro q i hi hq hp
      obtain ⟨q, rfl⟩ : ∃ k, q = k + 1 := ⟨q - 1, by omega⟩
      refine lp_step ?_
      unfold Find_l0_t
      dsimp only
      refine Runs.if_neg (show ¬ decide ((i : Int) < (n : Int)) = true by simp only [decide_eq_true_eq]; omega) (Runs.some (.inl ⟨rfl, fun j hj => hp j (by omega)⟩))
    | succ r ih =>
      intro q i hi hq hp
      obtain ⟨q, rfl⟩ : ∃ k, q = k + 1 := ⟨q - 1, by omega⟩
      refine lp_step ?_
      unfold Find_l0_t
      dsimp only
      refine Runs.if_pos (show decide ((i : Int) < (n : Int)) = true by simp only [decide_eq_true_eq]; omega) (Runs.if_pos ⟨by show (0 : Int) ≤ (i : Int); omega, by show (i : Int) < (n : Int); omega⟩ (Runs.ite (fun h => Runs.some ?_) fun h => Runs.some ?_))
      · rw [Int.toNat_natCast, tl_eq] at h
        exact .inr ⟨i, by omega, rfl, h, hp⟩
      · rw [Int.toNat_natCast, tl_eq] at h
        have e : w ((i : Int) + 1) = ((i + 1 : Nat) : Int) := by rw [w_in (by unfold inR; omega)]; omega
        show Runs (lpG _ q (w ((i : Int) + 1))) _
        rw [e]
        refine ih q (i + 1) (by omega) (by omega) fun j hj => ?_
        by_cases hji : j = i
        · subst hji; exact h
        · exact hp j (by omega)
  unfold Find t_Find
  refine Runs.bind (loop n q 0 (by omega) hq fun j hj => by omega) fun z hz => ?_
  rcases z with z | z
  · exact Runs.some hz
  · exact Runs.some hz
theorem findZ_runs {s : ByteArray} {q : Nat} (hq : 0 < q) : Runs (FindZ q s) (fun (z : Int) => z = -1) := by
  obtain ⟨q, rfl⟩ : ∃ k, q = k + 1 := ⟨q - 1, by omega⟩
  unfold FindZ t_FindZ
  refine Runs.bind (P := fun _ => True) (lp_step ?_) fun z _ => Runs.some rfl
  unfold FindZ_l0_t
  exact Runs.some trivial
theorem bound_runs {n : Int} (hn : inR n) (q : Nat) : Runs (Bound q (n, 8)) (fun (z : Int) => -8 ≤ z ∧ z ≤ 8) := by
  unfold inR at hn
  unfold Bound t_Bound
  have e17 : w (w ((2 : Int) * 8) + 1) = 17 := by decide
  simp only [e17]
  refine Runs.ite (fun h => Runs.if_neg (by decide) (Runs.some ?_)) fun h => Runs.if_neg (by decide) (Runs.some ?_)
  · simp only [decide_eq_true_eq] at h
    rw [w_in (n := n + 1) (by unfold inR; omega), w_in (n := 0 - (n + 1)) (by unfold inR; omega), Int.tmod_eq_emod_of_nonneg (by omega), w_in (by unfold inR; omega)]
    omega
  · simp only [decide_eq_true_eq] at h
    rw [Int.tmod_eq_emod_of_nonneg (by omega), w_in (by unfold inR; omega)]
    omega
/-- Different variables with exponents that types have. -/
structure VOk (z : VarT) : Prop where
  n : z.1 ≤ 12
  ne : ∀ i j, i < j → j < z.1 → z.2.1 i ≠ z.2.1 j
  d : ∀ j, j < z.1 → R8 (z.2.2.1 j, z.2.2.2.1 j, z.2.2.2.2.1 j, z.2.2.2.2.2.1 j, z.2.2.2.2.2.2 j)
structure VIn (x : VarT) : Prop where
  n : x.1 ≤ 40
  d : ∀ j, j < x.1 → inR (x.2.2.1 j) ∧ inR (x.2.2.2.1 j) ∧ inR (x.2.2.2.2.1 j) ∧ inR (x.2.2.2.2.2.1 j) ∧ inR (x.2.2.2.2.2.2 j)
end Go.Proofs.YtniogljhkjbcgaaDoor
