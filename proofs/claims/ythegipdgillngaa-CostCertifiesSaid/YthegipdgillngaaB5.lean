/- CostActs. -/
import Derived.Test.YthegipdgillngaaBd
namespace Go.Proofs.Ythegipdgillngaa
open Go Go.Am
def a3 (a b c : Int) : V := .agg [i64 a, i64 b, i64 c]
def ofE (u v e0 : Int) (k : Nat) (a : Nat → Int) : Int := if u = 1 then e0 else if u = 2 then (if v < k then a v.toNat else 0) else 0
def sel (i u v : Int) : Int := if u = i then v else 0
def trn (R W : Int) : Int := w (W * w (Int.tdiv (w (w (360 + R) - 1)) R))
def v22 (k : Nat) (a b c : Nat → Int) (R W : Int) : List V → V
  | [.agg [.sc (.int .i64 u), .sc (.int .i64 v), _], _] => i6 (ofE u v (trn R W) k a) (ofE u v 0 k b) (sel 4 u v) (sel 3 u v) (sel 1 u 360) 0
  | _ => .junk
theorem t22 (k : Nat) (a b c : Nat → Int) (R W : Int) (u v z : Int) : callG E 20 22 [a3 u v z, rigV k a b c R W] [] K =
  if (u == (1 : Int)) = true then
   if R = (0 : Int) then
    none
   else
    some (Ans.c (CRes.ret (V.agg [i64 (w (W * w (Int.tdiv (w (w ((360 : Int) + R) - (1 : Int))) R))), i64 0, i64 0, i64 0, i64 360, i64 0]) []))
  else
   if (u == (2 : Int)) = true then
    if decide (v < ↑k) = true then
     if (0 : Int) ≤ v ∧ v < ↑k then
      some (Ans.c (CRes.ret (V.agg [i64 (a (Int.toNat v)), i64 (b (Int.toNat v)), i64 0, i64 0, i64 0, i64 0]) []))
     else
      none
    else
     some (Ans.c (CRes.ret (V.agg [i64 0, i64 0, i64 0, i64 0, i64 0, i64 0]) []))
   else
    if (u == (3 : Int)) = true then
     some (Ans.c (CRes.ret (V.agg [i64 0, i64 0, i64 0, i64 v, i64 0, i64 0]) []))
    else
     if (u == (4 : Int)) = true then
      some (Ans.c (CRes.ret (V.agg [i64 0, i64 0, i64 v, i64 0, i64 0, i64 0]) []))
     else
      some (Ans.c (CRes.ret (V.agg [i64 0, i64 0, i64 0, i64 0, i64 0, i64 0]) [])) := by kernel_rfl
theorem t23 (k : Nat) (a b c : Nat → Int) (R W : Int) (u v z : Int) : callG E 20 23 [a3 u v z, rigV k a b c R W] [] K =
  if (u == (1 : Int)) = true then
   if R = (0 : Int) then
    none
   else
    if R = (0 : Int) then
     none
    else
     some (Ans.c (CRes.ret (V.agg [i64 (w (W * w (w (Int.tdiv (360 : Int) R) + if (1 : Int) < Int.tmod (360 : Int) R then (1 : Int) else Int.tmod (360 : Int) R))), i64 0, i64 0, i64 0, i64 360, i64 0]) []))
  else
   if (u == (2 : Int)) = true then
    if decide (v < ↑k) = true then
     if (0 : Int) ≤ v ∧ v < ↑k then
      if (0 : Int) ≤ v ∧ v < ↑k then
       some (Ans.c (CRes.ret (V.agg [i64 (a (Int.toNat v)), i64 (b (Int.toNat v)), i64 0, i64 0, i64 0, i64 0]) []))
      else
       none
     else
      none
    else
     some (Ans.c (CRes.ret (V.agg [i64 0, i64 0, i64 0, i64 0, i64 0, i64 0]) []))
   else
    if (u == (3 : Int)) = true then
     some (Ans.c (CRes.ret (V.agg [i64 0, i64 0, i64 0, i64 v, i64 0, i64 0]) []))
    else
     if (u == (4 : Int)) = true then
      some (Ans.c (CRes.ret (V.agg [i64 0, i64 0, i64 v, i64 0, i64 0, i64 0]) []))
     else
      some (Ans.c (CRes.ret (V.agg [i64 0, i64 0, i64 0, i64 0, i64 0, i64 0]) [])) := by kernel_rfl
theorem ceil_eq {R : Int} (h1 : 1 ≤ R) (h2 : R ≤ 360) : (w (w (Int.tdiv 360 R) + if 1 < Int.tmod 360 R then 1 else Int.tmod 360 R)) = w (Int.tdiv (w (w (360 + R) - 1)) R) := by
  have e1 : w (w (360 + R) - 1) = 360 + R - 1 := by rw [w_in (n := 360 + R) (by unfold inR; omega), w_in (by unfold inR; omega)]
  rw [e1, Int.tdiv_eq_ediv_of_nonneg (a := 360) (by omega), Int.tdiv_eq_ediv_of_nonneg (a := 360 + R - 1) (by omega), Int.tmod_eq_emod_of_nonneg (by omega)]
  have hm := Int.mul_ediv_add_emod 360 R
  have hr := Int.emod_nonneg 360 (show R ≠ 0 by omega)
  have hr' := Int.emod_lt_of_pos 360 (show 0 < R by omega)
  have hq : 0 ≤ 360 / R := Int.ediv_nonneg (by omega) (by omega)
  have hq' : 360 / R ≤ 360 := by
    have : 360 / R * 1 ≤ 360 / R * R := Int.mul_le_mul_of_nonneg_left h1 hq
    rw [Int.mul_comm (360 / R) R] at this
    omega
  rw [w_in (n := 360 / R) (by unfold inR; omega)]
  congr 1
  have hcm : 360 / R * R = R * (360 / R) := Int.mul_comm _ _
  symm
  by_cases h0 : 360 % R = 0
  · rw [h0]
    refine (Int.ediv_eq_iff_of_pos (by omega)).2 ?_
    rw [if_neg (by omega)]
    have : (360 / R + 0) * R = 360 / R * R := by rw [Int.add_zero]
    omega
  · have e : (if 1 < 360 % R then (1 : Int) else 360 % R) = 1 := by split <;> omega
    rw [e]
    refine (Int.ediv_eq_iff_of_pos (by omega)).2 ?_
    have : (360 / R + 1) * R = 360 / R * R + R := by rw [Int.add_mul, Int.one_mul]
    omega
theorem of_P (k : Nat) (a b c : Nat → Int) {R : Int} (W u v z : Int) (h1 : 1 ≤ R) (hv : u = 2 → 0 ≤ v) : SC E 22 [a3 u v z, rigV k a b c R W] [] (.ret (v22 k a b c R W [a3 u v z, rigV k a b c R W]) []) := by
  refine SC.g (n := 20) ((t22 k a b c R W u v z).trans ?_)
  show _ = some (Ans.c (CRes.ret (i6 (ofE u v (trn R W) k a) (ofE u v 0 k b) (sel 4 u v) (sel 3 u v) (sel 1 u 360) 0) []))
  have hR : R ≠ 0 := by omega
  unfold ofE sel trn i6
  by_cases u1 : u = 1
  · subst u1; simp [hR]
  · by_cases u2 : u = 2
    · subst u2
      have := hv rfl
      by_cases hk : v < k
      · simp [hk, this]
      · simp [hk]
    · by_cases u3 : u = 3
      · subst u3; simp
      · by_cases u4 : u = 4
        · subst u4; simp
        · simp [u1, u2, u3, u4]
theorem of_R (k : Nat) (a b c : Nat → Int) {R : Int} (W u v z : Int) (h1 : 1 ≤ R) (h2 : R ≤ 360) (hv : u = 2 → 0 ≤ v) : SC E 23 [a3 u v z, rigV k a b c R W] [] (.ret (v22 k a b c R W [a3 u v z, rigV k a b c R W]) []) := by
  refine SC.g (n := 20) ((t23 k a b c R W u v z).trans ?_)
  show _ = some (Ans.c (CRes.ret (i6 (ofE u v (trn R W) k a) (ofE u v 0 k b) (sel 4 u v) (sel 3 u v) (sel 1 u 360) 0) []))
  have hR : R ≠ 0 := by omega
  have hc := ceil_eq h1 h2
  unfold ofE sel trn i6
  rw [hc]
  by_cases u1 : u = 1
  · subst u1; simp [hR]
  · by_cases u2 : u = 2
    · subst u2
      have := hv rfl
      by_cases hk : v < k
      · simp [hk, this]
      · simp [hk]
    · by_cases u3 : u = 3
      · subst u3; simp
      · by_cases u4 : u = 4
        · subst u4; simp
        · simp [u1, u2, u3, u4]
def v13 (n : Nat) (x : Nat → Int) : List V → V := fun _ => rigV (dn n) (dA x) (dB x) (dC x) (w (1 + pick n x 0 360)) (pick n x 1 1001)
def Q13 (n : Nat) (x : Nat → Int) (args : List V) : Prop := args = [ro1 n x] ∧ n ≤ Go.maxLen
def Q22 (n : Nat) (x : Nat → Int) (args : List V) : Prop := ∃ u v z, args = [a3 u v z, rigV (dn n) (dA x) (dB x) (dC x) (w (1 + pick n x 0 360)) (pick n x 1 1001)] ∧ (u = 2 → 0 ≤ v)
noncomputable def C5 (n : Nat) (x : Nat → Int) : CallT := ptab 13 (Q13 n x) (v13 n x) (ptab 22 (Q22 n x) (v22 (dn n) (dA x) (dB x) (dC x) (w (1 + pick n x 0 360)) (pick n x 1 1001)) (ptab 23 (Q22 n x) (v22 (dn n) (dA x) (dB x) (dC x) (w (1 + pick n x 0 360)) (pick n x 1 1001)) (tab [(17, t17), (21, t21)])))
theorem law5 (n : Nat) (x : Nat → Int) (u v z : Int) : callK E (C5 n x) L0 5 [a3 u v z, ro1 n x] [] K =
  cl (Q13 n x ([V.ro 1 n fun (j : Nat) => [i64 (x j)]]) ∧ ([] : List (Option Chunk)) = []) (
   cl (Q22 n x ([V.agg [i64 1, i64 (w ((0 : Int) - around v (2147483648 : Int))), i64 0], V.agg [V.ro 3 (dn n) (r3 (dA x) (dB x) (dC x)), i64 (w ((1 : Int) + pick n x (0 : Int) (360 : Int))), i64 (pick n x (1 : Int) (1001 : Int))]]) ∧ ([] : List (Option Chunk)) = []) (
    cl (Q22 n x ([V.agg [i64 1, i64 (w ((0 : Int) - around v (2147483648 : Int))), i64 0], V.agg [V.ro 3 (dn n) (r3 (dA x) (dB x) (dC x)), i64 (w ((1 : Int) + pick n x (0 : Int) (360 : Int))), i64 (pick n x (1 : Int) (1001 : Int))]]) ∧ ([] : List (Option Chunk)) = []) (
     if (if true = true then !(ofE (1 : Int) (w ((0 : Int) - around v (2147483648 : Int))) (trn (w ((1 : Int) + pick n x (0 : Int) (360 : Int))) (pick n x (1 : Int) (1001 : Int))) (dn n) (dA x) == ofE (1 : Int) (w ((0 : Int) - around v (2147483648 : Int))) (trn (w ((1 : Int) + pick n x (0 : Int) (360 : Int))) (pick n x (1 : Int) (1001 : Int))) (dn n) (dA x) && (ofE (1 : Int) (w ((0 : Int) - around v (2147483648 : Int))) (0 : Int) (dn n) (dB x) == ofE (1 : Int) (w ((0 : Int) - around v (2147483648 : Int))) (0 : Int) (dn n) (dB x) && (sel (4 : Int) (1 : Int) (w ((0 : Int) - around v (2147483648 : Int))) == sel (4 : Int) (1 : Int) (w ((0 : Int) - around v (2147483648 : Int))) && (sel (3 : Int) (1 : Int) (w ((0 : Int) - around v (2147483648 : Int))) == sel (3 : Int) (1 : Int) (w ((0 : Int) - around v (2147483648 : Int))) && (sel (1 : Int) (1 : Int) (360 : Int) == sel (1 : Int) (1 : Int) (360 : Int) && ((0 : Int) == (0 : Int) && true)))))) else ofE (1 : Int) (w ((0 : Int) - around v (2147483648 : Int))) (trn (w ((1 : Int) + pick n x (0 : Int) (360 : Int))) (pick n x (1 : Int) (1001 : Int))) (dn n) (dA x) == ofE (1 : Int) (w ((0 : Int) - around v (2147483648 : Int))) (trn (w ((1 : Int) + pick n x (0 : Int) (360 : Int))) (pick n x (1 : Int) (1001 : Int))) (dn n) (dA x) && (ofE (1 : Int) (w ((0 : Int) - around v (2147483648 : Int))) (0 : Int) (dn n) (dB x) == ofE (1 : Int) (w ((0 : Int) - around v (2147483648 : Int))) (0 : Int) (dn n) (dB x) && (sel (4 : Int) (1 : Int) (w ((0 : Int) - around v (2147483648 : Int))) == sel (4 : Int) (1 : Int) (w ((0 : Int) - around v (2147483648 : Int))) && (sel (3 : Int) (1 : Int) (w ((0 : Int) - around v (2147483648 : Int))) == sel (3 : Int) (1 : Int) (w ((0 : Int) - around v (2147483648 : Int))) && (sel (1 : Int) (1 : Int) (360 : Int) == sel (1 : Int) (1 : Int) (360 : Int) && ((0 : Int) == (0 : Int) && true)))))) = true then
      some (Ans.c (CRes.ret (bo false) []))
     else
      cl (Q22 n x ([V.agg [i64 u, i64 (around v (2147483648 : Int)), i64 z], V.agg [V.ro 3 (dn n) (r3 (dA x) (dB x) (dC x)), i64 (w ((1 : Int) + pick n x (0 : Int) (360 : Int))), i64 (pick n x (1 : Int) (1001 : Int))]]) ∧ ([] : List (Option Chunk)) = []) (
       cl (Q22 n x ([V.agg [i64 u, i64 (around v (2147483648 : Int)), i64 z], V.agg [V.ro 3 (dn n) (r3 (dA x) (dB x) (dC x)), i64 (w ((1 : Int) + pick n x (0 : Int) (360 : Int))), i64 (pick n x (1 : Int) (1001 : Int))]]) ∧ ([] : List (Option Chunk)) = []) (
        if (if false = true then !(ofE u (around v (2147483648 : Int)) (trn (w ((1 : Int) + pick n x (0 : Int) (360 : Int))) (pick n x (1 : Int) (1001 : Int))) (dn n) (dA x) == ofE u (around v (2147483648 : Int)) (trn (w ((1 : Int) + pick n x (0 : Int) (360 : Int))) (pick n x (1 : Int) (1001 : Int))) (dn n) (dA x) && (ofE u (around v (2147483648 : Int)) (0 : Int) (dn n) (dB x) == ofE u (around v (2147483648 : Int)) (0 : Int) (dn n) (dB x) && (sel (4 : Int) u (around v (2147483648 : Int)) == sel (4 : Int) u (around v (2147483648 : Int)) && (sel (3 : Int) u (around v (2147483648 : Int)) == sel (3 : Int) u (around v (2147483648 : Int)) && (sel (1 : Int) u (360 : Int) == sel (1 : Int) u (360 : Int) && ((0 : Int) == (0 : Int) && true)))))) else ofE u (around v (2147483648 : Int)) (trn (w ((1 : Int) + pick n x (0 : Int) (360 : Int))) (pick n x (1 : Int) (1001 : Int))) (dn n) (dA x) == ofE u (around v (2147483648 : Int)) (trn (w ((1 : Int) + pick n x (0 : Int) (360 : Int))) (pick n x (1 : Int) (1001 : Int))) (dn n) (dA x) && (ofE u (around v (2147483648 : Int)) (0 : Int) (dn n) (dB x) == ofE u (around v (2147483648 : Int)) (0 : Int) (dn n) (dB x) && (sel (4 : Int) u (around v (2147483648 : Int)) == sel (4 : Int) u (around v (2147483648 : Int)) && (sel (3 : Int) u (around v (2147483648 : Int)) == sel (3 : Int) u (around v (2147483648 : Int)) && (sel (1 : Int) u (360 : Int) == sel (1 : Int) u (360 : Int) && ((0 : Int) == (0 : Int) && true)))))) = true then
         cl (Q22 n x ([V.agg [i64 (around u (7 : Int)), i64 (around v (10 : Int)), i64 0], V.agg [V.ro 3 (dn n) (r3 (dA x) (dB x) (dC x)), i64 (w ((1 : Int) + pick n x (0 : Int) (360 : Int))), i64 (pick n x (1 : Int) (1001 : Int))]]) ∧ ([] : List (Option Chunk)) = []) (
          cl (Q22 n x ([V.agg [i64 (around u (7 : Int)), i64 (around v (10 : Int)), i64 0], V.agg [V.ro 3 (dn n) (r3 (dA x) (dB x) (dC x)), i64 (w ((1 : Int) + pick n x (0 : Int) (360 : Int))), i64 (pick n x (1 : Int) (1001 : Int))]]) ∧ ([] : List (Option Chunk)) = []) (
           if (if false = true then !(ofE (around u (7 : Int)) (around v (10 : Int)) (trn (w ((1 : Int) + pick n x (0 : Int) (360 : Int))) (pick n x (1 : Int) (1001 : Int))) (dn n) (dA x) == ofE (around u (7 : Int)) (around v (10 : Int)) (trn (w ((1 : Int) + pick n x (0 : Int) (360 : Int))) (pick n x (1 : Int) (1001 : Int))) (dn n) (dA x) && (ofE (around u (7 : Int)) (around v (10 : Int)) (0 : Int) (dn n) (dB x) == ofE (around u (7 : Int)) (around v (10 : Int)) (0 : Int) (dn n) (dB x) && (sel (4 : Int) (around u (7 : Int)) (around v (10 : Int)) == sel (4 : Int) (around u (7 : Int)) (around v (10 : Int)) && (sel (3 : Int) (around u (7 : Int)) (around v (10 : Int)) == sel (3 : Int) (around u (7 : Int)) (around v (10 : Int)) && (sel (1 : Int) (around u (7 : Int)) (360 : Int) == sel (1 : Int) (around u (7 : Int)) (360 : Int) && ((0 : Int) == (0 : Int) && true)))))) else ofE (around u (7 : Int)) (around v (10 : Int)) (trn (w ((1 : Int) + pick n x (0 : Int) (360 : Int))) (pick n x (1 : Int) (1001 : Int))) (dn n) (dA x) == ofE (around u (7 : Int)) (around v (10 : Int)) (trn (w ((1 : Int) + pick n x (0 : Int) (360 : Int))) (pick n x (1 : Int) (1001 : Int))) (dn n) (dA x) && (ofE (around u (7 : Int)) (around v (10 : Int)) (0 : Int) (dn n) (dB x) == ofE (around u (7 : Int)) (around v (10 : Int)) (0 : Int) (dn n) (dB x) && (sel (4 : Int) (around u (7 : Int)) (around v (10 : Int)) == sel (4 : Int) (around u (7 : Int)) (around v (10 : Int)) && (sel (3 : Int) (around u (7 : Int)) (around v (10 : Int)) == sel (3 : Int) (around u (7 : Int)) (around v (10 : Int)) && (sel (1 : Int) (around u (7 : Int)) (360 : Int) == sel (1 : Int) (around u (7 : Int)) (360 : Int) && ((0 : Int) == (0 : Int) && true)))))) = true then
            some (Ans.c (CRes.ret (bo true) []))
           else
            some (Ans.c (CRes.ret (bo false) []))) (
           none)) (
          none)
        else
         some (Ans.c (CRes.ret (bo false) []))) (
        none)) (
       none)) (
     none)) (
    none)) (
   none) := by kernel_rfl
theorem pick_in {n : Nat} {x : Nat → Int} (hx : ∀ j, j < n → inR (x j)) (i : Int) {m : Int} (hm : 0 < m) : 0 ≤ pick n x i m ∧ pick n x i m < m := by
  unfold pick
  split
  · omega
  · rename_i h
    exact around_in (hx _ (by omega)) hm
theorem sC5 (n : Nat) (x : Nat → Int) (hx : ∀ j, j < n → inR (x j)) : SoundC E (C5 n x) := by
  have hp := pick_in hx 0 (m := 360) (by omega)
  have hR : w (1 + pick n x 0 360) = 1 + pick n x 0 360 := w_in (by unfold inR; omega)
  refine ptab_cons (fun args h => ?_) (ptab_cons (fun args h => ?_) (ptab_cons (fun args h => ?_) (tab_cons ok17 (tab_cons ok21 tab_nil))))
  · obtain ⟨rfl, hn⟩ := h
    exact rig_sc n x hn
  · obtain ⟨u, v, z, rfl, hv⟩ := h
    exact of_P _ _ _ _ _ _ _ _ (by omega) hv
  · obtain ⟨u, v, z, rfl, hv⟩ := h
    exact of_R _ _ _ _ _ _ _ _ (by omega) (by omega) hv
theorem q22 (n : Nat) (x : Nat → Int) (u v z : Int) (hv : u = 2 → 0 ≤ v) : Q22 n x [V.agg [i64 u, i64 v, i64 z], V.agg [V.ro 3 (dn n) (r3 (dA x) (dB x) (dC x)), i64 (w (1 + pick n x 0 360)), i64 (pick n x 1 1001)]] := ⟨u, v, z, rfl, hv⟩
theorem costActs (v0 v1 : V) (h0 : WTV E.P 42 v0) (h1 : WTV E.P 22 v1) : ∃ l', LeL [v0, v1] l' ∧ SC E 5 l' [] (.ret (bo true) []) := by
  obtain ⟨d, vs, rfl, g⟩ := h0.struct (l := [3, 3, 3]) (by kernel_rfl)
  obtain ⟨d, _, _, rfl, g1, _, _, rfl, g2, _, _, rfl, g3, rfl⟩ := g.struct (l := [3, 3, 3]) (by kernel_rfl)
  obtain ⟨u, rfl, ru⟩ := wt3 g1
  obtain ⟨v, rfl, rv⟩ := wt3 g2
  obtain ⟨z, rfl, rz⟩ := wt3 g3
  obtain ⟨n, f, rfl, hn, d, h⟩ := h1.slice (e := 3) (c := 1) (by kernel_rfl) (by kernel_rfl) (by kernel_rfl) (by omega)
  have hle : Le (.ro 1 n f) (ro1 n fun j => nthI (f j) 0) := Le.ro_eq fun j hj => by
    obtain ⟨a, hf, _⟩ := wt3 (h j hj)
    exact ⟨by simp only [hf]; rfl, rfl⟩
  have hx : ∀ j, j < n → inR (nthI (f j) 0) := fun j hj => by
    obtain ⟨a, hf, ra⟩ := wt3 (h j hj)
    simp only [hf]; exact ra
  have key : ∀ x : Nat → Int, (∀ j, j < n → inR (x j)) → SC E 5 [a3 u v z, ro1 n x] [] (.ret (bo true) []) := fun x hx => by
    refine SC.of hW hX (sC5 n x hx) (soundL_none E) ((law5 n x u v z).trans ?_)
    have a1 := around_in rv (m := 2147483648) (by omega)
    have a2 := around_in rv (m := 10) (by omega)
    rw [cl_pos ⟨⟨rfl, hn⟩, rfl⟩, cl_pos ⟨q22 n x _ _ _ (by omega), rfl⟩, cl_pos ⟨q22 n x _ _ _ (by omega), rfl⟩, cl_pos ⟨q22 n x _ _ _ (by omega), rfl⟩, cl_pos ⟨q22 n x _ _ _ (by omega), rfl⟩, cl_pos ⟨q22 n x _ _ _ (by omega), rfl⟩, cl_pos ⟨q22 n x _ _ _ (by omega), rfl⟩]
    simp only [beq_self_eq_true, Bool.and_true, Bool.not_true, if_true, Bool.false_eq_true, if_false, ite_self]
  refine ⟨[a3 u v z, ro1 n fun j => nthI (f j) 0], LeL.cons (Le.refl _) (LeL.cons hle LeL.nil), key _ hx⟩
end Go.Proofs.Ythegipdgillngaa
