/- Numbers picked; rigs made from numbers. -/
import Derived.Test.YthegipdgillngaaBc
import Derived.Test.YthegipdgillngaaAmV
namespace Go.Proofs.Ythegipdgillngaa
open Go Go.Am
def jk (n : Nat) : List V := List.replicate n .junk
def ro1 (n : Nat) (x : Nat → Int) : V := .ro 1 n (fun j => [i64 (x j)])
def pick (n : Nat) (x : Nat → Int) (i m : Int) : Int := if i < 0 ∨ i ≥ n then 0 else around (x i.toNat) m
def q27 (n : Nat) (x : Nat → Int) : List V → Option V
  | [.sc (.int .i64 i), .sc (.int .i64 m)] => if m = 0 then none else some (i64 (pick n x i m))
  | _ => none
def C21 : CallT := tab [(21, t21)]
theorem sC21 : SoundC E C21 := tab_cons ok21 tab_nil
noncomputable def C13 (n : Nat) (x : Nat → Int) : CallT := htab 27 (ro1 n x) (q27 n x) C21
def r3 (a b c : Nat → Int) : Nat → List V := fun j => [i64 (a j), i64 (b j), i64 (c j)]
def SR0 (n : Nat) (x : Nat → Int) (R W : Int) : St := { fr := [ro1 n x, .junk, .ptr 0 0, .ptr 1 0, i64 2] ++ jk 43, H := hp [some (.blk [.sc (.slice none 0 0), i64 0, i64 0]), some (.blk [.sc (.slice none 0 0), i64 R, i64 W])], nx := 2, rt := 0, me := 13 }
def SR (n : Nat) (x : Nat → Int) (R W : Int) (i : Int) (j : Nat) (a b c : Nat → Int) : St := { fr := [ro1 n x, .junk, .ptr 0 0, .ptr 1 0, i64 i] ++ jk 43, H := hp [some (.blk [.sc (.slice none 0 0), i64 0, i64 0]), some (.blk [.sl 2 3 0 j, i64 R, i64 W]), some (.row 59 3 j (r3 a b c))], nx := 3, rt := 0, me := 13 }
def SRe (R W : Int) (j : Nat) (a b c : Nat → Int) : St := { fr := [.junk, .junk, .ptr 0 0, .ptr 1 0] ++ jk 44, H := hp [some (.blk [.sc (.slice none 0 0), i64 0, i64 0]), some (.blk [.sl 2 3 0 j, i64 R, i64 W]), some (.row 59 3 j (r3 a b c))], nx := 3, rt := 0, me := 13 }
def SRe0 (R W : Int) : St := { fr := [.junk, .junk, .ptr 0 0, .ptr 1 0] ++ jk 44, H := hp [some (.blk [.sc (.slice none 0 0), i64 0, i64 0]), some (.blk [.sc (.slice none 0 0), i64 R, i64 W])], nx := 2, rt := 0, me := 13 }
theorem rd0 (n k : Nat) (x : Nat → Int) (R W : Int) (a b c : Nat → Int) (S1 : St) : loopK E C21 (ltab [⟨bodyOf E 13 0, S1, .exit 0, SRe R W k a b c⟩]) 0 29 (bodyOf E 13 0) (SR0 n x R W) (KC 12) =
  if decide (w ((2 : Int) + (2 : Int)) < ↑n) = true then
   if (0 : Int) ≤ (2 : Int) ∧ (2 : Int) < ↑n then
    if (0 : Int) ≤ w ((2 : Int) + (1 : Int)) ∧ w ((2 : Int) + (1 : Int)) < ↑n then
     if (0 : Int) ≤ w ((2 : Int) + (2 : Int)) ∧ w ((2 : Int) + (2 : Int)) < ↑n then
      cl ((bodyOf E 13 0) = (bodyOf E 13 0) ∧ LeSt ({ fr := [V.ro 1 n fun (j : Nat) => [i64 (x j)], V.junk, V.ptr 0 0, V.ptr 1 0, i64 (w ((2 : Int) + (3 : Int)))] ++ jk 43, H := hp [some (Chunk.blk [V.sc (Value.slice none 0 0), i64 0, i64 0]), some (Chunk.blk [V.sl 2 3 0 1, i64 R, i64 W]), some (Chunk.row 59 3 1 fun (j : Nat) => List.getD [[i64 (around (x 2) (1001 : Int)), i64 (around (x 3) (1001 : Int)), i64 (around (x 4) (8 : Int))]] (0 + j) [])], nx := 3, rt := 0, me := 13 }) (S1)) (
       some (Ans.l (Ex.exit 0) { fr := [V.junk, V.junk, V.ptr 0 0, V.ptr 1 0] ++ jk 44, H := hp [some (Chunk.blk [V.sc (Value.slice none 0 0), i64 0, i64 0]), some (Chunk.blk [V.sl 2 3 0 k, i64 R, i64 W]), some (Chunk.row 59 3 k (r3 a b c))], nx := 3, rt := 0, me := 13 })) (
       none)
     else
      none
    else
     none
   else
    none
  else
   some (Ans.l (Ex.exit 0) { fr := [V.junk, V.junk, V.ptr 0 0, V.ptr 1 0] ++ jk 44, H := hp [some (Chunk.blk [V.sc (Value.slice none 0 0), i64 0, i64 0]), some (Chunk.blk [V.sc (Value.slice none 0 0), i64 R, i64 W])], nx := 2, rt := 0, me := 13 }) := by kernel_rfl
theorem rd (n j k : Nat) (x : Nat → Int) (R W i : Int) (a b c a' b' c' : Nat → Int) (S1 : St) : loopK E C21 (ltab [⟨bodyOf E 13 0, S1, .exit 0, SRe R W k a' b' c'⟩]) 0 29 (bodyOf E 13 0) (SR n x R W i j a b c) (KC 12) =
  if decide (w (i + (2 : Int)) < ↑n) = true then
   if decide (↑j < (8 : Int)) = true then
    if (0 : Int) ≤ i ∧ i < ↑n then
     if (0 : Int) ≤ w (i + (1 : Int)) ∧ w (i + (1 : Int)) < ↑n then
      if (0 : Int) ≤ w (i + (2 : Int)) ∧ w (i + (2 : Int)) < ↑n then
       if (j + 1) * 24 ≤ roomBound ∧ j + 1 ≤ maxLen ∧ j ≤ j then
        cl ((bodyOf E 13 0) = (bodyOf E 13 0) ∧ LeSt ({ fr := [V.ro 1 n fun (j : Nat) => [i64 (x j)], V.junk, V.ptr 0 0, V.ptr 1 0, i64 (w (i + (3 : Int)))] ++ jk 43, H := hp [some (Chunk.blk [V.sc (Value.slice none 0 0), i64 0, i64 0]), some (Chunk.blk [V.sl 2 3 0 (j + 1), i64 R, i64 W]), some (Chunk.row 59 3 (j + 1) (joinF j (r3 a b c) fun (j : Nat) => List.getD [[i64 (around (x (Int.toNat i)) (1001 : Int)), i64 (around (x (Int.toNat (w (i + (1 : Int))))) (1001 : Int)), i64 (around (x (Int.toNat (w (i + (2 : Int))))) (8 : Int))]] (0 + j) []))], nx := 3, rt := 0, me := 13 }) (S1)) (
         some (Ans.l (Ex.exit 0) { fr := [V.junk, V.junk, V.ptr 0 0, V.ptr 1 0] ++ jk 44, H := hp [some (Chunk.blk [V.sc (Value.slice none 0 0), i64 0, i64 0]), some (Chunk.blk [V.sl 2 3 0 k, i64 R, i64 W]), some (Chunk.row 59 3 k (r3 a' b' c'))], nx := 3, rt := 0, me := 13 })) (
         none)
       else
        none
      else
       none
     else
      none
    else
     none
   else
    some (Ans.l (Ex.exit 0) { fr := [V.junk, V.junk, V.ptr 0 0, V.ptr 1 0] ++ jk 44, H := hp [some (Chunk.blk [V.sc (Value.slice none 0 0), i64 0, i64 0]), some (Chunk.blk [V.sl 2 3 0 j, i64 R, i64 W]), some (Chunk.row 59 3 j (r3 a b c))], nx := 3, rt := 0, me := 13 })
  else
   some (Ans.l (Ex.exit 0) { fr := [V.junk, V.junk, V.ptr 0 0, V.ptr 1 0] ++ jk 44, H := hp [some (Chunk.blk [V.sc (Value.slice none 0 0), i64 0, i64 0]), some (Chunk.blk [V.sl 2 3 0 j, i64 R, i64 W]), some (Chunk.row 59 3 j (r3 a b c))], nx := 3, rt := 0, me := 13 }) := by kernel_rfl
theorem rig0 (n : Nat) (x : Nat → Int) (R W : Int) (S1 : St) : callK E (C13 n x) (ltab [⟨bodyOf E 13 0, S1, .exit 0, SRe0 R W⟩]) 13 [ro1 n x] [] K =
  cl (Le (V.ro 1 n fun (j : Nat) => [i64 (x j)]) (ro1 n x) ∧ V.ids (V.ro 1 n fun (j : Nat) => [i64 (x j)]) = [] ∧ ([] : List (Option Chunk)) = []) (
   cl (Le (V.ro 1 n fun (j : Nat) => [i64 (x j)]) (ro1 n x) ∧ V.ids (V.ro 1 n fun (j : Nat) => [i64 (x j)]) = [] ∧ ([] : List (Option Chunk)) = []) (
    cl ((bodyOf E 13 0) = (bodyOf E 13 0) ∧ LeSt ({ fr := [V.ro 1 n fun (j : Nat) => [i64 (x j)], V.junk, V.ptr 0 0, V.ptr 1 0, i64 2] ++ jk 43, H := hp [some (Chunk.blk [V.sc (Value.slice none 0 0), i64 0, i64 0]), some (Chunk.blk [V.sc (Value.slice none 0 0), i64 (w ((1 : Int) + pick n x (0 : Int) (360 : Int))), i64 (pick n x (1 : Int) (1001 : Int))])], nx := 2, rt := 0, me := 13 }) (S1)) (
     some (Ans.c (CRes.ret (V.agg [V.sc (Value.slice none 0 0), i64 R, i64 W]) []))) (
     none)) (
    none)) (
   none) := by kernel_rfl
theorem rig1 (n k : Nat) (x : Nat → Int) (a b c : Nat → Int) (R W : Int) (S1 : St) : callK E (C13 n x) (ltab [⟨bodyOf E 13 0, S1, .exit 0, SRe R W k a b c⟩]) 13 [ro1 n x] [] K =
  cl (Le (V.ro 1 n fun (j : Nat) => [i64 (x j)]) (ro1 n x) ∧ V.ids (V.ro 1 n fun (j : Nat) => [i64 (x j)]) = [] ∧ ([] : List (Option Chunk)) = []) (
   cl (Le (V.ro 1 n fun (j : Nat) => [i64 (x j)]) (ro1 n x) ∧ V.ids (V.ro 1 n fun (j : Nat) => [i64 (x j)]) = [] ∧ ([] : List (Option Chunk)) = []) (
    cl ((bodyOf E 13 0) = (bodyOf E 13 0) ∧ LeSt ({ fr := [V.ro 1 n fun (j : Nat) => [i64 (x j)], V.junk, V.ptr 0 0, V.ptr 1 0, i64 2] ++ jk 43, H := hp [some (Chunk.blk [V.sc (Value.slice none 0 0), i64 0, i64 0]), some (Chunk.blk [V.sc (Value.slice none 0 0), i64 (w ((1 : Int) + pick n x (0 : Int) (360 : Int))), i64 (pick n x (1 : Int) (1001 : Int))])], nx := 2, rt := 0, me := 13 }) (S1)) (
     some (Ans.c (CRes.ret (V.agg [V.sl 0 3 0 k, i64 R, i64 W]) [some (Chunk.row 59 3 k (r3 a b c))]))) (
     none)) (
    none)) (
   none) := by kernel_rfl
theorem t27 (n : Nat) (x : Nat → Int) (i m : Int) : callK E C21 L0 27 [ro1 n x, i64 i, i64 m] [] K =
  if decide (i < (0 : Int)) = true then
   some (Ans.c (CRes.ret (i64 0) []))
  else
   if decide (i ≥ ↑n) = true then
    some (Ans.c (CRes.ret (i64 0) []))
   else
    if (0 : Int) ≤ i ∧ i < ↑n then
     if m = (0 : Int) then
      none
     else
      some (Ans.c (CRes.ret (i64 (around (x (Int.toNat i)) m)) []))
    else
     none := by kernel_rfl
theorem rd_e (n j : Nat) (x : Nat → Int) (R W i : Int) (a b c : Nat → Int) : loopK E C21 (ltab []) 0 29 (bodyOf E 13 0) (SR n x R W i j a b c) (KC 12) =
  if decide (w (i + (2 : Int)) < ↑n) = true then
   if decide (↑j < (8 : Int)) = true then
    if (0 : Int) ≤ i ∧ i < ↑n then
     if (0 : Int) ≤ w (i + (1 : Int)) ∧ w (i + (1 : Int)) < ↑n then
      if (0 : Int) ≤ w (i + (2 : Int)) ∧ w (i + (2 : Int)) < ↑n then
       if (j + 1) * 24 ≤ roomBound ∧ j + 1 ≤ maxLen ∧ j ≤ j then
        none
       else
        none
      else
       none
     else
      none
    else
     none
   else
    some (Ans.l (Ex.exit 0) { fr := [V.junk, V.junk, V.ptr 0 0, V.ptr 1 0] ++ jk 44, H := hp [some (Chunk.blk [V.sc (Value.slice none 0 0), i64 0, i64 0]), some (Chunk.blk [V.sl 2 3 0 j, i64 R, i64 W]), some (Chunk.row 59 3 j (r3 a b c))], nx := 3, rt := 0, me := 13 })
  else
   some (Ans.l (Ex.exit 0) { fr := [V.junk, V.junk, V.ptr 0 0, V.ptr 1 0] ++ jk 44, H := hp [some (Chunk.blk [V.sc (Value.slice none 0 0), i64 0, i64 0]), some (Chunk.blk [V.sl 2 3 0 j, i64 R, i64 W]), some (Chunk.row 59 3 j (r3 a b c))], nx := 3, rt := 0, me := 13 }) := by kernel_rfl
theorem rd0_e (n : Nat) (x : Nat → Int) (R W : Int) : loopK E C21 (ltab []) 0 29 (bodyOf E 13 0) (SR0 n x R W) (KC 12) =
  if decide (w ((2 : Int) + (2 : Int)) < ↑n) = true then
   if (0 : Int) ≤ (2 : Int) ∧ (2 : Int) < ↑n then
    if (0 : Int) ≤ w ((2 : Int) + (1 : Int)) ∧ w ((2 : Int) + (1 : Int)) < ↑n then
     if (0 : Int) ≤ w ((2 : Int) + (2 : Int)) ∧ w ((2 : Int) + (2 : Int)) < ↑n then
      none
     else
      none
    else
     none
   else
    none
  else
   some (Ans.l (Ex.exit 0) { fr := [V.junk, V.junk, V.ptr 0 0, V.ptr 1 0] ++ jk 44, H := hp [some (Chunk.blk [V.sc (Value.slice none 0 0), i64 0, i64 0]), some (Chunk.blk [V.sc (Value.slice none 0 0), i64 R, i64 W])], nx := 2, rt := 0, me := 13 }) := by kernel_rfl
theorem pick_eq (n : Nat) (x : Nat → Int) (i m : Int) (hm : m ≠ 0) : SC E 27 [ro1 n x, i64 i, i64 m] [] (.ret (i64 (pick n x i m)) []) := by
  refine SC.of hW hX sC21 (soundL_none E) ((t27 n x i m).trans ?_)
  unfold pick
  by_cases h1 : i < 0
  · simp [h1]
  · by_cases h2 : i ≥ n
    · simp [h1, h2]
    · have h3 : 0 ≤ i ∧ i < n := ⟨by omega, by omega⟩
      simp [h1, h2, h3, hm]
theorem sC13 (n : Nat) (x : Nat → Int) : SoundC E (C13 n x) := by
  refine htab_cons rfl (fun rest v h => ?_) sC21
  unfold q27 at h
  split at h
  · split at h
    · cases h
    · rename_i hm
      cases h
      exact ⟨rfl, pick_eq n x _ _ hm⟩
  · cases h
def dn (n : Nat) : Nat := min 8 ((n - 2) / 3)
def dA (x : Nat → Int) (j : Nat) : Int := around (x (3 * j + 2)) 1001
def dB (x : Nat → Int) (j : Nat) : Int := around (x (3 * j + 3)) 1001
def dC (x : Nat → Int) (j : Nat) : Int := around (x (3 * j + 4)) 8
theorem rig_loop (n : Nat) (x : Nat → Int) (R W : Int) (hn : n ≤ Go.maxLen) : ∀ m j, 1 ≤ j → j ≤ dn n → dn n - j = m → SL E (bodyOf E 13 0) (SR n x R W (2 + 3 * j) j (dA x) (dB x) (dC x)) (.exit 0) (SRe R W (dn n) (dA x) (dB x) (dC x)) := by
  have hml : Go.maxLen = 9223372036854775807 := by decide
  intro m
  induction m with
  | zero =>
    intro j h1 h2 h3
    have hj : j = dn n := by omega
    refine SL.by (m := 12) sC21 hX ltab_nil ((rd_e n j x R W (2 + 3 * j) (dA x) (dB x) (dC x)).trans ?_)
    have hj8 : j ≤ 8 := by unfold dn at hj; omega
    have e1 : w (2 + 3 * j + 2) = 2 + 3 * j + 2 := w_in (by unfold inR; omega)
    by_cases hc : (2 + 3 * j + 2 : Int) < n
    · have : ¬ (j : Int) < 8 := by unfold dn at hj; omega
      rw [if_pos (by rw [e1]; simpa using hc), if_neg (by simpa using this), hj]
      rfl
    · rw [if_neg (by rw [e1]; simpa using hc), hj]
      rfl
  | succ m ih =>
    intro j h1 h2 h3
    have hlt : j < dn n := by omega
    have hd : dn n = min 8 ((n - 2) / 3) := rfl
    have hj8 : j < 8 := by omega
    have hn4 : 2 + 3 * j + 2 < n := by omega
    refine SL.by (m := 12) sC21 hX (ltab_cons (x := ⟨bodyOf E 13 0, _, .exit 0, SRe R W (dn n) (dA x) (dB x) (dC x)⟩) (ih (j + 1) (by omega) (by omega) (by omega)) ltab_nil) ((rd n j (dn n) x R W (2 + 3 * j) (dA x) (dB x) (dC x) (dA x) (dB x) (dC x) _).trans ?_)
    have e1 : w (2 + 3 * j + 2) = 2 + 3 * j + 2 := w_in (by unfold inR; omega)
    have e2 : w (2 + 3 * j + 1) = 2 + 3 * j + 1 := w_in (by unfold inR; omega)
    have e3 : w (2 + 3 * j + 3) = 2 + 3 * j + 3 := w_in (by unfold inR; omega)
    rw [if_pos (by rw [e1, decide_eq_true_eq]; omega), if_pos (by rw [decide_eq_true_eq]; omega), if_pos (by omega), if_pos (by rw [e2]; omega), if_pos (by rw [e1]; omega), if_pos (by unfold roomBound; omega), cl_pos]
    · rfl
    · refine ⟨rfl, LeSt.mk' ?_ ?_⟩
      · rw [e3]
        have : (2 + 3 * (j : Int) + 3) = 2 + 3 * ((j + 1 : Nat) : Int) := by omega
        rw [this]
        exact LeL.refl _
      · refine ⟨OcLe.refl _, OcLe.refl _, ?_, trivial⟩
        refine ChLe.row fun q hq => ?_
        unfold joinF
        split
        · rfl
        · have hqj : q = j := by omega
          subst hqj
          rw [e1, e2]
          have t1 : Int.toNat (2 + 3 * (q : Int)) = 3 * q + 2 := by omega
          have t2 : Int.toNat (2 + 3 * (q : Int) + 1) = 3 * q + 3 := by omega
          have t3 : Int.toNat (2 + 3 * (q : Int) + 2) = 3 * q + 4 := by omega
          rw [t1, t2, t3]
          simp [r3, dA, dB, dC]
theorem rig_first (n : Nat) (x : Nat → Int) (R W : Int) (hn : n ≤ Go.maxLen) (h0 : 0 < dn n) : SL E (bodyOf E 13 0) (SR0 n x R W) (.exit 0) (SRe R W (dn n) (dA x) (dB x) (dC x)) := by
  have hd : dn n = min 8 ((n - 2) / 3) := rfl
  have e1 : w (2 + 2) = 4 := by decide
  have e2 : w (2 + 1) = 3 := by decide
  have e3 : w (2 + 3) = 5 := by decide
  refine SL.by (m := 12) sC21 hX (ltab_cons (x := ⟨bodyOf E 13 0, _, .exit 0, SRe R W (dn n) (dA x) (dB x) (dC x)⟩) (rig_loop n x R W hn _ 1 (Nat.le_refl _) (by omega) rfl) ltab_nil) ((rd0 n (dn n) x R W (dA x) (dB x) (dC x) _).trans ?_)
  rw [if_pos (by rw [e1, decide_eq_true_eq]; omega), if_pos (by omega), if_pos (by rw [e2]; omega), if_pos (by rw [e1]; omega), cl_pos]
  · rfl
  · refine ⟨rfl, LeSt.mk' ?_ ?_⟩
    · rw [e3]; exact LeL.refl _
    · refine ⟨OcLe.refl _, OcLe.refl _, ?_, trivial⟩
      refine ChLe.row fun q hq => ?_
      have : q = 0 := by omega
      subst this
      rfl
theorem rig_none (n : Nat) (x : Nat → Int) (R W : Int) (h0 : dn n = 0) : SL E (bodyOf E 13 0) (SR0 n x R W) (.exit 0) (SRe0 R W) := by
  have hd : dn n = min 8 ((n - 2) / 3) := rfl
  have e1 : w (2 + 2) = 4 := by decide
  refine SL.by (m := 12) sC21 hX ltab_nil ((rd0_e n x R W).trans ?_)
  rw [if_neg (by rw [e1, decide_eq_true_eq]; omega)]
  rfl
/-- The rig made from numbers, as it is read. -/
def rigV (k : Nat) (a b c : Nat → Int) (R W : Int) : V := .agg [.ro 3 k (r3 a b c), i64 R, i64 W]
theorem rig_sc (n : Nat) (x : Nat → Int) (hn : n ≤ Go.maxLen) : SC E 13 [ro1 n x] [] (.ret (rigV (dn n) (dA x) (dB x) (dC x) (w (1 + pick n x 0 360)) (pick n x 1 1001)) []) := by
  by_cases h0 : dn n = 0
  · have h : SC E 13 [ro1 n x] [] (.ret (.agg [.sc (.slice none 0 0), i64 (w (1 + pick n x 0 360)), i64 (pick n x 1 1001)]) []) := by
      refine SC.of hW hX (sC13 n x) (ltab_cons (x := ⟨bodyOf E 13 0, _, .exit 0, SRe0 (w (1 + pick n x 0 360)) (pick n x 1 1001)⟩) (rig_none n x _ _ h0) ltab_nil) ((rig0 n x _ _ _).trans ?_)
      rw [cl_pos ⟨Le.refl _, rfl, rfl⟩, cl_pos ⟨Le.refl _, rfl, rfl⟩, cl_pos ⟨rfl, LeSt.refl _⟩]
    rw [h0]
    exact h.le (Le.agg (LeL.cons Le.nil_ro (LeL.refl _)))
  · have h : SC E 13 [ro1 n x] [] (.ret (.agg [.sl 0 3 0 (dn n), i64 (w (1 + pick n x 0 360)), i64 (pick n x 1 1001)]) [some (.row 59 3 (dn n) (r3 (dA x) (dB x) (dC x)))]) := by
      refine SC.of hW hX (sC13 n x) (ltab_cons (x := ⟨bodyOf E 13 0, _, .exit 0, SRe (w (1 + pick n x 0 360)) (pick n x 1 1001) (dn n) (dA x) (dB x) (dC x)⟩) (rig_first n x _ _ hn (by omega)) ltab_nil) ((rig1 n (dn n) x (dA x) (dB x) (dC x) _ _ _).trans ?_)
      rw [cl_pos ⟨Le.refl _, rfl, rfl⟩, cl_pos ⟨Le.refl _, rfl, rfl⟩, cl_pos ⟨rfl, LeSt.refl _⟩]
    have e : V.bw (hp [some (Chunk.row 59 3 (dn n) (r3 (dA x) (dB x) (dC x)))]) (.agg [.sl 0 3 0 (dn n), i64 (w (1 + pick n x 0 360)), i64 (pick n x 1 1001)]) = .agg [.ro 3 (dn n) (fun j => r3 (dA x) (dB x) (dC x) (0 + j)), i64 (w (1 + pick n x 0 360)), i64 (pick n x 1 1001)] := by
      simp [V.bw, V.bw2, V.bw1, hp]
    have g := h.give (by rw [e]; rfl)
    rw [e] at g
    refine g.le (Le.agg (LeL.cons (Le.ro_eq fun j hj => ⟨by rw [Nat.zero_add], rfl⟩) (LeL.refl _)))
end Go.Proofs.Ythegipdgillngaa
