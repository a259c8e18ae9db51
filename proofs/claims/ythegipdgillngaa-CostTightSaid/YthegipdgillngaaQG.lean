/- Texts joined. -/
import Derived.Test.YthegipdgillngaaQF
/- CostTampered, CostPaths, CostTight, CostMonotone, lifted. -/
namespace Go.Proofs.Ythegipdgillngaa
open Go Go.Am Go.Proofs
set_option linter.unusedSimpArgs false
set_option linter.unusedVariables false
set_option maxRecDepth 100000
def isNil : V → Bool | .sc (.slice none 0 0) => true | _ => false
abbrev a_RAdd : Type := Int × Int × Int × Int × Int × Int × Int × Int × Int × Int × Int × Int
abbrev g_RAdd : Type := Int × Int × Int × Int × Int × Int
def A_RAdd : a_RAdd → List V × List (Option Chunk) := (fun x => (fun (a0 : Int) (a1 : Int) (a2 : Int) (a3 : Int) (a4 : Int) (a5 : Int) (b0 : Int) (b1 : Int) (b2 : Int) (b3 : Int) (b4 : Int) (b5 : Int) => (([.agg [i64 a0, i64 a1, i64 a2, i64 a3, i64 a4, i64 a5], .agg [i64 b0, i64 b1, i64 b2, i64 b3, i64 b4, i64 b5]] : List V), ([] : List (Option Chunk)))) x.1 x.2.1 x.2.2.1 x.2.2.2.1 x.2.2.2.2.1 x.2.2.2.2.2.1 x.2.2.2.2.2.2.1 x.2.2.2.2.2.2.2.1 x.2.2.2.2.2.2.2.2.1 x.2.2.2.2.2.2.2.2.2.1 x.2.2.2.2.2.2.2.2.2.2.1 x.2.2.2.2.2.2.2.2.2.2.2)
def d_RAdd (t : List V × List (Option Chunk)) : a_RAdd := ((vI ((vAg (t.1.getD 0 .junk)).getD 0 .junk)), (vI ((vAg (t.1.getD 0 .junk)).getD 1 .junk)), (vI ((vAg (t.1.getD 0 .junk)).getD 2 .junk)), (vI ((vAg (t.1.getD 0 .junk)).getD 3 .junk)), (vI ((vAg (t.1.getD 0 .junk)).getD 4 .junk)), (vI ((vAg (t.1.getD 0 .junk)).getD 5 .junk)), (vI ((vAg (t.1.getD 1 .junk)).getD 0 .junk)), (vI ((vAg (t.1.getD 1 .junk)).getD 1 .junk)), (vI ((vAg (t.1.getD 1 .junk)).getD 2 .junk)), (vI ((vAg (t.1.getD 1 .junk)).getD 3 .junk)), (vI ((vAg (t.1.getD 1 .junk)).getD 4 .junk)), (vI ((vAg (t.1.getD 1 .junk)).getD 5 .junk)))
theorem i_RAdd : ∀ x y, A_RAdd x = A_RAdd y → x = y := fun x y h => (congrArg d_RAdd h :)
def R_RAdd : g_RAdd → CRes := (fun z => (fun (a0 : Int) (a1 : Int) (a2 : Int) (a3 : Int) (a4 : Int) (a5 : Int) => .ret (.agg [i64 a0, i64 a1, i64 a2, i64 a3, i64 a4, i64 a5]) []) z.1 z.2.1 z.2.2.1 z.2.2.2.1 z.2.2.2.2.1 z.2.2.2.2.2 : (Int × Int × Int × Int × Int × Int) → CRes)
def x_RAdd (z : g_RAdd) (k : CRes → Option Ans) : Option Ans := k (R_RAdd z)
theorem xe_RAdd : ∀ z k, x_RAdd z k = k (R_RAdd z) := fun z k => rfl
def t_RAdd {β : Type} (x : a_RAdd) (dn : g_RAdd → Option β) : Option β :=
 dn ((if (2147483647 : Int) < w (x.1 + x.2.2.2.2.2.2.1) then (2147483647 : Int) else w (x.1 + x.2.2.2.2.2.2.1), if (2147483647 : Int) < w (x.2.1 + x.2.2.2.2.2.2.2.1) then (2147483647 : Int) else w (x.2.1 + x.2.2.2.2.2.2.2.1), if (2147483647 : Int) < w (x.2.2.1 + x.2.2.2.2.2.2.2.2.1) then (2147483647 : Int) else w (x.2.2.1 + x.2.2.2.2.2.2.2.2.1), if (2147483647 : Int) < w (x.2.2.2.1 + x.2.2.2.2.2.2.2.2.2.1) then (2147483647 : Int) else w (x.2.2.2.1 + x.2.2.2.2.2.2.2.2.2.1), if (2147483647 : Int) < w (x.2.2.2.2.1 + x.2.2.2.2.2.2.2.2.2.2.1) then (2147483647 : Int) else w (x.2.2.2.2.1 + x.2.2.2.2.2.2.2.2.2.2.1), if (2147483647 : Int) < w (x.2.2.2.2.2.1 + x.2.2.2.2.2.2.2.2.2.2.2) then (2147483647 : Int) else w (x.2.2.2.2.2.1 + x.2.2.2.2.2.2.2.2.2.2.2)))
theorem n_RAdd {β : Type} (x : a_RAdd) (dn : g_RAdd → Option β) : t_RAdd x dn = (t_RAdd x some).bind dn := by
  unfold t_RAdd
  repeat' first | exact free_none | refine free_bind (fun z => ?_) | refine free_ite ?_ ?_ | refine free_sum (fun z => ?_) (fun z => ?_) | rfl
theorem r_RAdd (x : a_RAdd) : callK E3 (callG E3 20) lo0 32 (A_RAdd x).1 (A_RAdd x).2 K = t_RAdd x (fun z => some (.c (R_RAdd z))) := by kernel_rfl
theorem s_RAdd (q : Nat) (x : a_RAdd) (z : g_RAdd) (h : t_RAdd x some = some z) : SC E3 32 (A_RAdd x).1 (A_RAdd x).2 (R_RAdd z) := by
  refine SC.of hW3 hX3 (sound_G hW3 hX3 20).1 lo0_sound ((r_RAdd x).trans ?_)
  rw [n_RAdd, h]; rfl
noncomputable def RAdd (q : Nat) (x : a_RAdd) : Option g_RAdd := t_RAdd x some
theorem sc_RAdd (q : Nat) : ∀ (x : a_RAdd) (z : g_RAdd), RAdd q x = some z → SC E3 32 (A_RAdd x).1 (A_RAdd x).2 (R_RAdd z) := fun x z h => s_RAdd q x z h
abbrev a_ROwn : Type := Int × Int × Nat × (Nat → Int) × (Nat → Int) × (Nat → Int) × Int × Int
abbrev g_ROwn : Type := Int × Int × Int × Int × Int × Int
def A_ROwn : a_ROwn → List V × List (Option Chunk) := (fun x => (fun (o : Int) (t : Int) (k : Nat) (da : Nat → Int) (db : Nat → Int) (dc : Nat → Int) (R : Int) (W : Int) => (([.agg [i64 o, i64 t], .agg [.ro 3 k (fun j => [i64 (da j), i64 (db j), i64 (dc j)]), i64 R, i64 W]] : List V), ([] : List (Option Chunk)))) x.1 x.2.1 x.2.2.1 x.2.2.2.1 x.2.2.2.2.1 x.2.2.2.2.2.1 x.2.2.2.2.2.2.1 x.2.2.2.2.2.2.2)
def d_ROwn (t : List V × List (Option Chunk)) : a_ROwn := ((vI ((vAg (t.1.getD 0 .junk)).getD 0 .junk)), (vI ((vAg (t.1.getD 0 .junk)).getD 1 .junk)), (vRoN ((vAg (t.1.getD 1 .junk)).getD 0 .junk)), (fun j => (vI (((vRoF ((vAg (t.1.getD 1 .junk)).getD 0 .junk)) j).getD 0 .junk))), (fun j => (vI (((vRoF ((vAg (t.1.getD 1 .junk)).getD 0 .junk)) j).getD 1 .junk))), (fun j => (vI (((vRoF ((vAg (t.1.getD 1 .junk)).getD 0 .junk)) j).getD 2 .junk))), (vI ((vAg (t.1.getD 1 .junk)).getD 1 .junk)), (vI ((vAg (t.1.getD 1 .junk)).getD 2 .junk)))
theorem i_ROwn : ∀ x y, A_ROwn x = A_ROwn y → x = y := fun x y h => (congrArg d_ROwn h :)
def R_ROwn : g_ROwn → CRes := (fun z => (fun (a0 : Int) (a1 : Int) (a2 : Int) (a3 : Int) (a4 : Int) (a5 : Int) => .ret (.agg [i64 a0, i64 a1, i64 a2, i64 a3, i64 a4, i64 a5]) []) z.1 z.2.1 z.2.2.1 z.2.2.2.1 z.2.2.2.2.1 z.2.2.2.2.2 : (Int × Int × Int × Int × Int × Int) → CRes)
def x_ROwn (z : g_ROwn) (k : CRes → Option Ans) : Option Ans := k (R_ROwn z)
theorem xe_ROwn : ∀ z k, x_ROwn z k = k (R_ROwn z) := fun z k => rfl
def t_ROwn {β : Type} (x : a_ROwn) (dn : g_ROwn → Option β) : Option β :=
 if (x.1 == (18 : Int)) = true then
  dn (((0 : Int), (0 : Int), (0 : Int), (0 : Int), (0 : Int), x.2.1))
 else
  if (x.1 == (19 : Int)) = true then
   dn (((0 : Int), (0 : Int), (0 : Int), (0 : Int), (0 : Int), x.2.1))
  else
   if (x.1 == (22 : Int)) = true then
    if x.2.2.2.2.2.2.1 = (0 : Int) then
     none
    else
     if x.2.2.2.2.2.2.1 = (0 : Int) then
      none
     else
      dn ((if (2147483647 : Int) < w (w (x.2.2.2.2.2.2.2 * w (w (Int.tdiv (360 : Int) (x.2.2.2.2.2.2.1)) + if (1 : Int) < Int.tmod (360 : Int) (x.2.2.2.2.2.2.1) then (1 : Int) else Int.tmod (360 : Int) (x.2.2.2.2.2.2.1))) + (0 : Int)) then (2147483647 : Int) else w (w (x.2.2.2.2.2.2.2 * w (w (Int.tdiv (360 : Int) (x.2.2.2.2.2.2.1)) + if (1 : Int) < Int.tmod (360 : Int) (x.2.2.2.2.2.2.1) then (1 : Int) else Int.tmod (360 : Int) (x.2.2.2.2.2.2.1))) + (0 : Int)), (0 : Int), (0 : Int), (0 : Int), (360 : Int), (1 : Int)))
   else
    if (x.1 == (23 : Int)) = true then
     if (0 : Int) ≤ w (Int.tdiv (x.2.1) (1000000 : Int)) ∧ w (Int.tdiv (x.2.1) (1000000 : Int)) < ((x.2.2.1 : Nat) : Int) then
      dn ((if (2147483647 : Int) < w (x.2.2.2.1 (Int.toNat (w (Int.tdiv (x.2.1) (1000000 : Int)))) * Int.tmod (x.2.1) (1000000 : Int)) then (2147483647 : Int) else w (x.2.2.2.1 (Int.toNat (w (Int.tdiv (x.2.1) (1000000 : Int)))) * Int.tmod (x.2.1) (1000000 : Int)), if (2147483647 : Int) < w (x.2.2.2.2.1 (Int.toNat (w (Int.tdiv (x.2.1) (1000000 : Int)))) * Int.tmod (x.2.1) (1000000 : Int)) then (2147483647 : Int) else w (x.2.2.2.2.1 (Int.toNat (w (Int.tdiv (x.2.1) (1000000 : Int)))) * Int.tmod (x.2.1) (1000000 : Int)), if (2147483647 : Int) < w ((0 : Int) * Int.tmod (x.2.1) (1000000 : Int)) then (2147483647 : Int) else w ((0 : Int) * Int.tmod (x.2.1) (1000000 : Int)), if (2147483647 : Int) < w ((0 : Int) * Int.tmod (x.2.1) (1000000 : Int)) then (2147483647 : Int) else w ((0 : Int) * Int.tmod (x.2.1) (1000000 : Int)), if (2147483647 : Int) < w ((0 : Int) * Int.tmod (x.2.1) (1000000 : Int)) then (2147483647 : Int) else w ((0 : Int) * Int.tmod (x.2.1) (1000000 : Int)), if (2147483647 : Int) < w ((1 : Int) * Int.tmod (x.2.1) (1000000 : Int)) then (2147483647 : Int) else w ((1 : Int) * Int.tmod (x.2.1) (1000000 : Int))))
     else
      none
    else
     if (x.1 == (24 : Int)) = true then
      dn (((0 : Int), (0 : Int), (0 : Int), w (Int.tdiv (x.2.1) (8 : Int)), (0 : Int), (0 : Int)))
     else
      if (x.1 == (25 : Int)) = true then
       dn (((0 : Int), (0 : Int), x.2.1, (0 : Int), (0 : Int), (0 : Int)))
      else
       dn (((0 : Int), (0 : Int), (0 : Int), (0 : Int), (0 : Int), (0 : Int)))
theorem n_ROwn {β : Type} (x : a_ROwn) (dn : g_ROwn → Option β) : t_ROwn x dn = (t_ROwn x some).bind dn := by
  unfold t_ROwn
  repeat' first | exact free_none | refine free_bind (fun z => ?_) | refine free_ite ?_ ?_ | refine free_sum (fun z => ?_) (fun z => ?_) | rfl
theorem r_ROwn (x : a_ROwn) : callK E3 (callG E3 20) lo0 50 (A_ROwn x).1 (A_ROwn x).2 K = t_ROwn x (fun z => some (.c (R_ROwn z))) := by kernel_rfl
theorem s_ROwn (q : Nat) (x : a_ROwn) (z : g_ROwn) (h : t_ROwn x some = some z) : SC E3 50 (A_ROwn x).1 (A_ROwn x).2 (R_ROwn z) := by
  refine SC.of hW3 hX3 (sound_G hW3 hX3 20).1 lo0_sound ((r_ROwn x).trans ?_)
  rw [n_ROwn, h]; rfl
noncomputable def ROwn (q : Nat) (x : a_ROwn) : Option g_ROwn := t_ROwn x some
theorem sc_ROwn (q : Nat) : ∀ (x : a_ROwn) (z : g_ROwn), ROwn q x = some z → SC E3 50 (A_ROwn x).1 (A_ROwn x).2 (R_ROwn z) := fun x z h => s_ROwn q x z h
abbrev a_Total : Type := Nat × (Nat → Int) × (Nat → Int) × (Nat → Int) × (Nat → Int) × (Nat → Int) × (Nat → Int)
abbrev g_Total : Type := Int × Int × Int × Int × Int × Int
def A_Total : a_Total → List V × List (Option Chunk) := (fun x => (fun (cn : Nat) (x0 : Nat → Int) (x1 : Nat → Int) (x2 : Nat → Int) (x3 : Nat → Int) (x4 : Nat → Int) (x5 : Nat → Int) => (([.ro 6 cn (fun j => [i64 (x0 j), i64 (x1 j), i64 (x2 j), i64 (x3 j), i64 (x4 j), i64 (x5 j)])] : List V), ([] : List (Option Chunk)))) x.1 x.2.1 x.2.2.1 x.2.2.2.1 x.2.2.2.2.1 x.2.2.2.2.2.1 x.2.2.2.2.2.2)
def d_Total (t : List V × List (Option Chunk)) : a_Total := ((vRoN (t.1.getD 0 .junk)), (fun j => (vI (((vRoF (t.1.getD 0 .junk)) j).getD 0 .junk))), (fun j => (vI (((vRoF (t.1.getD 0 .junk)) j).getD 1 .junk))), (fun j => (vI (((vRoF (t.1.getD 0 .junk)) j).getD 2 .junk))), (fun j => (vI (((vRoF (t.1.getD 0 .junk)) j).getD 3 .junk))), (fun j => (vI (((vRoF (t.1.getD 0 .junk)) j).getD 4 .junk))), (fun j => (vI (((vRoF (t.1.getD 0 .junk)) j).getD 5 .junk))))
theorem i_Total : ∀ x y, A_Total x = A_Total y → x = y := fun x y h => (congrArg d_Total h :)
def R_Total : g_Total → CRes := (fun z => (fun (a0 : Int) (a1 : Int) (a2 : Int) (a3 : Int) (a4 : Int) (a5 : Int) => .ret (.agg [i64 a0, i64 a1, i64 a2, i64 a3, i64 a4, i64 a5]) []) z.1 z.2.1 z.2.2.1 z.2.2.2.1 z.2.2.2.2.1 z.2.2.2.2.2 : (Int × Int × Int × Int × Int × Int) → CRes)
def x_Total (z : g_Total) (k : CRes → Option Ans) : Option Ans := k (R_Total z)
theorem xe_Total : ∀ z k, x_Total z k = k (R_Total z) := fun z k => rfl
def t_Total {β : Type} (x : a_Total) (dn : g_Total → Option β) : Option β :=
 if (((x.1 : Nat) : Int) == (0 : Int)) = true then
  dn (((0 : Int), (0 : Int), (0 : Int), (0 : Int), (0 : Int), (0 : Int)))
 else
  if (0 : Int) ≤ (0 : Int) ∧ (0 : Int) < ((x.1 : Nat) : Int) then
   dn ((x.2.1 0, x.2.2.1 0, x.2.2.2.1 0, x.2.2.2.2.1 0, x.2.2.2.2.2.1 0, x.2.2.2.2.2.2 0))
  else
   none
theorem n_Total {β : Type} (x : a_Total) (dn : g_Total → Option β) : t_Total x dn = (t_Total x some).bind dn := by
  unfold t_Total
  repeat' first | exact free_none | refine free_bind (fun z => ?_) | refine free_ite ?_ ?_ | refine free_sum (fun z => ?_) (fun z => ?_) | rfl
theorem r_Total (x : a_Total) : callK E3 (callG E3 20) lo0 26 (A_Total x).1 (A_Total x).2 K = t_Total x (fun z => some (.c (R_Total z))) := by kernel_rfl
theorem s_Total (q : Nat) (x : a_Total) (z : g_Total) (h : t_Total x some = some z) : SC E3 26 (A_Total x).1 (A_Total x).2 (R_Total z) := by
  refine SC.of hW3 hX3 (sound_G hW3 hX3 20).1 lo0_sound ((r_Total x).trans ?_)
  rw [n_Total, h]; rfl
noncomputable def Total (q : Nat) (x : a_Total) : Option g_Total := t_Total x some
theorem sc_Total (q : Nat) : ∀ (x : a_Total) (z : g_Total), Total q x = some z → SC E3 26 (A_Total x).1 (A_Total x).2 (R_Total z) := fun x z h => s_Total q x z h
abbrev a_Path : Type := ByteArray × Int × Int × Nat × (Nat → Int) × (Nat → Int) × Nat × (Nat → Int) × (Nat → Int) × (Nat → Int) × Int × Int × Nat × (Nat → Int) × Int
abbrev g_Path : Type := Int × Int × Int × Int × Int × Int × Bool
def A_Path : a_Path → List V × List (Option Chunk) := (fun x => (fun (nm : ByteArray) (ps : Int) (vs : Int) (n : Nat) (op : Nat → Int) (ar : Nat → Int) (k : Nat) (da : Nat → Int) (db : Nat → Int) (dc : Nat → Int) (R : Int) (W : Int) (m : Nat) (y : Nat → Int) (most : Int) => (([.agg [st nm, i64 ps, i64 vs, .ro 2 n (fun j => [i64 (op j), i64 (ar j)])], .agg [.ro 3 k (fun j => [i64 (da j), i64 (db j), i64 (dc j)]), i64 R, i64 W], .ro 1 m (fun j => [i64 (y j)]), i64 most] : List V), ([] : List (Option Chunk)))) x.1 x.2.1 x.2.2.1 x.2.2.2.1 x.2.2.2.2.1 x.2.2.2.2.2.1 x.2.2.2.2.2.2.1 x.2.2.2.2.2.2.2.1 x.2.2.2.2.2.2.2.2.1 x.2.2.2.2.2.2.2.2.2.1 x.2.2.2.2.2.2.2.2.2.2.1 x.2.2.2.2.2.2.2.2.2.2.2.1 x.2.2.2.2.2.2.2.2.2.2.2.2.1 x.2.2.2.2.2.2.2.2.2.2.2.2.2.1 x.2.2.2.2.2.2.2.2.2.2.2.2.2.2)
def d_Path (t : List V × List (Option Chunk)) : a_Path := ((vS ((vAg (t.1.getD 0 .junk)).getD 0 .junk)), (vI ((vAg (t.1.getD 0 .junk)).getD 1 .junk)), (vI ((vAg (t.1.getD 0 .junk)).getD 2 .junk)), (vRoN ((vAg (t.1.getD 0 .junk)).getD 3 .junk)), (fun j => (vI (((vRoF ((vAg (t.1.getD 0 .junk)).getD 3 .junk)) j).getD 0 .junk))), (fun j => (vI (((vRoF ((vAg (t.1.getD 0 .junk)).getD 3 .junk)) j).getD 1 .junk))), (vRoN ((vAg (t.1.getD 1 .junk)).getD 0 .junk)), (fun j => (vI (((vRoF ((vAg (t.1.getD 1 .junk)).getD 0 .junk)) j).getD 0 .junk))), (fun j => (vI (((vRoF ((vAg (t.1.getD 1 .junk)).getD 0 .junk)) j).getD 1 .junk))), (fun j => (vI (((vRoF ((vAg (t.1.getD 1 .junk)).getD 0 .junk)) j).getD 2 .junk))), (vI ((vAg (t.1.getD 1 .junk)).getD 1 .junk)), (vI ((vAg (t.1.getD 1 .junk)).getD 2 .junk)), (vRoN (t.1.getD 2 .junk)), (fun j => (vI (((vRoF (t.1.getD 2 .junk)) j).getD 0 .junk))), (vI (t.1.getD 3 .junk)))
theorem i_Path : ∀ x y, A_Path x = A_Path y → x = y := fun x y h => (congrArg d_Path h :)
def R_Path : g_Path → CRes := (fun z => CRes.ret (V.tup [V.agg [i64 (z.1), i64 (z.2.1), i64 (z.2.2.1), i64 (z.2.2.2.1), i64 (z.2.2.2.2.1), i64 (z.2.2.2.2.2.1)], bo (z.2.2.2.2.2.2)]) [] : (Int × Int × Int × Int × Int × Int × Bool) → CRes)
def x_Path (z : g_Path) (k : CRes → Option Ans) : Option Ans := k (R_Path z)
theorem xe_Path : ∀ z k, x_Path z k = k (R_Path z) := fun z k => rfl
abbrev Path_l0_a : Type := (Int × Int × Int × Int × Int × Int × Int × Int × Int × Int) ⊕ (Int × Int × Int × Int × (Nat → Int) × (Nat → Int) × Int × Int × Int × Int × Int × Int × Nat × Nat)
abbrev Path_l0_g : Type := (Int × Int × Int × Int × Int × Int) ⊕ (Int × Int × Int × Int × Int × Int)
def Path_l0_S0 (x : a_Path) (y : Int × Int × Int × Int × Int × Int × Int × Int × Int × Int) : St := { fr := [V.junk, V.junk, V.ro 1 (x.2.2.2.2.2.2.2.2.2.2.2.2.1) fun (j : Nat) => [i64 (x.2.2.2.2.2.2.2.2.2.2.2.2.2.1 j)], i64 (x.2.2.2.2.2.2.2.2.2.2.2.2.2.2), V.ptr 0 0, V.ptr 1 0, V.junk, V.junk, V.ptr 2 0, V.junk, V.ptr 3 0, V.ptr 4 0, i64 (y.1), i64 (y.2.2.2.2.2.2.2.2.2)] ++ jk 125, H := hp [some (Chunk.blk [st (x.1), i64 (x.2.1), i64 (x.2.2.1), V.ro 2 (x.2.2.2.1) fun (j : Nat) => [i64 (x.2.2.2.2.1 j), i64 (x.2.2.2.2.2.1 j)]]), some (Chunk.blk [V.ro 3 (x.2.2.2.2.2.2.1) fun (j : Nat) => [i64 (x.2.2.2.2.2.2.2.1 j), i64 (x.2.2.2.2.2.2.2.2.1 j), i64 (x.2.2.2.2.2.2.2.2.2.1 j)], i64 (x.2.2.2.2.2.2.2.2.2.2.1), i64 (x.2.2.2.2.2.2.2.2.2.2.2.1)]), some (Chunk.blk [i64 (0 : Int), i64 (0 : Int), i64 (0 : Int), i64 (0 : Int), i64 (0 : Int), i64 (0 : Int)]), some (Chunk.blk [i64 (y.2.1), nilS, i64 (y.2.2.1)]), some (Chunk.blk [i64 (y.2.2.2.1), i64 (y.2.2.2.2.1), i64 (y.2.2.2.2.2.1), i64 (y.2.2.2.2.2.2.1), i64 (y.2.2.2.2.2.2.2.1), i64 (y.2.2.2.2.2.2.2.2.1)])], nx := 5, rt := 0, me := 25 }
def Path_l0_d0 (s : St) : Int × Int × Int × Int × Int × Int × Int × Int × Int × Int := ((vI (s.fr.getD 12 .junk)), (vI ((chB (s.H 3)).getD 0 .junk)), (vI ((chB (s.H 3)).getD 2 .junk)), (vI ((chB (s.H 4)).getD 0 .junk)), (vI ((chB (s.H 4)).getD 1 .junk)), (vI ((chB (s.H 4)).getD 2 .junk)), (vI ((chB (s.H 4)).getD 3 .junk)), (vI ((chB (s.H 4)).getD 4 .junk)), (vI ((chB (s.H 4)).getD 5 .junk)), (vI (s.fr.getD 13 .junk)))
def Path_l0_S1 (x : a_Path) (y : Int × Int × Int × Int × (Nat → Int) × (Nat → Int) × Int × Int × Int × Int × Int × Int × Nat × Nat) : St := { fr := [V.junk, V.junk, V.ro 1 (x.2.2.2.2.2.2.2.2.2.2.2.2.1) fun (j : Nat) => [i64 (x.2.2.2.2.2.2.2.2.2.2.2.2.2.1 j)], i64 (x.2.2.2.2.2.2.2.2.2.2.2.2.2.2), V.ptr 0 0, V.ptr 1 0, V.junk, V.junk, V.ptr 2 0, V.junk, V.ptr 3 0, V.ptr 5 0, i64 (y.1), i64 (y.2.1)] ++ jk 125, H := hp [some (Chunk.blk [st (x.1), i64 (x.2.1), i64 (x.2.2.1), V.ro 2 (x.2.2.2.1) fun (j : Nat) => [i64 (x.2.2.2.2.1 j), i64 (x.2.2.2.2.2.1 j)]]), some (Chunk.blk [V.ro 3 (x.2.2.2.2.2.2.1) fun (j : Nat) => [i64 (x.2.2.2.2.2.2.2.1 j), i64 (x.2.2.2.2.2.2.2.2.1 j), i64 (x.2.2.2.2.2.2.2.2.2.1 j)], i64 (x.2.2.2.2.2.2.2.2.2.2.1), i64 (x.2.2.2.2.2.2.2.2.2.2.2.1)]), some (Chunk.blk [i64 (0 : Int), i64 (0 : Int), i64 (0 : Int), i64 (0 : Int), i64 (0 : Int), i64 (0 : Int)]), some (Chunk.blk [i64 (y.2.2.1), V.sl 4 2 0 (y.2.2.2.2.2.2.2.2.2.2.2.2.1), i64 (y.2.2.2.1)]), some (Chunk.row 88 2 (y.2.2.2.2.2.2.2.2.2.2.2.2.2) fun (j : Nat) => [i64 (y.2.2.2.2.1 j), i64 (y.2.2.2.2.2.1 j)]), some (Chunk.blk [i64 (y.2.2.2.2.2.2.1), i64 (y.2.2.2.2.2.2.2.1), i64 (y.2.2.2.2.2.2.2.2.1), i64 (y.2.2.2.2.2.2.2.2.2.1), i64 (y.2.2.2.2.2.2.2.2.2.2.1), i64 (y.2.2.2.2.2.2.2.2.2.2.2.1)])], nx := 6, rt := 0, me := 25 }
def Path_l0_d1 (s : St) : Int × Int × Int × Int × (Nat → Int) × (Nat → Int) × Int × Int × Int × Int × Int × Int × Nat × Nat := ((vI (s.fr.getD 12 .junk)), (vI (s.fr.getD 13 .junk)), (vI ((chB (s.H 3)).getD 0 .junk)), (vI ((chB (s.H 3)).getD 2 .junk)), (fun j => (vI (((chF (s.H 4)) j).getD 0 .junk))), (fun j => (vI (((chF (s.H 4)) j).getD 1 .junk))), (vI ((chB (s.H 5)).getD 0 .junk)), (vI ((chB (s.H 5)).getD 1 .junk)), (vI ((chB (s.H 5)).getD 2 .junk)), (vI ((chB (s.H 5)).getD 3 .junk)), (vI ((chB (s.H 5)).getD 4 .junk)), (vI ((chB (s.H 5)).getD 5 .junk)), (vSlN ((chB (s.H 3)).getD 1 .junk)), (chN (s.H 4)))
def Path_l0_S (x : a_Path) : Path_l0_a → St := (Sum.elim (Path_l0_S0 x) (Path_l0_S1 x))
def Path_l0_d (s : St) : Path_l0_a := (match s.nx == 5 with | true => (.inl (Path_l0_d0 s)) | false => (.inr (Path_l0_d1 s)))
theorem Path_l0_i (x : a_Path) : ∀ y y', Path_l0_S x y = Path_l0_S x y' → y = y' := fun y y' h => by rcases y with y | y <;> rcases y' with y | y <;> exact (congrArg Path_l0_d h :)
def Path_l0_T (x : a_Path) : Path_l0_g → Ex × St := (Sum.elim (fun z => (Ex.ret, { fr := jk 8 ++ [V.ptr 0 0, bo true] ++ jk 129, H := hp [some (Chunk.blk [i64 (z.1), i64 (z.2.1), i64 (z.2.2.1), i64 (z.2.2.2.1), i64 (z.2.2.2.2.1), i64 (z.2.2.2.2.2)])], nx := 1, rt := 0, me := 25 })) (fun z => (Ex.exit 0, { fr := jk 8 ++ [V.ptr 0 0, V.junk, V.junk, V.ptr 1 0] ++ jk 127, H := hp [some (Chunk.blk [i64 (0 : Int), i64 (0 : Int), i64 (0 : Int), i64 (0 : Int), i64 (0 : Int), i64 (0 : Int)]), some (Chunk.blk [i64 (z.1), i64 (z.2.1), i64 (z.2.2.1), i64 (z.2.2.2.1), i64 (z.2.2.2.2.1), i64 (z.2.2.2.2.2)])], nx := 2, rt := 0, me := 25 })))
def Path_l0_x (x : a_Path) (z : Path_l0_g) (k : KX) : Option Ans := Sum.elim (fun za => k (Path_l0_T x (.inl za)).1 (Path_l0_T x (.inl za)).2) (fun zb => k (Path_l0_T x (.inr zb)).1 (Path_l0_T x (.inr zb)).2) z
theorem Path_l0_xe (x : a_Path) : ∀ z k, Path_l0_x x z k = k (Path_l0_T x z).1 (Path_l0_T x z).2 := fun z k => by
  rcases z with z | z <;> rfl
theorem Path_l0_k0 (x : a_Path) (z : Int × Int × Int × Int × Int × Int) : KCM [(0, 2304)] 768 (Path_l0_T x (.inl z)).1 (Path_l0_T x (.inl z)).2 = some (.l (Path_l0_T x (.inl z)).1 (Path_l0_T x (.inl z)).2) := by kernel_rfl
theorem Path_l0_k1 (x : a_Path) (z : Int × Int × Int × Int × Int × Int) : KCM [(0, 2304)] 768 (Path_l0_T x (.inr z)).1 (Path_l0_T x (.inr z)).2 = some (.l (Path_l0_T x (.inr z)).1 (Path_l0_T x (.inr z)).2) := by kernel_rfl
def Path_l0_t0 {β : Type} (c_Pick : a_Pick → Option g_Pick) (c_RAdd : a_RAdd → Option g_RAdd) (c_ROwn : a_ROwn → Option g_ROwn) (x : a_Path) (y : Int × Int × Int × Int × Int × Int × Int × Int × Int × Int) (nx : Path_l0_a → Option β) (dn : Path_l0_g → Option β) : Option β :=
 if decide (y.2.2.2.2.2.2.2.2.2 < x.2.2.2.2.2.2.2.2.2.2.2.2.2.2) = true then
  if (0 : Int) ≤ y.2.1 ∧ y.2.1 < ((x.2.2.2.1 : Nat) : Int) then
   if (x.2.2.2.2.1 (Int.toNat (y.2.1)) == (15 : Int)) = true then
    (c_Pick ((x.2.2.2.2.2.2.2.2.2.2.2.2.1, x.2.2.2.2.2.2.2.2.2.2.2.2.2.1, y.1, (2 : Int)))).bind fun z2865 =>
     if (x.2.2.2.2.1 (Int.toNat (y.2.1)) == (28 : Int)) = true then
      dn (.inl ((y.2.2.2.1, y.2.2.2.2.1, y.2.2.2.2.2.1, y.2.2.2.2.2.2.1, y.2.2.2.2.2.2.2.1, y.2.2.2.2.2.2.2.2.1)))
     else
      if (x.2.2.2.2.1 (Int.toNat (y.2.1)) == (27 : Int)) = true then
       dn (.inl ((y.2.2.2.1, y.2.2.2.2.1, y.2.2.2.2.2.1, y.2.2.2.2.2.2.1, y.2.2.2.2.2.2.2.1, y.2.2.2.2.2.2.2.2.1)))
      else
       if (x.2.2.2.2.1 (Int.toNat (y.2.1)) == (14 : Int)) = true then
        nx (.inl ((w (y.1 + (1 : Int)), x.2.2.2.2.2.1 (Int.toNat (y.2.1)), y.2.2.1, y.2.2.2.1, y.2.2.2.2.1, y.2.2.2.2.2.1, y.2.2.2.2.2.2.1, y.2.2.2.2.2.2.2.1, y.2.2.2.2.2.2.2.2.1, w (y.2.2.2.2.2.2.2.2.2 + (1 : Int)))))
       else
        if (x.2.2.2.2.1 (Int.toNat (y.2.1)) == (15 : Int)) = true then
         if (z2865 == (1 : Int)) = true then
          nx (.inl ((w (y.1 + (1 : Int)), x.2.2.2.2.2.1 (Int.toNat (y.2.1)), y.2.2.1, y.2.2.2.1, y.2.2.2.2.1, y.2.2.2.2.2.1, y.2.2.2.2.2.2.1, y.2.2.2.2.2.2.2.1, y.2.2.2.2.2.2.2.2.1, w (y.2.2.2.2.2.2.2.2.2 + (1 : Int)))))
         else
          nx (.inl ((w (y.1 + (1 : Int)), w (y.2.1 + (1 : Int)), y.2.2.1, y.2.2.2.1, y.2.2.2.2.1, y.2.2.2.2.2.1, y.2.2.2.2.2.2.1, y.2.2.2.2.2.2.2.1, y.2.2.2.2.2.2.2.2.1, w (y.2.2.2.2.2.2.2.2.2 + (1 : Int)))))
        else
         if (x.2.2.2.2.1 (Int.toNat (y.2.1)) == (16 : Int)) = true then
          nx (.inr ((w (y.1 + (1 : Int)), w (y.2.2.2.2.2.2.2.2.2 + (1 : Int)), w (y.2.1 + (1 : Int)), y.2.2.1, fun (j : Nat) => w (y.2.1 + (1 : Int)), fun (j : Nat) => x.2.2.2.2.2.1 (Int.toNat (y.2.1)), y.2.2.2.1, y.2.2.2.2.1, y.2.2.2.2.2.1, y.2.2.2.2.2.2.1, y.2.2.2.2.2.2.2.1, y.2.2.2.2.2.2.2.2.1, 1, 1)))
         else
          if (x.2.2.2.2.1 (Int.toNat (y.2.1)) == (17 : Int)) = true then
           none
          else
           if (x.2.2.2.2.1 (Int.toNat (y.2.1)) == (19 : Int)) = true then
            nx (.inl ((w (y.1 + (1 : Int)), w (y.2.1 + (1 : Int)), x.2.2.2.2.2.1 (Int.toNat (y.2.1)), y.2.2.2.1, y.2.2.2.2.1, y.2.2.2.2.2.1, y.2.2.2.2.2.2.1, y.2.2.2.2.2.2.2.1, y.2.2.2.2.2.2.2.2.1, w (y.2.2.2.2.2.2.2.2.2 + (1 : Int)))))
           else
            if (x.2.2.2.2.1 (Int.toNat (y.2.1)) == (20 : Int)) = true then
             if (z2865 == (1 : Int)) = true then
              if decide (y.2.2.1 > (0 : Int)) = true then
               (c_RAdd ((y.2.2.2.1, y.2.2.2.2.1, y.2.2.2.2.2.1, y.2.2.2.2.2.2.1, y.2.2.2.2.2.2.2.1, y.2.2.2.2.2.2.2.2.1, (0 : Int), (0 : Int), (0 : Int), (0 : Int), (0 : Int), (1 : Int)))).bind fun z2878 =>
                nx (.inl ((w (y.1 + (1 : Int)), x.2.2.2.2.2.1 (Int.toNat (y.2.1)), w (y.2.2.1 - (1 : Int)), z2878.1, z2878.2.1, z2878.2.2.1, z2878.2.2.2.1, z2878.2.2.2.2.1, z2878.2.2.2.2.2, w (y.2.2.2.2.2.2.2.2.2 + (1 : Int)))))
              else
               nx (.inl ((w (y.1 + (1 : Int)), w (y.2.1 + (1 : Int)), y.2.2.1, y.2.2.2.1, y.2.2.2.2.1, y.2.2.2.2.2.1, y.2.2.2.2.2.2.1, y.2.2.2.2.2.2.2.1, y.2.2.2.2.2.2.2.2.1, w (y.2.2.2.2.2.2.2.2.2 + (1 : Int)))))
             else
              nx (.inl ((w (y.1 + (1 : Int)), w (y.2.1 + (1 : Int)), y.2.2.1, y.2.2.2.1, y.2.2.2.2.1, y.2.2.2.2.2.1, y.2.2.2.2.2.2.1, y.2.2.2.2.2.2.2.1, y.2.2.2.2.2.2.2.2.1, w (y.2.2.2.2.2.2.2.2.2 + (1 : Int)))))
            else
             (c_ROwn ((x.2.2.2.2.1 (Int.toNat (y.2.1)), x.2.2.2.2.2.1 (Int.toNat (y.2.1)), x.2.2.2.2.2.2.1, x.2.2.2.2.2.2.2.1, x.2.2.2.2.2.2.2.2.1, x.2.2.2.2.2.2.2.2.2.1, x.2.2.2.2.2.2.2.2.2.2.1, x.2.2.2.2.2.2.2.2.2.2.2.1))).bind fun z2887 =>
              (c_RAdd ((y.2.2.2.1, y.2.2.2.2.1, y.2.2.2.2.2.1, y.2.2.2.2.2.2.1, y.2.2.2.2.2.2.2.1, y.2.2.2.2.2.2.2.2.1, z2887))).bind fun z2900 =>
               nx (.inl ((w (y.1 + (1 : Int)), w (y.2.1 + (1 : Int)), y.2.2.1, z2900.1, z2900.2.1, z2900.2.2.1, z2900.2.2.2.1, z2900.2.2.2.2.1, z2900.2.2.2.2.2, w (y.2.2.2.2.2.2.2.2.2 + (1 : Int)))))
   else
    if (x.2.2.2.2.1 (Int.toNat (y.2.1)) == (20 : Int)) = true then
     (c_Pick ((x.2.2.2.2.2.2.2.2.2.2.2.2.1, x.2.2.2.2.2.2.2.2.2.2.2.2.2.1, y.1, (2 : Int)))).bind fun z2905 =>
      if (x.2.2.2.2.1 (Int.toNat (y.2.1)) == (28 : Int)) = true then
       dn (.inl ((y.2.2.2.1, y.2.2.2.2.1, y.2.2.2.2.2.1, y.2.2.2.2.2.2.1, y.2.2.2.2.2.2.2.1, y.2.2.2.2.2.2.2.2.1)))
      else
       if (x.2.2.2.2.1 (Int.toNat (y.2.1)) == (27 : Int)) = true then
        dn (.inl ((y.2.2.2.1, y.2.2.2.2.1, y.2.2.2.2.2.1, y.2.2.2.2.2.2.1, y.2.2.2.2.2.2.2.1, y.2.2.2.2.2.2.2.2.1)))
       else
        if (x.2.2.2.2.1 (Int.toNat (y.2.1)) == (14 : Int)) = true then
         nx (.inl ((w (y.1 + (1 : Int)), x.2.2.2.2.2.1 (Int.toNat (y.2.1)), y.2.2.1, y.2.2.2.1, y.2.2.2.2.1, y.2.2.2.2.2.1, y.2.2.2.2.2.2.1, y.2.2.2.2.2.2.2.1, y.2.2.2.2.2.2.2.2.1, w (y.2.2.2.2.2.2.2.2.2 + (1 : Int)))))
        else
         if (x.2.2.2.2.1 (Int.toNat (y.2.1)) == (15 : Int)) = true then
          if (z2905 == (1 : Int)) = true then
           nx (.inl ((w (y.1 + (1 : Int)), x.2.2.2.2.2.1 (Int.toNat (y.2.1)), y.2.2.1, y.2.2.2.1, y.2.2.2.2.1, y.2.2.2.2.2.1, y.2.2.2.2.2.2.1, y.2.2.2.2.2.2.2.1, y.2.2.2.2.2.2.2.2.1, w (y.2.2.2.2.2.2.2.2.2 + (1 : Int)))))
          else
           nx (.inl ((w (y.1 + (1 : Int)), w (y.2.1 + (1 : Int)), y.2.2.1, y.2.2.2.1, y.2.2.2.2.1, y.2.2.2.2.2.1, y.2.2.2.2.2.2.1, y.2.2.2.2.2.2.2.1, y.2.2.2.2.2.2.2.2.1, w (y.2.2.2.2.2.2.2.2.2 + (1 : Int)))))
         else
          if (x.2.2.2.2.1 (Int.toNat (y.2.1)) == (16 : Int)) = true then
           nx (.inr ((w (y.1 + (1 : Int)), w (y.2.2.2.2.2.2.2.2.2 + (1 : Int)), w (y.2.1 + (1 : Int)), y.2.2.1, fun (j : Nat) => w (y.2.1 + (1 : Int)), fun (j : Nat) => x.2.2.2.2.2.1 (Int.toNat (y.2.1)), y.2.2.2.1, y.2.2.2.2.1, y.2.2.2.2.2.1, y.2.2.2.2.2.2.1, y.2.2.2.2.2.2.2.1, y.2.2.2.2.2.2.2.2.1, 1, 1)))
          else
           if (x.2.2.2.2.1 (Int.toNat (y.2.1)) == (17 : Int)) = true then
            none
           else
            if (x.2.2.2.2.1 (Int.toNat (y.2.1)) == (19 : Int)) = true then
             nx (.inl ((w (y.1 + (1 : Int)), w (y.2.1 + (1 : Int)), x.2.2.2.2.2.1 (Int.toNat (y.2.1)), y.2.2.2.1, y.2.2.2.2.1, y.2.2.2.2.2.1, y.2.2.2.2.2.2.1, y.2.2.2.2.2.2.2.1, y.2.2.2.2.2.2.2.2.1, w (y.2.2.2.2.2.2.2.2.2 + (1 : Int)))))
            else
             if (x.2.2.2.2.1 (Int.toNat (y.2.1)) == (20 : Int)) = true then
              if (z2905 == (1 : Int)) = true then
               if decide (y.2.2.1 > (0 : Int)) = true then
                (c_RAdd ((y.2.2.2.1, y.2.2.2.2.1, y.2.2.2.2.2.1, y.2.2.2.2.2.2.1, y.2.2.2.2.2.2.2.1, y.2.2.2.2.2.2.2.2.1, (0 : Int), (0 : Int), (0 : Int), (0 : Int), (0 : Int), (1 : Int)))).bind fun z2918 =>
                 nx (.inl ((w (y.1 + (1 : Int)), x.2.2.2.2.2.1 (Int.toNat (y.2.1)), w (y.2.2.1 - (1 : Int)), z2918.1, z2918.2.1, z2918.2.2.1, z2918.2.2.2.1, z2918.2.2.2.2.1, z2918.2.2.2.2.2, w (y.2.2.2.2.2.2.2.2.2 + (1 : Int)))))
               else
                nx (.inl ((w (y.1 + (1 : Int)), w (y.2.1 + (1 : Int)), y.2.2.1, y.2.2.2.1, y.2.2.2.2.1, y.2.2.2.2.2.1, y.2.2.2.2.2.2.1, y.2.2.2.2.2.2.2.1, y.2.2.2.2.2.2.2.2.1, w (y.2.2.2.2.2.2.2.2.2 + (1 : Int)))))
              else
               nx (.inl ((w (y.1 + (1 : Int)), w (y.2.1 + (1 : Int)), y.2.2.1, y.2.2.2.1, y.2.2.2.2.1, y.2.2.2.2.2.1, y.2.2.2.2.2.2.1, y.2.2.2.2.2.2.2.1, y.2.2.2.2.2.2.2.2.1, w (y.2.2.2.2.2.2.2.2.2 + (1 : Int)))))
             else
              (c_ROwn ((x.2.2.2.2.1 (Int.toNat (y.2.1)), x.2.2.2.2.2.1 (Int.toNat (y.2.1)), x.2.2.2.2.2.2.1, x.2.2.2.2.2.2.2.1, x.2.2.2.2.2.2.2.2.1, x.2.2.2.2.2.2.2.2.2.1, x.2.2.2.2.2.2.2.2.2.2.1, x.2.2.2.2.2.2.2.2.2.2.2.1))).bind fun z2927 =>
               (c_RAdd ((y.2.2.2.1, y.2.2.2.2.1, y.2.2.2.2.2.1, y.2.2.2.2.2.2.1, y.2.2.2.2.2.2.2.1, y.2.2.2.2.2.2.2.2.1, z2927))).bind fun z2940 =>
                nx (.inl ((w (y.1 + (1 : Int)), w (y.2.1 + (1 : Int)), y.2.2.1, z2940.1, z2940.2.1, z2940.2.2.1, z2940.2.2.2.1, z2940.2.2.2.2.1, z2940.2.2.2.2.2, w (y.2.2.2.2.2.2.2.2.2 + (1 : Int)))))
    else
     if (x.2.2.2.2.1 (Int.toNat (y.2.1)) == (28 : Int)) = true then
      dn (.inl ((y.2.2.2.1, y.2.2.2.2.1, y.2.2.2.2.2.1, y.2.2.2.2.2.2.1, y.2.2.2.2.2.2.2.1, y.2.2.2.2.2.2.2.2.1)))
     else
      if (x.2.2.2.2.1 (Int.toNat (y.2.1)) == (27 : Int)) = true then
       dn (.inl ((y.2.2.2.1, y.2.2.2.2.1, y.2.2.2.2.2.1, y.2.2.2.2.2.2.1, y.2.2.2.2.2.2.2.1, y.2.2.2.2.2.2.2.2.1)))
      else
       if (x.2.2.2.2.1 (Int.toNat (y.2.1)) == (14 : Int)) = true then
        nx (.inl ((y.1, x.2.2.2.2.2.1 (Int.toNat (y.2.1)), y.2.2.1, y.2.2.2.1, y.2.2.2.2.1, y.2.2.2.2.2.1, y.2.2.2.2.2.2.1, y.2.2.2.2.2.2.2.1, y.2.2.2.2.2.2.2.2.1, w (y.2.2.2.2.2.2.2.2.2 + (1 : Int)))))
       else
        if (x.2.2.2.2.1 (Int.toNat (y.2.1)) == (15 : Int)) = true then
         nx (.inl ((y.1, w (y.2.1 + (1 : Int)), y.2.2.1, y.2.2.2.1, y.2.2.2.2.1, y.2.2.2.2.2.1, y.2.2.2.2.2.2.1, y.2.2.2.2.2.2.2.1, y.2.2.2.2.2.2.2.2.1, w (y.2.2.2.2.2.2.2.2.2 + (1 : Int)))))
        else
         if (x.2.2.2.2.1 (Int.toNat (y.2.1)) == (16 : Int)) = true then
          nx (.inr ((y.1, w (y.2.2.2.2.2.2.2.2.2 + (1 : Int)), w (y.2.1 + (1 : Int)), y.2.2.1, fun (j : Nat) => w (y.2.1 + (1 : Int)), fun (j : Nat) => x.2.2.2.2.2.1 (Int.toNat (y.2.1)), y.2.2.2.1, y.2.2.2.2.1, y.2.2.2.2.2.1, y.2.2.2.2.2.2.1, y.2.2.2.2.2.2.2.1, y.2.2.2.2.2.2.2.2.1, 1, 1)))
         else
          if (x.2.2.2.2.1 (Int.toNat (y.2.1)) == (17 : Int)) = true then
           none
          else
           if (x.2.2.2.2.1 (Int.toNat (y.2.1)) == (19 : Int)) = true then
            nx (.inl ((y.1, w (y.2.1 + (1 : Int)), x.2.2.2.2.2.1 (Int.toNat (y.2.1)), y.2.2.2.1, y.2.2.2.2.1, y.2.2.2.2.2.1, y.2.2.2.2.2.2.1, y.2.2.2.2.2.2.2.1, y.2.2.2.2.2.2.2.2.1, w (y.2.2.2.2.2.2.2.2.2 + (1 : Int)))))
           else
            if (x.2.2.2.2.1 (Int.toNat (y.2.1)) == (20 : Int)) = true then
             nx (.inl ((y.1, w (y.2.1 + (1 : Int)), y.2.2.1, y.2.2.2.1, y.2.2.2.2.1, y.2.2.2.2.2.1, y.2.2.2.2.2.2.1, y.2.2.2.2.2.2.2.1, y.2.2.2.2.2.2.2.2.1, w (y.2.2.2.2.2.2.2.2.2 + (1 : Int)))))
            else
             (c_ROwn ((x.2.2.2.2.1 (Int.toNat (y.2.1)), x.2.2.2.2.2.1 (Int.toNat (y.2.1)), x.2.2.2.2.2.2.1, x.2.2.2.2.2.2.2.1, x.2.2.2.2.2.2.2.2.1, x.2.2.2.2.2.2.2.2.2.1, x.2.2.2.2.2.2.2.2.2.2.1, x.2.2.2.2.2.2.2.2.2.2.2.1))).bind fun z2949 =>
              (c_RAdd ((y.2.2.2.1, y.2.2.2.2.1, y.2.2.2.2.2.1, y.2.2.2.2.2.2.1, y.2.2.2.2.2.2.2.1, y.2.2.2.2.2.2.2.2.1, z2949))).bind fun z2962 =>
               nx (.inl ((y.1, w (y.2.1 + (1 : Int)), y.2.2.1, z2962.1, z2962.2.1, z2962.2.2.1, z2962.2.2.2.1, z2962.2.2.2.2.1, z2962.2.2.2.2.2, w (y.2.2.2.2.2.2.2.2.2 + (1 : Int)))))
  else
   none
 else
  dn (.inr ((y.2.2.2.1, y.2.2.2.2.1, y.2.2.2.2.2.1, y.2.2.2.2.2.2.1, y.2.2.2.2.2.2.2.1, y.2.2.2.2.2.2.2.2.1)))
theorem Path_l0_n0 {β : Type} (c_Pick : a_Pick → Option g_Pick) (c_RAdd : a_RAdd → Option g_RAdd) (c_ROwn : a_ROwn → Option g_ROwn) (x : a_Path) (y : Int × Int × Int × Int × Int × Int × Int × Int × Int × Int) (nx : Path_l0_a → Option β) (dn : Path_l0_g → Option β) : Path_l0_t0 c_Pick c_RAdd c_ROwn x y nx dn = (Path_l0_t0 c_Pick c_RAdd c_ROwn x y (fun y => some (.inl y)) (fun z => some (.inr z))).bind fun r => Sum.elim nx dn r := by
  unfold Path_l0_t0
  repeat' first | exact free_none | refine free_bind (fun z => ?_) | refine free_ite ?_ ?_ | refine free_sum (fun z => ?_) (fun z => ?_) | rfl
theorem Path_l0_r0 (c_Pick : a_Pick → Option g_Pick) (c_RAdd : a_RAdd → Option g_RAdd) (c_ROwn : a_ROwn → Option g_ROwn) (x : a_Path) (y : Int × Int × Int × Int × Int × Int × Int × Int × Int × Int) (lo : LoopT) : loopK E3 (ftab 27 (fun _ _ => true) A_Pick x_Pick c_Pick (ftab 32 (fun _ _ => true) A_RAdd x_RAdd c_RAdd (ftab 50 (fun _ _ => true) A_ROwn x_ROwn c_ROwn ca0))) lo 0 15676 (bodyOf E3 25 0) (Path_l0_S x (.inl y)) (KCM [(0, 2304)] 768) = Path_l0_t0 (fun x => viaF A_Pick c_Pick (A_Pick x)) (fun x => viaF A_RAdd c_RAdd (A_RAdd x)) (fun x => viaF A_ROwn c_ROwn (A_ROwn x)) x y (fun y => lo 0 15676 (bodyOf E3 25 0) (Path_l0_S x y) (KCM [(0, 2304)] 768)) (fun z => some (.l (Path_l0_T x z).1 (Path_l0_T x z).2)) := by kernel_rfl
def Path_l0_t1 {β : Type} (c_Pick : a_Pick → Option g_Pick) (c_RAdd : a_RAdd → Option g_RAdd) (c_ROwn : a_ROwn → Option g_ROwn) (x : a_Path) (y : Int × Int × Int × Int × (Nat → Int) × (Nat → Int) × Int × Int × Int × Int × Int × Int × Nat × Nat) (nx : Path_l0_a → Option β) (dn : Path_l0_g → Option β) : Option β :=
 if decide (y.2.1 < x.2.2.2.2.2.2.2.2.2.2.2.2.2.2) = true then
  if (0 : Int) ≤ y.2.2.1 ∧ y.2.2.1 < ((x.2.2.2.1 : Nat) : Int) then
   if (x.2.2.2.2.1 (Int.toNat (y.2.2.1)) == (15 : Int)) = true then
    (c_Pick ((x.2.2.2.2.2.2.2.2.2.2.2.2.1, x.2.2.2.2.2.2.2.2.2.2.2.2.2.1, y.1, (2 : Int)))).bind fun z2968 =>
     if (x.2.2.2.2.1 (Int.toNat (y.2.2.1)) == (28 : Int)) = true then
      dn (.inl ((y.2.2.2.2.2.2.1, y.2.2.2.2.2.2.2.1, y.2.2.2.2.2.2.2.2.1, y.2.2.2.2.2.2.2.2.2.1, y.2.2.2.2.2.2.2.2.2.2.1, y.2.2.2.2.2.2.2.2.2.2.2.1)))
     else
      if (x.2.2.2.2.1 (Int.toNat (y.2.2.1)) == (27 : Int)) = true then
       dn (.inl ((y.2.2.2.2.2.2.1, y.2.2.2.2.2.2.2.1, y.2.2.2.2.2.2.2.2.1, y.2.2.2.2.2.2.2.2.2.1, y.2.2.2.2.2.2.2.2.2.2.1, y.2.2.2.2.2.2.2.2.2.2.2.1)))
      else
       if (x.2.2.2.2.1 (Int.toNat (y.2.2.1)) == (14 : Int)) = true then
        nx (.inr ((w (y.1 + (1 : Int)), w (y.2.1 + (1 : Int)), x.2.2.2.2.2.1 (Int.toNat (y.2.2.1)), y.2.2.2)))
       else
        if (x.2.2.2.2.1 (Int.toNat (y.2.2.1)) == (15 : Int)) = true then
         if (z2968 == (1 : Int)) = true then
          nx (.inr ((w (y.1 + (1 : Int)), w (y.2.1 + (1 : Int)), x.2.2.2.2.2.1 (Int.toNat (y.2.2.1)), y.2.2.2)))
         else
          nx (.inr ((w (y.1 + (1 : Int)), w (y.2.1 + (1 : Int)), w (y.2.2.1 + (1 : Int)), y.2.2.2)))
        else
         if (x.2.2.2.2.1 (Int.toNat (y.2.2.1)) == (16 : Int)) = true then
          if (y.2.2.2.2.2.2.2.2.2.2.2.2.1 + 1) * 16 ≤ roomBound ∧ y.2.2.2.2.2.2.2.2.2.2.2.2.1 + 1 ≤ maxLen ∧ y.2.2.2.2.2.2.2.2.2.2.2.2.1 ≤ y.2.2.2.2.2.2.2.2.2.2.2.2.2 then
           nx (.inr ((w (y.1 + (1 : Int)), w (y.2.1 + (1 : Int)), w (y.2.2.1 + (1 : Int)), y.2.2.2.1, fun (j : Nat) => if j < y.2.2.2.2.2.2.2.2.2.2.2.2.1 then y.2.2.2.2.1 j else w (y.2.2.1 + (1 : Int)), fun (j : Nat) => if j < y.2.2.2.2.2.2.2.2.2.2.2.2.1 then y.2.2.2.2.2.1 j else x.2.2.2.2.2.1 (Int.toNat (y.2.2.1)), y.2.2.2.2.2.2.1, y.2.2.2.2.2.2.2.1, y.2.2.2.2.2.2.2.2.1, y.2.2.2.2.2.2.2.2.2.1, y.2.2.2.2.2.2.2.2.2.2.1, y.2.2.2.2.2.2.2.2.2.2.2.1, y.2.2.2.2.2.2.2.2.2.2.2.2.1 + 1, y.2.2.2.2.2.2.2.2.2.2.2.2.1 + 1)))
          else
           none
         else
          if (x.2.2.2.2.1 (Int.toNat (y.2.2.1)) == (17 : Int)) = true then
           if (0 : Int) ≤ w (((y.2.2.2.2.2.2.2.2.2.2.2.2.1 : Nat) : Int) - (1 : Int)) ∧ w (((y.2.2.2.2.2.2.2.2.2.2.2.2.1 : Nat) : Int) - (1 : Int)) < ((y.2.2.2.2.2.2.2.2.2.2.2.2.1 : Nat) : Int) then
            if 0 + Int.toNat (w (((y.2.2.2.2.2.2.2.2.2.2.2.2.1 : Nat) : Int) - (1 : Int))) < y.2.2.2.2.2.2.2.2.2.2.2.2.2 ∧ 2 = 2 then
             if (0 : Int) ≤ (0 : Int) ∧ (0 : Int) ≤ w (((y.2.2.2.2.2.2.2.2.2.2.2.2.1 : Nat) : Int) - (1 : Int)) ∧ w (((y.2.2.2.2.2.2.2.2.2.2.2.2.1 : Nat) : Int) - (1 : Int)) ≤ ((y.2.2.2.2.2.2.2.2.2.2.2.2.1 : Nat) : Int) then
              if decide (w (y.2.2.2.2.2.1 (0 + Int.toNat (w (((y.2.2.2.2.2.2.2.2.2.2.2.2.1 : Nat) : Int) - (1 : Int)))) - (1 : Int)) > (0 : Int)) = true then
               if (Int.toNat (w (((y.2.2.2.2.2.2.2.2.2.2.2.2.1 : Nat) : Int) - (1 : Int))) - 0 + 1) * 16 ≤ roomBound ∧ Int.toNat (w (((y.2.2.2.2.2.2.2.2.2.2.2.2.1 : Nat) : Int) - (1 : Int))) - 0 + 1 ≤ maxLen ∧ Int.toNat (w (((y.2.2.2.2.2.2.2.2.2.2.2.2.1 : Nat) : Int) - (1 : Int))) - 0 ≤ y.2.2.2.2.2.2.2.2.2.2.2.2.2 then
                nx (.inr ((w (y.1 + (1 : Int)), w (y.2.1 + (1 : Int)), x.2.2.2.2.2.1 (Int.toNat (y.2.2.1)), y.2.2.2.1, fun (j : Nat) => if j < Int.toNat (w (((y.2.2.2.2.2.2.2.2.2.2.2.2.1 : Nat) : Int) - (1 : Int))) - 0 then y.2.2.2.2.1 j else x.2.2.2.2.2.1 (Int.toNat (y.2.2.1)), fun (j : Nat) => if j < Int.toNat (w (((y.2.2.2.2.2.2.2.2.2.2.2.2.1 : Nat) : Int) - (1 : Int))) - 0 then y.2.2.2.2.2.1 j else w (y.2.2.2.2.2.1 (0 + Int.toNat (w (((y.2.2.2.2.2.2.2.2.2.2.2.2.1 : Nat) : Int) - (1 : Int)))) - (1 : Int)), y.2.2.2.2.2.2.1, y.2.2.2.2.2.2.2.1, y.2.2.2.2.2.2.2.2.1, y.2.2.2.2.2.2.2.2.2.1, y.2.2.2.2.2.2.2.2.2.2.1, y.2.2.2.2.2.2.2.2.2.2.2.1, Int.toNat (w (((y.2.2.2.2.2.2.2.2.2.2.2.2.1 : Nat) : Int) - (1 : Int))) - 0 + 1, Int.toNat (w (((y.2.2.2.2.2.2.2.2.2.2.2.2.1 : Nat) : Int) - (1 : Int))) - 0 + 1)))
               else
                none
              else
               nx (.inr ((w (y.1 + (1 : Int)), w (y.2.1 + (1 : Int)), w (y.2.2.1 + (1 : Int)), y.2.2.2.1, y.2.2.2.2.1, y.2.2.2.2.2.1, y.2.2.2.2.2.2.1, y.2.2.2.2.2.2.2.1, y.2.2.2.2.2.2.2.2.1, y.2.2.2.2.2.2.2.2.2.1, y.2.2.2.2.2.2.2.2.2.2.1, y.2.2.2.2.2.2.2.2.2.2.2.1, Int.toNat (w (((y.2.2.2.2.2.2.2.2.2.2.2.2.1 : Nat) : Int) - (1 : Int))) - 0, y.2.2.2.2.2.2.2.2.2.2.2.2.2)))
             else
              none
            else
             none
           else
            none
          else
           if (x.2.2.2.2.1 (Int.toNat (y.2.2.1)) == (19 : Int)) = true then
            nx (.inr ((w (y.1 + (1 : Int)), w (y.2.1 + (1 : Int)), w (y.2.2.1 + (1 : Int)), x.2.2.2.2.2.1 (Int.toNat (y.2.2.1)), y.2.2.2.2)))
           else
            if (x.2.2.2.2.1 (Int.toNat (y.2.2.1)) == (20 : Int)) = true then
             if (z2968 == (1 : Int)) = true then
              if decide (y.2.2.2.1 > (0 : Int)) = true then
               (c_RAdd ((y.2.2.2.2.2.2.1, y.2.2.2.2.2.2.2.1, y.2.2.2.2.2.2.2.2.1, y.2.2.2.2.2.2.2.2.2.1, y.2.2.2.2.2.2.2.2.2.2.1, y.2.2.2.2.2.2.2.2.2.2.2.1, (0 : Int), (0 : Int), (0 : Int), (0 : Int), (0 : Int), (1 : Int)))).bind fun z2981 =>
                nx (.inr ((w (y.1 + (1 : Int)), w (y.2.1 + (1 : Int)), x.2.2.2.2.2.1 (Int.toNat (y.2.2.1)), w (y.2.2.2.1 - (1 : Int)), y.2.2.2.2.1, y.2.2.2.2.2.1, z2981.1, z2981.2.1, z2981.2.2.1, z2981.2.2.2.1, z2981.2.2.2.2.1, z2981.2.2.2.2.2, y.2.2.2.2.2.2.2.2.2.2.2.2)))
              else
               nx (.inr ((w (y.1 + (1 : Int)), w (y.2.1 + (1 : Int)), w (y.2.2.1 + (1 : Int)), y.2.2.2)))
             else
              nx (.inr ((w (y.1 + (1 : Int)), w (y.2.1 + (1 : Int)), w (y.2.2.1 + (1 : Int)), y.2.2.2)))
            else
             (c_ROwn ((x.2.2.2.2.1 (Int.toNat (y.2.2.1)), x.2.2.2.2.2.1 (Int.toNat (y.2.2.1)), x.2.2.2.2.2.2.1, x.2.2.2.2.2.2.2.1, x.2.2.2.2.2.2.2.2.1, x.2.2.2.2.2.2.2.2.2.1, x.2.2.2.2.2.2.2.2.2.2.1, x.2.2.2.2.2.2.2.2.2.2.2.1))).bind fun z2990 =>
              (c_RAdd ((y.2.2.2.2.2.2.1, y.2.2.2.2.2.2.2.1, y.2.2.2.2.2.2.2.2.1, y.2.2.2.2.2.2.2.2.2.1, y.2.2.2.2.2.2.2.2.2.2.1, y.2.2.2.2.2.2.2.2.2.2.2.1, z2990))).bind fun z3003 =>
               nx (.inr ((w (y.1 + (1 : Int)), w (y.2.1 + (1 : Int)), w (y.2.2.1 + (1 : Int)), y.2.2.2.1, y.2.2.2.2.1, y.2.2.2.2.2.1, z3003.1, z3003.2.1, z3003.2.2.1, z3003.2.2.2.1, z3003.2.2.2.2.1, z3003.2.2.2.2.2, y.2.2.2.2.2.2.2.2.2.2.2.2)))
   else
    if (x.2.2.2.2.1 (Int.toNat (y.2.2.1)) == (20 : Int)) = true then
     (c_Pick ((x.2.2.2.2.2.2.2.2.2.2.2.2.1, x.2.2.2.2.2.2.2.2.2.2.2.2.2.1, y.1, (2 : Int)))).bind fun z3008 =>
      if (x.2.2.2.2.1 (Int.toNat (y.2.2.1)) == (28 : Int)) = true then
       dn (.inl ((y.2.2.2.2.2.2.1, y.2.2.2.2.2.2.2.1, y.2.2.2.2.2.2.2.2.1, y.2.2.2.2.2.2.2.2.2.1, y.2.2.2.2.2.2.2.2.2.2.1, y.2.2.2.2.2.2.2.2.2.2.2.1)))
      else
       if (x.2.2.2.2.1 (Int.toNat (y.2.2.1)) == (27 : Int)) = true then
        dn (.inl ((y.2.2.2.2.2.2.1, y.2.2.2.2.2.2.2.1, y.2.2.2.2.2.2.2.2.1, y.2.2.2.2.2.2.2.2.2.1, y.2.2.2.2.2.2.2.2.2.2.1, y.2.2.2.2.2.2.2.2.2.2.2.1)))
       else
        if (x.2.2.2.2.1 (Int.toNat (y.2.2.1)) == (14 : Int)) = true then
         nx (.inr ((w (y.1 + (1 : Int)), w (y.2.1 + (1 : Int)), x.2.2.2.2.2.1 (Int.toNat (y.2.2.1)), y.2.2.2)))
        else
         if (x.2.2.2.2.1 (Int.toNat (y.2.2.1)) == (15 : Int)) = true then
          if (z3008 == (1 : Int)) = true then
           nx (.inr ((w (y.1 + (1 : Int)), w (y.2.1 + (1 : Int)), x.2.2.2.2.2.1 (Int.toNat (y.2.2.1)), y.2.2.2)))
          else
           nx (.inr ((w (y.1 + (1 : Int)), w (y.2.1 + (1 : Int)), w (y.2.2.1 + (1 : Int)), y.2.2.2)))
         else
          if (x.2.2.2.2.1 (Int.toNat (y.2.2.1)) == (16 : Int)) = true then
           if (y.2.2.2.2.2.2.2.2.2.2.2.2.1 + 1) * 16 ≤ roomBound ∧ y.2.2.2.2.2.2.2.2.2.2.2.2.1 + 1 ≤ maxLen ∧ y.2.2.2.2.2.2.2.2.2.2.2.2.1 ≤ y.2.2.2.2.2.2.2.2.2.2.2.2.2 then
            nx (.inr ((w (y.1 + (1 : Int)), w (y.2.1 + (1 : Int)), w (y.2.2.1 + (1 : Int)), y.2.2.2.1, fun (j : Nat) => if j < y.2.2.2.2.2.2.2.2.2.2.2.2.1 then y.2.2.2.2.1 j else w (y.2.2.1 + (1 : Int)), fun (j : Nat) => if j < y.2.2.2.2.2.2.2.2.2.2.2.2.1 then y.2.2.2.2.2.1 j else x.2.2.2.2.2.1 (Int.toNat (y.2.2.1)), y.2.2.2.2.2.2.1, y.2.2.2.2.2.2.2.1, y.2.2.2.2.2.2.2.2.1, y.2.2.2.2.2.2.2.2.2.1, y.2.2.2.2.2.2.2.2.2.2.1, y.2.2.2.2.2.2.2.2.2.2.2.1, y.2.2.2.2.2.2.2.2.2.2.2.2.1 + 1, y.2.2.2.2.2.2.2.2.2.2.2.2.1 + 1)))
           else
            none
          else
           if (x.2.2.2.2.1 (Int.toNat (y.2.2.1)) == (17 : Int)) = true then
            if (0 : Int) ≤ w (((y.2.2.2.2.2.2.2.2.2.2.2.2.1 : Nat) : Int) - (1 : Int)) ∧ w (((y.2.2.2.2.2.2.2.2.2.2.2.2.1 : Nat) : Int) - (1 : Int)) < ((y.2.2.2.2.2.2.2.2.2.2.2.2.1 : Nat) : Int) then
             if 0 + Int.toNat (w (((y.2.2.2.2.2.2.2.2.2.2.2.2.1 : Nat) : Int) - (1 : Int))) < y.2.2.2.2.2.2.2.2.2.2.2.2.2 ∧ 2 = 2 then
              if (0 : Int) ≤ (0 : Int) ∧ (0 : Int) ≤ w (((y.2.2.2.2.2.2.2.2.2.2.2.2.1 : Nat) : Int) - (1 : Int)) ∧ w (((y.2.2.2.2.2.2.2.2.2.2.2.2.1 : Nat) : Int) - (1 : Int)) ≤ ((y.2.2.2.2.2.2.2.2.2.2.2.2.1 : Nat) : Int) then
               if decide (w (y.2.2.2.2.2.1 (0 + Int.toNat (w (((y.2.2.2.2.2.2.2.2.2.2.2.2.1 : Nat) : Int) - (1 : Int)))) - (1 : Int)) > (0 : Int)) = true then
                if (Int.toNat (w (((y.2.2.2.2.2.2.2.2.2.2.2.2.1 : Nat) : Int) - (1 : Int))) - 0 + 1) * 16 ≤ roomBound ∧ Int.toNat (w (((y.2.2.2.2.2.2.2.2.2.2.2.2.1 : Nat) : Int) - (1 : Int))) - 0 + 1 ≤ maxLen ∧ Int.toNat (w (((y.2.2.2.2.2.2.2.2.2.2.2.2.1 : Nat) : Int) - (1 : Int))) - 0 ≤ y.2.2.2.2.2.2.2.2.2.2.2.2.2 then
                 nx (.inr ((w (y.1 + (1 : Int)), w (y.2.1 + (1 : Int)), x.2.2.2.2.2.1 (Int.toNat (y.2.2.1)), y.2.2.2.1, fun (j : Nat) => if j < Int.toNat (w (((y.2.2.2.2.2.2.2.2.2.2.2.2.1 : Nat) : Int) - (1 : Int))) - 0 then y.2.2.2.2.1 j else x.2.2.2.2.2.1 (Int.toNat (y.2.2.1)), fun (j : Nat) => if j < Int.toNat (w (((y.2.2.2.2.2.2.2.2.2.2.2.2.1 : Nat) : Int) - (1 : Int))) - 0 then y.2.2.2.2.2.1 j else w (y.2.2.2.2.2.1 (0 + Int.toNat (w (((y.2.2.2.2.2.2.2.2.2.2.2.2.1 : Nat) : Int) - (1 : Int)))) - (1 : Int)), y.2.2.2.2.2.2.1, y.2.2.2.2.2.2.2.1, y.2.2.2.2.2.2.2.2.1, y.2.2.2.2.2.2.2.2.2.1, y.2.2.2.2.2.2.2.2.2.2.1, y.2.2.2.2.2.2.2.2.2.2.2.1, Int.toNat (w (((y.2.2.2.2.2.2.2.2.2.2.2.2.1 : Nat) : Int) - (1 : Int))) - 0 + 1, Int.toNat (w (((y.2.2.2.2.2.2.2.2.2.2.2.2.1 : Nat) : Int) - (1 : Int))) - 0 + 1)))
                else
                 none
               else
                nx (.inr ((w (y.1 + (1 : Int)), w (y.2.1 + (1 : Int)), w (y.2.2.1 + (1 : Int)), y.2.2.2.1, y.2.2.2.2.1, y.2.2.2.2.2.1, y.2.2.2.2.2.2.1, y.2.2.2.2.2.2.2.1, y.2.2.2.2.2.2.2.2.1, y.2.2.2.2.2.2.2.2.2.1, y.2.2.2.2.2.2.2.2.2.2.1, y.2.2.2.2.2.2.2.2.2.2.2.1, Int.toNat (w (((y.2.2.2.2.2.2.2.2.2.2.2.2.1 : Nat) : Int) - (1 : Int))) - 0, y.2.2.2.2.2.2.2.2.2.2.2.2.2)))
              else
               none
             else
              none
            else
             none
           else
            if (x.2.2.2.2.1 (Int.toNat (y.2.2.1)) == (19 : Int)) = true then
             nx (.inr ((w (y.1 + (1 : Int)), w (y.2.1 + (1 : Int)), w (y.2.2.1 + (1 : Int)), x.2.2.2.2.2.1 (Int.toNat (y.2.2.1)), y.2.2.2.2)))
            else
             if (x.2.2.2.2.1 (Int.toNat (y.2.2.1)) == (20 : Int)) = true then
              if (z3008 == (1 : Int)) = true then
               if decide (y.2.2.2.1 > (0 : Int)) = true then
                (c_RAdd ((y.2.2.2.2.2.2.1, y.2.2.2.2.2.2.2.1, y.2.2.2.2.2.2.2.2.1, y.2.2.2.2.2.2.2.2.2.1, y.2.2.2.2.2.2.2.2.2.2.1, y.2.2.2.2.2.2.2.2.2.2.2.1, (0 : Int), (0 : Int), (0 : Int), (0 : Int), (0 : Int), (1 : Int)))).bind fun z3021 =>
                 nx (.inr ((w (y.1 + (1 : Int)), w (y.2.1 + (1 : Int)), x.2.2.2.2.2.1 (Int.toNat (y.2.2.1)), w (y.2.2.2.1 - (1 : Int)), y.2.2.2.2.1, y.2.2.2.2.2.1, z3021.1, z3021.2.1, z3021.2.2.1, z3021.2.2.2.1, z3021.2.2.2.2.1, z3021.2.2.2.2.2, y.2.2.2.2.2.2.2.2.2.2.2.2)))
               else
                nx (.inr ((w (y.1 + (1 : Int)), w (y.2.1 + (1 : Int)), w (y.2.2.1 + (1 : Int)), y.2.2.2)))
              else
               nx (.inr ((w (y.1 + (1 : Int)), w (y.2.1 + (1 : Int)), w (y.2.2.1 + (1 : Int)), y.2.2.2)))
             else
              (c_ROwn ((x.2.2.2.2.1 (Int.toNat (y.2.2.1)), x.2.2.2.2.2.1 (Int.toNat (y.2.2.1)), x.2.2.2.2.2.2.1, x.2.2.2.2.2.2.2.1, x.2.2.2.2.2.2.2.2.1, x.2.2.2.2.2.2.2.2.2.1, x.2.2.2.2.2.2.2.2.2.2.1, x.2.2.2.2.2.2.2.2.2.2.2.1))).bind fun z3030 =>
               (c_RAdd ((y.2.2.2.2.2.2.1, y.2.2.2.2.2.2.2.1, y.2.2.2.2.2.2.2.2.1, y.2.2.2.2.2.2.2.2.2.1, y.2.2.2.2.2.2.2.2.2.2.1, y.2.2.2.2.2.2.2.2.2.2.2.1, z3030))).bind fun z3043 =>
                nx (.inr ((w (y.1 + (1 : Int)), w (y.2.1 + (1 : Int)), w (y.2.2.1 + (1 : Int)), y.2.2.2.1, y.2.2.2.2.1, y.2.2.2.2.2.1, z3043.1, z3043.2.1, z3043.2.2.1, z3043.2.2.2.1, z3043.2.2.2.2.1, z3043.2.2.2.2.2, y.2.2.2.2.2.2.2.2.2.2.2.2)))
    else
     if (x.2.2.2.2.1 (Int.toNat (y.2.2.1)) == (28 : Int)) = true then
      dn (.inl ((y.2.2.2.2.2.2.1, y.2.2.2.2.2.2.2.1, y.2.2.2.2.2.2.2.2.1, y.2.2.2.2.2.2.2.2.2.1, y.2.2.2.2.2.2.2.2.2.2.1, y.2.2.2.2.2.2.2.2.2.2.2.1)))
     else
      if (x.2.2.2.2.1 (Int.toNat (y.2.2.1)) == (27 : Int)) = true then
       dn (.inl ((y.2.2.2.2.2.2.1, y.2.2.2.2.2.2.2.1, y.2.2.2.2.2.2.2.2.1, y.2.2.2.2.2.2.2.2.2.1, y.2.2.2.2.2.2.2.2.2.2.1, y.2.2.2.2.2.2.2.2.2.2.2.1)))
      else
       if (x.2.2.2.2.1 (Int.toNat (y.2.2.1)) == (14 : Int)) = true then
        nx (.inr ((y.1, w (y.2.1 + (1 : Int)), x.2.2.2.2.2.1 (Int.toNat (y.2.2.1)), y.2.2.2)))
       else
        if (x.2.2.2.2.1 (Int.toNat (y.2.2.1)) == (15 : Int)) = true then
         nx (.inr ((y.1, w (y.2.1 + (1 : Int)), w (y.2.2.1 + (1 : Int)), y.2.2.2)))
        else
         if (x.2.2.2.2.1 (Int.toNat (y.2.2.1)) == (16 : Int)) = true then
          if (y.2.2.2.2.2.2.2.2.2.2.2.2.1 + 1) * 16 ≤ roomBound ∧ y.2.2.2.2.2.2.2.2.2.2.2.2.1 + 1 ≤ maxLen ∧ y.2.2.2.2.2.2.2.2.2.2.2.2.1 ≤ y.2.2.2.2.2.2.2.2.2.2.2.2.2 then
           nx (.inr ((y.1, w (y.2.1 + (1 : Int)), w (y.2.2.1 + (1 : Int)), y.2.2.2.1, fun (j : Nat) => if j < y.2.2.2.2.2.2.2.2.2.2.2.2.1 then y.2.2.2.2.1 j else w (y.2.2.1 + (1 : Int)), fun (j : Nat) => if j < y.2.2.2.2.2.2.2.2.2.2.2.2.1 then y.2.2.2.2.2.1 j else x.2.2.2.2.2.1 (Int.toNat (y.2.2.1)), y.2.2.2.2.2.2.1, y.2.2.2.2.2.2.2.1, y.2.2.2.2.2.2.2.2.1, y.2.2.2.2.2.2.2.2.2.1, y.2.2.2.2.2.2.2.2.2.2.1, y.2.2.2.2.2.2.2.2.2.2.2.1, y.2.2.2.2.2.2.2.2.2.2.2.2.1 + 1, y.2.2.2.2.2.2.2.2.2.2.2.2.1 + 1)))
          else
           none
         else
          if (x.2.2.2.2.1 (Int.toNat (y.2.2.1)) == (17 : Int)) = true then
           if (0 : Int) ≤ w (((y.2.2.2.2.2.2.2.2.2.2.2.2.1 : Nat) : Int) - (1 : Int)) ∧ w (((y.2.2.2.2.2.2.2.2.2.2.2.2.1 : Nat) : Int) - (1 : Int)) < ((y.2.2.2.2.2.2.2.2.2.2.2.2.1 : Nat) : Int) then
            if 0 + Int.toNat (w (((y.2.2.2.2.2.2.2.2.2.2.2.2.1 : Nat) : Int) - (1 : Int))) < y.2.2.2.2.2.2.2.2.2.2.2.2.2 ∧ 2 = 2 then
             if (0 : Int) ≤ (0 : Int) ∧ (0 : Int) ≤ w (((y.2.2.2.2.2.2.2.2.2.2.2.2.1 : Nat) : Int) - (1 : Int)) ∧ w (((y.2.2.2.2.2.2.2.2.2.2.2.2.1 : Nat) : Int) - (1 : Int)) ≤ ((y.2.2.2.2.2.2.2.2.2.2.2.2.1 : Nat) : Int) then
              if decide (w (y.2.2.2.2.2.1 (0 + Int.toNat (w (((y.2.2.2.2.2.2.2.2.2.2.2.2.1 : Nat) : Int) - (1 : Int)))) - (1 : Int)) > (0 : Int)) = true then
               if (Int.toNat (w (((y.2.2.2.2.2.2.2.2.2.2.2.2.1 : Nat) : Int) - (1 : Int))) - 0 + 1) * 16 ≤ roomBound ∧ Int.toNat (w (((y.2.2.2.2.2.2.2.2.2.2.2.2.1 : Nat) : Int) - (1 : Int))) - 0 + 1 ≤ maxLen ∧ Int.toNat (w (((y.2.2.2.2.2.2.2.2.2.2.2.2.1 : Nat) : Int) - (1 : Int))) - 0 ≤ y.2.2.2.2.2.2.2.2.2.2.2.2.2 then
                nx (.inr ((y.1, w (y.2.1 + (1 : Int)), x.2.2.2.2.2.1 (Int.toNat (y.2.2.1)), y.2.2.2.1, fun (j : Nat) => if j < Int.toNat (w (((y.2.2.2.2.2.2.2.2.2.2.2.2.1 : Nat) : Int) - (1 : Int))) - 0 then y.2.2.2.2.1 j else x.2.2.2.2.2.1 (Int.toNat (y.2.2.1)), fun (j : Nat) => if j < Int.toNat (w (((y.2.2.2.2.2.2.2.2.2.2.2.2.1 : Nat) : Int) - (1 : Int))) - 0 then y.2.2.2.2.2.1 j else w (y.2.2.2.2.2.1 (0 + Int.toNat (w (((y.2.2.2.2.2.2.2.2.2.2.2.2.1 : Nat) : Int) - (1 : Int)))) - (1 : Int)), y.2.2.2.2.2.2.1, y.2.2.2.2.2.2.2.1, y.2.2.2.2.2.2.2.2.1, y.2.2.2.2.2.2.2.2.2.1, y.2.2.2.2.2.2.2.2.2.2.1, y.2.2.2.2.2.2.2.2.2.2.2.1, Int.toNat (w (((y.2.2.2.2.2.2.2.2.2.2.2.2.1 : Nat) : Int) - (1 : Int))) - 0 + 1, Int.toNat (w (((y.2.2.2.2.2.2.2.2.2.2.2.2.1 : Nat) : Int) - (1 : Int))) - 0 + 1)))
               else
                none
              else
               nx (.inr ((y.1, w (y.2.1 + (1 : Int)), w (y.2.2.1 + (1 : Int)), y.2.2.2.1, y.2.2.2.2.1, y.2.2.2.2.2.1, y.2.2.2.2.2.2.1, y.2.2.2.2.2.2.2.1, y.2.2.2.2.2.2.2.2.1, y.2.2.2.2.2.2.2.2.2.1, y.2.2.2.2.2.2.2.2.2.2.1, y.2.2.2.2.2.2.2.2.2.2.2.1, Int.toNat (w (((y.2.2.2.2.2.2.2.2.2.2.2.2.1 : Nat) : Int) - (1 : Int))) - 0, y.2.2.2.2.2.2.2.2.2.2.2.2.2)))
             else
              none
            else
             none
           else
            none
          else
           if (x.2.2.2.2.1 (Int.toNat (y.2.2.1)) == (19 : Int)) = true then
            nx (.inr ((y.1, w (y.2.1 + (1 : Int)), w (y.2.2.1 + (1 : Int)), x.2.2.2.2.2.1 (Int.toNat (y.2.2.1)), y.2.2.2.2)))
           else
            if (x.2.2.2.2.1 (Int.toNat (y.2.2.1)) == (20 : Int)) = true then
             nx (.inr ((y.1, w (y.2.1 + (1 : Int)), w (y.2.2.1 + (1 : Int)), y.2.2.2)))
            else
             (c_ROwn ((x.2.2.2.2.1 (Int.toNat (y.2.2.1)), x.2.2.2.2.2.1 (Int.toNat (y.2.2.1)), x.2.2.2.2.2.2.1, x.2.2.2.2.2.2.2.1, x.2.2.2.2.2.2.2.2.1, x.2.2.2.2.2.2.2.2.2.1, x.2.2.2.2.2.2.2.2.2.2.1, x.2.2.2.2.2.2.2.2.2.2.2.1))).bind fun z3052 =>
              (c_RAdd ((y.2.2.2.2.2.2.1, y.2.2.2.2.2.2.2.1, y.2.2.2.2.2.2.2.2.1, y.2.2.2.2.2.2.2.2.2.1, y.2.2.2.2.2.2.2.2.2.2.1, y.2.2.2.2.2.2.2.2.2.2.2.1, z3052))).bind fun z3065 =>
               nx (.inr ((y.1, w (y.2.1 + (1 : Int)), w (y.2.2.1 + (1 : Int)), y.2.2.2.1, y.2.2.2.2.1, y.2.2.2.2.2.1, z3065.1, z3065.2.1, z3065.2.2.1, z3065.2.2.2.1, z3065.2.2.2.2.1, z3065.2.2.2.2.2, y.2.2.2.2.2.2.2.2.2.2.2.2)))
  else
   none
 else
  dn (.inr ((y.2.2.2.2.2.2.1, y.2.2.2.2.2.2.2.1, y.2.2.2.2.2.2.2.2.1, y.2.2.2.2.2.2.2.2.2.1, y.2.2.2.2.2.2.2.2.2.2.1, y.2.2.2.2.2.2.2.2.2.2.2.1)))
theorem Path_l0_n1 {β : Type} (c_Pick : a_Pick → Option g_Pick) (c_RAdd : a_RAdd → Option g_RAdd) (c_ROwn : a_ROwn → Option g_ROwn) (x : a_Path) (y : Int × Int × Int × Int × (Nat → Int) × (Nat → Int) × Int × Int × Int × Int × Int × Int × Nat × Nat) (nx : Path_l0_a → Option β) (dn : Path_l0_g → Option β) : Path_l0_t1 c_Pick c_RAdd c_ROwn x y nx dn = (Path_l0_t1 c_Pick c_RAdd c_ROwn x y (fun y => some (.inl y)) (fun z => some (.inr z))).bind fun r => Sum.elim nx dn r := by
  unfold Path_l0_t1
  repeat' first | exact free_none | refine free_bind (fun z => ?_) | refine free_ite ?_ ?_ | refine free_sum (fun z => ?_) (fun z => ?_) | rfl
theorem Path_l0_r1 (c_Pick : a_Pick → Option g_Pick) (c_RAdd : a_RAdd → Option g_RAdd) (c_ROwn : a_ROwn → Option g_ROwn) (x : a_Path) (y : Int × Int × Int × Int × (Nat → Int) × (Nat → Int) × Int × Int × Int × Int × Int × Int × Nat × Nat) (lo : LoopT) : loopK E3 (ftab 27 (fun _ _ => true) A_Pick x_Pick c_Pick (ftab 32 (fun _ _ => true) A_RAdd x_RAdd c_RAdd (ftab 50 (fun _ _ => true) A_ROwn x_ROwn c_ROwn ca0))) lo 0 15676 (bodyOf E3 25 0) (Path_l0_S x (.inr y)) (KCM [(0, 2304)] 768) = Path_l0_t1 (fun x => viaF A_Pick c_Pick (A_Pick x)) (fun x => viaF A_RAdd c_RAdd (A_RAdd x)) (fun x => viaF A_ROwn c_ROwn (A_ROwn x)) x y (fun y => lo 0 15676 (bodyOf E3 25 0) (Path_l0_S x y) (KCM [(0, 2304)] 768)) (fun z => some (.l (Path_l0_T x z).1 (Path_l0_T x z).2)) := by kernel_rfl
noncomputable def Path_l0 (c_Pick : a_Pick → Option g_Pick) (c_RAdd : a_RAdd → Option g_RAdd) (c_ROwn : a_ROwn → Option g_ROwn) (q : Nat) (x : a_Path) : Path_l0_a → Option Path_l0_g := lpG (Sum.elim (fun y => Path_l0_t0 c_Pick c_RAdd c_ROwn x y (fun y => some (.inl y)) (fun z => some (.inr z))) (fun y => Path_l0_t1 c_Pick c_RAdd c_ROwn x y (fun y => some (.inl y)) (fun z => some (.inr z)))) q
theorem Path_l0_s (c_Pick : a_Pick → Option g_Pick) (h_Pick : ∀ x z, c_Pick x = some z → SC E3 27 (A_Pick x).1 (A_Pick x).2 (R_Pick z)) (c_RAdd : a_RAdd → Option g_RAdd) (h_RAdd : ∀ x z, c_RAdd x = some z → SC E3 32 (A_RAdd x).1 (A_RAdd x).2 (R_RAdd z)) (c_ROwn : a_ROwn → Option g_ROwn) (h_ROwn : ∀ x z, c_ROwn x = some z → SC E3 50 (A_ROwn x).1 (A_ROwn x).2 (R_ROwn z)) (q : Nat) (x : a_Path) : ∀ y z, Path_l0 c_Pick c_RAdd c_ROwn q x y = some z → SL E3 (bodyOf E3 25 0) (Path_l0_S x y) (Path_l0_T x z).1 (Path_l0_T x z).2 :=
  SL.lp (LT := fun lo => lo) (T := Path_l0_T x) (S := Path_l0_S x) (ftab_cons h_Pick xe_Pick (ftab_cons h_RAdd xe_RAdd (ftab_cons h_ROwn xe_ROwn ca0_sound))) hX3 (fun lo h => h) (fun lo y => by
      rcases y with y | y
      · exact (Path_l0_r0 c_Pick c_RAdd c_ROwn x y lo).trans (by rw [via_eq i_Pick c_Pick, via_eq i_RAdd c_RAdd, via_eq i_ROwn c_ROwn]; exact Path_l0_n0 _ _ _ _ _ _ _)
      · exact (Path_l0_r1 c_Pick c_RAdd c_ROwn x y lo).trans (by rw [via_eq i_Pick c_Pick, via_eq i_RAdd c_RAdd, via_eq i_ROwn c_ROwn]; exact Path_l0_n1 _ _ _ _ _ _ _)) (fun z => by rcases z with z | z <;> first | exact Path_l0_k0 x z | exact Path_l0_k1 x z) q
def t_Path {β : Type} (c_Pick : a_Pick → Option g_Pick) (c_RAdd : a_RAdd → Option g_RAdd) (c_ROwn : a_ROwn → Option g_ROwn) (l_Path_l0 : Path_l0_a → Option Path_l0_g) (x : a_Path) (dn : g_Path → Option β) : Option β :=
 (l_Path_l0 (.inl (((0 : Int), (0 : Int), (0 : Int), (0 : Int), (0 : Int), (0 : Int), (0 : Int), (0 : Int), (0 : Int), (0 : Int))))).bind fun z2830 =>
  Sum.elim (fun z2830a =>
  dn ((z2830a.1, z2830a.2.1, z2830a.2.2.1, z2830a.2.2.2.1, z2830a.2.2.2.2.1, z2830a.2.2.2.2.2, true))) (fun z2830b =>
  dn ((z2830b.1, z2830b.2.1, z2830b.2.2.1, z2830b.2.2.2.1, z2830b.2.2.2.2.1, z2830b.2.2.2.2.2, false))) z2830
theorem n_Path {β : Type} (c_Pick : a_Pick → Option g_Pick) (c_RAdd : a_RAdd → Option g_RAdd) (c_ROwn : a_ROwn → Option g_ROwn) (l_Path_l0 : Path_l0_a → Option Path_l0_g) (x : a_Path) (dn : g_Path → Option β) : t_Path c_Pick c_RAdd c_ROwn l_Path_l0 x dn = (t_Path c_Pick c_RAdd c_ROwn l_Path_l0 x some).bind dn := by
  unfold t_Path
  repeat' first | exact free_none | refine free_bind (fun z => ?_) | refine free_ite ?_ ?_ | refine free_sum (fun z => ?_) (fun z => ?_) | rfl
theorem r_Path (c_Pick : a_Pick → Option g_Pick) (c_RAdd : a_RAdd → Option g_RAdd) (c_ROwn : a_ROwn → Option g_ROwn) (l_Path_l0 : Path_l0_a → Option Path_l0_g) (x : a_Path) : callK E3 (ftab 27 (fun _ _ => true) A_Pick x_Pick c_Pick (ftab 32 (fun _ _ => true) A_RAdd x_RAdd c_RAdd (ftab 50 (fun _ _ => true) A_ROwn x_ROwn c_ROwn ca0))) (ltabF 0 (fun _ => true) (bodyOf E3 25 0) (Path_l0_S x) (Path_l0_x x) l_Path_l0 lo0) 25 (A_Path x).1 (A_Path x).2 K = t_Path (fun x => viaF A_Pick c_Pick (A_Pick x)) (fun x => viaF A_RAdd c_RAdd (A_RAdd x)) (fun x => viaF A_ROwn c_ROwn (A_ROwn x)) (fun y => viaF (fun y => (bodyOf E3 25 0, Path_l0_S x y)) l_Path_l0 (bodyOf E3 25 0, Path_l0_S x y)) x (fun z => some (.c (R_Path z))) := by kernel_rfl
theorem s_Path (c_Pick : a_Pick → Option g_Pick) (h_Pick : ∀ x z, c_Pick x = some z → SC E3 27 (A_Pick x).1 (A_Pick x).2 (R_Pick z)) (c_RAdd : a_RAdd → Option g_RAdd) (h_RAdd : ∀ x z, c_RAdd x = some z → SC E3 32 (A_RAdd x).1 (A_RAdd x).2 (R_RAdd z)) (c_ROwn : a_ROwn → Option g_ROwn) (h_ROwn : ∀ x z, c_ROwn x = some z → SC E3 50 (A_ROwn x).1 (A_ROwn x).2 (R_ROwn z)) (q : Nat) (x : a_Path) (z : g_Path) (h : t_Path c_Pick c_RAdd c_ROwn (Path_l0 c_Pick c_RAdd c_ROwn q x) x some = some z) : SC E3 25 (A_Path x).1 (A_Path x).2 (R_Path z) := by
  refine SC.of hW3 hX3 (ftab_cons h_Pick xe_Pick (ftab_cons h_RAdd xe_RAdd (ftab_cons h_ROwn xe_ROwn ca0_sound))) (ltabF_cons (Path_l0_s c_Pick h_Pick c_RAdd h_RAdd c_ROwn h_ROwn q x) (Path_l0_xe x) lo0_sound) ((r_Path c_Pick c_RAdd c_ROwn (Path_l0 c_Pick c_RAdd c_ROwn q x) x).trans ?_)
  rw [via_eq i_Pick c_Pick, via_eq i_RAdd c_RAdd, via_eq i_ROwn c_ROwn, via_eq (pair_inj (bodyOf E3 25 0) (Path_l0_i x)) (Path_l0 c_Pick c_RAdd c_ROwn q x), n_Path, h]; rfl
noncomputable def Path (q : Nat) (x : a_Path) : Option g_Path := t_Path (Pick q) (RAdd q) (ROwn q) (Path_l0 (Pick q) (RAdd q) (ROwn q) q x) x some
theorem sc_Path (q : Nat) : ∀ (x : a_Path) (z : g_Path), Path q x = some z → SC E3 25 (A_Path x).1 (A_Path x).2 (R_Path z) := fun x z h => s_Path (Pick q) (sc_Pick q) (RAdd q) (sc_RAdd q) (ROwn q) (sc_ROwn q) q x z h
abbrev a_PickN : Type := Int × Int
abbrev g_PickN : Type := Unit
def A_PickN : a_PickN → List V × List (Option Chunk) := (fun x => (fun (i : Int) (m : Int) => (([nilS, i64 i, i64 m] : List V), ([] : List (Option Chunk)))) x.1 x.2)
def d_PickN (t : List V × List (Option Chunk)) : a_PickN := ((vI (t.1.getD 1 .junk)), (vI (t.1.getD 2 .junk)))
theorem i_PickN : ∀ x y, A_PickN x = A_PickN y → x = y := fun x y h => (congrArg d_PickN h :)
def R_PickN : g_PickN → CRes := (fun z => CRes.ret (i64 (0 : Int)) [] : (Unit) → CRes)
def x_PickN (z : g_PickN) (k : CRes → Option Ans) : Option Ans := k (R_PickN z)
theorem xe_PickN : ∀ z k, x_PickN z k = k (R_PickN z) := fun z k => rfl
def t_PickN {β : Type} (x : a_PickN) (dn : g_PickN → Option β) : Option β :=
 if decide (x.1 < (0 : Int)) = true then
  dn ()
 else
  if decide (x.1 ≥ (0 : Int)) = true then
   dn ()
  else
   none
theorem n_PickN {β : Type} (x : a_PickN) (dn : g_PickN → Option β) : t_PickN x dn = (t_PickN x some).bind dn := by
  unfold t_PickN
  repeat' first | exact free_none | refine free_bind (fun z => ?_) | refine free_ite ?_ ?_ | refine free_sum (fun z => ?_) (fun z => ?_) | rfl
theorem r_PickN (x : a_PickN) : callK E3 (callG E3 20) lo0 27 (A_PickN x).1 (A_PickN x).2 K = t_PickN x (fun z => some (.c (R_PickN z))) := by kernel_rfl
theorem s_PickN (q : Nat) (x : a_PickN) (z : g_PickN) (h : t_PickN x some = some z) : SC E3 27 (A_PickN x).1 (A_PickN x).2 (R_PickN z) := by
  refine SC.of hW3 hX3 (sound_G hW3 hX3 20).1 lo0_sound ((r_PickN x).trans ?_)
  rw [n_PickN, h]; rfl
noncomputable def PickN (q : Nat) (x : a_PickN) : Option g_PickN := t_PickN x some
theorem sc_PickN (q : Nat) : ∀ (x : a_PickN) (z : g_PickN), PickN q x = some z → SC E3 27 (A_PickN x).1 (A_PickN x).2 (R_PickN z) := fun x z h => s_PickN q x z h
abbrev a_PathN : Type := ByteArray × Int × Int × Nat × (Nat → Int) × (Nat → Int) × Nat × (Nat → Int) × (Nat → Int) × (Nat → Int) × Int × Int × Int
abbrev g_PathN : Type := Int × Int × Int × Int × Int × Int × Bool
def A_PathN : a_PathN → List V × List (Option Chunk) := (fun x => (fun (nm : ByteArray) (ps : Int) (vs : Int) (n : Nat) (op : Nat → Int) (ar : Nat → Int) (k : Nat) (da : Nat → Int) (db : Nat → Int) (dc : Nat → Int) (R : Int) (W : Int) (most : Int) => (([.agg [st nm, i64 ps, i64 vs, .ro 2 n (fun j => [i64 (op j), i64 (ar j)])], .agg [.ro 3 k (fun j => [i64 (da j), i64 (db j), i64 (dc j)]), i64 R, i64 W], nilS, i64 most] : List V), ([] : List (Option Chunk)))) x.1 x.2.1 x.2.2.1 x.2.2.2.1 x.2.2.2.2.1 x.2.2.2.2.2.1 x.2.2.2.2.2.2.1 x.2.2.2.2.2.2.2.1 x.2.2.2.2.2.2.2.2.1 x.2.2.2.2.2.2.2.2.2.1 x.2.2.2.2.2.2.2.2.2.2.1 x.2.2.2.2.2.2.2.2.2.2.2.1 x.2.2.2.2.2.2.2.2.2.2.2.2)
def d_PathN (t : List V × List (Option Chunk)) : a_PathN := ((vS ((vAg (t.1.getD 0 .junk)).getD 0 .junk)), (vI ((vAg (t.1.getD 0 .junk)).getD 1 .junk)), (vI ((vAg (t.1.getD 0 .junk)).getD 2 .junk)), (vRoN ((vAg (t.1.getD 0 .junk)).getD 3 .junk)), (fun j => (vI (((vRoF ((vAg (t.1.getD 0 .junk)).getD 3 .junk)) j).getD 0 .junk))), (fun j => (vI (((vRoF ((vAg (t.1.getD 0 .junk)).getD 3 .junk)) j).getD 1 .junk))), (vRoN ((vAg (t.1.getD 1 .junk)).getD 0 .junk)), (fun j => (vI (((vRoF ((vAg (t.1.getD 1 .junk)).getD 0 .junk)) j).getD 0 .junk))), (fun j => (vI (((vRoF ((vAg (t.1.getD 1 .junk)).getD 0 .junk)) j).getD 1 .junk))), (fun j => (vI (((vRoF ((vAg (t.1.getD 1 .junk)).getD 0 .junk)) j).getD 2 .junk))), (vI ((vAg (t.1.getD 1 .junk)).getD 1 .junk)), (vI ((vAg (t.1.getD 1 .junk)).getD 2 .junk)), (vI (t.1.getD 3 .junk)))
theorem i_PathN : ∀ x y, A_PathN x = A_PathN y → x = y := fun x y h => (congrArg d_PathN h :)
def R_PathN : g_PathN → CRes := (fun z => CRes.ret (V.tup [V.agg [i64 (z.1), i64 (z.2.1), i64 (z.2.2.1), i64 (z.2.2.2.1), i64 (z.2.2.2.2.1), i64 (z.2.2.2.2.2.1)], bo (z.2.2.2.2.2.2)]) [] : (Int × Int × Int × Int × Int × Int × Bool) → CRes)
def x_PathN (z : g_PathN) (k : CRes → Option Ans) : Option Ans := k (R_PathN z)
theorem xe_PathN : ∀ z k, x_PathN z k = k (R_PathN z) := fun z k => rfl
abbrev PathN_l0_a : Type := (Int × Int × Int × Int × Int × Int × Int × Int × Int × Int) ⊕ (Int × Int × Int × Int × (Nat → Int) × (Nat → Int) × Int × Int × Int × Int × Int × Int × Nat × Nat)
abbrev PathN_l0_g : Type := (Int × Int × Int × Int × Int × Int) ⊕ (Int × Int × Int × Int × Int × Int)
def PathN_l0_S0 (x : a_PathN) (y : Int × Int × Int × Int × Int × Int × Int × Int × Int × Int) : St := { fr := [V.junk, V.junk, nilS, i64 (x.2.2.2.2.2.2.2.2.2.2.2.2), V.ptr 0 0, V.ptr 1 0, V.junk, V.junk, V.ptr 2 0, V.junk, V.ptr 3 0, V.ptr 4 0, i64 (y.1), i64 (y.2.2.2.2.2.2.2.2.2)] ++ jk 125, H := hp [some (Chunk.blk [st (x.1), i64 (x.2.1), i64 (x.2.2.1), V.ro 2 (x.2.2.2.1) fun (j : Nat) => [i64 (x.2.2.2.2.1 j), i64 (x.2.2.2.2.2.1 j)]]), some (Chunk.blk [V.ro 3 (x.2.2.2.2.2.2.1) fun (j : Nat) => [i64 (x.2.2.2.2.2.2.2.1 j), i64 (x.2.2.2.2.2.2.2.2.1 j), i64 (x.2.2.2.2.2.2.2.2.2.1 j)], i64 (x.2.2.2.2.2.2.2.2.2.2.1), i64 (x.2.2.2.2.2.2.2.2.2.2.2.1)]), some (Chunk.blk [i64 (0 : Int), i64 (0 : Int), i64 (0 : Int), i64 (0 : Int), i64 (0 : Int), i64 (0 : Int)]), some (Chunk.blk [i64 (y.2.1), nilS, i64 (y.2.2.1)]), some (Chunk.blk [i64 (y.2.2.2.1), i64 (y.2.2.2.2.1), i64 (y.2.2.2.2.2.1), i64 (y.2.2.2.2.2.2.1), i64 (y.2.2.2.2.2.2.2.1), i64 (y.2.2.2.2.2.2.2.2.1)])], nx := 5, rt := 0, me := 25 }
def PathN_l0_d0 (s : St) : Int × Int × Int × Int × Int × Int × Int × Int × Int × Int := ((vI (s.fr.getD 12 .junk)), (vI ((chB (s.H 3)).getD 0 .junk)), (vI ((chB (s.H 3)).getD 2 .junk)), (vI ((chB (s.H 4)).getD 0 .junk)), (vI ((chB (s.H 4)).getD 1 .junk)), (vI ((chB (s.H 4)).getD 2 .junk)), (vI ((chB (s.H 4)).getD 3 .junk)), (vI ((chB (s.H 4)).getD 4 .junk)), (vI ((chB (s.H 4)).getD 5 .junk)), (vI (s.fr.getD 13 .junk)))
def PathN_l0_S1 (x : a_PathN) (y : Int × Int × Int × Int × (Nat → Int) × (Nat → Int) × Int × Int × Int × Int × Int × Int × Nat × Nat) : St := { fr := [V.junk, V.junk, nilS, i64 (x.2.2.2.2.2.2.2.2.2.2.2.2), V.ptr 0 0, V.ptr 1 0, V.junk, V.junk, V.ptr 2 0, V.junk, V.ptr 3 0, V.ptr 5 0, i64 (y.1), i64 (y.2.1)] ++ jk 125, H := hp [some (Chunk.blk [st (x.1), i64 (x.2.1), i64 (x.2.2.1), V.ro 2 (x.2.2.2.1) fun (j : Nat) => [i64 (x.2.2.2.2.1 j), i64 (x.2.2.2.2.2.1 j)]]), some (Chunk.blk [V.ro 3 (x.2.2.2.2.2.2.1) fun (j : Nat) => [i64 (x.2.2.2.2.2.2.2.1 j), i64 (x.2.2.2.2.2.2.2.2.1 j), i64 (x.2.2.2.2.2.2.2.2.2.1 j)], i64 (x.2.2.2.2.2.2.2.2.2.2.1), i64 (x.2.2.2.2.2.2.2.2.2.2.2.1)]), some (Chunk.blk [i64 (0 : Int), i64 (0 : Int), i64 (0 : Int), i64 (0 : Int), i64 (0 : Int), i64 (0 : Int)]), some (Chunk.blk [i64 (y.2.2.1), V.sl 4 2 0 (y.2.2.2.2.2.2.2.2.2.2.2.2.1), i64 (y.2.2.2.1)]), some (Chunk.row 88 2 (y.2.2.2.2.2.2.2.2.2.2.2.2.2) fun (j : Nat) => [i64 (y.2.2.2.2.1 j), i64 (y.2.2.2.2.2.1 j)]), some (Chunk.blk [i64 (y.2.2.2.2.2.2.1), i64 (y.2.2.2.2.2.2.2.1), i64 (y.2.2.2.2.2.2.2.2.1), i64 (y.2.2.2.2.2.2.2.2.2.1), i64 (y.2.2.2.2.2.2.2.2.2.2.1), i64 (y.2.2.2.2.2.2.2.2.2.2.2.1)])], nx := 6, rt := 0, me := 25 }
def PathN_l0_d1 (s : St) : Int × Int × Int × Int × (Nat → Int) × (Nat → Int) × Int × Int × Int × Int × Int × Int × Nat × Nat := ((vI (s.fr.getD 12 .junk)), (vI (s.fr.getD 13 .junk)), (vI ((chB (s.H 3)).getD 0 .junk)), (vI ((chB (s.H 3)).getD 2 .junk)), (fun j => (vI (((chF (s.H 4)) j).getD 0 .junk))), (fun j => (vI (((chF (s.H 4)) j).getD 1 .junk))), (vI ((chB (s.H 5)).getD 0 .junk)), (vI ((chB (s.H 5)).getD 1 .junk)), (vI ((chB (s.H 5)).getD 2 .junk)), (vI ((chB (s.H 5)).getD 3 .junk)), (vI ((chB (s.H 5)).getD 4 .junk)), (vI ((chB (s.H 5)).getD 5 .junk)), (vSlN ((chB (s.H 3)).getD 1 .junk)), (chN (s.H 4)))
def PathN_l0_S (x : a_PathN) : PathN_l0_a → St := (Sum.elim (PathN_l0_S0 x) (PathN_l0_S1 x))
def PathN_l0_d (s : St) : PathN_l0_a := (match s.nx == 5 with | true => (.inl (PathN_l0_d0 s)) | false => (.inr (PathN_l0_d1 s)))
theorem PathN_l0_i (x : a_PathN) : ∀ y y', PathN_l0_S x y = PathN_l0_S x y' → y = y' := fun y y' h => by rcases y with y | y <;> rcases y' with y | y <;> exact (congrArg PathN_l0_d h :)
def PathN_l0_T (x : a_PathN) : PathN_l0_g → Ex × St := (Sum.elim (fun z => (Ex.ret, { fr := jk 8 ++ [V.ptr 0 0, bo true] ++ jk 129, H := hp [some (Chunk.blk [i64 (z.1), i64 (z.2.1), i64 (z.2.2.1), i64 (z.2.2.2.1), i64 (z.2.2.2.2.1), i64 (z.2.2.2.2.2)])], nx := 1, rt := 0, me := 25 })) (fun z => (Ex.exit 0, { fr := jk 8 ++ [V.ptr 0 0, V.junk, V.junk, V.ptr 1 0] ++ jk 127, H := hp [some (Chunk.blk [i64 (0 : Int), i64 (0 : Int), i64 (0 : Int), i64 (0 : Int), i64 (0 : Int), i64 (0 : Int)]), some (Chunk.blk [i64 (z.1), i64 (z.2.1), i64 (z.2.2.1), i64 (z.2.2.2.1), i64 (z.2.2.2.2.1), i64 (z.2.2.2.2.2)])], nx := 2, rt := 0, me := 25 })))
def PathN_l0_x (x : a_PathN) (z : PathN_l0_g) (k : KX) : Option Ans := Sum.elim (fun za => k (PathN_l0_T x (.inl za)).1 (PathN_l0_T x (.inl za)).2) (fun zb => k (PathN_l0_T x (.inr zb)).1 (PathN_l0_T x (.inr zb)).2) z
theorem PathN_l0_xe (x : a_PathN) : ∀ z k, PathN_l0_x x z k = k (PathN_l0_T x z).1 (PathN_l0_T x z).2 := fun z k => by
  rcases z with z | z <;> rfl
theorem PathN_l0_k0 (x : a_PathN) (z : Int × Int × Int × Int × Int × Int) : KCM [(0, 2304)] 768 (PathN_l0_T x (.inl z)).1 (PathN_l0_T x (.inl z)).2 = some (.l (PathN_l0_T x (.inl z)).1 (PathN_l0_T x (.inl z)).2) := by kernel_rfl
theorem PathN_l0_k1 (x : a_PathN) (z : Int × Int × Int × Int × Int × Int) : KCM [(0, 2304)] 768 (PathN_l0_T x (.inr z)).1 (PathN_l0_T x (.inr z)).2 = some (.l (PathN_l0_T x (.inr z)).1 (PathN_l0_T x (.inr z)).2) := by kernel_rfl
def PathN_l0_t0 {β : Type} (c_PickN : a_PickN → Option g_PickN) (c_RAdd : a_RAdd → Option g_RAdd) (c_ROwn : a_ROwn → Option g_ROwn) (x : a_PathN) (y : Int × Int × Int × Int × Int × Int × Int × Int × Int × Int) (nx : PathN_l0_a → Option β) (dn : PathN_l0_g → Option β) : Option β :=
 if decide (y.2.2.2.2.2.2.2.2.2 < x.2.2.2.2.2.2.2.2.2.2.2.2) = true then
  if (0 : Int) ≤ y.2.1 ∧ y.2.1 < ((x.2.2.2.1 : Nat) : Int) then
   if (x.2.2.2.2.1 (Int.toNat (y.2.1)) == (15 : Int)) = true then
    (c_PickN ((y.1, (2 : Int)))).bind fun z2305 =>
     if (x.2.2.2.2.1 (Int.toNat (y.2.1)) == (28 : Int)) = true then
      dn (.inl ((y.2.2.2.1, y.2.2.2.2.1, y.2.2.2.2.2.1, y.2.2.2.2.2.2.1, y.2.2.2.2.2.2.2.1, y.2.2.2.2.2.2.2.2.1)))
     else
      if (x.2.2.2.2.1 (Int.toNat (y.2.1)) == (27 : Int)) = true then
       dn (.inl ((y.2.2.2.1, y.2.2.2.2.1, y.2.2.2.2.2.1, y.2.2.2.2.2.2.1, y.2.2.2.2.2.2.2.1, y.2.2.2.2.2.2.2.2.1)))
      else
       if (x.2.2.2.2.1 (Int.toNat (y.2.1)) == (14 : Int)) = true then
        nx (.inl ((w (y.1 + (1 : Int)), x.2.2.2.2.2.1 (Int.toNat (y.2.1)), y.2.2.1, y.2.2.2.1, y.2.2.2.2.1, y.2.2.2.2.2.1, y.2.2.2.2.2.2.1, y.2.2.2.2.2.2.2.1, y.2.2.2.2.2.2.2.2.1, w (y.2.2.2.2.2.2.2.2.2 + (1 : Int)))))
       else
        if (x.2.2.2.2.1 (Int.toNat (y.2.1)) == (15 : Int)) = true then
         nx (.inl ((w (y.1 + (1 : Int)), w (y.2.1 + (1 : Int)), y.2.2.1, y.2.2.2.1, y.2.2.2.2.1, y.2.2.2.2.2.1, y.2.2.2.2.2.2.1, y.2.2.2.2.2.2.2.1, y.2.2.2.2.2.2.2.2.1, w (y.2.2.2.2.2.2.2.2.2 + (1 : Int)))))
        else
         if (x.2.2.2.2.1 (Int.toNat (y.2.1)) == (16 : Int)) = true then
          nx (.inr ((w (y.1 + (1 : Int)), w (y.2.2.2.2.2.2.2.2.2 + (1 : Int)), w (y.2.1 + (1 : Int)), y.2.2.1, fun (j : Nat) => w (y.2.1 + (1 : Int)), fun (j : Nat) => x.2.2.2.2.2.1 (Int.toNat (y.2.1)), y.2.2.2.1, y.2.2.2.2.1, y.2.2.2.2.2.1, y.2.2.2.2.2.2.1, y.2.2.2.2.2.2.2.1, y.2.2.2.2.2.2.2.2.1, 1, 1)))
         else
          if (x.2.2.2.2.1 (Int.toNat (y.2.1)) == (17 : Int)) = true then
           none
          else
           if (x.2.2.2.2.1 (Int.toNat (y.2.1)) == (19 : Int)) = true then
            nx (.inl ((w (y.1 + (1 : Int)), w (y.2.1 + (1 : Int)), x.2.2.2.2.2.1 (Int.toNat (y.2.1)), y.2.2.2.1, y.2.2.2.2.1, y.2.2.2.2.2.1, y.2.2.2.2.2.2.1, y.2.2.2.2.2.2.2.1, y.2.2.2.2.2.2.2.2.1, w (y.2.2.2.2.2.2.2.2.2 + (1 : Int)))))
           else
            if (x.2.2.2.2.1 (Int.toNat (y.2.1)) == (20 : Int)) = true then
             nx (.inl ((w (y.1 + (1 : Int)), w (y.2.1 + (1 : Int)), y.2.2.1, y.2.2.2.1, y.2.2.2.2.1, y.2.2.2.2.2.1, y.2.2.2.2.2.2.1, y.2.2.2.2.2.2.2.1, y.2.2.2.2.2.2.2.2.1, w (y.2.2.2.2.2.2.2.2.2 + (1 : Int)))))
            else
             (c_ROwn ((x.2.2.2.2.1 (Int.toNat (y.2.1)), x.2.2.2.2.2.1 (Int.toNat (y.2.1)), x.2.2.2.2.2.2.1, x.2.2.2.2.2.2.2.1, x.2.2.2.2.2.2.2.2.1, x.2.2.2.2.2.2.2.2.2.1, x.2.2.2.2.2.2.2.2.2.2.1, x.2.2.2.2.2.2.2.2.2.2.2.1))).bind fun z2314 =>
              (c_RAdd ((y.2.2.2.1, y.2.2.2.2.1, y.2.2.2.2.2.1, y.2.2.2.2.2.2.1, y.2.2.2.2.2.2.2.1, y.2.2.2.2.2.2.2.2.1, z2314))).bind fun z2327 =>
               nx (.inl ((w (y.1 + (1 : Int)), w (y.2.1 + (1 : Int)), y.2.2.1, z2327.1, z2327.2.1, z2327.2.2.1, z2327.2.2.2.1, z2327.2.2.2.2.1, z2327.2.2.2.2.2, w (y.2.2.2.2.2.2.2.2.2 + (1 : Int)))))
   else
    if (x.2.2.2.2.1 (Int.toNat (y.2.1)) == (20 : Int)) = true then
     (c_PickN ((y.1, (2 : Int)))).bind fun z2330 =>
      if (x.2.2.2.2.1 (Int.toNat (y.2.1)) == (28 : Int)) = true then
       dn (.inl ((y.2.2.2.1, y.2.2.2.2.1, y.2.2.2.2.2.1, y.2.2.2.2.2.2.1, y.2.2.2.2.2.2.2.1, y.2.2.2.2.2.2.2.2.1)))
      else
       if (x.2.2.2.2.1 (Int.toNat (y.2.1)) == (27 : Int)) = true then
        dn (.inl ((y.2.2.2.1, y.2.2.2.2.1, y.2.2.2.2.2.1, y.2.2.2.2.2.2.1, y.2.2.2.2.2.2.2.1, y.2.2.2.2.2.2.2.2.1)))
       else
        if (x.2.2.2.2.1 (Int.toNat (y.2.1)) == (14 : Int)) = true then
         nx (.inl ((w (y.1 + (1 : Int)), x.2.2.2.2.2.1 (Int.toNat (y.2.1)), y.2.2.1, y.2.2.2.1, y.2.2.2.2.1, y.2.2.2.2.2.1, y.2.2.2.2.2.2.1, y.2.2.2.2.2.2.2.1, y.2.2.2.2.2.2.2.2.1, w (y.2.2.2.2.2.2.2.2.2 + (1 : Int)))))
        else
         if (x.2.2.2.2.1 (Int.toNat (y.2.1)) == (15 : Int)) = true then
          nx (.inl ((w (y.1 + (1 : Int)), w (y.2.1 + (1 : Int)), y.2.2.1, y.2.2.2.1, y.2.2.2.2.1, y.2.2.2.2.2.1, y.2.2.2.2.2.2.1, y.2.2.2.2.2.2.2.1, y.2.2.2.2.2.2.2.2.1, w (y.2.2.2.2.2.2.2.2.2 + (1 : Int)))))
         else
          if (x.2.2.2.2.1 (Int.toNat (y.2.1)) == (16 : Int)) = true then
           nx (.inr ((w (y.1 + (1 : Int)), w (y.2.2.2.2.2.2.2.2.2 + (1 : Int)), w (y.2.1 + (1 : Int)), y.2.2.1, fun (j : Nat) => w (y.2.1 + (1 : Int)), fun (j : Nat) => x.2.2.2.2.2.1 (Int.toNat (y.2.1)), y.2.2.2.1, y.2.2.2.2.1, y.2.2.2.2.2.1, y.2.2.2.2.2.2.1, y.2.2.2.2.2.2.2.1, y.2.2.2.2.2.2.2.2.1, 1, 1)))
          else
           if (x.2.2.2.2.1 (Int.toNat (y.2.1)) == (17 : Int)) = true then
            none
           else
            if (x.2.2.2.2.1 (Int.toNat (y.2.1)) == (19 : Int)) = true then
             nx (.inl ((w (y.1 + (1 : Int)), w (y.2.1 + (1 : Int)), x.2.2.2.2.2.1 (Int.toNat (y.2.1)), y.2.2.2.1, y.2.2.2.2.1, y.2.2.2.2.2.1, y.2.2.2.2.2.2.1, y.2.2.2.2.2.2.2.1, y.2.2.2.2.2.2.2.2.1, w (y.2.2.2.2.2.2.2.2.2 + (1 : Int)))))
            else
             if (x.2.2.2.2.1 (Int.toNat (y.2.1)) == (20 : Int)) = true then
              nx (.inl ((w (y.1 + (1 : Int)), w (y.2.1 + (1 : Int)), y.2.2.1, y.2.2.2.1, y.2.2.2.2.1, y.2.2.2.2.2.1, y.2.2.2.2.2.2.1, y.2.2.2.2.2.2.2.1, y.2.2.2.2.2.2.2.2.1, w (y.2.2.2.2.2.2.2.2.2 + (1 : Int)))))
             else
              (c_ROwn ((x.2.2.2.2.1 (Int.toNat (y.2.1)), x.2.2.2.2.2.1 (Int.toNat (y.2.1)), x.2.2.2.2.2.2.1, x.2.2.2.2.2.2.2.1, x.2.2.2.2.2.2.2.2.1, x.2.2.2.2.2.2.2.2.2.1, x.2.2.2.2.2.2.2.2.2.2.1, x.2.2.2.2.2.2.2.2.2.2.2.1))).bind fun z2339 =>
               (c_RAdd ((y.2.2.2.1, y.2.2.2.2.1, y.2.2.2.2.2.1, y.2.2.2.2.2.2.1, y.2.2.2.2.2.2.2.1, y.2.2.2.2.2.2.2.2.1, z2339))).bind fun z2352 =>
                nx (.inl ((w (y.1 + (1 : Int)), w (y.2.1 + (1 : Int)), y.2.2.1, z2352.1, z2352.2.1, z2352.2.2.1, z2352.2.2.2.1, z2352.2.2.2.2.1, z2352.2.2.2.2.2, w (y.2.2.2.2.2.2.2.2.2 + (1 : Int)))))
    else
     if (x.2.2.2.2.1 (Int.toNat (y.2.1)) == (28 : Int)) = true then
      dn (.inl ((y.2.2.2.1, y.2.2.2.2.1, y.2.2.2.2.2.1, y.2.2.2.2.2.2.1, y.2.2.2.2.2.2.2.1, y.2.2.2.2.2.2.2.2.1)))
     else
      if (x.2.2.2.2.1 (Int.toNat (y.2.1)) == (27 : Int)) = true then
       dn (.inl ((y.2.2.2.1, y.2.2.2.2.1, y.2.2.2.2.2.1, y.2.2.2.2.2.2.1, y.2.2.2.2.2.2.2.1, y.2.2.2.2.2.2.2.2.1)))
      else
       if (x.2.2.2.2.1 (Int.toNat (y.2.1)) == (14 : Int)) = true then
        nx (.inl ((y.1, x.2.2.2.2.2.1 (Int.toNat (y.2.1)), y.2.2.1, y.2.2.2.1, y.2.2.2.2.1, y.2.2.2.2.2.1, y.2.2.2.2.2.2.1, y.2.2.2.2.2.2.2.1, y.2.2.2.2.2.2.2.2.1, w (y.2.2.2.2.2.2.2.2.2 + (1 : Int)))))
       else
        if (x.2.2.2.2.1 (Int.toNat (y.2.1)) == (15 : Int)) = true then
         nx (.inl ((y.1, w (y.2.1 + (1 : Int)), y.2.2.1, y.2.2.2.1, y.2.2.2.2.1, y.2.2.2.2.2.1, y.2.2.2.2.2.2.1, y.2.2.2.2.2.2.2.1, y.2.2.2.2.2.2.2.2.1, w (y.2.2.2.2.2.2.2.2.2 + (1 : Int)))))
        else
         if (x.2.2.2.2.1 (Int.toNat (y.2.1)) == (16 : Int)) = true then
          nx (.inr ((y.1, w (y.2.2.2.2.2.2.2.2.2 + (1 : Int)), w (y.2.1 + (1 : Int)), y.2.2.1, fun (j : Nat) => w (y.2.1 + (1 : Int)), fun (j : Nat) => x.2.2.2.2.2.1 (Int.toNat (y.2.1)), y.2.2.2.1, y.2.2.2.2.1, y.2.2.2.2.2.1, y.2.2.2.2.2.2.1, y.2.2.2.2.2.2.2.1, y.2.2.2.2.2.2.2.2.1, 1, 1)))
         else
          if (x.2.2.2.2.1 (Int.toNat (y.2.1)) == (17 : Int)) = true then
           none
          else
           if (x.2.2.2.2.1 (Int.toNat (y.2.1)) == (19 : Int)) = true then
            nx (.inl ((y.1, w (y.2.1 + (1 : Int)), x.2.2.2.2.2.1 (Int.toNat (y.2.1)), y.2.2.2.1, y.2.2.2.2.1, y.2.2.2.2.2.1, y.2.2.2.2.2.2.1, y.2.2.2.2.2.2.2.1, y.2.2.2.2.2.2.2.2.1, w (y.2.2.2.2.2.2.2.2.2 + (1 : Int)))))
           else
            if (x.2.2.2.2.1 (Int.toNat (y.2.1)) == (20 : Int)) = true then
             nx (.inl ((y.1, w (y.2.1 + (1 : Int)), y.2.2.1, y.2.2.2.1, y.2.2.2.2.1, y.2.2.2.2.2.1, y.2.2.2.2.2.2.1, y.2.2.2.2.2.2.2.1, y.2.2.2.2.2.2.2.2.1, w (y.2.2.2.2.2.2.2.2.2 + (1 : Int)))))
            else
             (c_ROwn ((x.2.2.2.2.1 (Int.toNat (y.2.1)), x.2.2.2.2.2.1 (Int.toNat (y.2.1)), x.2.2.2.2.2.2.1, x.2.2.2.2.2.2.2.1, x.2.2.2.2.2.2.2.2.1, x.2.2.2.2.2.2.2.2.2.1, x.2.2.2.2.2.2.2.2.2.2.1, x.2.2.2.2.2.2.2.2.2.2.2.1))).bind fun z2361 =>
              (c_RAdd ((y.2.2.2.1, y.2.2.2.2.1, y.2.2.2.2.2.1, y.2.2.2.2.2.2.1, y.2.2.2.2.2.2.2.1, y.2.2.2.2.2.2.2.2.1, z2361))).bind fun z2374 =>
               nx (.inl ((y.1, w (y.2.1 + (1 : Int)), y.2.2.1, z2374.1, z2374.2.1, z2374.2.2.1, z2374.2.2.2.1, z2374.2.2.2.2.1, z2374.2.2.2.2.2, w (y.2.2.2.2.2.2.2.2.2 + (1 : Int)))))
  else
   none
 else
  dn (.inr ((y.2.2.2.1, y.2.2.2.2.1, y.2.2.2.2.2.1, y.2.2.2.2.2.2.1, y.2.2.2.2.2.2.2.1, y.2.2.2.2.2.2.2.2.1)))
theorem PathN_l0_n0 {β : Type} (c_PickN : a_PickN → Option g_PickN) (c_RAdd : a_RAdd → Option g_RAdd) (c_ROwn : a_ROwn → Option g_ROwn) (x : a_PathN) (y : Int × Int × Int × Int × Int × Int × Int × Int × Int × Int) (nx : PathN_l0_a → Option β) (dn : PathN_l0_g → Option β) : PathN_l0_t0 c_PickN c_RAdd c_ROwn x y nx dn = (PathN_l0_t0 c_PickN c_RAdd c_ROwn x y (fun y => some (.inl y)) (fun z => some (.inr z))).bind fun r => Sum.elim nx dn r := by
  unfold PathN_l0_t0
  repeat' first | exact free_none | refine free_bind (fun z => ?_) | refine free_ite ?_ ?_ | refine free_sum (fun z => ?_) (fun z => ?_) | rfl
theorem PathN_l0_r0 (c_PickN : a_PickN → Option g_PickN) (c_RAdd : a_RAdd → Option g_RAdd) (c_ROwn : a_ROwn → Option g_ROwn) (x : a_PathN) (y : Int × Int × Int × Int × Int × Int × Int × Int × Int × Int) (lo : LoopT) : loopK E3 (ftab 27 (fun a _ => isNil (a.getD 0 .junk)) A_PickN x_PickN c_PickN (ftab 32 (fun _ _ => true) A_RAdd x_RAdd c_RAdd (ftab 50 (fun _ _ => true) A_ROwn x_ROwn c_ROwn ca0))) lo 0 15676 (bodyOf E3 25 0) (PathN_l0_S x (.inl y)) (KCM [(0, 2304)] 768) = PathN_l0_t0 (fun x => viaF A_PickN c_PickN (A_PickN x)) (fun x => viaF A_RAdd c_RAdd (A_RAdd x)) (fun x => viaF A_ROwn c_ROwn (A_ROwn x)) x y (fun y => lo 0 15676 (bodyOf E3 25 0) (PathN_l0_S x y) (KCM [(0, 2304)] 768)) (fun z => some (.l (PathN_l0_T x z).1 (PathN_l0_T x z).2)) := by kernel_rfl
def PathN_l0_t1 {β : Type} (c_PickN : a_PickN → Option g_PickN) (c_RAdd : a_RAdd → Option g_RAdd) (c_ROwn : a_ROwn → Option g_ROwn) (x : a_PathN) (y : Int × Int × Int × Int × (Nat → Int) × (Nat → Int) × Int × Int × Int × Int × Int × Int × Nat × Nat) (nx : PathN_l0_a → Option β) (dn : PathN_l0_g → Option β) : Option β :=
 if decide (y.2.1 < x.2.2.2.2.2.2.2.2.2.2.2.2) = true then
  if (0 : Int) ≤ y.2.2.1 ∧ y.2.2.1 < ((x.2.2.2.1 : Nat) : Int) then
   if (x.2.2.2.2.1 (Int.toNat (y.2.2.1)) == (15 : Int)) = true then
    (c_PickN ((y.1, (2 : Int)))).bind fun z2378 =>
     if (x.2.2.2.2.1 (Int.toNat (y.2.2.1)) == (28 : Int)) = true then
      dn (.inl ((y.2.2.2.2.2.2.1, y.2.2.2.2.2.2.2.1, y.2.2.2.2.2.2.2.2.1, y.2.2.2.2.2.2.2.2.2.1, y.2.2.2.2.2.2.2.2.2.2.1, y.2.2.2.2.2.2.2.2.2.2.2.1)))
     else
      if (x.2.2.2.2.1 (Int.toNat (y.2.2.1)) == (27 : Int)) = true then
       dn (.inl ((y.2.2.2.2.2.2.1, y.2.2.2.2.2.2.2.1, y.2.2.2.2.2.2.2.2.1, y.2.2.2.2.2.2.2.2.2.1, y.2.2.2.2.2.2.2.2.2.2.1, y.2.2.2.2.2.2.2.2.2.2.2.1)))
      else
       if (x.2.2.2.2.1 (Int.toNat (y.2.2.1)) == (14 : Int)) = true then
        nx (.inr ((w (y.1 + (1 : Int)), w (y.2.1 + (1 : Int)), x.2.2.2.2.2.1 (Int.toNat (y.2.2.1)), y.2.2.2)))
       else
        if (x.2.2.2.2.1 (Int.toNat (y.2.2.1)) == (15 : Int)) = true then
         nx (.inr ((w (y.1 + (1 : Int)), w (y.2.1 + (1 : Int)), w (y.2.2.1 + (1 : Int)), y.2.2.2)))
        else
         if (x.2.2.2.2.1 (Int.toNat (y.2.2.1)) == (16 : Int)) = true then
          if (y.2.2.2.2.2.2.2.2.2.2.2.2.1 + 1) * 16 ≤ roomBound ∧ y.2.2.2.2.2.2.2.2.2.2.2.2.1 + 1 ≤ maxLen ∧ y.2.2.2.2.2.2.2.2.2.2.2.2.1 ≤ y.2.2.2.2.2.2.2.2.2.2.2.2.2 then
           nx (.inr ((w (y.1 + (1 : Int)), w (y.2.1 + (1 : Int)), w (y.2.2.1 + (1 : Int)), y.2.2.2.1, fun (j : Nat) => if j < y.2.2.2.2.2.2.2.2.2.2.2.2.1 then y.2.2.2.2.1 j else w (y.2.2.1 + (1 : Int)), fun (j : Nat) => if j < y.2.2.2.2.2.2.2.2.2.2.2.2.1 then y.2.2.2.2.2.1 j else x.2.2.2.2.2.1 (Int.toNat (y.2.2.1)), y.2.2.2.2.2.2.1, y.2.2.2.2.2.2.2.1, y.2.2.2.2.2.2.2.2.1, y.2.2.2.2.2.2.2.2.2.1, y.2.2.2.2.2.2.2.2.2.2.1, y.2.2.2.2.2.2.2.2.2.2.2.1, y.2.2.2.2.2.2.2.2.2.2.2.2.1 + 1, y.2.2.2.2.2.2.2.2.2.2.2.2.1 + 1)))
          else
           none
         else
          if (x.2.2.2.2.1 (Int.toNat (y.2.2.1)) == (17 : Int)) = true then
           if (0 : Int) ≤ w (((y.2.2.2.2.2.2.2.2.2.2.2.2.1 : Nat) : Int) - (1 : Int)) ∧ w (((y.2.2.2.2.2.2.2.2.2.2.2.2.1 : Nat) : Int) - (1 : Int)) < ((y.2.2.2.2.2.2.2.2.2.2.2.2.1 : Nat) : Int) then
            if 0 + Int.toNat (w (((y.2.2.2.2.2.2.2.2.2.2.2.2.1 : Nat) : Int) - (1 : Int))) < y.2.2.2.2.2.2.2.2.2.2.2.2.2 ∧ 2 = 2 then
             if (0 : Int) ≤ (0 : Int) ∧ (0 : Int) ≤ w (((y.2.2.2.2.2.2.2.2.2.2.2.2.1 : Nat) : Int) - (1 : Int)) ∧ w (((y.2.2.2.2.2.2.2.2.2.2.2.2.1 : Nat) : Int) - (1 : Int)) ≤ ((y.2.2.2.2.2.2.2.2.2.2.2.2.1 : Nat) : Int) then
              if decide (w (y.2.2.2.2.2.1 (0 + Int.toNat (w (((y.2.2.2.2.2.2.2.2.2.2.2.2.1 : Nat) : Int) - (1 : Int)))) - (1 : Int)) > (0 : Int)) = true then
               if (Int.toNat (w (((y.2.2.2.2.2.2.2.2.2.2.2.2.1 : Nat) : Int) - (1 : Int))) - 0 + 1) * 16 ≤ roomBound ∧ Int.toNat (w (((y.2.2.2.2.2.2.2.2.2.2.2.2.1 : Nat) : Int) - (1 : Int))) - 0 + 1 ≤ maxLen ∧ Int.toNat (w (((y.2.2.2.2.2.2.2.2.2.2.2.2.1 : Nat) : Int) - (1 : Int))) - 0 ≤ y.2.2.2.2.2.2.2.2.2.2.2.2.2 then
                nx (.inr ((w (y.1 + (1 : Int)), w (y.2.1 + (1 : Int)), x.2.2.2.2.2.1 (Int.toNat (y.2.2.1)), y.2.2.2.1, fun (j : Nat) => if j < Int.toNat (w (((y.2.2.2.2.2.2.2.2.2.2.2.2.1 : Nat) : Int) - (1 : Int))) - 0 then y.2.2.2.2.1 j else x.2.2.2.2.2.1 (Int.toNat (y.2.2.1)), fun (j : Nat) => if j < Int.toNat (w (((y.2.2.2.2.2.2.2.2.2.2.2.2.1 : Nat) : Int) - (1 : Int))) - 0 then y.2.2.2.2.2.1 j else w (y.2.2.2.2.2.1 (0 + Int.toNat (w (((y.2.2.2.2.2.2.2.2.2.2.2.2.1 : Nat) : Int) - (1 : Int)))) - (1 : Int)), y.2.2.2.2.2.2.1, y.2.2.2.2.2.2.2.1, y.2.2.2.2.2.2.2.2.1, y.2.2.2.2.2.2.2.2.2.1, y.2.2.2.2.2.2.2.2.2.2.1, y.2.2.2.2.2.2.2.2.2.2.2.1, Int.toNat (w (((y.2.2.2.2.2.2.2.2.2.2.2.2.1 : Nat) : Int) - (1 : Int))) - 0 + 1, Int.toNat (w (((y.2.2.2.2.2.2.2.2.2.2.2.2.1 : Nat) : Int) - (1 : Int))) - 0 + 1)))
               else
                none
              else
               nx (.inr ((w (y.1 + (1 : Int)), w (y.2.1 + (1 : Int)), w (y.2.2.1 + (1 : Int)), y.2.2.2.1, y.2.2.2.2.1, y.2.2.2.2.2.1, y.2.2.2.2.2.2.1, y.2.2.2.2.2.2.2.1, y.2.2.2.2.2.2.2.2.1, y.2.2.2.2.2.2.2.2.2.1, y.2.2.2.2.2.2.2.2.2.2.1, y.2.2.2.2.2.2.2.2.2.2.2.1, Int.toNat (w (((y.2.2.2.2.2.2.2.2.2.2.2.2.1 : Nat) : Int) - (1 : Int))) - 0, y.2.2.2.2.2.2.2.2.2.2.2.2.2)))
             else
              none
            else
             none
           else
            none
          else
           if (x.2.2.2.2.1 (Int.toNat (y.2.2.1)) == (19 : Int)) = true then
            nx (.inr ((w (y.1 + (1 : Int)), w (y.2.1 + (1 : Int)), w (y.2.2.1 + (1 : Int)), x.2.2.2.2.2.1 (Int.toNat (y.2.2.1)), y.2.2.2.2)))
           else
            if (x.2.2.2.2.1 (Int.toNat (y.2.2.1)) == (20 : Int)) = true then
             nx (.inr ((w (y.1 + (1 : Int)), w (y.2.1 + (1 : Int)), w (y.2.2.1 + (1 : Int)), y.2.2.2)))
            else
             (c_ROwn ((x.2.2.2.2.1 (Int.toNat (y.2.2.1)), x.2.2.2.2.2.1 (Int.toNat (y.2.2.1)), x.2.2.2.2.2.2.1, x.2.2.2.2.2.2.2.1, x.2.2.2.2.2.2.2.2.1, x.2.2.2.2.2.2.2.2.2.1, x.2.2.2.2.2.2.2.2.2.2.1, x.2.2.2.2.2.2.2.2.2.2.2.1))).bind fun z2387 =>
              (c_RAdd ((y.2.2.2.2.2.2.1, y.2.2.2.2.2.2.2.1, y.2.2.2.2.2.2.2.2.1, y.2.2.2.2.2.2.2.2.2.1, y.2.2.2.2.2.2.2.2.2.2.1, y.2.2.2.2.2.2.2.2.2.2.2.1, z2387))).bind fun z2400 =>
               nx (.inr ((w (y.1 + (1 : Int)), w (y.2.1 + (1 : Int)), w (y.2.2.1 + (1 : Int)), y.2.2.2.1, y.2.2.2.2.1, y.2.2.2.2.2.1, z2400.1, z2400.2.1, z2400.2.2.1, z2400.2.2.2.1, z2400.2.2.2.2.1, z2400.2.2.2.2.2, y.2.2.2.2.2.2.2.2.2.2.2.2)))
   else
    if (x.2.2.2.2.1 (Int.toNat (y.2.2.1)) == (20 : Int)) = true then
     (c_PickN ((y.1, (2 : Int)))).bind fun z2403 =>
      if (x.2.2.2.2.1 (Int.toNat (y.2.2.1)) == (28 : Int)) = true then
       dn (.inl ((y.2.2.2.2.2.2.1, y.2.2.2.2.2.2.2.1, y.2.2.2.2.2.2.2.2.1, y.2.2.2.2.2.2.2.2.2.1, y.2.2.2.2.2.2.2.2.2.2.1, y.2.2.2.2.2.2.2.2.2.2.2.1)))
      else
       if (x.2.2.2.2.1 (Int.toNat (y.2.2.1)) == (27 : Int)) = true then
        dn (.inl ((y.2.2.2.2.2.2.1, y.2.2.2.2.2.2.2.1, y.2.2.2.2.2.2.2.2.1, y.2.2.2.2.2.2.2.2.2.1, y.2.2.2.2.2.2.2.2.2.2.1, y.2.2.2.2.2.2.2.2.2.2.2.1)))
       else
        if (x.2.2.2.2.1 (Int.toNat (y.2.2.1)) == (14 : Int)) = true then
         nx (.inr ((w (y.1 + (1 : Int)), w (y.2.1 + (1 : Int)), x.2.2.2.2.2.1 (Int.toNat (y.2.2.1)), y.2.2.2)))
        else
         if (x.2.2.2.2.1 (Int.toNat (y.2.2.1)) == (15 : Int)) = true then
          nx (.inr ((w (y.1 + (1 : Int)), w (y.2.1 + (1 : Int)), w (y.2.2.1 + (1 : Int)), y.2.2.2)))
         else
          if (x.2.2.2.2.1 (Int.toNat (y.2.2.1)) == (16 : Int)) = true then
           if (y.2.2.2.2.2.2.2.2.2.2.2.2.1 + 1) * 16 ≤ roomBound ∧ y.2.2.2.2.2.2.2.2.2.2.2.2.1 + 1 ≤ maxLen ∧ y.2.2.2.2.2.2.2.2.2.2.2.2.1 ≤ y.2.2.2.2.2.2.2.2.2.2.2.2.2 then
            nx (.inr ((w (y.1 + (1 : Int)), w (y.2.1 + (1 : Int)), w (y.2.2.1 + (1 : Int)), y.2.2.2.1, fun (j : Nat) => if j < y.2.2.2.2.2.2.2.2.2.2.2.2.1 then y.2.2.2.2.1 j else w (y.2.2.1 + (1 : Int)), fun (j : Nat) => if j < y.2.2.2.2.2.2.2.2.2.2.2.2.1 then y.2.2.2.2.2.1 j else x.2.2.2.2.2.1 (Int.toNat (y.2.2.1)), y.2.2.2.2.2.2.1, y.2.2.2.2.2.2.2.1, y.2.2.2.2.2.2.2.2.1, y.2.2.2.2.2.2.2.2.2.1, y.2.2.2.2.2.2.2.2.2.2.1, y.2.2.2.2.2.2.2.2.2.2.2.1, y.2.2.2.2.2.2.2.2.2.2.2.2.1 + 1, y.2.2.2.2.2.2.2.2.2.2.2.2.1 + 1)))
           else
            none
          else
           if (x.2.2.2.2.1 (Int.toNat (y.2.2.1)) == (17 : Int)) = true then
            if (0 : Int) ≤ w (((y.2.2.2.2.2.2.2.2.2.2.2.2.1 : Nat) : Int) - (1 : Int)) ∧ w (((y.2.2.2.2.2.2.2.2.2.2.2.2.1 : Nat) : Int) - (1 : Int)) < ((y.2.2.2.2.2.2.2.2.2.2.2.2.1 : Nat) : Int) then
             if 0 + Int.toNat (w (((y.2.2.2.2.2.2.2.2.2.2.2.2.1 : Nat) : Int) - (1 : Int))) < y.2.2.2.2.2.2.2.2.2.2.2.2.2 ∧ 2 = 2 then
              if (0 : Int) ≤ (0 : Int) ∧ (0 : Int) ≤ w (((y.2.2.2.2.2.2.2.2.2.2.2.2.1 : Nat) : Int) - (1 : Int)) ∧ w (((y.2.2.2.2.2.2.2.2.2.2.2.2.1 : Nat) : Int) - (1 : Int)) ≤ ((y.2.2.2.2.2.2.2.2.2.2.2.2.1 : Nat) : Int) then
               if decide (w (y.2.2.2.2.2.1 (0 + Int.toNat (w (((y.2.2.2.2.2.2.2.2.2.2.2.2.1 : Nat) : Int) - (1 : Int)))) - (1 : Int)) > (0 : Int)) = true then
                if (Int.toNat (w (((y.2.2.2.2.2.2.2.2.2.2.2.2.1 : Nat) : Int) - (1 : Int))) - 0 + 1) * 16 ≤ roomBound ∧ Int.toNat (w (((y.2.2.2.2.2.2.2.2.2.2.2.2.1 : Nat) : Int) - (1 : Int))) - 0 + 1 ≤ maxLen ∧ Int.toNat (w (((y.2.2.2.2.2.2.2.2.2.2.2.2.1 : Nat) : Int) - (1 : Int))) - 0 ≤ y.2.2.2.2.2.2.2.2.2.2.2.2.2 then
                 nx (.inr ((w (y.1 + (1 : Int)), w (y.2.1 + (1 : Int)), x.2.2.2.2.2.1 (Int.toNat (y.2.2.1)), y.2.2.2.1, fun (j : Nat) => if j < Int.toNat (w (((y.2.2.2.2.2.2.2.2.2.2.2.2.1 : Nat) : Int) - (1 : Int))) - 0 then y.2.2.2.2.1 j else x.2.2.2.2.2.1 (Int.toNat (y.2.2.1)), fun (j : Nat) => if j < Int.toNat (w (((y.2.2.2.2.2.2.2.2.2.2.2.2.1 : Nat) : Int) - (1 : Int))) - 0 then y.2.2.2.2.2.1 j else w (y.2.2.2.2.2.1 (0 + Int.toNat (w (((y.2.2.2.2.2.2.2.2.2.2.2.2.1 : Nat) : Int) - (1 : Int)))) - (1 : Int)), y.2.2.2.2.2.2.1, y.2.2.2.2.2.2.2.1, y.2.2.2.2.2.2.2.2.1, y.2.2.2.2.2.2.2.2.2.1, y.2.2.2.2.2.2.2.2.2.2.1, y.2.2.2.2.2.2.2.2.2.2.2.1, Int.toNat (w (((y.2.2.2.2.2.2.2.2.2.2.2.2.1 : Nat) : Int) - (1 : Int))) - 0 + 1, Int.toNat (w (((y.2.2.2.2.2.2.2.2.2.2.2.2.1 : Nat) : Int) - (1 : Int))) - 0 + 1)))
                else
                 none
               else
                nx (.inr ((w (y.1 + (1 : Int)), w (y.2.1 + (1 : Int)), w (y.2.2.1 + (1 : Int)), y.2.2.2.1, y.2.2.2.2.1, y.2.2.2.2.2.1, y.2.2.2.2.2.2.1, y.2.2.2.2.2.2.2.1, y.2.2.2.2.2.2.2.2.1, y.2.2.2.2.2.2.2.2.2.1, y.2.2.2.2.2.2.2.2.2.2.1, y.2.2.2.2.2.2.2.2.2.2.2.1, Int.toNat (w (((y.2.2.2.2.2.2.2.2.2.2.2.2.1 : Nat) : Int) - (1 : Int))) - 0, y.2.2.2.2.2.2.2.2.2.2.2.2.2)))
              else
               none
             else
              none
            else
             none
           else
            if (x.2.2.2.2.1 (Int.toNat (y.2.2.1)) == (19 : Int)) = true then
             nx (.inr ((w (y.1 + (1 : Int)), w (y.2.1 + (1 : Int)), w (y.2.2.1 + (1 : Int)), x.2.2.2.2.2.1 (Int.toNat (y.2.2.1)), y.2.2.2.2)))
            else
             if (x.2.2.2.2.1 (Int.toNat (y.2.2.1)) == (20 : Int)) = true then
              nx (.inr ((w (y.1 + (1 : Int)), w (y.2.1 + (1 : Int)), w (y.2.2.1 + (1 : Int)), y.2.2.2)))
             else
              (c_ROwn ((x.2.2.2.2.1 (Int.toNat (y.2.2.1)), x.2.2.2.2.2.1 (Int.toNat (y.2.2.1)), x.2.2.2.2.2.2.1, x.2.2.2.2.2.2.2.1, x.2.2.2.2.2.2.2.2.1, x.2.2.2.2.2.2.2.2.2.1, x.2.2.2.2.2.2.2.2.2.2.1, x.2.2.2.2.2.2.2.2.2.2.2.1))).bind fun z2412 =>
               (c_RAdd ((y.2.2.2.2.2.2.1, y.2.2.2.2.2.2.2.1, y.2.2.2.2.2.2.2.2.1, y.2.2.2.2.2.2.2.2.2.1, y.2.2.2.2.2.2.2.2.2.2.1, y.2.2.2.2.2.2.2.2.2.2.2.1, z2412))).bind fun z2425 =>
                nx (.inr ((w (y.1 + (1 : Int)), w (y.2.1 + (1 : Int)), w (y.2.2.1 + (1 : Int)), y.2.2.2.1, y.2.2.2.2.1, y.2.2.2.2.2.1, z2425.1, z2425.2.1, z2425.2.2.1, z2425.2.2.2.1, z2425.2.2.2.2.1, z2425.2.2.2.2.2, y.2.2.2.2.2.2.2.2.2.2.2.2)))
    else
     if (x.2.2.2.2.1 (Int.toNat (y.2.2.1)) == (28 : Int)) = true then
      dn (.inl ((y.2.2.2.2.2.2.1, y.2.2.2.2.2.2.2.1, y.2.2.2.2.2.2.2.2.1, y.2.2.2.2.2.2.2.2.2.1, y.2.2.2.2.2.2.2.2.2.2.1, y.2.2.2.2.2.2.2.2.2.2.2.1)))
     else
      if (x.2.2.2.2.1 (Int.toNat (y.2.2.1)) == (27 : Int)) = true then
       dn (.inl ((y.2.2.2.2.2.2.1, y.2.2.2.2.2.2.2.1, y.2.2.2.2.2.2.2.2.1, y.2.2.2.2.2.2.2.2.2.1, y.2.2.2.2.2.2.2.2.2.2.1, y.2.2.2.2.2.2.2.2.2.2.2.1)))
      else
       if (x.2.2.2.2.1 (Int.toNat (y.2.2.1)) == (14 : Int)) = true then
        nx (.inr ((y.1, w (y.2.1 + (1 : Int)), x.2.2.2.2.2.1 (Int.toNat (y.2.2.1)), y.2.2.2)))
       else
        if (x.2.2.2.2.1 (Int.toNat (y.2.2.1)) == (15 : Int)) = true then
         nx (.inr ((y.1, w (y.2.1 + (1 : Int)), w (y.2.2.1 + (1 : Int)), y.2.2.2)))
        else
         if (x.2.2.2.2.1 (Int.toNat (y.2.2.1)) == (16 : Int)) = true then
          if (y.2.2.2.2.2.2.2.2.2.2.2.2.1 + 1) * 16 ≤ roomBound ∧ y.2.2.2.2.2.2.2.2.2.2.2.2.1 + 1 ≤ maxLen ∧ y.2.2.2.2.2.2.2.2.2.2.2.2.1 ≤ y.2.2.2.2.2.2.2.2.2.2.2.2.2 then
           nx (.inr ((y.1, w (y.2.1 + (1 : Int)), w (y.2.2.1 + (1 : Int)), y.2.2.2.1, fun (j : Nat) => if j < y.2.2.2.2.2.2.2.2.2.2.2.2.1 then y.2.2.2.2.1 j else w (y.2.2.1 + (1 : Int)), fun (j : Nat) => if j < y.2.2.2.2.2.2.2.2.2.2.2.2.1 then y.2.2.2.2.2.1 j else x.2.2.2.2.2.1 (Int.toNat (y.2.2.1)), y.2.2.2.2.2.2.1, y.2.2.2.2.2.2.2.1, y.2.2.2.2.2.2.2.2.1, y.2.2.2.2.2.2.2.2.2.1, y.2.2.2.2.2.2.2.2.2.2.1, y.2.2.2.2.2.2.2.2.2.2.2.1, y.2.2.2.2.2.2.2.2.2.2.2.2.1 + 1, y.2.2.2.2.2.2.2.2.2.2.2.2.1 + 1)))
          else
           none
         else
          if (x.2.2.2.2.1 (Int.toNat (y.2.2.1)) == (17 : Int)) = true then
           if (0 : Int) ≤ w (((y.2.2.2.2.2.2.2.2.2.2.2.2.1 : Nat) : Int) - (1 : Int)) ∧ w (((y.2.2.2.2.2.2.2.2.2.2.2.2.1 : Nat) : Int) - (1 : Int)) < ((y.2.2.2.2.2.2.2.2.2.2.2.2.1 : Nat) : Int) then
            if 0 + Int.toNat (w (((y.2.2.2.2.2.2.2.2.2.2.2.2.1 : Nat) : Int) - (1 : Int))) < y.2.2.2.2.2.2.2.2.2.2.2.2.2 ∧ 2 = 2 then
             if (0 : Int) ≤ (0 : Int) ∧ (0 : Int) ≤ w (((y.2.2.2.2.2.2.2.2.2.2.2.2.1 : Nat) : Int) - (1 : Int)) ∧ w (((y.2.2.2.2.2.2.2.2.2.2.2.2.1 : Nat) : Int) - (1 : Int)) ≤ ((y.2.2.2.2.2.2.2.2.2.2.2.2.1 : Nat) : Int) then
              if decide (w (y.2.2.2.2.2.1 (0 + Int.toNat (w (((y.2.2.2.2.2.2.2.2.2.2.2.2.1 : Nat) : Int) - (1 : Int)))) - (1 : Int)) > (0 : Int)) = true then
               if (Int.toNat (w (((y.2.2.2.2.2.2.2.2.2.2.2.2.1 : Nat) : Int) - (1 : Int))) - 0 + 1) * 16 ≤ roomBound ∧ Int.toNat (w (((y.2.2.2.2.2.2.2.2.2.2.2.2.1 : Nat) : Int) - (1 : Int))) - 0 + 1 ≤ maxLen ∧ Int.toNat (w (((y.2.2.2.2.2.2.2.2.2.2.2.2.1 : Nat) : Int) - (1 : Int))) - 0 ≤ y.2.2.2.2.2.2.2.2.2.2.2.2.2 then
                nx (.inr ((y.1, w (y.2.1 + (1 : Int)), x.2.2.2.2.2.1 (Int.toNat (y.2.2.1)), y.2.2.2.1, fun (j : Nat) => if j < Int.toNat (w (((y.2.2.2.2.2.2.2.2.2.2.2.2.1 : Nat) : Int) - (1 : Int))) - 0 then y.2.2.2.2.1 j else x.2.2.2.2.2.1 (Int.toNat (y.2.2.1)), fun (j : Nat) => if j < Int.toNat (w (((y.2.2.2.2.2.2.2.2.2.2.2.2.1 : Nat) : Int) - (1 : Int))) - 0 then y.2.2.2.2.2.1 j else w (y.2.2.2.2.2.1 (0 + Int.toNat (w (((y.2.2.2.2.2.2.2.2.2.2.2.2.1 : Nat) : Int) - (1 : Int)))) - (1 : Int)), y.2.2.2.2.2.2.1, y.2.2.2.2.2.2.2.1, y.2.2.2.2.2.2.2.2.1, y.2.2.2.2.2.2.2.2.2.1, y.2.2.2.2.2.2.2.2.2.2.1, y.2.2.2.2.2.2.2.2.2.2.2.1, Int.toNat (w (((y.2.2.2.2.2.2.2.2.2.2.2.2.1 : Nat) : Int) - (1 : Int))) - 0 + 1, Int.toNat (w (((y.2.2.2.2.2.2.2.2.2.2.2.2.1 : Nat) : Int) - (1 : Int))) - 0 + 1)))
               else
                none
              else
               nx (.inr ((y.1, w (y.2.1 + (1 : Int)), w (y.2.2.1 + (1 : Int)), y.2.2.2.1, y.2.2.2.2.1, y.2.2.2.2.2.1, y.2.2.2.2.2.2.1, y.2.2.2.2.2.2.2.1, y.2.2.2.2.2.2.2.2.1, y.2.2.2.2.2.2.2.2.2.1, y.2.2.2.2.2.2.2.2.2.2.1, y.2.2.2.2.2.2.2.2.2.2.2.1, Int.toNat (w (((y.2.2.2.2.2.2.2.2.2.2.2.2.1 : Nat) : Int) - (1 : Int))) - 0, y.2.2.2.2.2.2.2.2.2.2.2.2.2)))
             else
              none
            else
             none
           else
            none
          else
           if (x.2.2.2.2.1 (Int.toNat (y.2.2.1)) == (19 : Int)) = true then
            nx (.inr ((y.1, w (y.2.1 + (1 : Int)), w (y.2.2.1 + (1 : Int)), x.2.2.2.2.2.1 (Int.toNat (y.2.2.1)), y.2.2.2.2)))
           else
            if (x.2.2.2.2.1 (Int.toNat (y.2.2.1)) == (20 : Int)) = true then
             nx (.inr ((y.1, w (y.2.1 + (1 : Int)), w (y.2.2.1 + (1 : Int)), y.2.2.2)))
            else
             (c_ROwn ((x.2.2.2.2.1 (Int.toNat (y.2.2.1)), x.2.2.2.2.2.1 (Int.toNat (y.2.2.1)), x.2.2.2.2.2.2.1, x.2.2.2.2.2.2.2.1, x.2.2.2.2.2.2.2.2.1, x.2.2.2.2.2.2.2.2.2.1, x.2.2.2.2.2.2.2.2.2.2.1, x.2.2.2.2.2.2.2.2.2.2.2.1))).bind fun z2434 =>
              (c_RAdd ((y.2.2.2.2.2.2.1, y.2.2.2.2.2.2.2.1, y.2.2.2.2.2.2.2.2.1, y.2.2.2.2.2.2.2.2.2.1, y.2.2.2.2.2.2.2.2.2.2.1, y.2.2.2.2.2.2.2.2.2.2.2.1, z2434))).bind fun z2447 =>
               nx (.inr ((y.1, w (y.2.1 + (1 : Int)), w (y.2.2.1 + (1 : Int)), y.2.2.2.1, y.2.2.2.2.1, y.2.2.2.2.2.1, z2447.1, z2447.2.1, z2447.2.2.1, z2447.2.2.2.1, z2447.2.2.2.2.1, z2447.2.2.2.2.2, y.2.2.2.2.2.2.2.2.2.2.2.2)))
  else
   none
 else
  dn (.inr ((y.2.2.2.2.2.2.1, y.2.2.2.2.2.2.2.1, y.2.2.2.2.2.2.2.2.1, y.2.2.2.2.2.2.2.2.2.1, y.2.2.2.2.2.2.2.2.2.2.1, y.2.2.2.2.2.2.2.2.2.2.2.1)))
theorem PathN_l0_n1 {β : Type} (c_PickN : a_PickN → Option g_PickN) (c_RAdd : a_RAdd → Option g_RAdd) (c_ROwn : a_ROwn → Option g_ROwn) (x : a_PathN) (y : Int × Int × Int × Int × (Nat → Int) × (Nat → Int) × Int × Int × Int × Int × Int × Int × Nat × Nat) (nx : PathN_l0_a → Option β) (dn : PathN_l0_g → Option β) : PathN_l0_t1 c_PickN c_RAdd c_ROwn x y nx dn = (PathN_l0_t1 c_PickN c_RAdd c_ROwn x y (fun y => some (.inl y)) (fun z => some (.inr z))).bind fun r => Sum.elim nx dn r := by
  unfold PathN_l0_t1
  repeat' first | exact free_none | refine free_bind (fun z => ?_) | refine free_ite ?_ ?_ | refine free_sum (fun z => ?_) (fun z => ?_) | rfl
theorem PathN_l0_r1 (c_PickN : a_PickN → Option g_PickN) (c_RAdd : a_RAdd → Option g_RAdd) (c_ROwn : a_ROwn → Option g_ROwn) (x : a_PathN) (y : Int × Int × Int × Int × (Nat → Int) × (Nat → Int) × Int × Int × Int × Int × Int × Int × Nat × Nat) (lo : LoopT) : loopK E3 (ftab 27 (fun a _ => isNil (a.getD 0 .junk)) A_PickN x_PickN c_PickN (ftab 32 (fun _ _ => true) A_RAdd x_RAdd c_RAdd (ftab 50 (fun _ _ => true) A_ROwn x_ROwn c_ROwn ca0))) lo 0 15676 (bodyOf E3 25 0) (PathN_l0_S x (.inr y)) (KCM [(0, 2304)] 768) = PathN_l0_t1 (fun x => viaF A_PickN c_PickN (A_PickN x)) (fun x => viaF A_RAdd c_RAdd (A_RAdd x)) (fun x => viaF A_ROwn c_ROwn (A_ROwn x)) x y (fun y => lo 0 15676 (bodyOf E3 25 0) (PathN_l0_S x y) (KCM [(0, 2304)] 768)) (fun z => some (.l (PathN_l0_T x z).1 (PathN_l0_T x z).2)) := by kernel_rfl
noncomputable def PathN_l0 (c_PickN : a_PickN → Option g_PickN) (c_RAdd : a_RAdd → Option g_RAdd) (c_ROwn : a_ROwn → Option g_ROwn) (q : Nat) (x : a_PathN) : PathN_l0_a → Option PathN_l0_g := lpG (Sum.elim (fun y => PathN_l0_t0 c_PickN c_RAdd c_ROwn x y (fun y => some (.inl y)) (fun z => some (.inr z))) (fun y => PathN_l0_t1 c_PickN c_RAdd c_ROwn x y (fun y => some (.inl y)) (fun z => some (.inr z)))) q
theorem PathN_l0_s (c_PickN : a_PickN → Option g_PickN) (h_PickN : ∀ x z, c_PickN x = some z → SC E3 27 (A_PickN x).1 (A_PickN x).2 (R_PickN z)) (c_RAdd : a_RAdd → Option g_RAdd) (h_RAdd : ∀ x z, c_RAdd x = some z → SC E3 32 (A_RAdd x).1 (A_RAdd x).2 (R_RAdd z)) (c_ROwn : a_ROwn → Option g_ROwn) (h_ROwn : ∀ x z, c_ROwn x = some z → SC E3 50 (A_ROwn x).1 (A_ROwn x).2 (R_ROwn z)) (q : Nat) (x : a_PathN) : ∀ y z, PathN_l0 c_PickN c_RAdd c_ROwn q x y = some z → SL E3 (bodyOf E3 25 0) (PathN_l0_S x y) (PathN_l0_T x z).1 (PathN_l0_T x z).2 :=
  SL.lp (LT := fun lo => lo) (T := PathN_l0_T x) (S := PathN_l0_S x) (ftab_cons h_PickN xe_PickN (ftab_cons h_RAdd xe_RAdd (ftab_cons h_ROwn xe_ROwn ca0_sound))) hX3 (fun lo h => h) (fun lo y => by
      rcases y with y | y
      · exact (PathN_l0_r0 c_PickN c_RAdd c_ROwn x y lo).trans (by rw [via_eq i_PickN c_PickN, via_eq i_RAdd c_RAdd, via_eq i_ROwn c_ROwn]; exact PathN_l0_n0 _ _ _ _ _ _ _)
      · exact (PathN_l0_r1 c_PickN c_RAdd c_ROwn x y lo).trans (by rw [via_eq i_PickN c_PickN, via_eq i_RAdd c_RAdd, via_eq i_ROwn c_ROwn]; exact PathN_l0_n1 _ _ _ _ _ _ _)) (fun z => by rcases z with z | z <;> first | exact PathN_l0_k0 x z | exact PathN_l0_k1 x z) q
def t_PathN {β : Type} (c_PickN : a_PickN → Option g_PickN) (c_RAdd : a_RAdd → Option g_RAdd) (c_ROwn : a_ROwn → Option g_ROwn) (l_PathN_l0 : PathN_l0_a → Option PathN_l0_g) (x : a_PathN) (dn : g_PathN → Option β) : Option β :=
 (l_PathN_l0 (.inl (((0 : Int), (0 : Int), (0 : Int), (0 : Int), (0 : Int), (0 : Int), (0 : Int), (0 : Int), (0 : Int), (0 : Int))))).bind fun z2274 =>
  Sum.elim (fun z2274a =>
  dn ((z2274a.1, z2274a.2.1, z2274a.2.2.1, z2274a.2.2.2.1, z2274a.2.2.2.2.1, z2274a.2.2.2.2.2, true))) (fun z2274b =>
  dn ((z2274b.1, z2274b.2.1, z2274b.2.2.1, z2274b.2.2.2.1, z2274b.2.2.2.2.1, z2274b.2.2.2.2.2, false))) z2274
theorem n_PathN {β : Type} (c_PickN : a_PickN → Option g_PickN) (c_RAdd : a_RAdd → Option g_RAdd) (c_ROwn : a_ROwn → Option g_ROwn) (l_PathN_l0 : PathN_l0_a → Option PathN_l0_g) (x : a_PathN) (dn : g_PathN → Option β) : t_PathN c_PickN c_RAdd c_ROwn l_PathN_l0 x dn = (t_PathN c_PickN c_RAdd c_ROwn l_PathN_l0 x some).bind dn := by
  unfold t_PathN
  repeat' first | exact free_none | refine free_bind (fun z => ?_) | refine free_ite ?_ ?_ | refine free_sum (fun z => ?_) (fun z => ?_) | rfl
theorem r_PathN (c_PickN : a_PickN → Option g_PickN) (c_RAdd : a_RAdd → Option g_RAdd) (c_ROwn : a_ROwn → Option g_ROwn) (l_PathN_l0 : PathN_l0_a → Option PathN_l0_g) (x : a_PathN) : callK E3 (ftab 27 (fun a _ => isNil (a.getD 0 .junk)) A_PickN x_PickN c_PickN (ftab 32 (fun _ _ => true) A_RAdd x_RAdd c_RAdd (ftab 50 (fun _ _ => true) A_ROwn x_ROwn c_ROwn ca0))) (ltabF 0 (fun _ => true) (bodyOf E3 25 0) (PathN_l0_S x) (PathN_l0_x x) l_PathN_l0 lo0) 25 (A_PathN x).1 (A_PathN x).2 K = t_PathN (fun x => viaF A_PickN c_PickN (A_PickN x)) (fun x => viaF A_RAdd c_RAdd (A_RAdd x)) (fun x => viaF A_ROwn c_ROwn (A_ROwn x)) (fun y => viaF (fun y => (bodyOf E3 25 0, PathN_l0_S x y)) l_PathN_l0 (bodyOf E3 25 0, PathN_l0_S x y)) x (fun z => some (.c (R_PathN z))) := by kernel_rfl
theorem s_PathN (c_PickN : a_PickN → Option g_PickN) (h_PickN : ∀ x z, c_PickN x = some z → SC E3 27 (A_PickN x).1 (A_PickN x).2 (R_PickN z)) (c_RAdd : a_RAdd → Option g_RAdd) (h_RAdd : ∀ x z, c_RAdd x = some z → SC E3 32 (A_RAdd x).1 (A_RAdd x).2 (R_RAdd z)) (c_ROwn : a_ROwn → Option g_ROwn) (h_ROwn : ∀ x z, c_ROwn x = some z → SC E3 50 (A_ROwn x).1 (A_ROwn x).2 (R_ROwn z)) (q : Nat) (x : a_PathN) (z : g_PathN) (h : t_PathN c_PickN c_RAdd c_ROwn (PathN_l0 c_PickN c_RAdd c_ROwn q x) x some = some z) : SC E3 25 (A_PathN x).1 (A_PathN x).2 (R_PathN z) := by
  refine SC.of hW3 hX3 (ftab_cons h_PickN xe_PickN (ftab_cons h_RAdd xe_RAdd (ftab_cons h_ROwn xe_ROwn ca0_sound))) (ltabF_cons (PathN_l0_s c_PickN h_PickN c_RAdd h_RAdd c_ROwn h_ROwn q x) (PathN_l0_xe x) lo0_sound) ((r_PathN c_PickN c_RAdd c_ROwn (PathN_l0 c_PickN c_RAdd c_ROwn q x) x).trans ?_)
  rw [via_eq i_PickN c_PickN, via_eq i_RAdd c_RAdd, via_eq i_ROwn c_ROwn, via_eq (pair_inj (bodyOf E3 25 0) (PathN_l0_i x)) (PathN_l0 c_PickN c_RAdd c_ROwn q x), n_PathN, h]; rfl
noncomputable def PathN (q : Nat) (x : a_PathN) : Option g_PathN := t_PathN (PickN q) (RAdd q) (ROwn q) (PathN_l0 (PickN q) (RAdd q) (ROwn q) q x) x some
theorem sc_PathN (q : Nat) : ∀ (x : a_PathN) (z : g_PathN), PathN q x = some z → SC E3 25 (A_PathN x).1 (A_PathN x).2 (R_PathN z) := fun x z h => s_PathN (PickN q) (sc_PickN q) (RAdd q) (sc_RAdd q) (ROwn q) (sc_ROwn q) q x z h
abbrev a_law8 : Type := Nat × (Nat → Int) × Nat × (Nat → Int) × Nat × (Nat → Int) × Nat × (Nat → Int)
abbrev g_law8 : Type := Bool
def A_law8 : a_law8 → List V × List (Option Chunk) := (fun x => (fun (l : Nat) (ly : Nat → Int) (g : Nat) (gy : Nat → Int) (d : Nat) (dy : Nat → Int) (m : Nat) (y : Nat → Int) => (([.ro 1 l (fun j => [i64 (ly j)]), .ro 1 g (fun j => [i64 (gy j)]), .ro 1 d (fun j => [i64 (dy j)]), .ro 1 m (fun j => [i64 (y j)])] : List V), ([] : List (Option Chunk)))) x.1 x.2.1 x.2.2.1 x.2.2.2.1 x.2.2.2.2.1 x.2.2.2.2.2.1 x.2.2.2.2.2.2.1 x.2.2.2.2.2.2.2)
def R_law8 : g_law8 → CRes := (fun z => CRes.ret (bo z) [] : (Bool) → CRes)
def t_law8 {β : Type} (c_CodeR : a_CodeR → Option g_CodeR) (c_Rig : a_Rig → Option g_Rig) (c_Cert : a_Cert → Option g_Cert) (c_Path : a_Path → Option g_Path) (c_changedR : a_changedR → Option g_changedR) (c_CVer : a_CVer → Option g_CVer) (c_Within : a_Within → Option g_Within) (c_Total : a_Total → Option g_Total) (c_lives : a_lives → Option g_lives) (x : a_law8) (dn : g_law8 → Option β) : Option β :=
 (c_CodeR ((false, x.1, x.2.1))).bind fun z3 =>
  (c_Rig ((x.2.2.1, x.2.2.2.1))).bind fun z6 =>
   (c_Cert ((pName, (0 : Int), (0 : Int), z3.1, z3.2.1, z3.2.2, z6))).bind fun z19 =>
    if (z19.1 != (0 : Int)) = true then
     if (z19.1 == (5 : Int)) = true then
      (c_lives ()).bind fun z20 =>
       dn z20
     else
      dn false
    else
     (c_Path ((pName, (0 : Int), (0 : Int), z3.1, z3.2.1, z3.2.2, z6.1, z6.2.1, z6.2.2.1, z6.2.2.2.1, z6.2.2.2.2.1, z6.2.2.2.2.2, x.2.2.2.2.1, x.2.2.2.2.2.1, (3000 : Int)))).bind fun z36 =>
      (c_changedR ((z19.2.1, z19.2.2.1, z19.2.2.2.1, z19.2.2.2.2.1, z19.2.2.2.2.2.1, z19.2.2.2.2.2.2.1, z19.2.2.2.2.2.2.2, x.2.2.2.2.2.2))).bind fun z46 =>
       (c_CVer ((pName, (0 : Int), (0 : Int), z3.1, z3.2.1, z3.2.2, z6.1, z6.2.1, z6.2.2.1, z6.2.2.2.1, z6.2.2.2.2.1, z6.2.2.2.2.2, z46))).bind fun z66 =>
        if (z66 == (0 : Int)) = true then
         (c_Total z46).bind fun z74 =>
          (c_Within ((z36.1, z36.2.1, z36.2.2.1, z36.2.2.2.1, z36.2.2.2.2.1, z36.2.2.2.2.2.1, z74))).bind fun z87 =>
           if (!z87) = true then
            dn false
           else
            (c_Total (z19.2)).bind fun z95 =>
             (c_Within ((z36.1, z36.2.1, z36.2.2.1, z36.2.2.2.1, z36.2.2.2.2.1, z36.2.2.2.2.2.1, z95))).bind fun z108 =>
              if z108 = true then
               (c_lives ()).bind fun z109 =>
                dn z109
              else
               dn false
        else
         (c_Total (z19.2)).bind fun z117 =>
          (c_Within ((z36.1, z36.2.1, z36.2.2.1, z36.2.2.2.1, z36.2.2.2.2.1, z36.2.2.2.2.2.1, z117))).bind fun z130 =>
           if z130 = true then
            (c_lives ()).bind fun z131 =>
             dn z131
           else
            dn false
theorem n_law8 {β : Type} (c_CodeR : a_CodeR → Option g_CodeR) (c_Rig : a_Rig → Option g_Rig) (c_Cert : a_Cert → Option g_Cert) (c_Path : a_Path → Option g_Path) (c_changedR : a_changedR → Option g_changedR) (c_CVer : a_CVer → Option g_CVer) (c_Within : a_Within → Option g_Within) (c_Total : a_Total → Option g_Total) (c_lives : a_lives → Option g_lives) (x : a_law8) (dn : g_law8 → Option β) : t_law8 c_CodeR c_Rig c_Cert c_Path c_changedR c_CVer c_Within c_Total c_lives x dn = (t_law8 c_CodeR c_Rig c_Cert c_Path c_changedR c_CVer c_Within c_Total c_lives x some).bind dn := by
  unfold t_law8
  repeat' first | exact free_none | refine free_bind (fun z => ?_) | refine free_ite ?_ ?_ | refine free_sum (fun z => ?_) (fun z => ?_) | rfl
theorem r_law8 (c_CodeR : a_CodeR → Option g_CodeR) (c_Rig : a_Rig → Option g_Rig) (c_Cert : a_Cert → Option g_Cert) (c_Path : a_Path → Option g_Path) (c_changedR : a_changedR → Option g_changedR) (c_CVer : a_CVer → Option g_CVer) (c_Within : a_Within → Option g_Within) (c_Total : a_Total → Option g_Total) (c_lives : a_lives → Option g_lives) (x : a_law8) : callK E3 (ftab 12 (fun _ _ => true) A_CodeR x_CodeR c_CodeR (ftab 13 (fun _ _ => true) A_Rig x_Rig c_Rig (ftab 14 (fun _ _ => true) A_Cert x_Cert c_Cert (ftab 25 (fun _ _ => true) A_Path x_Path c_Path (ftab 18 (fun _ _ => true) A_changedR x_changedR c_changedR (ftab 19 (fun _ _ => true) A_CVer x_CVer c_CVer (ftab 24 (fun _ _ => true) A_Within x_Within c_Within (ftab 26 (fun _ _ => true) A_Total x_Total c_Total (ftab 17 (fun _ _ => true) A_lives x_lives c_lives ca0))))))))) lo0 8 (A_law8 x).1 (A_law8 x).2 K = t_law8 (fun x => viaF A_CodeR c_CodeR (A_CodeR x)) (fun x => viaF A_Rig c_Rig (A_Rig x)) (fun x => viaF A_Cert c_Cert (A_Cert x)) (fun x => viaF A_Path c_Path (A_Path x)) (fun x => viaF A_changedR c_changedR (A_changedR x)) (fun x => viaF A_CVer c_CVer (A_CVer x)) (fun x => viaF A_Within c_Within (A_Within x)) (fun x => viaF A_Total c_Total (A_Total x)) (fun x => viaF A_lives c_lives (A_lives x)) x (fun z => some (.c (R_law8 z))) := by kernel_rfl
theorem s_law8 (c_CodeR : a_CodeR → Option g_CodeR) (h_CodeR : ∀ x z, c_CodeR x = some z → SC E3 12 (A_CodeR x).1 (A_CodeR x).2 (R_CodeR z)) (c_Rig : a_Rig → Option g_Rig) (h_Rig : ∀ x z, c_Rig x = some z → SC E3 13 (A_Rig x).1 (A_Rig x).2 (R_Rig z)) (c_Cert : a_Cert → Option g_Cert) (h_Cert : ∀ x z, c_Cert x = some z → SC E3 14 (A_Cert x).1 (A_Cert x).2 (R_Cert z)) (c_Path : a_Path → Option g_Path) (h_Path : ∀ x z, c_Path x = some z → SC E3 25 (A_Path x).1 (A_Path x).2 (R_Path z)) (c_changedR : a_changedR → Option g_changedR) (h_changedR : ∀ x z, c_changedR x = some z → SC E3 18 (A_changedR x).1 (A_changedR x).2 (R_changedR z)) (c_CVer : a_CVer → Option g_CVer) (h_CVer : ∀ x z, c_CVer x = some z → SC E3 19 (A_CVer x).1 (A_CVer x).2 (R_CVer z)) (c_Within : a_Within → Option g_Within) (h_Within : ∀ x z, c_Within x = some z → SC E3 24 (A_Within x).1 (A_Within x).2 (R_Within z)) (c_Total : a_Total → Option g_Total) (h_Total : ∀ x z, c_Total x = some z → SC E3 26 (A_Total x).1 (A_Total x).2 (R_Total z)) (c_lives : a_lives → Option g_lives) (h_lives : ∀ x z, c_lives x = some z → SC E3 17 (A_lives x).1 (A_lives x).2 (R_lives z)) (q : Nat) (x : a_law8) (z : g_law8) (h : t_law8 c_CodeR c_Rig c_Cert c_Path c_changedR c_CVer c_Within c_Total c_lives x some = some z) : SC E3 8 (A_law8 x).1 (A_law8 x).2 (R_law8 z) := by
  refine SC.of hW3 hX3 (ftab_cons h_CodeR xe_CodeR (ftab_cons h_Rig xe_Rig (ftab_cons h_Cert xe_Cert (ftab_cons h_Path xe_Path (ftab_cons h_changedR xe_changedR (ftab_cons h_CVer xe_CVer (ftab_cons h_Within xe_Within (ftab_cons h_Total xe_Total (ftab_cons h_lives xe_lives ca0_sound))))))))) lo0_sound ((r_law8 c_CodeR c_Rig c_Cert c_Path c_changedR c_CVer c_Within c_Total c_lives x).trans ?_)
  rw [via_eq i_CodeR c_CodeR, via_eq i_Rig c_Rig, via_eq i_Cert c_Cert, via_eq i_Path c_Path, via_eq i_changedR c_changedR, via_eq i_CVer c_CVer, via_eq i_Within c_Within, via_eq i_Total c_Total, via_eq i_lives c_lives, n_law8, h]; rfl
noncomputable def law8 (q : Nat) (x : a_law8) : Option g_law8 := t_law8 (CodeR q) (Rig q) (Cert q) (Path q) (changedR q) (CVer q) (Within q) (Total q) (lives q) x some
theorem sc_law8 (q : Nat) : ∀ (x : a_law8) (z : g_law8), law8 q x = some z → SC E3 8 (A_law8 x).1 (A_law8 x).2 (R_law8 z) := fun x z h => s_law8 (CodeR q) (sc_CodeR q) (Rig q) (sc_Rig q) (Cert q) (sc_Cert q) (Path q) (sc_Path q) (changedR q) (sc_changedR q) (CVer q) (sc_CVer q) (Within q) (sc_Within q) (Total q) (sc_Total q) (lives q) (sc_lives q) q x z h
abbrev a_law9 : Type := Nat × (Nat → Int) × Nat × (Nat → Int)
abbrev g_law9 : Type := Bool
def A_law9 : a_law9 → List V × List (Option Chunk) := (fun x => (fun (l : Nat) (ly : Nat → Int) (g : Nat) (gy : Nat → Int) => (([.ro 1 l (fun j => [i64 (ly j)]), .ro 1 g (fun j => [i64 (gy j)])] : List V), ([] : List (Option Chunk)))) x.1 x.2.1 x.2.2.1 x.2.2.2)
def R_law9 : g_law9 → CRes := (fun z => CRes.ret (bo z) [] : (Bool) → CRes)
def t_law9 {β : Type} (c_CodeR : a_CodeR → Option g_CodeR) (c_Rig : a_Rig → Option g_Rig) (c_Cert : a_Cert → Option g_Cert) (c_PathN : a_PathN → Option g_PathN) (c_Total : a_Total → Option g_Total) (c_lives : a_lives → Option g_lives) (x : a_law9) (dn : g_law9 → Option β) : Option β :=
 (c_CodeR ((true, x.1, x.2.1))).bind fun z3 =>
  (c_Rig (x.2.2)).bind fun z6 =>
   (c_Cert ((pName, (0 : Int), (0 : Int), z3.1, z3.2.1, z3.2.2, z6))).bind fun z19 =>
    if (z19.1 != (0 : Int)) = true then
     if (z19.1 == (5 : Int)) = true then
      (c_lives ()).bind fun z20 =>
       dn z20
     else
      dn false
    else
     (c_PathN ((pName, (0 : Int), (0 : Int), z3.1, z3.2.1, z3.2.2, z6.1, z6.2.1, z6.2.2.1, z6.2.2.2.1, z6.2.2.2.2.1, z6.2.2.2.2.2, (3000 : Int)))).bind fun z34 =>
      if (!z34.2.2.2.2.2.2) = true then
       (c_lives ()).bind fun z35 =>
        dn z35
      else
       (c_Total (z19.2)).bind fun z43 =>
        if (if false = true then !(z43.1 == z34.1 && (z43.2.1 == z34.2.1 && (z43.2.2.1 == z34.2.2.1 && (z43.2.2.2.1 == z34.2.2.2.1 && (z43.2.2.2.2.1 == z34.2.2.2.2.1 && (z43.2.2.2.2.2 == z34.2.2.2.2.2.1 && true)))))) else z43.1 == z34.1 && (z43.2.1 == z34.2.1 && (z43.2.2.1 == z34.2.2.1 && (z43.2.2.2.1 == z34.2.2.2.1 && (z43.2.2.2.2.1 == z34.2.2.2.2.1 && (z43.2.2.2.2.2 == z34.2.2.2.2.2.1 && true)))))) = true then
         (c_lives ()).bind fun z44 =>
          dn z44
        else
         dn false
theorem n_law9 {β : Type} (c_CodeR : a_CodeR → Option g_CodeR) (c_Rig : a_Rig → Option g_Rig) (c_Cert : a_Cert → Option g_Cert) (c_PathN : a_PathN → Option g_PathN) (c_Total : a_Total → Option g_Total) (c_lives : a_lives → Option g_lives) (x : a_law9) (dn : g_law9 → Option β) : t_law9 c_CodeR c_Rig c_Cert c_PathN c_Total c_lives x dn = (t_law9 c_CodeR c_Rig c_Cert c_PathN c_Total c_lives x some).bind dn := by
  unfold t_law9
  repeat' first | exact free_none | refine free_bind (fun z => ?_) | refine free_ite ?_ ?_ | refine free_sum (fun z => ?_) (fun z => ?_) | rfl
theorem r_law9 (c_CodeR : a_CodeR → Option g_CodeR) (c_Rig : a_Rig → Option g_Rig) (c_Cert : a_Cert → Option g_Cert) (c_PathN : a_PathN → Option g_PathN) (c_Total : a_Total → Option g_Total) (c_lives : a_lives → Option g_lives) (x : a_law9) : callK E3 (ftab 12 (fun _ _ => true) A_CodeR x_CodeR c_CodeR (ftab 13 (fun _ _ => true) A_Rig x_Rig c_Rig (ftab 14 (fun _ _ => true) A_Cert x_Cert c_Cert (ftab 25 (fun a _ => isNil (a.getD 2 .junk)) A_PathN x_PathN c_PathN (ftab 26 (fun _ _ => true) A_Total x_Total c_Total (ftab 17 (fun _ _ => true) A_lives x_lives c_lives ca0)))))) lo0 9 (A_law9 x).1 (A_law9 x).2 K = t_law9 (fun x => viaF A_CodeR c_CodeR (A_CodeR x)) (fun x => viaF A_Rig c_Rig (A_Rig x)) (fun x => viaF A_Cert c_Cert (A_Cert x)) (fun x => viaF A_PathN c_PathN (A_PathN x)) (fun x => viaF A_Total c_Total (A_Total x)) (fun x => viaF A_lives c_lives (A_lives x)) x (fun z => some (.c (R_law9 z))) := by kernel_rfl
theorem s_law9 (c_CodeR : a_CodeR → Option g_CodeR) (h_CodeR : ∀ x z, c_CodeR x = some z → SC E3 12 (A_CodeR x).1 (A_CodeR x).2 (R_CodeR z)) (c_Rig : a_Rig → Option g_Rig) (h_Rig : ∀ x z, c_Rig x = some z → SC E3 13 (A_Rig x).1 (A_Rig x).2 (R_Rig z)) (c_Cert : a_Cert → Option g_Cert) (h_Cert : ∀ x z, c_Cert x = some z → SC E3 14 (A_Cert x).1 (A_Cert x).2 (R_Cert z)) (c_PathN : a_PathN → Option g_PathN) (h_PathN : ∀ x z, c_PathN x = some z → SC E3 25 (A_PathN x).1 (A_PathN x).2 (R_PathN z)) (c_Total : a_Total → Option g_Total) (h_Total : ∀ x z, c_Total x = some z → SC E3 26 (A_Total x).1 (A_Total x).2 (R_Total z)) (c_lives : a_lives → Option g_lives) (h_lives : ∀ x z, c_lives x = some z → SC E3 17 (A_lives x).1 (A_lives x).2 (R_lives z)) (q : Nat) (x : a_law9) (z : g_law9) (h : t_law9 c_CodeR c_Rig c_Cert c_PathN c_Total c_lives x some = some z) : SC E3 9 (A_law9 x).1 (A_law9 x).2 (R_law9 z) := by
  refine SC.of hW3 hX3 (ftab_cons h_CodeR xe_CodeR (ftab_cons h_Rig xe_Rig (ftab_cons h_Cert xe_Cert (ftab_cons h_PathN xe_PathN (ftab_cons h_Total xe_Total (ftab_cons h_lives xe_lives ca0_sound)))))) lo0_sound ((r_law9 c_CodeR c_Rig c_Cert c_PathN c_Total c_lives x).trans ?_)
  rw [via_eq i_CodeR c_CodeR, via_eq i_Rig c_Rig, via_eq i_Cert c_Cert, via_eq i_PathN c_PathN, via_eq i_Total c_Total, via_eq i_lives c_lives, n_law9, h]; rfl
noncomputable def law9 (q : Nat) (x : a_law9) : Option g_law9 := t_law9 (CodeR q) (Rig q) (Cert q) (PathN q) (Total q) (lives q) x some
theorem sc_law9 (q : Nat) : ∀ (x : a_law9) (z : g_law9), law9 q x = some z → SC E3 9 (A_law9 x).1 (A_law9 x).2 (R_law9 z) := fun x z h => s_law9 (CodeR q) (sc_CodeR q) (Rig q) (sc_Rig q) (Cert q) (sc_Cert q) (PathN q) (sc_PathN q) (Total q) (sc_Total q) (lives q) (sc_lives q) q x z h
end Go.Proofs.Ythegipdgillngaa
/- The cost of a path is within the certificate (plain). -/
namespace Go.Proofs.Ythegipdgillngaa
open Go Go.Am Go.Proofs
set_option linter.unusedSimpArgs false
set_option linter.unusedVariables false
set_option maxRecDepth 100000
open Go.Proofs.Cv (Cd upd rng rngL rngH stopOk Pl plcP pureP jmp jmps VP zero)
def lvL (N : Nat) (q : Pl) (j : Nat) : Int := if j < N then q.oL j else q.lo
def lvW (N : Nat) (q : Pl) (j : Nat) : Int := if j < N then q.oW j else q.wa
/-- How the levels of a place and the next one hang together. -/
structure Loc (c : Cd) (l v : Nat → Int) (i : Nat) : Prop where
  lt : -1 ≤ l i ∧ l i < i
  pure : v i ≠ -1 → c.op i = 20 ∨ pureP (c.op i) = true
  c16 : c.op i = 16 → l (i + 1) = i ∧ v (i + 1) = v i
  c19 : c.op i = 19 → l (i + 1) = l i ∧ v (i + 1) = i
  c17 : c.op i = 17 → l i ≠ -1 ∧ c.arg i = l i + 1 ∧ l (i + 1) = l (l i).toNat ∧ v (i + 1) = v (l i).toNat
  c20 : c.op i = 20 → v i ≠ -1 ∧ c.arg i = v i + 1 ∧ l (i + 1) = l i ∧ v (i + 1) = -1
  oth : c.op i ≠ 16 → c.op i ≠ 19 → c.op i ≠ 17 → c.op i ≠ 20 → l (i + 1) = l i ∧ v (i + 1) = v i
theorem plc_loc (c : Cd) (N : Nat) : ∀ (r i : Nat) (q q' : Pl), i + r = N → (-1 ≤ q.lo ∧ q.lo < i) → (∀ j, j < i → -1 ≤ q.oL j ∧ q.oL j < j) → plcP c r i q = some q' →
    (∀ j, j < i → q'.oL j = q.oL j ∧ q'.oW j = q.oW j) ∧ lvL N q' i = q.lo ∧ lvW N q' i = q.wa ∧ ∀ j, i ≤ j → j < N → Loc c (lvL N q') (lvW N q') j := by
  intro r
  induction r with
  | zero =>
    intro i q q' hi hl hj h
    cases h
    have : ¬ i < N := by omega
    exact ⟨fun j _ => ⟨rfl, rfl⟩, if_neg this, if_neg this, fun j h1 h2 => by omega⟩
  | succ r ih =>
    intro i q q' hi hl hj h
    have hiN : i < N := by omega
    -- what all next states give
    have fin : ∀ lo wa, (-1 ≤ lo ∧ lo < ((i + 1 : Nat) : Int)) → plcP c r (i + 1) ⟨upd q.oL i q.lo, upd q.oW i q.wa, lo, wa⟩ = some q' →
        (∀ j, j < i → q'.oL j = q.oL j ∧ q'.oW j = q.oW j) ∧ lvL N q' i = q.lo ∧ lvW N q' i = q.wa ∧ lvL N q' (i + 1) = lo ∧ lvW N q' (i + 1) = wa ∧ ∀ j, i + 1 ≤ j → j < N → Loc c (lvL N q') (lvW N q') j := by
      intro lo wa hlo h
      obtain ⟨k1, k2, k3, k4⟩ := ih (i + 1) _ q' (by omega) hlo (fun j hj' => by
        by_cases hji : j = i
        · subst hji
          show -1 ≤ upd q.oL j q.lo j ∧ upd q.oL j q.lo j < j
          rw [Cv.upd_same]; exact hl
        · show -1 ≤ upd q.oL i q.lo j ∧ upd q.oL i q.lo j < j
          rw [Cv.upd_ne hji]; exact hj j (by omega)) h
      have ki := k1 i (by omega)
      refine ⟨fun j hj' => ?_, ?_, ?_, k2, k3, k4⟩
      · have := k1 j (by omega)
        simp only at this
        rw [Cv.upd_ne (by omega), Cv.upd_ne (by omega)] at this
        exact this
      · unfold lvL; rw [if_pos hiN, ki.1]; exact Cv.upd_same _ _ _
      · unfold lvW; rw [if_pos hiN, ki.2]; exact Cv.upd_same _ _ _
    rw [plcP] at h
    split at h
    · cases h
    rename_i hp
    have hpure : q.wa ≠ -1 → c.op i = 20 ∨ pureP (c.op i) = true := fun hw => by
      by_cases h20 : c.op i = 20
      · exact .inl h20
      · right
        cases hb : pureP (c.op i) with
        | true => rfl
        | false => exact absurd ⟨hw, h20, hb⟩ hp
    have done : ∀ lo wa, (-1 ≤ lo ∧ lo < ((i + 1 : Nat) : Int)) → plcP c r (i + 1) ⟨upd q.oL i q.lo, upd q.oW i q.wa, lo, wa⟩ = some q' →
        ((lvL N q' i = q.lo ∧ lvW N q' i = q.wa ∧ lvL N q' (i + 1) = lo ∧ lvW N q' (i + 1) = wa ∧ ∀ j, j < i → lvL N q' j = q.oL j ∧ lvW N q' j = q.oW j) → Loc c (lvL N q') (lvW N q') i) →
        (∀ j, j < i → q'.oL j = q.oL j ∧ q'.oW j = q.oW j) ∧ lvL N q' i = q.lo ∧ lvW N q' i = q.wa ∧ ∀ j, i ≤ j → j < N → Loc c (lvL N q') (lvW N q') j := by
      intro lo wa hlo h g
      obtain ⟨k1, k2, k3, k4, k5, k6⟩ := fin lo wa hlo h
      refine ⟨k1, k2, k3, fun j j1 j2 => ?_⟩
      by_cases hji : j = i
      · subst hji
        refine g ⟨k2, k3, k4, k5, fun t ht => ?_⟩
        unfold lvL lvW
        rw [if_pos (by omega), if_pos (by omega)]
        exact k1 t ht
      · exact k6 j (by omega) j2
    split at h
    · rename_i h16
      refine done _ _ (by omega) h fun ⟨e1, e2, e3, e4, e5⟩ => ⟨by rw [e1]; exact hl, by rw [e2]; exact hpure, fun _ => ⟨e3, by rw [e4, e2]⟩, fun g => absurd g (by rw [h16]; decide), fun g => absurd g (by rw [h16]; decide), fun g => absurd g (by rw [h16]; decide), fun g => absurd h16 g⟩
    rename_i h16
    split at h
    · rename_i h19
      refine done _ _ (by omega) h fun ⟨e1, e2, e3, e4, e5⟩ => ⟨by rw [e1]; exact hl, by rw [e2]; exact hpure, fun g => absurd g h16, fun _ => ⟨by rw [e3, e1], e4⟩, fun g => absurd g (by rw [h19]; decide), fun g => absurd g (by rw [h19]; decide), fun _ g => absurd h19 g⟩
    rename_i h19
    split at h
    · rename_i h17
      split at h
      · cases h
      rename_i hb
      have hb1 : q.lo ≠ -1 := fun e => hb (.inl e)
      have hb2 : c.arg i = q.lo + 1 := Classical.byContradiction fun e => hb (.inr e)
      have ht : q.lo.toNat < i := by omega
      have hr := hj q.lo.toNat ht
      rw [Cv.upd_ne (by omega), Cv.upd_ne (by omega)] at h
      refine done _ _ (by omega) h fun ⟨e1, e2, e3, e4, e5⟩ => ⟨by rw [e1]; exact hl, by rw [e2]; exact hpure, fun g => absurd g h16, fun g => absurd g h19, fun _ => ⟨by rw [e1]; exact hb1, by rw [e1]; exact hb2, by rw [e3, e1, (e5 _ ht).1], by rw [e4, e1, (e5 _ ht).2]⟩, fun g => absurd g (by rw [h17]; decide), fun _ _ g => absurd h17 g⟩
    rename_i h17
    split at h
    · rename_i h20
      split at h
      · cases h
      rename_i hb
      have hb1 : q.wa ≠ -1 := fun e => hb (.inl e)
      have hb2 : c.arg i = q.wa + 1 := Classical.byContradiction fun e => hb (.inr e)
      refine done _ _ (by omega) h fun ⟨e1, e2, e3, e4, e5⟩ => ⟨by rw [e1]; exact hl, by rw [e2]; exact hpure, fun g => absurd g h16, fun g => absurd g h19, fun g => absurd g h17, fun _ => ⟨by rw [e2]; exact hb1, by rw [e2]; exact hb2, by rw [e3, e1], e4⟩, fun _ _ _ g => absurd h20 g⟩
    rename_i h20
    refine done _ _ (by omega) h fun ⟨e1, e2, e3, e4, e5⟩ => ⟨by rw [e1]; exact hl, by rw [e2]; exact hpure, fun g => absurd g h16, fun g => absurd g h19, fun g => absurd g h17, fun g => absurd g h20, fun _ _ _ _ => ⟨by rw [e3, e1], by rw [e4, e2]⟩⟩
/-- The levels of valid code. -/
structure Lvs (n : Nat) (op arg : Nat → Int) (l v : Nat → Int) : Prop where
  l0 : l 0 = -1
  v0 : v 0 = -1
  ln : l n = -1
  vn : v n = -1
  loc : ∀ j, j < n → Loc (mkC 0 n op arg) l v j
  jm : ∀ j, j < n → (op j = 14 ∨ op j = 15) → l (arg j).toNat = l j ∧ v (arg j).toNat = v j
section
variable {n : Nat} {op arg : Nat → Int} {k : Nat} {a b c : Nat → Int} {R W : Int}
theorem Fit.lvs (h : Fit 0 n op arg k a b c R W) : ∃ l v, Lvs n op arg l v := by
  obtain ⟨q, h2, ⟨h3, h4⟩, h5⟩ := h.vp.2.1
  obtain ⟨k1, k2, k3, k4⟩ := plc_loc (mkC 0 n op arg) n n 0 _ q (by omega) ⟨Int.le_refl _, by decide⟩ (fun j hj => by omega) h2
  refine ⟨lvL n q, lvW n q, k2, k3, ?_, ?_, fun j hj => k4 j (Nat.zero_le _) hj, fun j hj ho => ?_⟩
  · unfold lvL; rw [if_neg (by omega)]; exact h3
  · unfold lvW; rw [if_neg (by omega)]; exact h4
  · have := h5 j hj ho
    have hr := h.jump hj ho
    unfold lvL lvW
    rw [if_pos (by omega), if_pos (by omega), if_pos (by omega), if_pos (by omega)]
    exact this
theorem Lvs.loop {l v : Nat → Int} (hv : Lvs n op arg l v) : ∀ (m i : Nat), i < m → i ≤ n → l i ≠ -1 → ∃ r : Nat, l i = r ∧ r < i ∧ r < n ∧ op r = 16 := by
  intro m
  induction m with
  | zero => intro i h; omega
  | succ m ih =>
    intro i him hin hl
    cases i with
    | zero => exact absurd hv.l0 hl
    | succ i =>
      have lc := hv.loc i (by omega)
      have same : l (i + 1) = l i → ∃ r : Nat, l (i + 1) = r ∧ r < i + 1 ∧ r < n ∧ op r = 16 := fun e => by
        rw [e] at hl ⊢
        obtain ⟨r, h1, h2, h3, h4⟩ := ih i (by omega) (by omega) hl
        exact ⟨r, h1, by omega, h3, h4⟩
      by_cases h16 : op i = 16
      · exact ⟨i, (lc.c16 h16).1, by omega, by omega, h16⟩
      by_cases h19 : op i = 19
      · exact same (lc.c19 h19).1
      by_cases h17 : op i = 17
      · obtain ⟨g1, g2, g3, g4⟩ := lc.c17 h17
        have := lc.lt
        obtain ⟨r, h1, h2, h3, h4⟩ := ih (l i).toNat (by omega) (by omega) (by rw [← g3]; exact hl)
        exact ⟨r, by rw [g3, h1], by omega, h3, h4⟩
      by_cases h20 : op i = 20
      · exact same (lc.c20 h20).2.2.1
      exact same (lc.oth h16 h19 h17 h20).1
theorem Lvs.free {l v : Nat → Int} (hv : Lvs n op arg l v) {i : Nat} (hi : i < n) (ho : op i = 16 ∨ op i = 17 ∨ op i = 19) : v i = -1 := by
  refine Classical.byContradiction fun g => ?_
  have hpu : op i = 20 ∨ pureP (op i) = true := (hv.loc i hi).pure g
  unfold pureP at hpu
  simp at hpu
  omega
theorem Lvs.wait {l v : Nat → Int} (hv : Lvs n op arg l v) : ∀ (i : Nat), i ≤ n → v i ≠ -1 → ∃ d : Nat, v i = d ∧ d < i ∧ op d = 19 ∧ l i = l d := by
  intro i
  induction i with
  | zero => intro _ h; exact absurd hv.v0 h
  | succ i ih =>
    intro hin hw
    have lc := hv.loc i (by omega)
    have same : v (i + 1) = v i → l (i + 1) = l i → ∃ d : Nat, v (i + 1) = d ∧ d < i + 1 ∧ op d = 19 ∧ l (i + 1) = l d := fun e e2 => by
      rw [e] at hw ⊢
      obtain ⟨d, h1, h2, h3, h4⟩ := ih (by omega) hw
      exact ⟨d, h1, by omega, h3, by rw [e2, h4]⟩
    by_cases h16 : op i = 16
    · exact absurd (by rw [(lc.c16 h16).2]; exact hv.free (by omega) (.inl h16)) hw
    by_cases h19 : op i = 19
    · exact ⟨i, (lc.c19 h19).2, by omega, h19, (lc.c19 h19).1⟩
    by_cases h17 : op i = 17
    · obtain ⟨g1, g2, g3, g4⟩ := lc.c17 h17
      obtain ⟨r, h1, h2, h3, h4⟩ := hv.loop (i + 1) i (by omega) (by omega) g1
      exact absurd (by rw [g4, h1, Int.toNat_natCast]; exact hv.free h3 (.inl h4)) hw
    by_cases h20 : op i = 20
    · exact absurd (lc.c20 h20).2.2.2 hw
    exact same (lc.oth h16 h19 h17 h20).2 (lc.oth h16 h19 h17 h20).1
theorem addE_min {u v : Int} (hu : inM u) (hv : inM v) : addE u v = min 2147483647 (u + v) := by
  rw [addE_eq hu hv]; split <;> omega
theorem tmE_min {u t : Int} (hu : inM u) (ht : 0 ≤ t ∧ t ≤ 1000000) : tmE u t = min 2147483647 (u * t) := by
  rw [tmE_eq hu ht]; split <;> omega
/-- The costs of the certificate. -/
abbrev Yc (n : Nat) (op arg : Nat → Int) (a b : Nat → Int) (R W : Int) : Nat → Nat → Int := certF 0 n op arg a b R W
theorem Y_in (h : Fit 0 n op arg k a b c R W) {i : Nat} (hi : i < n) {q : Nat} (hq : q < 6) : inM (Yc n op arg a b R W q i) := cert_rows h n 0 (by omega) i (Nat.zero_le _) hi q hq
theorem Y_end (h : Fit 0 n op arg k a b c R W) {i : Nat} (hi : i < n) {q : Nat} (hq : q < 6) (ho : op i = 28 ∨ op i = 27 ∨ op i = 17) : Yc n op arg a b R W q i = 0 := by
  unfold Yc
  rw [cert_fix h hi hq, ndF, if_pos (show (mkC 0 n op arg).op i = 28 ∨ (mkC 0 n op arg).op i = 27 ∨ (mkC 0 n op arg).op i = 17 from ho)]
theorem Y_jump (h : Fit 0 n op arg k a b c R W) {i : Nat} (hi : i < n) {q : Nat} (hq : q < 6) (ho : op i = 14) : Yc n op arg a b R W q i = Yc n op arg a b R W q (arg i).toNat := by
  have e : (mkC 0 n op arg).op i = 14 := ho
  unfold Yc
  rw [cert_fix h hi hq, ndF, if_neg (by rw [e]; decide), if_pos e]
  exact nthI_rc _ _ hq
theorem Y_unless (h : Fit 0 n op arg k a b c R W) {i : Nat} (hi : i < n) {q : Nat} (hq : q < 6) (ho : op i = 15) : Yc n op arg a b R W q i = max (Yc n op arg a b R W q (i + 1)) (Yc n op arg a b R W q (arg i).toNat) := by
  have e : (mkC 0 n op arg).op i = 15 := ho
  unfold Yc
  rw [cert_fix h hi hq, ndF, if_neg (by rw [e]; decide), if_neg (by rw [e]; decide), if_pos e]
  show mxE (nthI _ q) (nthI _ q) = _
  rw [nthI_rc _ _ hq, nthI_rc _ _ hq]
  show mxE _ (certF 0 n op arg a b R W q (arg i).toNat) = _
  unfold mxE
  split <;> omega
def eN (n : Nat) (op arg : Nat → Int) (i : Nat) : Nat := (Cv.endF (mkC 0 n op arg) i).toNat
theorem Y_repeat (h : Fit 0 n op arg k a b c R W) {i : Nat} (hi : i < n) {q : Nat} (hq : q < 6) (ho : op i = 16) : Yc n op arg a b R W q i = min 2147483647 (min 2147483647 (Yc n op arg a b R W q (i + 1) * arg i) + Yc n op arg a b R W q (eN n op arg i + 1)) := by
  have e : (mkC 0 n op arg).op i = 16 := ho
  have hl := h.loop hi ho
  have hs := h.stop hi (by rw [ho]; decide)
  have ha := h.opnd hi
  unfold Cv.rngL Cv.rngH at ha
  rw [ho] at ha
  simp at ha
  have ee : (Cv.endF (mkC 0 n op arg) i + 1).toNat = eN n op arg i + 1 := by unfold eN; omega
  have h1 := Y_in h hs hq
  have h2 := Y_in h (i := eN n op arg i + 1) (by unfold eN; omega) hq
  unfold Yc at h1 h2 ⊢
  rw [cert_fix h hi hq, ndF, if_neg (by rw [e]; decide), if_neg (by rw [e]; decide), if_neg (by rw [e]; decide), if_pos e]
  show addE (tmE (nthI _ q) _) (nthI _ q) = _
  rw [nthI_rc _ _ hq, nthI_rc _ _ hq, ee]
  show addE (tmE _ (arg i)) _ = _
  rw [addE_min (tmE_in h1 ⟨by omega, by omega⟩) h2, tmE_min h1 ⟨by omega, by omega⟩]
theorem Y_other (h : Fit 0 n op arg k a b c R W) {i : Nat} (hi : i < n) {q : Nat} (hq : q < 6) (ho : op i ≠ 28 ∧ op i ≠ 27 ∧ op i ≠ 17 ∧ op i ≠ 14 ∧ op i ≠ 15 ∧ op i ≠ 16) : Yc n op arg a b R W q i = min 2147483647 (owE a b R W (op i) (arg i) q + Yc n op arg a b R W q (i + 1)) := by
  have e : (mkC 0 n op arg).op i = op i := rfl
  have hs := h.stop hi ho.1
  have h1 := Y_in h hs hq
  have h2 := own_in h hi hq
  unfold Yc at h1 ⊢
  rw [cert_fix h hi hq, ndF, if_neg (by rw [e]; omega), if_neg (by rw [e]; omega), if_neg (by rw [e]; omega), if_neg (by rw [e]; omega)]
  show addE _ (nthI _ q) = _
  rw [nthI_rc _ _ hq]
  exact addE_min h2 h1
theorem eN_hit (h : Fit 0 n op arg k a b c R W) {r i : Nat} (hr : r < n) (h16 : op r = 16) (hi : i < n) (h17 : op i = 17) (ha : arg i = (r : Int) + 1) : eN n op arg r = i := by
  obtain ⟨j, h1, h2, h3, h4⟩ := Cv.loop_end h.vp hr h16
  have h17' : ∀ k, k < (mkC 0 n op arg).n → (mkC 0 n op arg).op k = 17 → 1 ≤ (mkC 0 n op arg).arg k := fun k hk h => ((Cv.rng_17 (c := mkC 0 n op arg) (i := k) (.inl h)).1 (‹Fit 0 n op arg _ a b c R W›.vp.1 k hk).1).1
  have e := Cv.endA_eq (c := mkC 0 n op arg) h17' (by omega) h3 h4 n (Nat.le_refl _)
  have hj : j < n := by have : j + 1 < n := h2; omega
  rw [if_pos hj] at e
  have hij : i = j := h4 i hi ⟨h17, ha⟩
  show (Cv.endA (mkC 0 n op arg) n r).toNat = i
  rw [e, hij, Int.toNat_natCast]
/-- The loops (the innermost first) are those of a place at this level. -/
inductive Lst (n : Nat) (op : Nat → Int) (l : Nat → Int) : Int → List (Int × Int) → Prop
  | nil : Lst n op l (-1) []
  | cons {r : Nat} {t : Int} {L : List (Int × Int)} : r < n → op r = 16 → (1 ≤ t ∧ t ≤ 1000000) → Lst n op l (l r) L → Lst n op l r (((r : Int) + 1, t) :: L)
theorem Lst.of_nil {l : Nat → Int} {L : List (Int × Int)} (h : Lst n op l (-1) L) : L = [] := by
  generalize hg : (-1 : Int) = g at h
  cases h with
  | nil => rfl
  | cons _ _ _ _ => omega
theorem Lst.of_cons {l : Nat → Int} {r : Int} {L : List (Int × Int)} (h : Lst n op l r L) (hr : r ≠ -1) : ∃ (u : Nat) (t : Int) (L' : List (Int × Int)), r = u ∧ L = ((u : Int) + 1, t) :: L' ∧ u < n ∧ op u = 16 ∧ (1 ≤ t ∧ t ≤ 1000000) ∧ Lst n op l (l u) L' := by
  cases h with
  | nil => exact absurd rfl hr
  | cons h1 h2 h3 h4 => exact ⟨_, _, _, rfl, rfl, h1, h2, h3, h4⟩
/-- What the loops may still cost. -/
def Lpot (n : Nat) (op arg : Nat → Int) (Y : Nat → Int) : List (Int × Int) → Int
  | [] => 0
  | (u, t) :: L => (t - 1) * Y u.toNat + Y (eN n op arg (u.toNat - 1) + 1) + Lpot n op arg Y L
theorem Lpot_nn (h : Fit 0 n op arg k a b c R W) {q : Nat} (hq : q < 6) {l : Nat → Int} {r : Int} {L : List (Int × Int)} (hL : Lst n op l r L) : 0 ≤ Lpot n op arg (Yc n op arg a b R W q) L := by
  induction hL with
  | nil => exact Int.le_refl _
  | @cons r t L h1 h2 h3 _ ih =>
    have hl := h.loop h1 h2
    have hs := h.stop h1 (by rw [h2]; decide)
    have y1 := Y_in h hs hq
    have y2 := Y_in h (i := eN n op arg r + 1) (by unfold eN; omega) hq
    unfold inM at y1 y2
    have m := Int.mul_nonneg (show (0 : Int) ≤ t - 1 by omega) y1.1
    unfold Lpot
    have e : ((r : Int) + 1).toNat = r + 1 := by omega
    rw [e, Nat.add_sub_cancel]
    omega
/-- What the place may still cost, without its loops. -/
def Hd (v : Nat → Int) (Y : Nat → Nat → Int) (p left : Int) (q : Nat) : Int := if v p.toNat = -1 then Y q p.toNat else Y q (v p.toNat + 1).toNat + if q = 5 then left else 0
structure Inv (n : Nat) (op arg : Nat → Int) (Y : Nat → Nat → Int) (tl : Bool) (l v : Nat → Int) (p left : Int) (L : List (Int × Int)) (s : Nat → Int) : Prop where
  rng : 0 ≤ p ∧ p < n
  lst : Lst n op l (l p.toNat) L
  lefts : 0 ≤ left ∧ left ≤ 2147483647
  sums : ∀ q, q < 6 → inM (s q)
  head : v p.toNat ≠ -1 → -1 < v p.toNat ∧ v p.toNat + 1 < n ∧ ∀ q, q < 6 → Y q p.toNat ≤ Y q (v p.toNat + 1).toNat
  pot : ∀ q, q < 6 → min 2147483647 (s q + Hd v Y p left q + Lpot n op arg (Y q) L) ≤ Y q 0 ∧ (tl = true → Y q 0 ≤ min 2147483647 (s q + Hd v Y p left q + Lpot n op arg (Y q) L))
variable {l v : Nat → Int} {tl : Bool} {p left : Int} {L : List (Int × Int)} {s : Nat → Int}
theorem Inv.start (h : Fit 0 n op arg k a b c R W) (hv : Lvs n op arg l v) : Inv n op arg (Yc n op arg a b R W) tl l v 0 0 [] (fun _ => 0) := by
  have h0 := h.n0
  refine ⟨by omega, ?_, by omega, fun q _ => z_in, fun g => absurd hv.v0 g, fun q hq => ?_⟩
  · show Lst n op l (l 0) []
    rw [hv.l0]; exact .nil
  · have y := Y_in h (i := 0) (by omega) hq
    have e : Hd v (Yc n op arg a b R W) 0 0 q = Yc n op arg a b R W q 0 := if_pos hv.v0
    rw [e]
    unfold inM at y
    unfold Lpot
    omega
/-- Forward, within the level, no cost. -/
theorem Inv.go (h : Fit 0 n op arg k a b c R W) (hv : Lvs n op arg l v) (hi : Inv n op arg (Yc n op arg a b R W) tl l v p left L s) {p' : Int} (hr : 0 ≤ p' ∧ p' < n) (hl : l p'.toNat = l p.toNat ∧ v p'.toNat = v p.toNat)
    (hy : ∀ q, q < 6 → Yc n op arg a b R W q p'.toNat ≤ Yc n op arg a b R W q p.toNat) (ht : tl = false) : Inv n op arg (Yc n op arg a b R W) tl l v p' left L s := by
  refine ⟨hr, by rw [hl.1]; exact hi.lst, hi.lefts, hi.sums, fun g => ?_, fun q hq => ⟨?_, fun g => by rw [ht] at g; cases g⟩⟩
  · rw [hl.2] at g ⊢
    obtain ⟨h1, h2, h3⟩ := hi.head g
    exact ⟨h1, h2, fun q hq => Int.le_trans (hy q hq) (h3 q hq)⟩
  · have hp := (hi.pot q hq).1
    have := hy q hq
    unfold Hd at hp ⊢
    rw [hl.2]
    split at hp
    · rename_i g; rw [if_pos g]; omega
    · rename_i g; rw [if_neg g]; exact hp
theorem Inv.jump (h : Fit 0 n op arg k a b c R W) (hv : Lvs n op arg l v) (hi : Inv n op arg (Yc n op arg a b R W) tl l v p left L s) (ht : tl = false) (ho : op p.toNat = 14 ∨ op p.toNat = 15) : Inv n op arg (Yc n op arg a b R W) tl l v (arg p.toNat) left L s := by
  have hp : p.toNat < n := by have := hi.rng; omega
  have hj := h.jump hp ho
  refine hi.go h hv (by omega) (hv.jm _ hp ho) (fun q hq => ?_) ht
  rcases ho with ho | ho
  · rw [Y_jump h hp hq ho]; exact Int.le_refl _
  · rw [Y_unless h hp hq ho]; omega
theorem Inv.fall (h : Fit 0 n op arg k a b c R W) (hv : Lvs n op arg l v) (hi : Inv n op arg (Yc n op arg a b R W) tl l v p left L s) (ht : tl = false) (ho : op p.toNat = 15) : Inv n op arg (Yc n op arg a b R W) tl l v (p + 1) left L s := by
  have hp : p.toNat < n := by have := hi.rng; omega
  have hs := h.stop hp (by rw [ho]; decide)
  have e : (p + 1).toNat = p.toNat + 1 := by have := hi.rng; omega
  have hl := (hv.loc _ hp).oth (by show op _ ≠ _; rw [ho]; decide) (by show op _ ≠ _; rw [ho]; decide) (by show op _ ≠ _; rw [ho]; decide) (by show op _ ≠ _; rw [ho]; decide)
  refine hi.go h hv (by have := hi.rng; omega) (by rw [e]; exact hl) (fun q hq => ?_) ht
  rw [Y_unless h hp hq ho, e]; omega
/-- An instruction with a cost of its own. -/
theorem Inv.own (h : Fit 0 n op arg k a b c R W) (hv : Lvs n op arg l v) (hi : Inv n op arg (Yc n op arg a b R W) tl l v p left L s) (ho : op p.toNat ≠ 28 ∧ op p.toNat ≠ 27 ∧ op p.toNat ≠ 17 ∧ op p.toNat ≠ 14 ∧ op p.toNat ≠ 15 ∧ op p.toNat ≠ 16 ∧ op p.toNat ≠ 19 ∧ op p.toNat ≠ 20)
    {s' : Nat → Int} (hs' : ∀ q, q < 6 → s' q = addE (s q) (owE a b R W (op p.toNat) (arg p.toNat) q)) : Inv n op arg (Yc n op arg a b R W) tl l v (p + 1) left L s' := by
  have hr := hi.rng
  have hp : p.toNat < n := by omega
  have hs := h.stop hp ho.1
  have e : (p + 1).toNat = p.toNat + 1 := by omega
  have lc := hv.loc _ hp
  have hl := lc.oth ho.2.2.2.2.2.1 ho.2.2.2.2.2.2.1 ho.2.2.1 ho.2.2.2.2.2.2.2
  have hn : ∀ q, q < 6 → Yc n op arg a b R W q p.toNat = min 2147483647 (owE a b R W (op p.toNat) (arg p.toNat) q + Yc n op arg a b R W q (p.toNat + 1)) := fun q hq => Y_other h hp hq ⟨ho.1, ho.2.1, ho.2.2.1, ho.2.2.2.1, ho.2.2.2.2.1, ho.2.2.2.2.2.1⟩
  refine ⟨by omega, by rw [e, hl.1]; exact hi.lst, hi.lefts, fun q hq => by rw [hs' q hq]; exact addE_in (hi.sums q hq) (own_in h hp hq), fun g => ?_, fun q hq => ?_⟩
  · rw [e, hl.2] at g ⊢
    obtain ⟨h1, h2, h3⟩ := hi.head g
    refine ⟨h1, h2, fun q hq => Int.le_trans ?_ (h3 q hq)⟩
    have y := Y_in h hs hq
    have o := own_in h hp hq
    unfold inM at y o
    rw [hn q hq]; omega
  · have hpo := hi.pot q hq
    have y := Y_in h hs hq
    have o := own_in h hp hq
    have sq := hi.sums q hq
    have nn := Lpot_nn h hq hi.lst
    rw [hs' q hq, addE_min sq o]
    have hyq := hn q hq
    unfold Hd at hpo ⊢
    rw [e, hl.2]
    unfold inM at y o sq
    by_cases g : v p.toNat = -1
    · rw [if_pos g] at hpo ⊢
      have hpo2 := hpo.2
      refine ⟨by omega, fun t => ?_⟩
      have := hpo2 t
      omega
    · rw [if_neg g] at hpo ⊢
      have hpu := lc.pure g
      have h0 : owE a b R W (op p.toNat) (arg p.toNat) q = 0 := by
        have hop : op p.toNat = 20 ∨ pureP (op p.toNat) = true := hpu
        have hop2 : op p.toNat ≤ 15 := by
          rcases hop with hop | hop
          · exact absurd hop ho.2.2.2.2.2.2.2
          · unfold pureP at hop; simp at hop; exact hop.1
        unfold owE
        rw [if_neg (by omega), if_neg (by omega), if_neg (by omega), if_neg (by omega), if_neg (by omega)]
        have : q = 0 ∨ q = 1 ∨ q = 2 ∨ q = 3 ∨ q = 4 ∨ q = 5 := by omega
        rcases this with rfl | rfl | rfl | rfl | rfl | rfl <;> rfl
      rw [h0] at hyq ⊢
      have e2 : min 2147483647 (s q + 0) = s q := by omega
      rw [e2]
      exact hpo
theorem Inv.repeat (h : Fit 0 n op arg k a b c R W) (hv : Lvs n op arg l v) (hi : Inv n op arg (Yc n op arg a b R W) tl l v p left L s) (ho : op p.toNat = 16) : Inv n op arg (Yc n op arg a b R W) tl l v (p + 1) left ((p + 1, arg p.toNat) :: L) s := by
  have hr := hi.rng
  have hp : p.toNat < n := by omega
  have hs := h.stop hp (by rw [ho]; decide)
  have e : (p + 1).toNat = p.toNat + 1 := by omega
  have lc := hv.loc _ hp
  have hl := lc.c16 ho
  have ha := h.opnd hp
  unfold Cv.rngL Cv.rngH at ha
  rw [ho] at ha
  simp at ha
  have hv1 : v p.toNat = -1 := by
    refine Classical.byContradiction fun g => ?_
    have hpu : op p.toNat = 20 ∨ pureP (op p.toNat) = true := lc.pure g
    rw [ho] at hpu
    rcases hpu with g | g
    · omega
    · revert g; decide
  have hlo := h.loop hp ho
  have ep : (p : Int) + 1 = ((p.toNat : Nat) : Int) + 1 := by omega
  refine ⟨by omega, ?_, hi.lefts, hi.sums, fun g => ?_, fun q hq => ?_⟩
  · rw [e, hl.1, ep]
    exact .cons hp ho ⟨by omega, by omega⟩ hi.lst
  · rw [e, hl.2] at g; exact absurd hv1 g
  · have hpo := hi.pot q hq
    have y := Y_in h hs hq
    have y2 := Y_in h (i := eN n op arg p.toNat + 1) (by unfold eN; omega) hq
    have sq := hi.sums q hq
    have nn := Lpot_nn h hq hi.lst
    have hyq := Y_repeat h hp hq ho
    unfold Hd at hpo ⊢
    rw [if_pos hv1] at hpo
    rw [e, hl.2, if_pos hv1]
    unfold Lpot
    rw [e, Nat.add_sub_cancel]
    unfold inM at y y2 sq
    have m1 := Int.mul_nonneg y.1 (show (0 : Int) ≤ arg p.toNat by omega)
    have m2 : (arg p.toNat - 1) * Yc n op arg a b R W q (p.toNat + 1) = Yc n op arg a b R W q (p.toNat + 1) * arg p.toNat - Yc n op arg a b R W q (p.toNat + 1) := by rw [Int.sub_mul, Int.one_mul, Int.mul_comm]
    rw [m2]
    generalize Yc n op arg a b R W q (p.toNat + 1) * arg p.toNat = m at *
    have hpo2 := hpo.2
    refine ⟨by omega, fun t => ?_⟩
    have := hpo2 t
    omega
theorem Inv.next (h : Fit 0 n op arg k a b c R W) (hv : Lvs n op arg l v) (hi : Inv n op arg (Yc n op arg a b R W) tl l v p left L s) (ho : op p.toNat = 17) : ∃ (u t : Int) (L' : List (Int × Int)), L = (u, t) :: L' ∧ (1 ≤ t ∧ t ≤ 1000000) ∧
    (1 < t → Inv n op arg (Yc n op arg a b R W) tl l v (arg p.toNat) left ((arg p.toNat, t - 1) :: L') s) ∧ (t = 1 → Inv n op arg (Yc n op arg a b R W) tl l v (p + 1) left L' s) := by
  have hr := hi.rng
  have hp : p.toNat < n := by omega
  have hs := h.stop hp (by rw [ho]; decide)
  have e : (p + 1).toNat = p.toNat + 1 := by omega
  have lc := hv.loc _ hp
  obtain ⟨l1, l2, l3, l4⟩ := lc.c17 ho
  obtain ⟨r, t, L', e1, rfl, r1, r2, r3, r4⟩ := hi.lst.of_cons l1
  rw [e1] at l2 l3 l4
  have l2' : arg p.toNat = (r : Int) + 1 := l2
  rw [Int.toNat_natCast] at l3 l4
  have hw : ∀ i, i < n → (op i = 16 ∨ op i = 17) → v i = -1 := fun i hi ho => by
    refine Classical.byContradiction fun g => ?_
    have hpu : op i = 20 ∨ pureP (op i) = true := (hv.loc i hi).pure g
    unfold pureP at hpu
    simp at hpu
    omega
  have v1 := hw _ hp (.inr ho)
  have v2 := hw _ r1 (.inl r2)
  have lr := (hv.loc r r1).c16 r2
  have hend := eN_hit h r1 r2 hp ho l2'
  have hrs := h.stop r1 (by rw [r2]; decide)
  have er : ((r : Int) + 1).toNat = r + 1 := by omega
  refine ⟨_, _, _, rfl, r3, fun ht => ?_, fun ht => ?_⟩
  · rw [l2']
    refine ⟨by omega, ?_, hi.lefts, hi.sums, fun g => ?_, fun q hq => ?_⟩
    · rw [er, lr.1]; exact .cons r1 r2 ⟨by omega, by omega⟩ r4
    · rw [er, lr.2] at g; exact absurd v2 g
    · have hpo := hi.pot q hq
      have y := Y_in h hrs hq
      have y2 := Y_in h hs hq
      have y0 := Y_end h hp hq (.inr (.inr ho))
      have sq := hi.sums q hq
      have nn := Lpot_nn h hq r4
      unfold Hd at hpo ⊢
      rw [if_pos v1] at hpo
      rw [er, lr.2, if_pos v2]
      unfold Lpot at hpo ⊢
      rw [er, Nat.add_sub_cancel, hend] at hpo ⊢
      rw [y0] at hpo
      unfold inM at y y2 sq
      have m2 : (t - 1 - 1) * Yc n op arg a b R W q (r + 1) = (t - 1) * Yc n op arg a b R W q (r + 1) - Yc n op arg a b R W q (r + 1) := by rw [Int.sub_mul (t - 1), Int.one_mul]
      rw [m2]
      have m1 := Int.mul_nonneg (show (0 : Int) ≤ t - 1 by omega) y.1
      generalize (t - 1) * Yc n op arg a b R W q (r + 1) = m at *
      have hpo2 := hpo.2
      refine ⟨by omega, fun t => ?_⟩
      have := hpo2 t
      omega
  · refine ⟨by omega, ?_, hi.lefts, hi.sums, fun g => ?_, fun q hq => ?_⟩
    · rw [e, l3]; exact r4
    · rw [e, l4] at g; exact absurd v2 g
    · have hpo := hi.pot q hq
      have y := Y_in h hrs hq
      have y2 := Y_in h hs hq
      have y0 := Y_end h hp hq (.inr (.inr ho))
      have sq := hi.sums q hq
      have nn := Lpot_nn h hq r4
      unfold Hd at hpo ⊢
      rw [if_pos v1] at hpo
      rw [e, l4, if_pos v2]
      unfold Lpot at hpo
      rw [er, Nat.add_sub_cancel, hend, y0, ht] at hpo
      have e0 : ((1 : Int) - 1) * Yc n op arg a b R W q (r + 1) = 0 := by rw [show (1 : Int) - 1 = 0 by omega, Int.zero_mul]
      rw [e0] at hpo
      unfold inM at y y2 sq
      have hpo2 := hpo.2
      refine ⟨by omega, fun t => ?_⟩
      have := hpo2 t
      omega
/-- What waits has only waits around it. -/
theorem Inv.dead (h : Fit 0 n op arg k a b c R W) (hv : Lvs n op arg l v) (hi : Inv n op arg (Yc n op arg a b R W) tl l v p left L s) (ht : tl = false) (ho : op p.toNat = 19) : Inv n op arg (Yc n op arg a b R W) tl l v (p + 1) (arg p.toNat) L s := by
  have hr := hi.rng
  have hp : p.toNat < n := by omega
  have hs := h.stop hp (by rw [ho]; decide)
  have e : (p + 1).toNat = p.toNat + 1 := by omega
  have lc := hv.loc _ hp
  have hl := lc.c19 ho
  have ha := h.opnd hp
  unfold Cv.rngL Cv.rngH at ha
  rw [ho] at ha
  simp at ha
  have hv1 : v p.toNat = -1 := by
    refine Classical.byContradiction fun g => ?_
    have hpu : op p.toNat = 20 ∨ pureP (op p.toNat) = true := lc.pure g
    rw [ho] at hpu
    rcases hpu with g | g
    · omega
    · revert g; decide
  have ev : (v (p.toNat + 1) + 1).toNat = p.toNat + 1 := by rw [hl.2]; omega
  refine ⟨by omega, by rw [e, hl.1]; exact hi.lst, by omega, hi.sums, fun g => ?_, fun q hq => ⟨?_, fun g => by rw [ht] at g; cases g⟩⟩
  · rw [e, ev, hl.2]
    exact ⟨by omega, by omega, fun q _ => Int.le_refl _⟩
  · have hpo := (hi.pot q hq).1
    have y := Y_in h hs hq
    have o := own_in h hp hq
    have sq := hi.sums q hq
    have nn := Lpot_nn h hq hi.lst
    have hyq := Y_other h hp hq (by rw [ho]; decide)
    unfold Hd at hpo ⊢
    rw [if_pos hv1] at hpo
    rw [e, if_neg (by rw [hl.2]; omega), ev]
    have ho5 : owE a b R W (op p.toNat) (arg p.toNat) q = if q = 5 then arg p.toNat else 0 := by
      unfold owE
      rw [if_pos (.inr ho)]
      have : q = 0 ∨ q = 1 ∨ q = 2 ∨ q = 3 ∨ q = 4 ∨ q = 5 := by omega
      rcases this with rfl | rfl | rfl | rfl | rfl | rfl <;> rfl
    rw [ho5] at hyq o
    unfold inM at y o sq
    generalize (if q = 5 then arg p.toNat else 0) = d at *
    omega
/-- The wait is over. -/
theorem Inv.pass (h : Fit 0 n op arg k a b c R W) (hv : Lvs n op arg l v) (hi : Inv n op arg (Yc n op arg a b R W) tl l v p left L s) (ht : tl = false) (ho : op p.toNat = 20) : Inv n op arg (Yc n op arg a b R W) tl l v (p + 1) left L s := by
  have hr := hi.rng
  have hp : p.toNat < n := by omega
  have hs := h.stop hp (by rw [ho]; decide)
  have e : (p + 1).toNat = p.toNat + 1 := by omega
  have lc := hv.loc _ hp
  obtain ⟨l1, l2, l3, l4⟩ := lc.c20 ho
  obtain ⟨h1, h2, h3⟩ := hi.head l1
  refine ⟨by omega, by rw [e, l3]; exact hi.lst, hi.lefts, hi.sums, fun g => ?_, fun q hq => ⟨?_, fun g => by rw [ht] at g; cases g⟩⟩
  · rw [e] at g; exact absurd l4 g
  · have hpo := (hi.pot q hq).1
    have y := Y_in h hs hq
    have o := own_in h hp hq
    have hyq := Y_other h hp hq (by rw [ho]; decide)
    have h3q := h3 q hq
    have hlf := hi.lefts
    unfold Hd at hpo ⊢
    rw [if_neg l1] at hpo
    rw [e, if_pos l4]
    unfold inM at y o
    have hd : (0 : Int) ≤ if q = 5 then left else 0 := by split <;> omega
    omega
/-- One more tick of waiting. -/
theorem Inv.poll (h : Fit 0 n op arg k a b c R W) (hv : Lvs n op arg l v) (hi : Inv n op arg (Yc n op arg a b R W) tl l v p left L s) (ht : tl = false) (ho : op p.toNat = 20) (hl : 0 < left)
    {s' : Nat → Int} (hs' : ∀ q, q < 6 → s' q = addE (s q) (if q = 5 then 1 else 0)) : Inv n op arg (Yc n op arg a b R W) tl l v (arg p.toNat) (left - 1) L s' := by
  have hr := hi.rng
  have hp : p.toNat < n := by omega
  have lc := hv.loc _ hp
  obtain ⟨l1, l2, l3, l4⟩ := lc.c20 ho
  have l2' : arg p.toNat = v p.toNat + 1 := l2
  obtain ⟨h1, h2, h3⟩ := hi.head l1
  obtain ⟨d, d1, d2, d3, d4⟩ := hv.wait p.toNat (by omega) l1
  have ld := (hv.loc d (by omega)).c19 d3
  have ea : (arg p.toNat).toNat = d + 1 := by omega
  refine ⟨by omega, ?_, by have := hi.lefts; omega, fun q hq => ?_, fun _ => ?_, fun q hq => ⟨?_, fun g => by rw [ht] at g; cases g⟩⟩
  · rw [ea, ld.1, ← d4]; exact hi.lst
  · rw [hs' q hq]
    exact addE_in (hi.sums q hq) (by unfold inM; split <;> omega)
  · rw [ea, ld.2]
    exact ⟨by omega, by omega, fun q _ => Int.le_refl _⟩
  · have hpo := (hi.pot q hq).1
    have y := Y_in h (i := d + 1) (by omega) hq
    have sq := hi.sums q hq
    have nn := Lpot_nn h hq hi.lst
    rw [hs' q hq, addE_min sq (by unfold inM; split <;> omega)]
    unfold Hd at hpo ⊢
    rw [if_neg l1, d1, show ((d : Int) + 1).toNat = d + 1 by omega] at hpo
    rw [ea, ld.2, if_neg (show ¬ ((d : Int) = -1) by omega), show ((d : Int) + 1).toNat = d + 1 by omega]
    unfold inM at y sq
    split at hpo
    · rename_i g; rw [if_pos g, if_pos g]; omega
    · rename_i g; rw [if_neg g, if_neg g]; omega
/-- Where a path is, its cost is within the certificate. -/
theorem Inv.le (h : Fit 0 n op arg k a b c R W) (hi : Inv n op arg (Yc n op arg a b R W) tl l v p left L s) {q : Nat} (hq : q < 6) : s q ≤ Yc n op arg a b R W q 0 := by
  have hr := hi.rng
  have hpo := (hi.pot q hq).1
  have nn := Lpot_nn h hq hi.lst
  have sq := hi.sums q hq
  have hl := hi.lefts
  unfold inM at sq
  have hd : 0 ≤ Hd v (Yc n op arg a b R W) p left q := by
    unfold Hd
    split
    · have y := Y_in h (i := p.toNat) (by omega) hq
      exact y.1
    · rename_i g
      obtain ⟨h1, h2, h3⟩ := hi.head g
      have y := Y_in h (i := (v p.toNat + 1).toNat) (by omega) hq
      have := y.1
      split <;> omega
  omega
/-- Where a path ends, its cost is the certificate's, if nothing branches. -/
theorem Inv.eq (h : Fit 0 n op arg k a b c R W) (hv : Lvs n op arg l v) (hi : Inv n op arg (Yc n op arg a b R W) tl l v p left L s) (ht : tl = true) (ho : op p.toNat = 28) {q : Nat} (hq : q < 6) : s q = Yc n op arg a b R W q 0 := by
  have hr := hi.rng
  have hp : p.toNat < n := by omega
  have hs : op p.toNat = 28 ↔ p.toNat + 1 = n := (h.vp.1 _ hp).2
  have en := hs.1 ho
  have hl := (hv.loc _ hp).oth (by show op _ ≠ _; rw [ho]; decide) (by show op _ ≠ _; rw [ho]; decide) (by show op _ ≠ _; rw [ho]; decide) (by show op _ ≠ _; rw [ho]; decide)
  rw [en, hv.ln, hv.vn] at hl
  have hL := hi.lst
  rw [← hl.1] at hL
  have e0 := hL.of_nil
  subst e0
  have hpo := hi.pot q hq
  have sq := hi.sums q hq
  unfold Hd at hpo
  rw [if_pos hl.2.symm, Y_end h hp hq (.inl ho)] at hpo
  unfold Lpot at hpo
  have := hpo.2 ht
  unfold inM at sq
  omega
end
end Go.Proofs.Ythegipdgillngaa
/- The path, walked under what holds along it. -/
namespace Go.Proofs.Ythegipdgillngaa
open Go Go.Am Go.Proofs
set_option linter.unusedSimpArgs false
set_option linter.unusedVariables false
set_option maxRecDepth 100000
theorem Runs.eqT {α : Type} {u t : Int} {a b : Option α} {P : α → Prop} (h : u = t) (g : Runs a P) : Runs (_root_.ite ((u == t) = true) a b) P := Runs.if_pos (beq_iff_eq.2 h) g
theorem Runs.eqF {α : Type} {u t : Int} {a b : Option α} {P : α → Prop} (h : u ≠ t) (g : Runs b P) : Runs (_root_.ite ((u == t) = true) a b) P := Runs.if_neg (fun e => h (beq_iff_eq.1 e)) g
/-- The loops in a row, the innermost first. -/
def Ls (fa fl : Nat → Int) : Nat → List (Int × Int)
  | 0 => []
  | m + 1 => (fa m, fl m) :: Ls fa fl m
theorem Ls_congr {fa fl fa' fl' : Nat → Int} : ∀ (m : Nat), (∀ j, j < m → fa' j = fa j ∧ fl' j = fl j) → Ls fa' fl' m = Ls fa fl m := by
  intro m
  induction m with
  | zero => intro _; rfl
  | succ m ih =>
    intro h
    have := h m (by omega)
    unfold Ls
    rw [this.1, this.2, ih fun j hj => h j (by omega)]
theorem Ls_push (fa fl : Nat → Int) (m : Nat) (u t : Int) : Ls (fun j => if j < m then fa j else u) (fun j => if j < m then fl j else t) (m + 1) = (u, t) :: Ls fa fl m := by
  rw [Ls, if_neg (by omega), if_neg (by omega), Ls_congr m fun j hj => ⟨if_pos hj, if_pos hj⟩]
section
variable {n : Nat} {op ar : Nat → Int} {k : Nat} {a b c : Nat → Int} {R W : Int}
theorem rown_runs (hf : Fit 0 n op ar k a b c R W) {i : Nat} (hi : i < n) (h19 : op i ≠ 19) (q : Nat) : Runs (ROwn q (op i, ar i, k, a, b, c, R, W)) (fun z => z = (owE a b R W (op i) (ar i) 0, owE a b R W (op i) (ar i) 1, owE a b R W (op i) (ar i) 2, owE a b R W (op i) (ar i) 3, owE a b R W (op i) (ar i) 4, owE a b R W (op i) (ar i) 5)) := by
  have hr := hf.rig.1
  have hw := hf.work hi
  generalize op i = o at *
  generalize ar i = t at *
  unfold owE
  by_cases h18 : o = 18
  · simp only [if_pos (show o = 18 ∨ o = 19 from .inl h18)]
    unfold ROwn t_ROwn
    exact Runs.eqT h18 (Runs.some rfl)
  simp only [if_neg (show ¬ (o = 18 ∨ o = 19) by omega)]
  by_cases h22 : o = 22
  · simp only [if_pos h22]
    unfold ROwn t_ROwn
    refine Runs.eqF h18 (Runs.eqF h19 ?_)
    refine Runs.eqT h22 (Runs.if_neg (by show ¬ R = 0; omega) (Runs.if_neg (by show ¬ R = 0; omega) (Runs.some ?_)))
    obtain ⟨t1, t2⟩ := trn_le hr.2.1 hr.2.2.1 hr.2.2.2.1 hr.2.2.2.2
    have e1 : w (W * w (w (Int.tdiv 360 R) + if 1 < Int.tmod 360 R then 1 else Int.tmod 360 R)) = trn R W := by rw [ceil_eq hr.2.1 hr.2.2.1]; rfl
    dsimp only
    rw [e1]
    generalize trn R W = T at *
    have e2 : w (T + 0) = T := by rw [Int.add_zero]; exact w_in (by unfold inR; omega)
    rw [e2, if_neg (show ¬ 2147483647 < T by omega)]
    rfl
  simp only [if_neg h22]
  by_cases g23 : o = 23
  · simp only [if_pos g23]
    unfold ROwn t_ROwn
    refine Runs.eqF h18 (Runs.eqF h19 (Runs.eqF h22 ?_))
    exact Runs.eqT g23 (Runs.if_pos (hw g23) (Runs.some rfl))
  simp only [if_neg g23]
  by_cases h24 : o = 24
  · simp only [if_pos h24]
    unfold ROwn t_ROwn
    refine Runs.eqF h18 (Runs.eqF h19 (Runs.eqF h22 (Runs.eqF g23 ?_)))
    exact Runs.eqT h24 (Runs.some rfl)
  simp only [if_neg h24]
  by_cases h25 : o = 25
  · simp only [if_pos h25]
    unfold ROwn t_ROwn
    refine Runs.eqF h18 (Runs.eqF h19 (Runs.eqF h22 (Runs.eqF g23 (Runs.eqF h24 ?_))))
    exact Runs.eqT h25 (Runs.some rfl)
  simp only [if_neg h25]
  unfold ROwn t_ROwn
  exact Runs.eqF h18 (Runs.eqF h19 (Runs.eqF h22 (Runs.eqF g23 (Runs.eqF h24 (Runs.eqF h25 (Runs.some rfl))))))
theorem radd_eq (q : Nat) (s0 s1 s2 s3 s4 s5 : Int) (z : g_RAdd) : RAdd q (s0, s1, s2, s3, s4, s5, z) = some (addE s0 z.1, addE s1 z.2.1, addE s2 z.2.2.1, addE s3 z.2.2.2.1, addE s4 z.2.2.2.2.1, addE s5 z.2.2.2.2.2) := rfl
theorem radd_runs (q : Nat) (s0 s1 s2 s3 s4 s5 : Int) (z : g_RAdd) : Runs (RAdd q (s0, s1, s2, s3, s4, s5, z)) (fun u => ∀ j, j < 6 → l6 u.1 u.2.1 u.2.2.1 u.2.2.2.1 u.2.2.2.2.1 u.2.2.2.2.2 j = addE (l6 s0 s1 s2 s3 s4 s5 j) (l6 z.1 z.2.1 z.2.2.1 z.2.2.2.1 z.2.2.2.2.1 z.2.2.2.2.2 j)) := by
  refine ⟨_, radd_eq q s0 s1 s2 s3 s4 s5 z, fun j hj => ?_⟩
  have : j = 0 ∨ j = 1 ∨ j = 2 ∨ j = 3 ∨ j = 4 ∨ j = 5 := by omega
  rcases this with rfl | rfl | rfl | rfl | rfl | rfl <;> rfl
theorem l6_own (o t : Int) {j : Nat} (hj : j < 6) : l6 (owE a b R W o t 0) (owE a b R W o t 1) (owE a b R W o t 2) (owE a b R W o t 3) (owE a b R W o t 4) (owE a b R W o t 5) j = owE a b R W o t j := by
  have : j = 0 ∨ j = 1 ∨ j = 2 ∨ j = 3 ∨ j = 4 ∨ j = 5 := by omega
  rcases this with rfl | rfl | rfl | rfl | rfl | rfl <;> rfl
theorem l6_tick {j : Nat} (hj : j < 6) : l6 0 0 0 0 0 1 j = if j = 5 then 1 else 0 := by
  have : j = 0 ∨ j = 1 ∨ j = 2 ∨ j = 3 ∨ j = 4 ∨ j = 5 := by omega
  rcases this with rfl | rfl | rfl | rfl | rfl | rfl <;> rfl
/-- Where the path is after some instructions. -/
def PI (n : Nat) (op ar : Nat → Int) (Y : Nat → Nat → Int) (tl : Bool) (l v : Nat → Int) (r : Nat) : Path_l0_a → Prop :=
  Sum.elim (fun y => (0 ≤ y.2.2.2.2.2.2.2.2.2 ∧ y.2.2.2.2.2.2.2.2.2 + (r : Int) = 3000) ∧ Inv n op ar Y tl l v y.2.1 y.2.2.1 [] (l6 y.2.2.2.1 y.2.2.2.2.1 y.2.2.2.2.2.1 y.2.2.2.2.2.2.1 y.2.2.2.2.2.2.2.1 y.2.2.2.2.2.2.2.2.1))
    (fun y => (y.2.1 + (r : Int) = 3000 ∧ (y.2.2.2.2.2.2.2.2.2.2.2.2.1 : Int) ≤ y.2.1 ∧ y.2.2.2.2.2.2.2.2.2.2.2.2.1 ≤ y.2.2.2.2.2.2.2.2.2.2.2.2.2) ∧ Inv n op ar Y tl l v y.2.2.1 y.2.2.2.1 (Ls y.2.2.2.2.1 y.2.2.2.2.2.1 y.2.2.2.2.2.2.2.2.2.2.2.2.1) (l6 y.2.2.2.2.2.2.1 y.2.2.2.2.2.2.2.1 y.2.2.2.2.2.2.2.2.1 y.2.2.2.2.2.2.2.2.2.1 y.2.2.2.2.2.2.2.2.2.2.1 y.2.2.2.2.2.2.2.2.2.2.2.1))
/-- What the path has cost. -/
def PE (Y : Nat → Nat → Int) (tl : Bool) : Path_l0_g → Prop :=
  Sum.elim (fun z => ∀ q, q < 6 → l6 z.1 z.2.1 z.2.2.1 z.2.2.2.1 z.2.2.2.2.1 z.2.2.2.2.2 q ≤ Y q 0 ∧ (tl = true → l6 z.1 z.2.1 z.2.2.1 z.2.2.2.1 z.2.2.2.2.1 z.2.2.2.2.2 q = Y q 0)) (fun z => ∀ q, q < 6 → l6 z.1 z.2.1 z.2.2.1 z.2.2.2.1 z.2.2.2.2.1 z.2.2.2.2.2 q ≤ Y q 0)
theorem path_t0z (hf : Fit 0 n op ar k a b c R W) {l v : Nat → Int} {m : Nat} {dy : Nat → Int} (nm : ByteArray) (ps vs : Int) (q' : Nat) {P : Path_l0_a ⊕ Path_l0_g → Prop} (hdn : ∀ z, PE (Yc n op ar a b R W) false z → P (.inr z)) (y) (hp : PI n op ar (Yc n op ar a b R W) false l v 0 (.inl y)) :
    Runs (Path_l0_t0 (Pick q') (RAdd q') (ROwn q') (nm, ps, vs, n, op, ar, k, a, b, c, R, W, m, dy, (3000 : Int)) y (fun y => some (.inl y)) (fun z => some (.inr z))) P := by
  rcases y with ⟨used, p, left, s0, s1, s2, s3, s4, s5, kk⟩
  obtain ⟨⟨h0, h1⟩, hi⟩ := hp
  dsimp only at h0 h1 hi
  unfold Path_l0_t0
  exact Runs.if_neg (by simp; omega) (Runs.some (hdn (.inr _) fun j hj => hi.le hf hj))
theorem path_t0 (hf : Fit 0 n op ar k a b c R W) {l v : Nat → Int} (hv : Lvs n op ar l v) {m : Nat} {dy : Nat → Int} (hy : ∀ j, j < m → inR (dy j)) (nm : ByteArray) (ps vs : Int) (q' r : Nat) {P : Path_l0_a ⊕ Path_l0_g → Prop} (hnx : ∀ y, PI n op ar (Yc n op ar a b R W) false l v r y → P (.inl y)) (hdn : ∀ z, PE (Yc n op ar a b R W) false z → P (.inr z)) (y) (hp : PI n op ar (Yc n op ar a b R W) false l v (r + 1) (.inl y)) :
    Runs (Path_l0_t0 (Pick q') (RAdd q') (ROwn q') (nm, ps, vs, n, op, ar, k, a, b, c, R, W, m, dy, (3000 : Int)) y (fun y => some (.inl y)) (fun z => some (.inr z))) P := by
  rcases y with ⟨used, p, left, s0, s1, s2, s3, s4, s5, kk⟩
  obtain ⟨⟨h0, h1⟩, hi⟩ := hp
  dsimp only at h0 h1 hi
  have hr := hi.rng
  have hn3 := hf.n3
  have ek : w (kk + 1) = kk + 1 := w_in (by unfold inR; omega)
  have ep : w (p + 1) = p + 1 := w_in (by unfold inR; omega)
  have hlf := hi.lefts
  have el : w (left - 1) = left - 1 := w_in (by unfold inR; omega)
  have hp : p.toNat < n := by omega
  unfold Path_l0_t0
  dsimp only
  simp only [ek, ep, el]
  refine Runs.if_pos (by simp; omega) (Runs.if_pos ⟨by omega, by omega⟩ ?_)
  by_cases h15 : op p.toNat = 15
  · refine Runs.eqT h15 (Runs.bind (pick_runs hy used (by omega)) fun u hu => ?_)
    refine Runs.eqF (by omega) (Runs.eqF (by omega) (Runs.eqF (by omega) (Runs.eqT h15 ?_)))
    exact Runs.ite (fun _ => Runs.some (hnx (.inl _) ⟨⟨by dsimp only; omega, by dsimp only; omega⟩, hi.jump hf hv rfl (.inr h15)⟩)) (fun _ => Runs.some (hnx (.inl _) ⟨⟨by dsimp only; omega, by dsimp only; omega⟩, hi.fall hf hv rfl h15⟩))
  refine Runs.eqF h15 ?_
  by_cases h20 : op p.toNat = 20
  · refine Runs.eqT h20 (Runs.bind (pick_runs hy used (by omega)) fun u hu => ?_)
    refine Runs.eqF (by omega) (Runs.eqF (by omega) (Runs.eqF (by omega) (Runs.eqF (by omega) (Runs.eqF (by omega) (Runs.eqF (by omega) (Runs.eqF (by omega) (Runs.eqT h20 ?_)))))))
    refine Runs.ite (fun _ => Runs.ite (fun hl => ?_) fun _ => ?_) (fun _ => ?_)
    · refine Runs.bind (radd_runs q' _ _ _ _ _ _ _) fun z hz => ?_
      exact Runs.some (hnx (.inl _) ⟨⟨by dsimp only; omega, by dsimp only; omega⟩, hi.poll hf hv rfl h20 (of_decide_eq_true hl) fun j hj => (hz j hj).trans (congrArg _ (l6_tick hj))⟩)
    · exact Runs.some (hnx (.inl _) ⟨⟨by dsimp only; omega, by dsimp only; omega⟩, hi.pass hf hv rfl h20⟩)
    · exact Runs.some (hnx (.inl _) ⟨⟨by dsimp only; omega, by dsimp only; omega⟩, hi.pass hf hv rfl h20⟩)
  refine Runs.eqF h20 ?_
  by_cases h28 : op p.toNat = 28
  · exact Runs.eqT h28 (Runs.some (hdn (.inl _) fun j hj => ⟨hi.le hf hj, fun g => (by cases g)⟩))
  refine Runs.eqF h28 ?_
  by_cases h27 : op p.toNat = 27
  · exact Runs.eqT h27 (Runs.some (hdn (.inl _) fun j hj => ⟨hi.le hf hj, fun g => by cases g⟩))
  refine Runs.eqF h27 ?_
  by_cases h14 : op p.toNat = 14
  · exact Runs.eqT h14 (Runs.some (hnx (.inl _) ⟨⟨by dsimp only; omega, by dsimp only; omega⟩, hi.jump hf hv rfl (.inl h14)⟩))
  refine Runs.eqF h14 (Runs.eqF h15 ?_)
  by_cases h16 : op p.toNat = 16
  · refine Runs.eqT h16 ?_
    exact Runs.some (hnx (.inr _) ⟨⟨by dsimp only; omega, by dsimp only; omega, Nat.le_refl _⟩, hi.repeat hf hv h16⟩)
  refine Runs.eqF h16 ?_
  by_cases h17 : op p.toNat = 17
  · obtain ⟨u, t, L', e1, e2, e3, e4⟩ := hi.next hf hv h17
    cases e1
  refine Runs.eqF h17 ?_
  by_cases h19 : op p.toNat = 19
  · exact Runs.eqT h19 (Runs.some (hnx (.inl _) ⟨⟨by dsimp only; omega, by dsimp only; omega⟩, hi.dead hf hv rfl h19⟩))
  refine Runs.eqF h19 (Runs.eqF h20 ?_)
  refine Runs.bind (rown_runs hf hp h19 q') fun z hz => Runs.bind (radd_runs q' _ _ _ _ _ _ z) fun z' hz' => ?_
  subst hz
  exact Runs.some (hnx (.inl _) ⟨⟨by dsimp only; omega, by dsimp only; omega⟩, hi.own hf hv ⟨h28, h27, h17, h14, h15, h16, h19, h20⟩ fun j hj => (hz' j hj).trans (congrArg _ (l6_own _ _ hj))⟩)
theorem path_t1z (hf : Fit 0 n op ar k a b c R W) {l v : Nat → Int} {m : Nat} {dy : Nat → Int} (nm : ByteArray) (ps vs : Int) (q' : Nat) {P : Path_l0_a ⊕ Path_l0_g → Prop} (hdn : ∀ z, PE (Yc n op ar a b R W) false z → P (.inr z)) (y) (hp : PI n op ar (Yc n op ar a b R W) false l v 0 (.inr y)) :
    Runs (Path_l0_t1 (Pick q') (RAdd q') (ROwn q') (nm, ps, vs, n, op, ar, k, a, b, c, R, W, m, dy, (3000 : Int)) y (fun y => some (.inl y)) (fun z => some (.inr z))) P := by
  rcases y with ⟨used, kk, p, left, fa, fl, s0, s1, s2, s3, s4, s5, len, cap⟩
  obtain ⟨⟨h1, h2, h3⟩, hi⟩ := hp
  dsimp only at h1 h2 h3 hi
  unfold Path_l0_t1
  exact Runs.if_neg (by simp; omega) (Runs.some (hdn (.inr _) fun j hj => hi.le hf hj))
theorem path_t1 (hf : Fit 0 n op ar k a b c R W) {l v : Nat → Int} (hv : Lvs n op ar l v) {m : Nat} {dy : Nat → Int} (hy : ∀ j, j < m → inR (dy j)) (nm : ByteArray) (ps vs : Int) (q' r : Nat) {P : Path_l0_a ⊕ Path_l0_g → Prop} (hnx : ∀ y, PI n op ar (Yc n op ar a b R W) false l v r y → P (.inl y)) (hdn : ∀ z, PE (Yc n op ar a b R W) false z → P (.inr z)) (y) (hp : PI n op ar (Yc n op ar a b R W) false l v (r + 1) (.inr y)) :
    Runs (Path_l0_t1 (Pick q') (RAdd q') (ROwn q') (nm, ps, vs, n, op, ar, k, a, b, c, R, W, m, dy, (3000 : Int)) y (fun y => some (.inl y)) (fun z => some (.inr z))) P := by
  rcases y with ⟨used, kk, p, left, fa, fl, s0, s1, s2, s3, s4, s5, len, cap⟩
  obtain ⟨⟨h1, h2, h3⟩, hi⟩ := hp
  dsimp only at h1 h2 h3 hi
  have hr := hi.rng
  have hn3 := hf.n3
  have ek : w (kk + 1) = kk + 1 := w_in (by unfold inR; omega)
  have ep : w (p + 1) = p + 1 := w_in (by unfold inR; omega)
  have hlf := hi.lefts
  have el : w (left - 1) = left - 1 := w_in (by unfold inR; omega)
  have hp : p.toNat < n := by omega
  unfold Path_l0_t1
  dsimp only
  simp only [ek, ep, el]
  refine Runs.if_pos (by simp; omega) (Runs.if_pos ⟨by omega, by omega⟩ ?_)
  by_cases h15 : op p.toNat = 15
  · refine Runs.eqT h15 (Runs.bind (pick_runs hy used (by omega)) fun u hu => ?_)
    refine Runs.eqF (by omega) (Runs.eqF (by omega) (Runs.eqF (by omega) (Runs.eqT h15 ?_)))
    exact Runs.ite (fun _ => Runs.some (hnx (.inr _) ⟨⟨by dsimp only; omega, by dsimp only; omega, by dsimp only; omega⟩, hi.jump hf hv rfl (.inr h15)⟩)) (fun _ => Runs.some (hnx (.inr _) ⟨⟨by dsimp only; omega, by dsimp only; omega, by dsimp only; omega⟩, hi.fall hf hv rfl h15⟩))
  refine Runs.eqF h15 ?_
  by_cases h20 : op p.toNat = 20
  · refine Runs.eqT h20 (Runs.bind (pick_runs hy used (by omega)) fun u hu => ?_)
    refine Runs.eqF (by omega) (Runs.eqF (by omega) (Runs.eqF (by omega) (Runs.eqF (by omega) (Runs.eqF (by omega) (Runs.eqF (by omega) (Runs.eqF (by omega) (Runs.eqT h20 ?_)))))))
    refine Runs.ite (fun _ => Runs.ite (fun hl => ?_) fun _ => ?_) (fun _ => ?_)
    · refine Runs.bind (radd_runs q' _ _ _ _ _ _ _) fun z hz => ?_
      exact Runs.some (hnx (.inr _) ⟨⟨by dsimp only; omega, by dsimp only; omega, by dsimp only; omega⟩, hi.poll hf hv rfl h20 (of_decide_eq_true hl) fun j hj => (hz j hj).trans (congrArg _ (l6_tick hj))⟩)
    · exact Runs.some (hnx (.inr _) ⟨⟨by dsimp only; omega, by dsimp only; omega, by dsimp only; omega⟩, hi.pass hf hv rfl h20⟩)
    · exact Runs.some (hnx (.inr _) ⟨⟨by dsimp only; omega, by dsimp only; omega, by dsimp only; omega⟩, hi.pass hf hv rfl h20⟩)
  refine Runs.eqF h20 ?_
  by_cases h28 : op p.toNat = 28
  · exact Runs.eqT h28 (Runs.some (hdn (.inl _) fun j hj => ⟨hi.le hf hj, fun g => (by cases g)⟩))
  refine Runs.eqF h28 ?_
  by_cases h27 : op p.toNat = 27
  · exact Runs.eqT h27 (Runs.some (hdn (.inl _) fun j hj => ⟨hi.le hf hj, fun g => by cases g⟩))
  refine Runs.eqF h27 ?_
  by_cases h14 : op p.toNat = 14
  · exact Runs.eqT h14 (Runs.some (hnx (.inr _) ⟨⟨by dsimp only; omega, by dsimp only; omega, by dsimp only; omega⟩, hi.jump hf hv rfl (.inl h14)⟩))
  refine Runs.eqF h14 (Runs.eqF h15 ?_)
  by_cases h16 : op p.toNat = 16
  · refine Runs.eqT h16 ?_
    refine Runs.if_pos ⟨by simp only [roomBound]; omega, by simp only [maxLen]; omega, by omega⟩ (Runs.some (hnx (.inr _) ⟨⟨by dsimp only; omega, by dsimp only; omega, Nat.le_refl _⟩, ?_⟩))
    dsimp only
    rw [Ls_push]
    exact hi.repeat hf hv h16
  refine Runs.eqF h16 ?_
  by_cases h17 : op p.toNat = 17
  · obtain ⟨u, t, L', e1, e2, e3, e4⟩ := hi.next hf hv h17
    cases len with
    | zero => cases e1
    | succ len =>
    have eA : (u, t) = (fa len, fl len) ∧ L' = Ls fa fl len := by
      have : (fa len, fl len) :: Ls fa fl len = (u, t) :: L' := e1
      cases this
      exact ⟨rfl, rfl⟩
    obtain ⟨eB, rfl⟩ := eA
    cases eB
    have el1 : w (((len + 1 : Nat) : Int) - 1) = (len : Int) := by rw [w_in (by unfold inR; omega)]; omega
    have el2 : w (fl len - 1) = fl len - 1 := w_in (by unfold inR; omega)
    simp only [el1, Int.toNat_natCast, Nat.zero_add, Nat.sub_zero, el2]
    refine Runs.eqT h17 (Runs.if_pos ⟨by omega, by omega⟩ (Runs.if_pos ⟨by omega, by trivial⟩ (Runs.if_pos ⟨by omega, by omega, by omega⟩ (Runs.ite (fun hg => ?_) fun hg => ?_))))
    · refine Runs.if_pos ⟨by simp only [roomBound]; omega, by simp only [maxLen]; omega, by omega⟩ (Runs.some (hnx (.inr _) ⟨⟨by dsimp only; omega, by dsimp only; omega, Nat.le_refl _⟩, ?_⟩))
      dsimp only
      rw [Ls_push]
      exact e3 (by simp only [decide_eq_true_eq] at hg; omega)
    · exact Runs.some (hnx (.inr _) ⟨⟨by dsimp only; omega, by dsimp only; omega, by dsimp only; omega⟩, e4 (by simp only [decide_eq_true_eq] at hg; omega)⟩)
  refine Runs.eqF h17 ?_
  by_cases h19 : op p.toNat = 19
  · exact Runs.eqT h19 (Runs.some (hnx (.inr _) ⟨⟨by dsimp only; omega, by dsimp only; omega, by dsimp only; omega⟩, hi.dead hf hv rfl h19⟩))
  refine Runs.eqF h19 (Runs.eqF h20 ?_)
  refine Runs.bind (rown_runs hf hp h19 q') fun z hz => Runs.bind (radd_runs q' _ _ _ _ _ _ z) fun z' hz' => ?_
  subst hz
  exact Runs.some (hnx (.inr _) ⟨⟨by dsimp only; omega, by dsimp only; omega, by dsimp only; omega⟩, hi.own hf hv ⟨h28, h27, h17, h14, h15, h16, h19, h20⟩ fun j hj => (hz' j hj).trans (congrArg _ (l6_own _ _ hj))⟩)
theorem path_loop (hf : Fit 0 n op ar k a b c R W) {l v : Nat → Int} (hv : Lvs n op ar l v) {m : Nat} {dy : Nat → Int} (hy : ∀ j, j < m → inR (dy j)) (nm : ByteArray) (ps vs : Int) (q' : Nat) : ∀ (r q : Nat) (y : Path_l0_a), r < q → PI n op ar (Yc n op ar a b R W) false l v r y →
    Runs (Path_l0 (Pick q') (RAdd q') (ROwn q') q (nm, ps, vs, n, op, ar, k, a, b, c, R, W, m, dy, (3000 : Int)) y) (PE (Yc n op ar a b R W) false) := by
  intro r
  induction r with
  | zero =>
    intro q y hq hp
    obtain ⟨q, rfl⟩ : ∃ k, q = k + 1 := ⟨q - 1, by omega⟩
    rcases y with y | y
    · exact lp_step (path_t0z hf nm ps vs q' (fun z hz => hz) y hp)
    · exact lp_step (path_t1z hf nm ps vs q' (fun z hz => hz) y hp)
  | succ r ih =>
    intro q y hq hp
    obtain ⟨q, rfl⟩ : ∃ k, q = k + 1 := ⟨q - 1, by omega⟩
    rcases y with y | y
    · exact lp_step (path_t0 hf hv hy nm ps vs q' r (fun y' hy' => ih q y' (by omega) hy') (fun z hz => hz) y hp)
    · exact lp_step (path_t1 hf hv hy nm ps vs q' r (fun y' hy' => ih q y' (by omega) hy') (fun z hz => hz) y hp)
theorem path_runs (hf : Fit 0 n op ar k a b c R W) {m : Nat} {dy : Nat → Int} (hy : ∀ j, j < m → inR (dy j)) (nm : ByteArray) (ps vs : Int) {q : Nat} (hq : 3000 < q) : Runs (Path q (nm, ps, vs, n, op, ar, k, a, b, c, R, W, m, dy, (3000 : Int))) (fun z => ∀ j, j < 6 → l6 z.1 z.2.1 z.2.2.1 z.2.2.2.1 z.2.2.2.2.1 z.2.2.2.2.2.1 j ≤ Yc n op ar a b R W j 0 ∧ (false = true → z.2.2.2.2.2.2 = true → l6 z.1 z.2.1 z.2.2.1 z.2.2.2.1 z.2.2.2.2.1 z.2.2.2.2.2.1 j = Yc n op ar a b R W j 0)) := by
  obtain ⟨l, v, hv⟩ := hf.lvs
  unfold Path t_Path
  refine Runs.bind (path_loop hf hv hy nm ps vs q 3000 q _ hq ⟨by decide, ?_⟩) fun z hz => ?_
  · have h := Inv.start (tl := false) hf hv
    have e : l6 0 0 0 0 0 0 = fun _ => 0 := by
      funext j
      unfold l6
      match j with
      | 0 => rfl
      | 1 => rfl
      | 2 => rfl
      | 3 => rfl
      | 4 => rfl
      | 5 => rfl
      | j + 6 => rfl
    show Inv _ _ _ _ _ _ _ 0 0 [] (l6 0 0 0 0 0 0)
    rw [e]; exact h
  · rcases z with z | z
    · exact Runs.some fun j hj => ⟨(hz j hj).1, fun g _ => (hz j hj).2 g⟩
    · exact Runs.some fun j hj => ⟨hz j hj, fun _ g => by cases g⟩
theorem pathN_t0z (hf : Fit 0 n op ar k a b c R W) {l v : Nat → Int} (nm : ByteArray) (ps vs : Int) (q' : Nat) {P : PathN_l0_a ⊕ PathN_l0_g → Prop} (hdn : ∀ z, PE (Yc n op ar a b R W) true z → P (.inr z)) (y) (hp : PI n op ar (Yc n op ar a b R W) true l v 0 (.inl y)) :
    Runs (PathN_l0_t0 (PickN q') (RAdd q') (ROwn q') (nm, ps, vs, n, op, ar, k, a, b, c, R, W, (3000 : Int)) y (fun y => some (.inl y)) (fun z => some (.inr z))) P := by
  rcases y with ⟨used, p, left, s0, s1, s2, s3, s4, s5, kk⟩
  obtain ⟨⟨h0, h1⟩, hi⟩ := hp
  dsimp only at h0 h1 hi
  unfold PathN_l0_t0
  exact Runs.if_neg (by simp; omega) (Runs.some (hdn (.inr _) fun j hj => hi.le hf hj))
theorem pathN_t0 (hf : Fit 0 n op ar k a b c R W) {l v : Nat → Int} (hv : Lvs n op ar l v) (hpl : ∀ i, i < n → op i ≠ 14 ∧ op i ≠ 15 ∧ op i ≠ 19 ∧ op i ≠ 20 ∧ op i ≠ 27) (nm : ByteArray) (ps vs : Int) (q' r : Nat) {P : PathN_l0_a ⊕ PathN_l0_g → Prop} (hnx : ∀ y, PI n op ar (Yc n op ar a b R W) true l v r y → P (.inl y)) (hdn : ∀ z, PE (Yc n op ar a b R W) true z → P (.inr z)) (y) (hp : PI n op ar (Yc n op ar a b R W) true l v (r + 1) (.inl y)) :
    Runs (PathN_l0_t0 (PickN q') (RAdd q') (ROwn q') (nm, ps, vs, n, op, ar, k, a, b, c, R, W, (3000 : Int)) y (fun y => some (.inl y)) (fun z => some (.inr z))) P := by
  rcases y with ⟨used, p, left, s0, s1, s2, s3, s4, s5, kk⟩
  obtain ⟨⟨h0, h1⟩, hi⟩ := hp
  dsimp only at h0 h1 hi
  have hr := hi.rng
  have hn3 := hf.n3
  have ek : w (kk + 1) = kk + 1 := w_in (by unfold inR; omega)
  have ep : w (p + 1) = p + 1 := w_in (by unfold inR; omega)
  have hlf := hi.lefts
  have el : w (left - 1) = left - 1 := w_in (by unfold inR; omega)
  have hp : p.toNat < n := by omega
  unfold PathN_l0_t0
  dsimp only
  simp only [ek, ep, el]
  refine Runs.if_pos (by simp; omega) (Runs.if_pos ⟨by omega, by omega⟩ ?_)
  obtain ⟨n14, n15, n19, n20, n27⟩ := hpl _ hp
  refine Runs.eqF n15 (Runs.eqF n20 ?_)
  by_cases h28 : op p.toNat = 28
  · exact Runs.eqT h28 (Runs.some (hdn (.inl _) fun j hj => ⟨hi.le hf hj, fun g => hi.eq hf hv g h28 hj⟩))
  refine Runs.eqF h28 ?_
  refine Runs.eqF n27 (Runs.eqF n14 (Runs.eqF n15 ?_))
  by_cases h16 : op p.toNat = 16
  · refine Runs.eqT h16 ?_
    exact Runs.some (hnx (.inr _) ⟨⟨by dsimp only; omega, by dsimp only; omega, Nat.le_refl _⟩, hi.repeat hf hv h16⟩)
  refine Runs.eqF h16 ?_
  by_cases h17 : op p.toNat = 17
  · obtain ⟨u, t, L', e1, e2, e3, e4⟩ := hi.next hf hv h17
    cases e1
  refine Runs.eqF h17 ?_
  refine Runs.eqF n19 (Runs.eqF n20 ?_)
  refine Runs.bind (rown_runs hf hp n19 q') fun z hz => Runs.bind (radd_runs q' _ _ _ _ _ _ z) fun z' hz' => ?_
  subst hz
  exact Runs.some (hnx (.inl _) ⟨⟨by dsimp only; omega, by dsimp only; omega⟩, hi.own hf hv ⟨h28, n27, h17, n14, n15, h16, n19, n20⟩ fun j hj => (hz' j hj).trans (congrArg _ (l6_own _ _ hj))⟩)
theorem pathN_t1z (hf : Fit 0 n op ar k a b c R W) {l v : Nat → Int} (nm : ByteArray) (ps vs : Int) (q' : Nat) {P : PathN_l0_a ⊕ PathN_l0_g → Prop} (hdn : ∀ z, PE (Yc n op ar a b R W) true z → P (.inr z)) (y) (hp : PI n op ar (Yc n op ar a b R W) true l v 0 (.inr y)) :
    Runs (PathN_l0_t1 (PickN q') (RAdd q') (ROwn q') (nm, ps, vs, n, op, ar, k, a, b, c, R, W, (3000 : Int)) y (fun y => some (.inl y)) (fun z => some (.inr z))) P := by
  rcases y with ⟨used, kk, p, left, fa, fl, s0, s1, s2, s3, s4, s5, len, cap⟩
  obtain ⟨⟨h1, h2, h3⟩, hi⟩ := hp
  dsimp only at h1 h2 h3 hi
  unfold PathN_l0_t1
  exact Runs.if_neg (by simp; omega) (Runs.some (hdn (.inr _) fun j hj => hi.le hf hj))
theorem pathN_t1 (hf : Fit 0 n op ar k a b c R W) {l v : Nat → Int} (hv : Lvs n op ar l v) (hpl : ∀ i, i < n → op i ≠ 14 ∧ op i ≠ 15 ∧ op i ≠ 19 ∧ op i ≠ 20 ∧ op i ≠ 27) (nm : ByteArray) (ps vs : Int) (q' r : Nat) {P : PathN_l0_a ⊕ PathN_l0_g → Prop} (hnx : ∀ y, PI n op ar (Yc n op ar a b R W) true l v r y → P (.inl y)) (hdn : ∀ z, PE (Yc n op ar a b R W) true z → P (.inr z)) (y) (hp : PI n op ar (Yc n op ar a b R W) true l v (r + 1) (.inr y)) :
    Runs (PathN_l0_t1 (PickN q') (RAdd q') (ROwn q') (nm, ps, vs, n, op, ar, k, a, b, c, R, W, (3000 : Int)) y (fun y => some (.inl y)) (fun z => some (.inr z))) P := by
  rcases y with ⟨used, kk, p, left, fa, fl, s0, s1, s2, s3, s4, s5, len, cap⟩
  obtain ⟨⟨h1, h2, h3⟩, hi⟩ := hp
  dsimp only at h1 h2 h3 hi
  have hr := hi.rng
  have hn3 := hf.n3
  have ek : w (kk + 1) = kk + 1 := w_in (by unfold inR; omega)
  have ep : w (p + 1) = p + 1 := w_in (by unfold inR; omega)
  have hlf := hi.lefts
  have el : w (left - 1) = left - 1 := w_in (by unfold inR; omega)
  have hp : p.toNat < n := by omega
  unfold PathN_l0_t1
  dsimp only
  simp only [ek, ep, el]
  refine Runs.if_pos (by simp; omega) (Runs.if_pos ⟨by omega, by omega⟩ ?_)
  obtain ⟨n14, n15, n19, n20, n27⟩ := hpl _ hp
  refine Runs.eqF n15 (Runs.eqF n20 ?_)
  by_cases h28 : op p.toNat = 28
  · exact Runs.eqT h28 (Runs.some (hdn (.inl _) fun j hj => ⟨hi.le hf hj, fun g => hi.eq hf hv g h28 hj⟩))
  refine Runs.eqF h28 ?_
  refine Runs.eqF n27 (Runs.eqF n14 (Runs.eqF n15 ?_))
  by_cases h16 : op p.toNat = 16
  · refine Runs.eqT h16 ?_
    refine Runs.if_pos ⟨by simp only [roomBound]; omega, by simp only [maxLen]; omega, by omega⟩ (Runs.some (hnx (.inr _) ⟨⟨by dsimp only; omega, by dsimp only; omega, Nat.le_refl _⟩, ?_⟩))
    dsimp only
    rw [Ls_push]
    exact hi.repeat hf hv h16
  refine Runs.eqF h16 ?_
  by_cases h17 : op p.toNat = 17
  · obtain ⟨u, t, L', e1, e2, e3, e4⟩ := hi.next hf hv h17
    cases len with
    | zero => cases e1
    | succ len =>
    have eA : (u, t) = (fa len, fl len) ∧ L' = Ls fa fl len := by
      have : (fa len, fl len) :: Ls fa fl len = (u, t) :: L' := e1
      cases this
      exact ⟨rfl, rfl⟩
    obtain ⟨eB, rfl⟩ := eA
    cases eB
    have el1 : w (((len + 1 : Nat) : Int) - 1) = (len : Int) := by rw [w_in (by unfold inR; omega)]; omega
    have el2 : w (fl len - 1) = fl len - 1 := w_in (by unfold inR; omega)
    simp only [el1, Int.toNat_natCast, Nat.zero_add, Nat.sub_zero, el2]
    refine Runs.eqT h17 (Runs.if_pos ⟨by omega, by omega⟩ (Runs.if_pos ⟨by omega, by trivial⟩ (Runs.if_pos ⟨by omega, by omega, by omega⟩ (Runs.ite (fun hg => ?_) fun hg => ?_))))
    · refine Runs.if_pos ⟨by simp only [roomBound]; omega, by simp only [maxLen]; omega, by omega⟩ (Runs.some (hnx (.inr _) ⟨⟨by dsimp only; omega, by dsimp only; omega, Nat.le_refl _⟩, ?_⟩))
      dsimp only
      rw [Ls_push]
      exact e3 (by simp only [decide_eq_true_eq] at hg; omega)
    · exact Runs.some (hnx (.inr _) ⟨⟨by dsimp only; omega, by dsimp only; omega, by dsimp only; omega⟩, e4 (by simp only [decide_eq_true_eq] at hg; omega)⟩)
  refine Runs.eqF h17 ?_
  refine Runs.eqF n19 (Runs.eqF n20 ?_)
  refine Runs.bind (rown_runs hf hp n19 q') fun z hz => Runs.bind (radd_runs q' _ _ _ _ _ _ z) fun z' hz' => ?_
  subst hz
  exact Runs.some (hnx (.inr _) ⟨⟨by dsimp only; omega, by dsimp only; omega, by dsimp only; omega⟩, hi.own hf hv ⟨h28, n27, h17, n14, n15, h16, n19, n20⟩ fun j hj => (hz' j hj).trans (congrArg _ (l6_own _ _ hj))⟩)
theorem pathN_loop (hf : Fit 0 n op ar k a b c R W) {l v : Nat → Int} (hv : Lvs n op ar l v) (hpl : ∀ i, i < n → op i ≠ 14 ∧ op i ≠ 15 ∧ op i ≠ 19 ∧ op i ≠ 20 ∧ op i ≠ 27) (nm : ByteArray) (ps vs : Int) (q' : Nat) : ∀ (r q : Nat) (y : PathN_l0_a), r < q → PI n op ar (Yc n op ar a b R W) true l v r y →
    Runs (PathN_l0 (PickN q') (RAdd q') (ROwn q') q (nm, ps, vs, n, op, ar, k, a, b, c, R, W, (3000 : Int)) y) (PE (Yc n op ar a b R W) true) := by
  intro r
  induction r with
  | zero =>
    intro q y hq hp
    obtain ⟨q, rfl⟩ : ∃ k, q = k + 1 := ⟨q - 1, by omega⟩
    rcases y with y | y
    · exact lp_step (pathN_t0z hf nm ps vs q' (fun z hz => hz) y hp)
    · exact lp_step (pathN_t1z hf nm ps vs q' (fun z hz => hz) y hp)
  | succ r ih =>
    intro q y hq hp
    obtain ⟨q, rfl⟩ : ∃ k, q = k + 1 := ⟨q - 1, by omega⟩
    rcases y with y | y
    · exact lp_step (pathN_t0 hf hv hpl nm ps vs q' r (fun y' hy' => ih q y' (by omega) hy') (fun z hz => hz) y hp)
    · exact lp_step (pathN_t1 hf hv hpl nm ps vs q' r (fun y' hy' => ih q y' (by omega) hy') (fun z hz => hz) y hp)
theorem pathN_runs (hf : Fit 0 n op ar k a b c R W) (hpl : ∀ i, i < n → op i ≠ 14 ∧ op i ≠ 15 ∧ op i ≠ 19 ∧ op i ≠ 20 ∧ op i ≠ 27) (nm : ByteArray) (ps vs : Int) {q : Nat} (hq : 3000 < q) : Runs (PathN q (nm, ps, vs, n, op, ar, k, a, b, c, R, W, (3000 : Int))) (fun z => ∀ j, j < 6 → l6 z.1 z.2.1 z.2.2.1 z.2.2.2.1 z.2.2.2.2.1 z.2.2.2.2.2.1 j ≤ Yc n op ar a b R W j 0 ∧ (true = true → z.2.2.2.2.2.2 = true → l6 z.1 z.2.1 z.2.2.1 z.2.2.2.1 z.2.2.2.2.1 z.2.2.2.2.2.1 j = Yc n op ar a b R W j 0)) := by
  obtain ⟨l, v, hv⟩ := hf.lvs
  unfold PathN t_PathN
  refine Runs.bind (pathN_loop hf hv hpl nm ps vs q 3000 q _ hq ⟨by decide, ?_⟩) fun z hz => ?_
  · have h := Inv.start (tl := true) hf hv
    have e : l6 0 0 0 0 0 0 = fun _ => 0 := by
      funext j
      unfold l6
      match j with
      | 0 => rfl
      | 1 => rfl
      | 2 => rfl
      | 3 => rfl
      | 4 => rfl
      | 5 => rfl
      | j + 6 => rfl
    show Inv _ _ _ _ _ _ _ 0 0 [] (l6 0 0 0 0 0 0)
    rw [e]; exact h
  · rcases z with z | z
    · exact Runs.some fun j hj => ⟨(hz j hj).1, fun g _ => (hz j hj).2 g⟩
    · exact Runs.some fun j hj => ⟨hz j hj, fun _ g => by cases g⟩
end
end Go.Proofs.Ythegipdgillngaa
/- CostPaths, CostTight. -/
namespace Go.Proofs.Ythegipdgillngaa
open Go Go.Am Go.Proofs
set_option linter.unusedSimpArgs false
set_option linter.unusedVariables false
set_option maxRecDepth 100000
theorem total_some {q n : Nat} (hn : n ≠ 0) (x0 x1 x2 x3 x4 x5 : Nat → Int) : Total q (n, x0, x1, x2, x3, x4, x5) = some (x0 0, x1 0, x2 0, x3 0, x4 0, x5 0) := by
  unfold Total t_Total
  rw [if_neg (by simp only [beq_iff_eq]; omega), if_pos ⟨Int.le_refl 0, by simp only; omega⟩]
theorem withinL {q : Nat} {z : Int × Int × Int × Int × Int × Int × Bool} {x0 x1 x2 x3 x4 x5 : Int} (h : ∀ j, j < 6 → l6 z.1 z.2.1 z.2.2.1 z.2.2.2.1 z.2.2.2.2.1 z.2.2.2.2.2.1 j ≤ l6 x0 x1 x2 x3 x4 x5 j) :
    Within q (z.1, z.2.1, z.2.2.1, z.2.2.2.1, z.2.2.2.2.1, z.2.2.2.2.2.1, x0, x1, x2, x3, x4, x5) = some true :=
  within_true (h 0 (by decide)) (h 1 (by decide)) (h 2 (by decide)) (h 3 (by decide)) (h 4 (by decide)) (h 5 (by decide))
theorem cert_made {z : g_CodeR} {k : Nat} {a b c : Nat → Int} {R W : Int} (hc : chkV 0 0 z.1 z.2.1 z.2.2 k a b c R W = 0) : (certO (pName, 0, 0, z.1, z.2.1, z.2.2, k, a, b, c, R, W)) = (0, z.1, certF 0 z.1 z.2.1 z.2.2 a b R W 0, certF 0 z.1 z.2.1 z.2.2 a b R W 1, certF 0 z.1 z.2.1 z.2.2 a b R W 2, certF 0 z.1 z.2.1 z.2.2 a b R W 3, certF 0 z.1 z.2.1 z.2.2 a b R W 4, certF 0 z.1 z.2.1 z.2.2 a b R W 5) := by
  unfold certO
  simp only
  rw [hc, show certN 0 0 z.1 z.2.1 z.2.2 k a b c R W = z.1 from if_pos hc]
theorem row_l6 {Y : Nat → Nat → Int} {j : Nat} (hj : j < 6) : l6 (Y 0 0) (Y 1 0) (Y 2 0) (Y 3 0) (Y 4 0) (Y 5 0) j = Y j 0 := by
  have : j = 0 ∨ j = 1 ∨ j = 2 ∨ j = 3 ∨ j = 4 ∨ j = 5 := by omega
  rcases this with rfl | rfl | rfl | rfl | rfl | rfl <;> rfl
theorem row_mk6 {x0 x1 x2 x3 x4 x5 : Nat → Int} {j : Nat} (hj : j < 6) : l6 (x0 0) (x1 0) (x2 0) (x3 0) (x4 0) (x5 0) j = mk6 x0 x1 x2 x3 x4 x5 j 0 := by
  have : j = 0 ∨ j = 1 ∨ j = 2 ∨ j = 3 ∨ j = 4 ∨ j = 5 := by omega
  rcases this with rfl | rfl | rfl | rfl | rfl | rfl <;> rfl
theorem law8_true (x : a_law8) (h1 : x.1 ≤ Go.maxLen) (h2 : ∀ j, j < x.1 → inR (x.2.1 j)) (h3 : x.2.2.1 ≤ Go.maxLen) (h4 : ∀ j, j < x.2.2.2.2.1 → inR (x.2.2.2.2.2.1 j)) (h5 : x.2.2.2.2.2.2.1 ≤ Go.maxLen) (h6 : ∀ j, j < x.2.2.2.2.2.2.1 → inR (x.2.2.2.2.2.2.2 j)) : law8 4000 x = some true := by
  obtain ⟨z, hz, hm⟩ := code_runs (tl := false) h1 h2 (q := 4000) (by omega)
  have hn := made_len hm
  unfold law8 t_law8
  rw [hz]
  simp only [Option.bind_some, Rig, if_pos h3]
  generalize dn x.2.2.1 = k
  generalize dA x.2.2.2.1 = a
  generalize dB x.2.2.2.1 = b
  generalize dC x.2.2.2.1 = c
  generalize w (1 + pick x.2.2.1 x.2.2.2.1 0 360) = R
  generalize pick x.2.2.1 x.2.2.2.1 1 1001 = W
  rw [show Cert 4000 (pName, 0, 0, z.1, z.2.1, z.2.2, k, a, b, c, R, W) = some (certO (pName, 0, 0, z.1, z.2.1, z.2.2, k, a, b, c, R, W)) from if_pos hn]
  simp only [Option.bind_some]
  rcases (chk_made hm k a b c R W).symm with hc | hc
  · have e : (certO (pName, 0, 0, z.1, z.2.1, z.2.2, k, a, b, c, R, W)).1 = 5 := hc
    rw [e]
    rfl
  have hf := fit_of hc
  rw [cert_made hc]
  simp only
  obtain ⟨p, hp, hpl⟩ := path_runs hf (q := 4000) h4 pName 0 0 (by omega)
  rw [hp]
  simp only [Option.bind_some, bne_self_eq_false, Bool.false_eq_true, if_false]
  obtain ⟨u, hu, hul⟩ := changed_runs (q := 4000) (x := (z.1, certF 0 z.1 z.2.1 z.2.2 a b R W 0, certF 0 z.1 z.2.1 z.2.2 a b R W 1, certF 0 z.1 z.2.1 z.2.2 a b R W 2, certF 0 z.1 z.2.1 z.2.2 a b R W 3, certF 0 z.1 z.2.1 z.2.2 a b R W 4, certF 0 z.1 z.2.1 z.2.2 a b R W 5, x.2.2.2.2.2.2.1, x.2.2.2.2.2.2.2)) hf.n3 h5 h6 (by omega)
  rw [hu]
  simp only [Option.bind_some]
  obtain ⟨un, u0, u1, u2, u3, u4, u5⟩ := u
  simp only at hul ⊢
  subst hul
  have hcv : ∀ y : a_CVer, y.2.2.2.1 = z.1 → CVer 4000 y = some (cverO y) := fun y hy => if_pos (by rw [hy]; exact hn)
  rw [hcv _ rfl]
  simp only [Option.bind_some]
  have hn0 := hf.n0
  have w1 : Within 4000 (p.1, p.2.1, p.2.2.1, p.2.2.2.1, p.2.2.2.2.1, p.2.2.2.2.2.1, certF 0 z.1 z.2.1 z.2.2 a b R W 0 0, certF 0 z.1 z.2.1 z.2.2 a b R W 1 0, certF 0 z.1 z.2.1 z.2.2 a b R W 2 0, certF 0 z.1 z.2.1 z.2.2 a b R W 3 0, certF 0 z.1 z.2.1 z.2.2 a b R W 4 0, certF 0 z.1 z.2.1 z.2.2 a b R W 5 0) = some true :=
    withinL fun j hj => by rw [row_l6 (Y := certF 0 z.1 z.2.1 z.2.2 a b R W) hj]; exact (hpl j hj).1
  rw [total_some hn0, total_some hn0]
  simp only [Option.bind_some]
  rw [w1]
  have hlv : lives 4000 () = some true := rfl
  simp only [Option.bind_some, if_true, hlv]
  by_cases hv : cverO (pName, 0, 0, z.1, z.2.1, z.2.2, k, a, b, c, R, W, z.1, u0, u1, u2, u3, u4, u5) = 0
  · rw [hv]
    simp only [beq_self_eq_true, if_true]
    have k2 := (cver_ok hv).2
    have w2 : Within 4000 (p.1, p.2.1, p.2.2.1, p.2.2.2.1, p.2.2.2.2.1, p.2.2.2.2.2.1, u0 0, u1 0, u2 0, u3 0, u4 0, u5 0) = some true :=
      withinL fun j hj => by rw [row_mk6 hj]; exact Int.le_trans (hpl j hj).1 (ok_least hf k2 (by omega) hj)
    rw [w2]
    rfl
  · rw [if_neg (by simpa using hv)]
theorem costPaths (v0 v1 v2 v3 : V) (h0 : WTV E.P 22 v0) (h1 : WTV E.P 22 v1) (h2 : WTV E.P 22 v2) (h3 : WTV E.P 22 v3) : ∃ l', LeL [v0, v1, v2, v3] l' ∧ SC E 8 l' [] (.ret (bo true) []) := by
  obtain ⟨n, y, l0, b0, c0⟩ := in_ints h0
  obtain ⟨n1, y1, l1, b1, c1⟩ := in_ints h1
  obtain ⟨n2, y2, l2, b2, c2⟩ := in_ints h2
  obtain ⟨n3, y3, l3, b3, c3⟩ := in_ints h3
  refine ⟨_, LeL.cons l0 (LeL.cons l1 (LeL.cons l2 (LeL.cons l3 LeL.nil))), ?_⟩
  exact toE (sc_law8 4000 (n, y, n1, y1, n2, y2, n3, y3) true (law8_true _ b0 c0 b1 c2 b3 c3))
def noBr (o : Int) : Prop := o ≠ 14 ∧ o ≠ 15 ∧ o ≠ 19 ∧ o ≠ 20 ∧ o ≠ 27
theorem Cond.plain {c : Is} (h : Cond c) : ∀ p, p ∈ c → noBr p.1 := by
  intro p hp
  unfold noBr
  cases h with
  | mk t u o ht hu ho =>
    simp only [List.mem_cons, List.mem_nil_iff, or_false] at hp
    rcases hp with rfl | rfl | rfl <;> simp <;> omega
  | not t u o ht hu ho =>
    simp only [List.mem_cons, List.mem_nil_iff, or_false] at hp
    rcases hp with rfl | rfl | rfl | rfl <;> simp <;> omega
theorem Seg.plain {pl : Bool} {i : Nat} {s : Is} (h : Seg pl i s) (hpl : pl = true) : ∀ p, p ∈ s → noBr p.1 := by
  induction h with
  | nil i => intro p hp; cases hp
  | app _ _ ih1 ih2 =>
    intro p hp
    rcases List.mem_append.1 hp with hp | hp
    · exact ih1 p hp
    · exact ih2 p hp
  | one ho =>
    intro p hp
    simp only [List.mem_singleton] at hp
    subst hp
    unfold okOne at ho
    unfold noBr
    simp only
    omega
  | point _ =>
    intro p hp
    simp only [List.mem_cons, List.mem_nil_iff, or_false] at hp
    rcases hp with rfl | rfl <;> (unfold noBr; simp)
  | req hc =>
    intro p hp
    rcases List.mem_append.1 hp with hp | hp
    · exact hc.plain p hp
    · simp only [List.mem_singleton] at hp
      subst hp; unfold noBr; simp
  | loop _ _ ih =>
    intro p hp
    rcases List.mem_cons.1 hp with rfl | hp
    · unfold noBr; simp
    · rcases List.mem_append.1 hp with hp | hp
      · exact ih p hp
      · simp only [List.mem_singleton] at hp
        subst hp; unfold noBr; simp
  | wait h _ _ => rw [hpl] at h; cases h
  | abort h _ => rw [hpl] at h; cases h
  | ite1 h _ _ _ => rw [hpl] at h; cases h
  | ite2 h _ _ _ _ => rw [hpl] at h; cases h
theorem Made.plain {z : g_CodeR} (h : Made true z) : ∀ i, i < z.1 → z.2.1 i ≠ 14 ∧ z.2.1 i ≠ 15 ∧ z.2.1 i ≠ 19 ∧ z.2.1 i ≠ 20 ∧ z.2.1 i ≠ 27 := by
  obtain ⟨s, h1, h2, h3, h4⟩ := h
  intro i hi
  have e := (h4 i (by omega)).1
  have hm : ∀ p, p ∈ s ++ [((28 : Int), (0 : Int))] → noBr p.1 := fun p hp => by
    rcases List.mem_append.1 hp with hp | hp
    · exact h1.plain rfl p hp
    · simp only [List.mem_singleton] at hp
      subst hp; unfold noBr; simp
  have hl : i < (s ++ [((28 : Int), (0 : Int))]).length := by simp; omega
  rw [e, List.getD_eq_getElem?_getD, List.getElem?_eq_getElem hl, Option.getD_some]
  exact hm _ (List.getElem_mem hl)
theorem law9_true (x : a_law9) (h1 : x.1 ≤ Go.maxLen) (h2 : ∀ j, j < x.1 → inR (x.2.1 j)) (h3 : x.2.2.1 ≤ Go.maxLen) : law9 4000 x = some true := by
  obtain ⟨z, hz, hm⟩ := code_runs (tl := true) h1 h2 (q := 4000) (by omega)
  have hn := made_len hm
  unfold law9 t_law9
  rw [hz]
  simp only [Option.bind_some, Rig, if_pos h3]
  generalize dn x.2.2.1 = k
  generalize dA x.2.2.2 = a
  generalize dB x.2.2.2 = b
  generalize dC x.2.2.2 = c
  generalize w (1 + pick x.2.2.1 x.2.2.2 0 360) = R
  generalize pick x.2.2.1 x.2.2.2 1 1001 = W
  rw [show Cert 4000 (pName, 0, 0, z.1, z.2.1, z.2.2, k, a, b, c, R, W) = some (certO (pName, 0, 0, z.1, z.2.1, z.2.2, k, a, b, c, R, W)) from if_pos hn]
  simp only [Option.bind_some]
  rcases (chk_made hm k a b c R W).symm with hc | hc
  · have e : (certO (pName, 0, 0, z.1, z.2.1, z.2.2, k, a, b, c, R, W)).1 = 5 := hc
    rw [e]
    rfl
  have hf := fit_of hc
  rw [cert_made hc]
  simp only
  obtain ⟨p, hp, hpl⟩ := pathN_runs hf (q := 4000) hm.plain pName 0 0 (by omega)
  rw [hp]
  simp only [Option.bind_some, bne_self_eq_false, Bool.false_eq_true, if_false]
  have hlv : lives 4000 () = some true := rfl
  rw [total_some hf.n0, hlv]
  simp only [Option.bind_some]
  obtain ⟨p0, p1, p2, p3, p4, p5, pe⟩ := p
  cases pe with
  | false => rfl
  | true =>
    have q0 := (hpl 0 (by decide)).2 rfl rfl
    have q1 := (hpl 1 (by decide)).2 rfl rfl
    have q2 := (hpl 2 (by decide)).2 rfl rfl
    have q3 := (hpl 3 (by decide)).2 rfl rfl
    have q4 := (hpl 4 (by decide)).2 rfl rfl
    have q5 := (hpl 5 (by decide)).2 rfl rfl
    have q0 : p0 = certF 0 z.1 z.2.1 z.2.2 a b R W 0 0 := q0
    have q1 : p1 = certF 0 z.1 z.2.1 z.2.2 a b R W 1 0 := q1
    have q2 : p2 = certF 0 z.1 z.2.1 z.2.2 a b R W 2 0 := q2
    have q3 : p3 = certF 0 z.1 z.2.1 z.2.2 a b R W 3 0 := q3
    have q4 : p4 = certF 0 z.1 z.2.1 z.2.2 a b R W 4 0 := q4
    have q5 : p5 = certF 0 z.1 z.2.1 z.2.2 a b R W 5 0 := q5
    subst q0 q1 q2 q3 q4 q5
    simp only [Bool.not_true, Bool.false_eq_true, if_false, beq_self_eq_true, Bool.and_self, if_true, Bool.and_true]
theorem costTight (v0 v1 : V) (h0 : WTV E.P 22 v0) (h1 : WTV E.P 22 v1) : ∃ l', LeL [v0, v1] l' ∧ SC E 9 l' [] (.ret (bo true) []) := by
  obtain ⟨n, y, l0, b0, c0⟩ := in_ints h0
  obtain ⟨n1, y1, l1, b1, c1⟩ := in_ints h1
  refine ⟨_, LeL.cons l0 (LeL.cons l1 LeL.nil), ?_⟩
  exact toE (sc_law9 4000 (n, y, n1, y1) true (law9_true _ b0 c0 b1))
end Go.Proofs.Ythegipdgillngaa
