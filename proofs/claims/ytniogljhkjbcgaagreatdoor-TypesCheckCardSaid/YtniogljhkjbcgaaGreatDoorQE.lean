/- Texts joined. -/
import Derived.Test.YtniogljhkjbcgaaGreatDoorQD
/- Check, lifted. -/
namespace Go.Proofs.YtniogljhkjbcgaaGreatDoor
open Go Go.Am Go.Proofs
set_option linter.unusedSimpArgs false
set_option linter.unusedVariables false
set_option maxRecDepth 100000
abbrev a_declare : Type := ByteArray × Int × Int × Int × Int × Int × Nat × (ByteArray → Bool) × (ByteArray → Int) × (ByteArray → Int) × (ByteArray → Int) × (ByteArray → Int) × (ByteArray → Int)
abbrev g_declare : Type := Int × Nat × (ByteArray → Bool) × (ByteArray → Int) × (ByteArray → Int) × (ByteArray → Int) × (ByteArray → Int) × (ByteArray → Int)
def A_declare : a_declare → List V × List (Option Chunk) := (fun x => (fun (s : ByteArray) (d0 : Int) (d1 : Int) (d2 : Int) (d3 : Int) (d4 : Int) (mn : Nat) (mh : ByteArray → Bool) (m0 : ByteArray → Int) (m1 : ByteArray → Int) (m2 : ByteArray → Int) (m3 : ByteArray → Int) (m4 : ByteArray → Int) => (([.ptr 0 0, st s, .agg [i64 d0, i64 d1, i64 d2, i64 d3, i64 d4]] : List V), ([some (.blk [.mp 1]), some (.smap mn mh (fun j => .agg [i64 (m0 j), i64 (m1 j), i64 (m2 j), i64 (m3 j), i64 (m4 j)]))] : List (Option Chunk)))) x.1 x.2.1 x.2.2.1 x.2.2.2.1 x.2.2.2.2.1 x.2.2.2.2.2.1 x.2.2.2.2.2.2.1 x.2.2.2.2.2.2.2.1 x.2.2.2.2.2.2.2.2.1 x.2.2.2.2.2.2.2.2.2.1 x.2.2.2.2.2.2.2.2.2.2.1 x.2.2.2.2.2.2.2.2.2.2.2.1 x.2.2.2.2.2.2.2.2.2.2.2.2)
def d_declare (t : List V × List (Option Chunk)) : a_declare := ((vS (t.1.getD 1 .junk)), (vI ((vAg (t.1.getD 2 .junk)).getD 0 .junk)), (vI ((vAg (t.1.getD 2 .junk)).getD 1 .junk)), (vI ((vAg (t.1.getD 2 .junk)).getD 2 .junk)), (vI ((vAg (t.1.getD 2 .junk)).getD 3 .junk)), (vI ((vAg (t.1.getD 2 .junk)).getD 4 .junk)), (smN (t.2.getD 1 none)), (smH (t.2.getD 1 none)), (fun j => (vI ((vAg ((smF (t.2.getD 1 none)) j)).getD 0 .junk))), (fun j => (vI ((vAg ((smF (t.2.getD 1 none)) j)).getD 1 .junk))), (fun j => (vI ((vAg ((smF (t.2.getD 1 none)) j)).getD 2 .junk))), (fun j => (vI ((vAg ((smF (t.2.getD 1 none)) j)).getD 3 .junk))), (fun j => (vI ((vAg ((smF (t.2.getD 1 none)) j)).getD 4 .junk))))
theorem i_declare : ∀ x y, A_declare x = A_declare y → x = y := fun x y h => (congrArg d_declare h :)
def R_declare : g_declare → CRes := (fun z => (fun (e : Int) (mn : Nat) (mh : ByteArray → Bool) (m0 : ByteArray → Int) (m1 : ByteArray → Int) (m2 : ByteArray → Int) (m3 : ByteArray → Int) (m4 : ByteArray → Int) => .ret (i64 e) [some (.blk [.mp 1]), some (.smap mn mh (fun j => .agg [i64 (m0 j), i64 (m1 j), i64 (m2 j), i64 (m3 j), i64 (m4 j)]))]) z.1 z.2.1 z.2.2.1 z.2.2.2.1 z.2.2.2.2.1 z.2.2.2.2.2.1 z.2.2.2.2.2.2.1 z.2.2.2.2.2.2.2 : (Int × Nat × (ByteArray → Bool) × (ByteArray → Int) × (ByteArray → Int) × (ByteArray → Int) × (ByteArray → Int) × (ByteArray → Int)) → CRes)
def x_declare (z : g_declare) (k : CRes → Option Ans) : Option Ans := k (R_declare z)
theorem xe_declare : ∀ z k, x_declare z k = k (R_declare z) := fun z k => rfl
def t_declare {β : Type} (x : a_declare) (dn : g_declare → Option β) : Option β :=
 if x.2.2.2.2.2.2.2.1 (x.1) = true then
  dn (((4 : Int), x.2.2.2.2.2.2))
 else
  if decide (((x.2.2.2.2.2.2.1 : Nat) : Int) ≥ (12 : Int)) = true then
   dn (((2 : Int), x.2.2.2.2.2.2))
  else
   dn (((0 : Int), if x.2.2.2.2.2.2.2.1 (x.1) = true then x.2.2.2.2.2.2.1 else x.2.2.2.2.2.2.1 + 1, fun (q : ByteArray) => q == x.1 || x.2.2.2.2.2.2.2.1 q, fun (j : ByteArray) => if (j == x.1) = true then x.2.1 else x.2.2.2.2.2.2.2.2.1 j, fun (j : ByteArray) => if (j == x.1) = true then x.2.2.1 else x.2.2.2.2.2.2.2.2.2.1 j, fun (j : ByteArray) => if (j == x.1) = true then x.2.2.2.1 else x.2.2.2.2.2.2.2.2.2.2.1 j, fun (j : ByteArray) => if (j == x.1) = true then x.2.2.2.2.1 else x.2.2.2.2.2.2.2.2.2.2.2.1 j, fun (j : ByteArray) => if (j == x.1) = true then x.2.2.2.2.2.1 else x.2.2.2.2.2.2.2.2.2.2.2.2 j))
theorem n_declare {β : Type} (x : a_declare) (dn : g_declare → Option β) : t_declare x dn = (t_declare x some).bind dn := by
  unfold t_declare
  repeat' first | exact free_none | refine free_bind (fun z => ?_) | refine free_ite ?_ ?_ | refine free_sum (fun z => ?_) (fun z => ?_) | rfl
theorem r_declare (x : a_declare) : callK E5 ca0 lo0 16 (A_declare x).1 (A_declare x).2 K = t_declare x (fun z => some (.c (R_declare z))) := by kernel_rfl
theorem s_declare (q : Nat) (x : a_declare) (z : g_declare) (h : t_declare x some = some z) : SC E5 16 (A_declare x).1 (A_declare x).2 (R_declare z) := by
  refine SC.of hW5 hX5 ca0_sound lo0_sound ((r_declare x).trans ?_)
  rw [n_declare, h]; rfl
noncomputable def declare (q : Nat) (x : a_declare) : Option g_declare := t_declare x some
theorem sc_declare (q : Nat) : ∀ (x : a_declare) (z : g_declare), declare q x = some z → SC E5 16 (A_declare x).1 (A_declare x).2 (R_declare z) := fun x z h => s_declare q x z h
abbrev a_wellF : Type := Int × Int × ByteArray × Nat × (Nat → Int) × (Nat → Int) × (Nat → ByteArray) × (Nat → Nat) × (Nat → Nat → List V)
abbrev g_wellF : Type := Bool
def A_wellF : a_wellF → List V × List (Option Chunk) := (fun x => (fun (nk : Int) (nn : Int) (ns : ByteArray) (nm : Nat) (ek : Nat → Int) (en : Nat → Int) (es : Nat → ByteArray) (em : Nat → Nat) (ef : Nat → Nat → List V) => (([.agg [i64 nk, i64 nn, st ns, .ro 4 nm (fun j => [i64 (ek j), i64 (en j), st (es j), .ro 4 (em j) (ef j)])]] : List V), ([] : List (Option Chunk)))) x.1 x.2.1 x.2.2.1 x.2.2.2.1 x.2.2.2.2.1 x.2.2.2.2.2.1 x.2.2.2.2.2.2.1 x.2.2.2.2.2.2.2.1 x.2.2.2.2.2.2.2.2)
def d_wellF (t : List V × List (Option Chunk)) : a_wellF := ((vI ((vAg (t.1.getD 0 .junk)).getD 0 .junk)), (vI ((vAg (t.1.getD 0 .junk)).getD 1 .junk)), (vS ((vAg (t.1.getD 0 .junk)).getD 2 .junk)), (vRoN ((vAg (t.1.getD 0 .junk)).getD 3 .junk)), (fun j => (vI (((vRoF ((vAg (t.1.getD 0 .junk)).getD 3 .junk)) j).getD 0 .junk))), (fun j => (vI (((vRoF ((vAg (t.1.getD 0 .junk)).getD 3 .junk)) j).getD 1 .junk))), (fun j => (vS (((vRoF ((vAg (t.1.getD 0 .junk)).getD 3 .junk)) j).getD 2 .junk))), (fun j => (vRoN (((vRoF ((vAg (t.1.getD 0 .junk)).getD 3 .junk)) j).getD 3 .junk))), (fun j => (vRoF (((vRoF ((vAg (t.1.getD 0 .junk)).getD 3 .junk)) j).getD 3 .junk))))
theorem i_wellF : ∀ x y, A_wellF x = A_wellF y → x = y := fun x y h => (congrArg d_wellF h :)
def R_wellF : g_wellF → CRes := (fun z => (fun (b : Bool) => .ret (bo b) []) z : (Bool) → CRes)
def x_wellF (z : g_wellF) (k : CRes → Option Ans) : Option Ans := k (R_wellF z)
theorem xe_wellF : ∀ z k, x_wellF z k = k (R_wellF z) := fun z k => rfl
def t_wellF {β : Type} (x : a_wellF) (dn : g_wellF → Option β) : Option β :=
 if (x.1 == (14 : Int)) = true then
  dn true
 else
  if (x.1 == (1 : Int)) = true then
   dn (((x.2.2.2.1 : Nat) : Int) == (1 : Int))
  else
   if (x.1 == (2 : Int)) = true then
    dn (((x.2.2.2.1 : Nat) : Int) == (1 : Int))
   else
    if (x.1 == (7 : Int)) = true then
     dn (((x.2.2.2.1 : Nat) : Int) == (1 : Int))
    else
     if (x.1 == (8 : Int)) = true then
      dn (((x.2.2.2.1 : Nat) : Int) == (1 : Int))
     else
      if (x.1 == (5 : Int)) = true then
       if (((x.2.2.2.1 : Nat) : Int) == (1 : Int)) = true then
        if (0 : Int) ≤ (0 : Int) ∧ (0 : Int) < ((x.2.2.2.1 : Nat) : Int) then
         dn (x.2.2.2.2.1 0 == (15 : Int))
        else
         none
       else
        dn false
      else
       if (x.1 == (11 : Int)) = true then
        if (((x.2.2.2.1 : Nat) : Int) == (1 : Int)) = true then
         if (0 : Int) ≤ (0 : Int) ∧ (0 : Int) < ((x.2.2.2.1 : Nat) : Int) then
          dn (x.2.2.2.2.1 0 == (15 : Int))
         else
          none
        else
         dn false
       else
        if (x.1 == (9 : Int)) = true then
         if (((x.2.2.2.1 : Nat) : Int) == (1 : Int)) = true then
          if (0 : Int) ≤ (0 : Int) ∧ (0 : Int) < ((x.2.2.2.1 : Nat) : Int) then
           dn (x.2.2.2.2.1 0 == (15 : Int))
          else
           none
         else
          dn false
        else
         if (x.1 == (10 : Int)) = true then
          if (((x.2.2.2.1 : Nat) : Int) == (1 : Int)) = true then
           if (0 : Int) ≤ (0 : Int) ∧ (0 : Int) < ((x.2.2.2.1 : Nat) : Int) then
            dn (x.2.2.2.2.1 0 == (15 : Int))
           else
            none
          else
           dn false
         else
          if (x.1 == (6 : Int)) = true then
           if (((x.2.2.2.1 : Nat) : Int) == (2 : Int)) = true then
            if (0 : Int) ≤ (1 : Int) ∧ (1 : Int) < ((x.2.2.2.1 : Nat) : Int) then
             dn (x.2.2.2.2.1 1 == (15 : Int))
            else
             none
           else
            dn false
          else
           if (x.1 == (3 : Int)) = true then
            if (((x.2.2.2.1 : Nat) : Int) == (3 : Int)) = true then
             if (0 : Int) ≤ (1 : Int) ∧ (1 : Int) < ((x.2.2.2.1 : Nat) : Int) then
              if (x.2.2.2.2.1 1 == (14 : Int)) = true then
               if (0 : Int) ≤ (2 : Int) ∧ (2 : Int) < ((x.2.2.2.1 : Nat) : Int) then
                dn (x.2.2.2.2.1 2 == (14 : Int))
               else
                none
              else
               dn false
             else
              none
            else
             dn false
           else
            if (x.1 == (4 : Int)) = true then
             if (((x.2.2.2.1 : Nat) : Int) == (1 : Int)) = true then
              if (0 : Int) ≤ (0 : Int) ∧ (0 : Int) < ((x.2.2.2.1 : Nat) : Int) then
               dn (x.2.2.2.2.1 0 == (14 : Int))
              else
               none
             else
              dn false
            else
             if (x.1 == (12 : Int)) = true then
              dn (((x.2.2.2.1 : Nat) : Int) == (0 : Int))
             else
              if (x.1 == (13 : Int)) = true then
               dn (((x.2.2.2.1 : Nat) : Int) == (0 : Int))
              else
               dn false
theorem n_wellF {β : Type} (x : a_wellF) (dn : g_wellF → Option β) : t_wellF x dn = (t_wellF x some).bind dn := by
  unfold t_wellF
  repeat' first | exact free_none | refine free_bind (fun z => ?_) | refine free_ite ?_ ?_ | refine free_sum (fun z => ?_) (fun z => ?_) | rfl
theorem r_wellF (x : a_wellF) : callK E5 (callG E5 20) lo0 26 (A_wellF x).1 (A_wellF x).2 K = t_wellF x (fun z => some (.c (R_wellF z))) := by kernel_rfl
theorem s_wellF (q : Nat) (x : a_wellF) (z : g_wellF) (h : t_wellF x some = some z) : SC E5 26 (A_wellF x).1 (A_wellF x).2 (R_wellF z) := by
  refine SC.of hW5 hX5 (sound_G hW5 hX5 20).1 lo0_sound ((r_wellF x).trans ?_)
  rw [n_wellF, h]; rfl
noncomputable def wellF (q : Nat) (x : a_wellF) : Option g_wellF := t_wellF x some
theorem sc_wellF (q : Nat) : ∀ (x : a_wellF) (z : g_wellF), wellF q x = some z → SC E5 26 (A_wellF x).1 (A_wellF x).2 (R_wellF z) := fun x z h => s_wellF q x z h
abbrev a_inRange : Type := Int × Int × ByteArray × Nat × (Nat → List V)
abbrev g_inRange : Type := Bool
def A_inRange : a_inRange → List V × List (Option Chunk) := (fun x => (fun (nk : Int) (nn : Int) (ns : ByteArray) (nm : Nat) (nf : Nat → List V) => (([.agg [i64 nk, i64 nn, st ns, .ro 4 nm nf]] : List V), ([] : List (Option Chunk)))) x.1 x.2.1 x.2.2.1 x.2.2.2.1 x.2.2.2.2)
def d_inRange (t : List V × List (Option Chunk)) : a_inRange := ((vI ((vAg (t.1.getD 0 .junk)).getD 0 .junk)), (vI ((vAg (t.1.getD 0 .junk)).getD 1 .junk)), (vS ((vAg (t.1.getD 0 .junk)).getD 2 .junk)), (vRoN ((vAg (t.1.getD 0 .junk)).getD 3 .junk)), (vRoF ((vAg (t.1.getD 0 .junk)).getD 3 .junk)))
theorem i_inRange : ∀ x y, A_inRange x = A_inRange y → x = y := fun x y h => (congrArg d_inRange h :)
def R_inRange : g_inRange → CRes := (fun z => (fun (b : Bool) => .ret (bo b) []) z : (Bool) → CRes)
def x_inRange (z : g_inRange) (k : CRes → Option Ans) : Option Ans := k (R_inRange z)
theorem xe_inRange : ∀ z k, x_inRange z k = k (R_inRange z) := fun z k => rfl
def t_inRange {β : Type} (x : a_inRange) (dn : g_inRange → Option β) : Option β :=
 if (x.1 == (4 : Int)) = true then
  if decide (x.2.1 ≥ (1 : Int)) = true then
   dn (decide (x.2.1 ≤ (100 : Int)))
  else
   dn false
 else
  if (x.1 == (9 : Int)) = true then
   if decide (x.2.1 ≥ (0 : Int)) = true then
    dn (decide (x.2.1 ≤ (7 : Int)))
   else
    dn false
  else
   if (x.1 == (10 : Int)) = true then
    if decide (x.2.1 ≥ (0 : Int)) = true then
     dn (decide (x.2.1 ≤ (7 : Int)))
    else
     dn false
   else
    if (x.1 == (12 : Int)) = true then
     if decide (x.2.1 ≥ (0 : Int)) = true then
      dn (decide (x.2.1 ≤ (99 : Int)))
     else
      dn false
    else
     if (x.1 == (13 : Int)) = true then
      if decide (x.2.1 ≥ (0 : Int)) = true then
       dn (decide (x.2.1 ≤ (999 : Int)))
      else
       dn false
     else
      dn true
theorem n_inRange {β : Type} (x : a_inRange) (dn : g_inRange → Option β) : t_inRange x dn = (t_inRange x some).bind dn := by
  unfold t_inRange
  repeat' first | exact free_none | refine free_bind (fun z => ?_) | refine free_ite ?_ ?_ | refine free_sum (fun z => ?_) (fun z => ?_) | rfl
theorem r_inRange (x : a_inRange) : callK E5 ca0 lo0 27 (A_inRange x).1 (A_inRange x).2 K = t_inRange x (fun z => some (.c (R_inRange z))) := by kernel_rfl
theorem s_inRange (q : Nat) (x : a_inRange) (z : g_inRange) (h : t_inRange x some = some z) : SC E5 27 (A_inRange x).1 (A_inRange x).2 (R_inRange z) := by
  refine SC.of hW5 hX5 ca0_sound lo0_sound ((r_inRange x).trans ?_)
  rw [n_inRange, h]; rfl
noncomputable def inRange (q : Nat) (x : a_inRange) : Option g_inRange := t_inRange x some
theorem sc_inRange (q : Nat) : ∀ (x : a_inRange) (z : g_inRange), inRange q x = some z → SC E5 27 (A_inRange x).1 (A_inRange x).2 (R_inRange z) := fun x z h => s_inRange q x z h
abbrev a_cond : Type := Int × Int × ByteArray × Nat × (Nat → List V) × Nat × (ByteArray → Bool) × (ByteArray → Int) × (ByteArray → Int) × (ByteArray → Int) × (ByteArray → Int) × (ByteArray → Int)
abbrev g_cond : Type := Int × Nat × (ByteArray → Bool) × (ByteArray → Int) × (ByteArray → Int) × (ByteArray → Int) × (ByteArray → Int) × (ByteArray → Int)
def A_cond : a_cond → List V × List (Option Chunk) := (fun x => (fun (nk : Int) (nn : Int) (ns : ByteArray) (nm : Nat) (nf : Nat → List V) (mn : Nat) (mh : ByteArray → Bool) (m0 : ByteArray → Int) (m1 : ByteArray → Int) (m2 : ByteArray → Int) (m3 : ByteArray → Int) (m4 : ByteArray → Int) => (([.ptr 0 0, .agg [i64 nk, i64 nn, st ns, .ro 4 nm nf]] : List V), ([some (.blk [.mp 1]), some (.smap mn mh (fun j => .agg [i64 (m0 j), i64 (m1 j), i64 (m2 j), i64 (m3 j), i64 (m4 j)]))] : List (Option Chunk)))) x.1 x.2.1 x.2.2.1 x.2.2.2.1 x.2.2.2.2.1 x.2.2.2.2.2.1 x.2.2.2.2.2.2.1 x.2.2.2.2.2.2.2.1 x.2.2.2.2.2.2.2.2.1 x.2.2.2.2.2.2.2.2.2.1 x.2.2.2.2.2.2.2.2.2.2.1 x.2.2.2.2.2.2.2.2.2.2.2)
def d_cond (t : List V × List (Option Chunk)) : a_cond := ((vI ((vAg (t.1.getD 1 .junk)).getD 0 .junk)), (vI ((vAg (t.1.getD 1 .junk)).getD 1 .junk)), (vS ((vAg (t.1.getD 1 .junk)).getD 2 .junk)), (vRoN ((vAg (t.1.getD 1 .junk)).getD 3 .junk)), (vRoF ((vAg (t.1.getD 1 .junk)).getD 3 .junk)), (smN (t.2.getD 1 none)), (smH (t.2.getD 1 none)), (fun j => (vI ((vAg ((smF (t.2.getD 1 none)) j)).getD 0 .junk))), (fun j => (vI ((vAg ((smF (t.2.getD 1 none)) j)).getD 1 .junk))), (fun j => (vI ((vAg ((smF (t.2.getD 1 none)) j)).getD 2 .junk))), (fun j => (vI ((vAg ((smF (t.2.getD 1 none)) j)).getD 3 .junk))), (fun j => (vI ((vAg ((smF (t.2.getD 1 none)) j)).getD 4 .junk))))
theorem i_cond : ∀ x y, A_cond x = A_cond y → x = y := fun x y h => (congrArg d_cond h :)
def R_cond : g_cond → CRes := (fun z => (fun (e : Int) (mn : Nat) (mh : ByteArray → Bool) (m0 : ByteArray → Int) (m1 : ByteArray → Int) (m2 : ByteArray → Int) (m3 : ByteArray → Int) (m4 : ByteArray → Int) => .ret (i64 e) [some (.blk [.mp 1]), some (.smap mn mh (fun j => .agg [i64 (m0 j), i64 (m1 j), i64 (m2 j), i64 (m3 j), i64 (m4 j)]))]) z.1 z.2.1 z.2.2.1 z.2.2.2.1 z.2.2.2.2.1 z.2.2.2.2.2.1 z.2.2.2.2.2.2.1 z.2.2.2.2.2.2.2 : (Int × Nat × (ByteArray → Bool) × (ByteArray → Int) × (ByteArray → Int) × (ByteArray → Int) × (ByteArray → Int) × (ByteArray → Int)) → CRes)
def x_cond (z : g_cond) (k : CRes → Option Ans) : Option Ans := k (R_cond z)
theorem xe_cond : ∀ z k, x_cond z k = k (R_cond z) := fun z k => rfl
def t_cond {β : Type} (c_Of : a_Of → Option g_Of) (x : a_cond) (dn : g_cond → Option β) : Option β :=
 (c_Of x).bind fun z12 =>
  if (z12.2.2.2.2.2.2.1 == (0 : Int)) = true then
   if (!z12.1) = true then
    dn (((12 : Int), z12.2.2.2.2.2.2.2))
   else
    dn (z12.2.2.2.2.2.2)
  else
   dn (z12.2.2.2.2.2.2)
theorem n_cond {β : Type} (c_Of : a_Of → Option g_Of) (x : a_cond) (dn : g_cond → Option β) : t_cond c_Of x dn = (t_cond c_Of x some).bind dn := by
  unfold t_cond
  repeat' first | exact free_none | refine free_bind (fun z => ?_) | refine free_ite ?_ ?_ | refine free_sum (fun z => ?_) (fun z => ?_) | rfl
theorem r_cond (c_Of : a_Of → Option g_Of) (x : a_cond) : callK E5 (ftab 9 (fun _ _ => true) A_Of x_Of c_Of ca0) lo0 29 (A_cond x).1 (A_cond x).2 K = t_cond (fun x => viaF A_Of c_Of (A_Of x)) x (fun z => some (.c (R_cond z))) := by kernel_rfl
theorem s_cond (c_Of : a_Of → Option g_Of) (h_Of : ∀ x z, c_Of x = some z → SC E5 9 (A_Of x).1 (A_Of x).2 (R_Of z)) (q : Nat) (x : a_cond) (z : g_cond) (h : t_cond c_Of x some = some z) : SC E5 29 (A_cond x).1 (A_cond x).2 (R_cond z) := by
  refine SC.of hW5 hX5 (ftab_cons h_Of xe_Of ca0_sound) lo0_sound ((r_cond c_Of x).trans ?_)
  rw [via_eq i_Of c_Of, n_cond, h]; rfl
noncomputable def cond (q : Nat) (x : a_cond) : Option g_cond := t_cond (Of q) x some
theorem sc_cond (q : Nat) : ∀ (x : a_cond) (z : g_cond), cond q x = some z → SC E5 29 (A_cond x).1 (A_cond x).2 (R_cond z) := fun x z h => s_cond (Of q) (sc_Of q) q x z h
abbrev a_quant : Type := Int × Int × ByteArray × Nat × (Nat → List V) × Int × Int × Int × Int × Int × Nat × (ByteArray → Bool) × (ByteArray → Int) × (ByteArray → Int) × (ByteArray → Int) × (ByteArray → Int) × (ByteArray → Int)
abbrev g_quant : Type := Int × Nat × (ByteArray → Bool) × (ByteArray → Int) × (ByteArray → Int) × (ByteArray → Int) × (ByteArray → Int) × (ByteArray → Int)
def A_quant : a_quant → List V × List (Option Chunk) := (fun x => (fun (nk : Int) (nn : Int) (ns : ByteArray) (nm : Nat) (nf : Nat → List V) (d0 : Int) (d1 : Int) (d2 : Int) (d3 : Int) (d4 : Int) (mn : Nat) (mh : ByteArray → Bool) (m0 : ByteArray → Int) (m1 : ByteArray → Int) (m2 : ByteArray → Int) (m3 : ByteArray → Int) (m4 : ByteArray → Int) => (([.ptr 0 0, .agg [i64 nk, i64 nn, st ns, .ro 4 nm nf], .agg [i64 d0, i64 d1, i64 d2, i64 d3, i64 d4]] : List V), ([some (.blk [.mp 1]), some (.smap mn mh (fun j => .agg [i64 (m0 j), i64 (m1 j), i64 (m2 j), i64 (m3 j), i64 (m4 j)]))] : List (Option Chunk)))) x.1 x.2.1 x.2.2.1 x.2.2.2.1 x.2.2.2.2.1 x.2.2.2.2.2.1 x.2.2.2.2.2.2.1 x.2.2.2.2.2.2.2.1 x.2.2.2.2.2.2.2.2.1 x.2.2.2.2.2.2.2.2.2.1 x.2.2.2.2.2.2.2.2.2.2.1 x.2.2.2.2.2.2.2.2.2.2.2.1 x.2.2.2.2.2.2.2.2.2.2.2.2.1 x.2.2.2.2.2.2.2.2.2.2.2.2.2.1 x.2.2.2.2.2.2.2.2.2.2.2.2.2.2.1 x.2.2.2.2.2.2.2.2.2.2.2.2.2.2.2.1 x.2.2.2.2.2.2.2.2.2.2.2.2.2.2.2.2)
def d_quant (t : List V × List (Option Chunk)) : a_quant := ((vI ((vAg (t.1.getD 1 .junk)).getD 0 .junk)), (vI ((vAg (t.1.getD 1 .junk)).getD 1 .junk)), (vS ((vAg (t.1.getD 1 .junk)).getD 2 .junk)), (vRoN ((vAg (t.1.getD 1 .junk)).getD 3 .junk)), (vRoF ((vAg (t.1.getD 1 .junk)).getD 3 .junk)), (vI ((vAg (t.1.getD 2 .junk)).getD 0 .junk)), (vI ((vAg (t.1.getD 2 .junk)).getD 1 .junk)), (vI ((vAg (t.1.getD 2 .junk)).getD 2 .junk)), (vI ((vAg (t.1.getD 2 .junk)).getD 3 .junk)), (vI ((vAg (t.1.getD 2 .junk)).getD 4 .junk)), (smN (t.2.getD 1 none)), (smH (t.2.getD 1 none)), (fun j => (vI ((vAg ((smF (t.2.getD 1 none)) j)).getD 0 .junk))), (fun j => (vI ((vAg ((smF (t.2.getD 1 none)) j)).getD 1 .junk))), (fun j => (vI ((vAg ((smF (t.2.getD 1 none)) j)).getD 2 .junk))), (fun j => (vI ((vAg ((smF (t.2.getD 1 none)) j)).getD 3 .junk))), (fun j => (vI ((vAg ((smF (t.2.getD 1 none)) j)).getD 4 .junk))))
theorem i_quant : ∀ x y, A_quant x = A_quant y → x = y := fun x y h => (congrArg d_quant h :)
def R_quant : g_quant → CRes := (fun z => (fun (e : Int) (mn : Nat) (mh : ByteArray → Bool) (m0 : ByteArray → Int) (m1 : ByteArray → Int) (m2 : ByteArray → Int) (m3 : ByteArray → Int) (m4 : ByteArray → Int) => .ret (i64 e) [some (.blk [.mp 1]), some (.smap mn mh (fun j => .agg [i64 (m0 j), i64 (m1 j), i64 (m2 j), i64 (m3 j), i64 (m4 j)]))]) z.1 z.2.1 z.2.2.1 z.2.2.2.1 z.2.2.2.2.1 z.2.2.2.2.2.1 z.2.2.2.2.2.2.1 z.2.2.2.2.2.2.2 : (Int × Nat × (ByteArray → Bool) × (ByteArray → Int) × (ByteArray → Int) × (ByteArray → Int) × (ByteArray → Int) × (ByteArray → Int)) → CRes)
def x_quant (z : g_quant) (k : CRes → Option Ans) : Option Ans := k (R_quant z)
theorem xe_quant : ∀ z k, x_quant z k = k (R_quant z) := fun z k => rfl
def t_quant {β : Type} (c_Of : a_Of → Option g_Of) (x : a_quant) (dn : g_quant → Option β) : Option β :=
 (c_Of ((x.1, x.2.1, x.2.2.1, x.2.2.2.1, x.2.2.2.2.1, x.2.2.2.2.2.2.2.2.2.2))).bind fun z12 =>
  if (z12.2.2.2.2.2.2.1 != (0 : Int)) = true then
   dn (z12.2.2.2.2.2.2)
  else
   if z12.1 = true then
    dn (((12 : Int), z12.2.2.2.2.2.2.2))
   else
    if (if true = true then !(z12.2.1 == x.2.2.2.2.2.1 && (z12.2.2.1 == x.2.2.2.2.2.2.1 && (z12.2.2.2.1 == x.2.2.2.2.2.2.2.1 && (z12.2.2.2.2.1 == x.2.2.2.2.2.2.2.2.1 && (z12.2.2.2.2.2.1 == x.2.2.2.2.2.2.2.2.2.1 && true))))) else z12.2.1 == x.2.2.2.2.2.1 && (z12.2.2.1 == x.2.2.2.2.2.2.1 && (z12.2.2.2.1 == x.2.2.2.2.2.2.2.1 && (z12.2.2.2.2.1 == x.2.2.2.2.2.2.2.2.1 && (z12.2.2.2.2.2.1 == x.2.2.2.2.2.2.2.2.2.1 && true))))) = true then
     dn (((10 : Int), z12.2.2.2.2.2.2.2))
    else
     dn (((0 : Int), z12.2.2.2.2.2.2.2))
theorem n_quant {β : Type} (c_Of : a_Of → Option g_Of) (x : a_quant) (dn : g_quant → Option β) : t_quant c_Of x dn = (t_quant c_Of x some).bind dn := by
  unfold t_quant
  repeat' first | exact free_none | refine free_bind (fun z => ?_) | refine free_ite ?_ ?_ | refine free_sum (fun z => ?_) (fun z => ?_) | rfl
theorem r_quant (c_Of : a_Of → Option g_Of) (x : a_quant) : callK E5 (ftab 9 (fun _ _ => true) A_Of x_Of c_Of ca0) lo0 30 (A_quant x).1 (A_quant x).2 K = t_quant (fun x => viaF A_Of c_Of (A_Of x)) x (fun z => some (.c (R_quant z))) := by kernel_rfl
theorem s_quant (c_Of : a_Of → Option g_Of) (h_Of : ∀ x z, c_Of x = some z → SC E5 9 (A_Of x).1 (A_Of x).2 (R_Of z)) (q : Nat) (x : a_quant) (z : g_quant) (h : t_quant c_Of x some = some z) : SC E5 30 (A_quant x).1 (A_quant x).2 (R_quant z) := by
  refine SC.of hW5 hX5 (ftab_cons h_Of xe_Of ca0_sound) lo0_sound ((r_quant c_Of x).trans ?_)
  rw [via_eq i_Of c_Of, n_quant, h]; rfl
noncomputable def quant (q : Nat) (x : a_quant) : Option g_quant := t_quant (Of q) x some
theorem sc_quant (q : Nat) : ∀ (x : a_quant) (z : g_quant), quant q x = some z → SC E5 30 (A_quant x).1 (A_quant x).2 (R_quant z) := fun x z h => s_quant (Of q) (sc_Of q) q x z h
abbrev a_letS : Type := Int × Int × ByteArray × Nat × (Nat → Int) × (Nat → Int) × (Nat → ByteArray) × (Nat → Nat) × (Nat → Nat → List V) × Nat × (ByteArray → Bool) × (ByteArray → Int) × (ByteArray → Int) × (ByteArray → Int) × (ByteArray → Int) × (ByteArray → Int)
abbrev g_letS : Type := Int × Nat × (ByteArray → Bool) × (ByteArray → Int) × (ByteArray → Int) × (ByteArray → Int) × (ByteArray → Int) × (ByteArray → Int)
def A_letS : a_letS → List V × List (Option Chunk) := (fun x => (fun (nk : Int) (nn : Int) (ns : ByteArray) (nm : Nat) (ek : Nat → Int) (en : Nat → Int) (es : Nat → ByteArray) (em : Nat → Nat) (ef : Nat → Nat → List V) (mn : Nat) (mh : ByteArray → Bool) (m0 : ByteArray → Int) (m1 : ByteArray → Int) (m2 : ByteArray → Int) (m3 : ByteArray → Int) (m4 : ByteArray → Int) => (([.ptr 0 0, .agg [i64 nk, i64 nn, st ns, .ro 4 nm (fun j => [i64 (ek j), i64 (en j), st (es j), .ro 4 (em j) (ef j)])]] : List V), ([some (.blk [.mp 1]), some (.smap mn mh (fun j => .agg [i64 (m0 j), i64 (m1 j), i64 (m2 j), i64 (m3 j), i64 (m4 j)]))] : List (Option Chunk)))) x.1 x.2.1 x.2.2.1 x.2.2.2.1 x.2.2.2.2.1 x.2.2.2.2.2.1 x.2.2.2.2.2.2.1 x.2.2.2.2.2.2.2.1 x.2.2.2.2.2.2.2.2.1 x.2.2.2.2.2.2.2.2.2.1 x.2.2.2.2.2.2.2.2.2.2.1 x.2.2.2.2.2.2.2.2.2.2.2.1 x.2.2.2.2.2.2.2.2.2.2.2.2.1 x.2.2.2.2.2.2.2.2.2.2.2.2.2.1 x.2.2.2.2.2.2.2.2.2.2.2.2.2.2.1 x.2.2.2.2.2.2.2.2.2.2.2.2.2.2.2)
def d_letS (t : List V × List (Option Chunk)) : a_letS := ((vI ((vAg (t.1.getD 1 .junk)).getD 0 .junk)), (vI ((vAg (t.1.getD 1 .junk)).getD 1 .junk)), (vS ((vAg (t.1.getD 1 .junk)).getD 2 .junk)), (vRoN ((vAg (t.1.getD 1 .junk)).getD 3 .junk)), (fun j => (vI (((vRoF ((vAg (t.1.getD 1 .junk)).getD 3 .junk)) j).getD 0 .junk))), (fun j => (vI (((vRoF ((vAg (t.1.getD 1 .junk)).getD 3 .junk)) j).getD 1 .junk))), (fun j => (vS (((vRoF ((vAg (t.1.getD 1 .junk)).getD 3 .junk)) j).getD 2 .junk))), (fun j => (vRoN (((vRoF ((vAg (t.1.getD 1 .junk)).getD 3 .junk)) j).getD 3 .junk))), (fun j => (vRoF (((vRoF ((vAg (t.1.getD 1 .junk)).getD 3 .junk)) j).getD 3 .junk))), (smN (t.2.getD 1 none)), (smH (t.2.getD 1 none)), (fun j => (vI ((vAg ((smF (t.2.getD 1 none)) j)).getD 0 .junk))), (fun j => (vI ((vAg ((smF (t.2.getD 1 none)) j)).getD 1 .junk))), (fun j => (vI ((vAg ((smF (t.2.getD 1 none)) j)).getD 2 .junk))), (fun j => (vI ((vAg ((smF (t.2.getD 1 none)) j)).getD 3 .junk))), (fun j => (vI ((vAg ((smF (t.2.getD 1 none)) j)).getD 4 .junk))))
theorem i_letS : ∀ x y, A_letS x = A_letS y → x = y := fun x y h => (congrArg d_letS h :)
def R_letS : g_letS → CRes := (fun z => (fun (e : Int) (mn : Nat) (mh : ByteArray → Bool) (m0 : ByteArray → Int) (m1 : ByteArray → Int) (m2 : ByteArray → Int) (m3 : ByteArray → Int) (m4 : ByteArray → Int) => .ret (i64 e) [some (.blk [.mp 1]), some (.smap mn mh (fun j => .agg [i64 (m0 j), i64 (m1 j), i64 (m2 j), i64 (m3 j), i64 (m4 j)]))]) z.1 z.2.1 z.2.2.1 z.2.2.2.1 z.2.2.2.2.1 z.2.2.2.2.2.1 z.2.2.2.2.2.2.1 z.2.2.2.2.2.2.2 : (Int × Nat × (ByteArray → Bool) × (ByteArray → Int) × (ByteArray → Int) × (ByteArray → Int) × (ByteArray → Int) × (ByteArray → Int)) → CRes)
def x_letS (z : g_letS) (k : CRes → Option Ans) : Option Ans := k (R_letS z)
theorem xe_letS : ∀ z k, x_letS z k = k (R_letS z) := fun z k => rfl
def t_letS {β : Type} (c_Of : a_Of → Option g_Of) (c_declare : a_declare → Option g_declare) (x : a_letS) (dn : g_letS → Option β) : Option β :=
 if (0 : Int) ≤ (0 : Int) ∧ (0 : Int) < ((x.2.2.2.1 : Nat) : Int) then
  (c_Of ((x.2.2.2.2.1 0, x.2.2.2.2.2.1 0, x.2.2.2.2.2.2.1 0, x.2.2.2.2.2.2.2.1 0, x.2.2.2.2.2.2.2.2.1 0, x.2.2.2.2.2.2.2.2.2))).bind fun z12 =>
   if (z12.2.2.2.2.2.2.1 != (0 : Int)) = true then
    dn (z12.2.2.2.2.2.2)
   else
    if (x.1 == (2 : Int)) = true then
     if (!z12.2.2.2.2.2.2.2.2.1 (x.2.2.1)) = true then
      dn (((3 : Int), z12.2.2.2.2.2.2.2))
     else
      if z12.1 = true then
       dn (((12 : Int), z12.2.2.2.2.2.2.2))
      else
       if (x.1 == (2 : Int)) = true then
        if (if true = true then !((if z12.2.2.2.2.2.2.2.2.1 (x.2.2.1) = true then z12.2.2.2.2.2.2.2.2.2.1 (x.2.2.1) else (0 : Int)) == z12.2.1 && ((if z12.2.2.2.2.2.2.2.2.1 (x.2.2.1) = true then z12.2.2.2.2.2.2.2.2.2.2.1 (x.2.2.1) else (0 : Int)) == z12.2.2.1 && ((if z12.2.2.2.2.2.2.2.2.1 (x.2.2.1) = true then z12.2.2.2.2.2.2.2.2.2.2.2.1 (x.2.2.1) else (0 : Int)) == z12.2.2.2.1 && ((if z12.2.2.2.2.2.2.2.2.1 (x.2.2.1) = true then z12.2.2.2.2.2.2.2.2.2.2.2.2.1 (x.2.2.1) else (0 : Int)) == z12.2.2.2.2.1 && ((if z12.2.2.2.2.2.2.2.2.1 (x.2.2.1) = true then z12.2.2.2.2.2.2.2.2.2.2.2.2.2 (x.2.2.1) else (0 : Int)) == z12.2.2.2.2.2.1 && true))))) else (if z12.2.2.2.2.2.2.2.2.1 (x.2.2.1) = true then z12.2.2.2.2.2.2.2.2.2.1 (x.2.2.1) else (0 : Int)) == z12.2.1 && ((if z12.2.2.2.2.2.2.2.2.1 (x.2.2.1) = true then z12.2.2.2.2.2.2.2.2.2.2.1 (x.2.2.1) else (0 : Int)) == z12.2.2.1 && ((if z12.2.2.2.2.2.2.2.2.1 (x.2.2.1) = true then z12.2.2.2.2.2.2.2.2.2.2.2.1 (x.2.2.1) else (0 : Int)) == z12.2.2.2.1 && ((if z12.2.2.2.2.2.2.2.2.1 (x.2.2.1) = true then z12.2.2.2.2.2.2.2.2.2.2.2.2.1 (x.2.2.1) else (0 : Int)) == z12.2.2.2.2.1 && ((if z12.2.2.2.2.2.2.2.2.1 (x.2.2.1) = true then z12.2.2.2.2.2.2.2.2.2.2.2.2.2 (x.2.2.1) else (0 : Int)) == z12.2.2.2.2.2.1 && true))))) = true then
         dn (((10 : Int), z12.2.2.2.2.2.2.2))
        else
         if (x.1 == (2 : Int)) = true then
          dn (((0 : Int), z12.2.2.2.2.2.2.2))
         else
          (c_declare ((x.2.2.1, z12.2.1, z12.2.2.1, z12.2.2.2.1, z12.2.2.2.2.1, z12.2.2.2.2.2.1, z12.2.2.2.2.2.2.2))).bind fun z26 =>
           dn z26
       else
        if (x.1 == (2 : Int)) = true then
         dn (((0 : Int), z12.2.2.2.2.2.2.2))
        else
         (c_declare ((x.2.2.1, z12.2.1, z12.2.2.1, z12.2.2.2.1, z12.2.2.2.2.1, z12.2.2.2.2.2.1, z12.2.2.2.2.2.2.2))).bind fun z40 =>
          dn z40
    else
     if z12.1 = true then
      dn (((12 : Int), z12.2.2.2.2.2.2.2))
     else
      if (x.1 == (2 : Int)) = true then
       if (if true = true then !((if z12.2.2.2.2.2.2.2.2.1 (x.2.2.1) = true then z12.2.2.2.2.2.2.2.2.2.1 (x.2.2.1) else (0 : Int)) == z12.2.1 && ((if z12.2.2.2.2.2.2.2.2.1 (x.2.2.1) = true then z12.2.2.2.2.2.2.2.2.2.2.1 (x.2.2.1) else (0 : Int)) == z12.2.2.1 && ((if z12.2.2.2.2.2.2.2.2.1 (x.2.2.1) = true then z12.2.2.2.2.2.2.2.2.2.2.2.1 (x.2.2.1) else (0 : Int)) == z12.2.2.2.1 && ((if z12.2.2.2.2.2.2.2.2.1 (x.2.2.1) = true then z12.2.2.2.2.2.2.2.2.2.2.2.2.1 (x.2.2.1) else (0 : Int)) == z12.2.2.2.2.1 && ((if z12.2.2.2.2.2.2.2.2.1 (x.2.2.1) = true then z12.2.2.2.2.2.2.2.2.2.2.2.2.2 (x.2.2.1) else (0 : Int)) == z12.2.2.2.2.2.1 && true))))) else (if z12.2.2.2.2.2.2.2.2.1 (x.2.2.1) = true then z12.2.2.2.2.2.2.2.2.2.1 (x.2.2.1) else (0 : Int)) == z12.2.1 && ((if z12.2.2.2.2.2.2.2.2.1 (x.2.2.1) = true then z12.2.2.2.2.2.2.2.2.2.2.1 (x.2.2.1) else (0 : Int)) == z12.2.2.1 && ((if z12.2.2.2.2.2.2.2.2.1 (x.2.2.1) = true then z12.2.2.2.2.2.2.2.2.2.2.2.1 (x.2.2.1) else (0 : Int)) == z12.2.2.2.1 && ((if z12.2.2.2.2.2.2.2.2.1 (x.2.2.1) = true then z12.2.2.2.2.2.2.2.2.2.2.2.2.1 (x.2.2.1) else (0 : Int)) == z12.2.2.2.2.1 && ((if z12.2.2.2.2.2.2.2.2.1 (x.2.2.1) = true then z12.2.2.2.2.2.2.2.2.2.2.2.2.2 (x.2.2.1) else (0 : Int)) == z12.2.2.2.2.2.1 && true))))) = true then
        dn (((10 : Int), z12.2.2.2.2.2.2.2))
       else
        if (x.1 == (2 : Int)) = true then
         dn (((0 : Int), z12.2.2.2.2.2.2.2))
        else
         (c_declare ((x.2.2.1, z12.2.1, z12.2.2.1, z12.2.2.2.1, z12.2.2.2.2.1, z12.2.2.2.2.2.1, z12.2.2.2.2.2.2.2))).bind fun z54 =>
          dn z54
      else
       if (x.1 == (2 : Int)) = true then
        dn (((0 : Int), z12.2.2.2.2.2.2.2))
       else
        (c_declare ((x.2.2.1, z12.2.1, z12.2.2.1, z12.2.2.2.1, z12.2.2.2.2.1, z12.2.2.2.2.2.1, z12.2.2.2.2.2.2.2))).bind fun z68 =>
         dn z68
 else
  none
theorem n_letS {β : Type} (c_Of : a_Of → Option g_Of) (c_declare : a_declare → Option g_declare) (x : a_letS) (dn : g_letS → Option β) : t_letS c_Of c_declare x dn = (t_letS c_Of c_declare x some).bind dn := by
  unfold t_letS
  repeat' first | exact free_none | refine free_bind (fun z => ?_) | refine free_ite ?_ ?_ | refine free_sum (fun z => ?_) (fun z => ?_) | rfl
theorem r_letS (c_Of : a_Of → Option g_Of) (c_declare : a_declare → Option g_declare) (x : a_letS) : callK E5 (ftab 9 (fun _ _ => true) A_Of x_Of c_Of (ftab 16 (fun _ _ => true) A_declare x_declare c_declare ca0)) lo0 28 (A_letS x).1 (A_letS x).2 K = t_letS (fun x => viaF A_Of c_Of (A_Of x)) (fun x => viaF A_declare c_declare (A_declare x)) x (fun z => some (.c (R_letS z))) := by kernel_rfl
theorem s_letS (c_Of : a_Of → Option g_Of) (h_Of : ∀ x z, c_Of x = some z → SC E5 9 (A_Of x).1 (A_Of x).2 (R_Of z)) (c_declare : a_declare → Option g_declare) (h_declare : ∀ x z, c_declare x = some z → SC E5 16 (A_declare x).1 (A_declare x).2 (R_declare z)) (q : Nat) (x : a_letS) (z : g_letS) (h : t_letS c_Of c_declare x some = some z) : SC E5 28 (A_letS x).1 (A_letS x).2 (R_letS z) := by
  refine SC.of hW5 hX5 (ftab_cons h_Of xe_Of (ftab_cons h_declare xe_declare ca0_sound)) lo0_sound ((r_letS c_Of c_declare x).trans ?_)
  rw [via_eq i_Of c_Of, via_eq i_declare c_declare, n_letS, h]; rfl
noncomputable def letS (q : Nat) (x : a_letS) : Option g_letS := t_letS (Of q) (declare q) x some
theorem sc_letS (q : Nat) : ∀ (x : a_letS) (z : g_letS), letS q x = some z → SC E5 28 (A_letS x).1 (A_letS x).2 (R_letS z) := fun x z h => s_letS (Of q) (sc_Of q) (declare q) (sc_declare q) q x z h
abbrev a_stmt : Type := Int × Int × ByteArray × Nat × (Nat → List V) × Nat × (ByteArray → Bool) × (ByteArray → Int) × (ByteArray → Int) × (ByteArray → Int) × (ByteArray → Int) × (ByteArray → Int)
abbrev g_stmt : Type := Int × Nat × (ByteArray → Bool) × (ByteArray → Int) × (ByteArray → Int) × (ByteArray → Int) × (ByteArray → Int) × (ByteArray → Int)
def A_stmt : a_stmt → List V × List (Option Chunk) := (fun x => (fun (nk : Int) (nn : Int) (ns : ByteArray) (nm : Nat) (nf : Nat → List V) (mn : Nat) (mh : ByteArray → Bool) (m0 : ByteArray → Int) (m1 : ByteArray → Int) (m2 : ByteArray → Int) (m3 : ByteArray → Int) (m4 : ByteArray → Int) => (([.ptr 0 0, .agg [i64 nk, i64 nn, st ns, .ro 4 nm nf]] : List V), ([some (.blk [.mp 1]), some (.smap mn mh (fun j => .agg [i64 (m0 j), i64 (m1 j), i64 (m2 j), i64 (m3 j), i64 (m4 j)]))] : List (Option Chunk)))) x.1 x.2.1 x.2.2.1 x.2.2.2.1 x.2.2.2.2.1 x.2.2.2.2.2.1 x.2.2.2.2.2.2.1 x.2.2.2.2.2.2.2.1 x.2.2.2.2.2.2.2.2.1 x.2.2.2.2.2.2.2.2.2.1 x.2.2.2.2.2.2.2.2.2.2.1 x.2.2.2.2.2.2.2.2.2.2.2)
def d_stmt (t : List V × List (Option Chunk)) : a_stmt := ((vI ((vAg (t.1.getD 1 .junk)).getD 0 .junk)), (vI ((vAg (t.1.getD 1 .junk)).getD 1 .junk)), (vS ((vAg (t.1.getD 1 .junk)).getD 2 .junk)), (vRoN ((vAg (t.1.getD 1 .junk)).getD 3 .junk)), (vRoF ((vAg (t.1.getD 1 .junk)).getD 3 .junk)), (smN (t.2.getD 1 none)), (smH (t.2.getD 1 none)), (fun j => vI ((vAg (smF (t.2.getD 1 none) j)).getD 0 .junk)), (fun j => vI ((vAg (smF (t.2.getD 1 none) j)).getD 1 .junk)), (fun j => vI ((vAg (smF (t.2.getD 1 none) j)).getD 2 .junk)), (fun j => vI ((vAg (smF (t.2.getD 1 none) j)).getD 3 .junk)), (fun j => vI ((vAg (smF (t.2.getD 1 none) j)).getD 4 .junk)))
theorem i_stmt : ∀ x y, A_stmt x = A_stmt y → x = y := fun x y h => (congrArg d_stmt h :)
def R_stmt : g_stmt → CRes := (fun z => (fun (e : Int) (mn : Nat) (mh : ByteArray → Bool) (m0 : ByteArray → Int) (m1 : ByteArray → Int) (m2 : ByteArray → Int) (m3 : ByteArray → Int) (m4 : ByteArray → Int) => .ret (i64 e) [some (.blk [.mp 1]), some (.smap mn mh (fun j => .agg [i64 (m0 j), i64 (m1 j), i64 (m2 j), i64 (m3 j), i64 (m4 j)]))]) z.1 z.2.1 z.2.2.1 z.2.2.2.1 z.2.2.2.2.1 z.2.2.2.2.2.1 z.2.2.2.2.2.2.1 z.2.2.2.2.2.2.2 : (Int × Nat × (ByteArray → Bool) × (ByteArray → Int) × (ByteArray → Int) × (ByteArray → Int) × (ByteArray → Int) × (ByteArray → Int)) → CRes)
def x_stmt (z : g_stmt) (k : CRes → Option Ans) : Option Ans := k (R_stmt z)
theorem xe_stmt : ∀ z k, x_stmt z k = k (R_stmt z) := fun z k => rfl
abbrev a_alls : Type := Nat × (Nat → List V) × Nat × (ByteArray → Bool) × (ByteArray → Int) × (ByteArray → Int) × (ByteArray → Int) × (ByteArray → Int) × (ByteArray → Int)
abbrev g_alls : Type := Int × Nat × (ByteArray → Bool) × (ByteArray → Int) × (ByteArray → Int) × (ByteArray → Int) × (ByteArray → Int) × (ByteArray → Int)
def A_alls : a_alls → List V × List (Option Chunk) := (fun x => (fun (nm : Nat) (nf : Nat → List V) (mn : Nat) (mh : ByteArray → Bool) (m0 : ByteArray → Int) (m1 : ByteArray → Int) (m2 : ByteArray → Int) (m3 : ByteArray → Int) (m4 : ByteArray → Int) => (([.ptr 0 0, .ro 4 nm nf] : List V), ([some (.blk [.mp 1]), some (.smap mn mh (fun j => .agg [i64 (m0 j), i64 (m1 j), i64 (m2 j), i64 (m3 j), i64 (m4 j)]))] : List (Option Chunk)))) x.1 x.2.1 x.2.2.1 x.2.2.2.1 x.2.2.2.2.1 x.2.2.2.2.2.1 x.2.2.2.2.2.2.1 x.2.2.2.2.2.2.2.1 x.2.2.2.2.2.2.2.2)
def d_alls (t : List V × List (Option Chunk)) : a_alls := ((vRoN (t.1.getD 1 .junk)), (vRoF (t.1.getD 1 .junk)), (smN (t.2.getD 1 none)), (smH (t.2.getD 1 none)), (fun j => vI ((vAg (smF (t.2.getD 1 none) j)).getD 0 .junk)), (fun j => vI ((vAg (smF (t.2.getD 1 none) j)).getD 1 .junk)), (fun j => vI ((vAg (smF (t.2.getD 1 none) j)).getD 2 .junk)), (fun j => vI ((vAg (smF (t.2.getD 1 none) j)).getD 3 .junk)), (fun j => vI ((vAg (smF (t.2.getD 1 none) j)).getD 4 .junk)))
theorem i_alls : ∀ x y, A_alls x = A_alls y → x = y := fun x y h => (congrArg d_alls h :)
def R_alls : g_alls → CRes := (fun z => (fun (e : Int) (mn : Nat) (mh : ByteArray → Bool) (m0 : ByteArray → Int) (m1 : ByteArray → Int) (m2 : ByteArray → Int) (m3 : ByteArray → Int) (m4 : ByteArray → Int) => .ret (i64 e) [some (.blk [.mp 1]), some (.smap mn mh (fun j => .agg [i64 (m0 j), i64 (m1 j), i64 (m2 j), i64 (m3 j), i64 (m4 j)]))]) z.1 z.2.1 z.2.2.1 z.2.2.2.1 z.2.2.2.2.1 z.2.2.2.2.2.1 z.2.2.2.2.2.2.1 z.2.2.2.2.2.2.2 : (Int × Nat × (ByteArray → Bool) × (ByteArray → Int) × (ByteArray → Int) × (ByteArray → Int) × (ByteArray → Int) × (ByteArray → Int)) → CRes)
def x_alls (z : g_alls) (k : CRes → Option Ans) : Option Ans := k (R_alls z)
theorem xe_alls : ∀ z k, x_alls z k = k (R_alls z) := fun z k => rfl
abbrev a_stmtN : Type := Int × Int × ByteArray × Nat × (Nat → Int) × (Nat → Int) × (Nat → ByteArray) × (Nat → Nat) × (Nat → Nat → List V) × Nat × (ByteArray → Bool) × (ByteArray → Int) × (ByteArray → Int) × (ByteArray → Int) × (ByteArray → Int) × (ByteArray → Int)
abbrev g_stmtN : Type := Int × Nat × (ByteArray → Bool) × (ByteArray → Int) × (ByteArray → Int) × (ByteArray → Int) × (ByteArray → Int) × (ByteArray → Int)
def A_stmtN : a_stmtN → List V × List (Option Chunk) := (fun x => (fun (nk : Int) (nn : Int) (ns : ByteArray) (nm : Nat) (ek : Nat → Int) (en : Nat → Int) (es : Nat → ByteArray) (em : Nat → Nat) (ef : Nat → Nat → List V) (mn : Nat) (mh : ByteArray → Bool) (m0 : ByteArray → Int) (m1 : ByteArray → Int) (m2 : ByteArray → Int) (m3 : ByteArray → Int) (m4 : ByteArray → Int) => (([.ptr 0 0, .agg [i64 nk, i64 nn, st ns, .ro 4 nm (fun j => [i64 (ek j), i64 (en j), st (es j), .ro 4 (em j) (ef j)])]] : List V), ([some (.blk [.mp 1]), some (.smap mn mh (fun j => .agg [i64 (m0 j), i64 (m1 j), i64 (m2 j), i64 (m3 j), i64 (m4 j)]))] : List (Option Chunk)))) x.1 x.2.1 x.2.2.1 x.2.2.2.1 x.2.2.2.2.1 x.2.2.2.2.2.1 x.2.2.2.2.2.2.1 x.2.2.2.2.2.2.2.1 x.2.2.2.2.2.2.2.2.1 x.2.2.2.2.2.2.2.2.2.1 x.2.2.2.2.2.2.2.2.2.2.1 x.2.2.2.2.2.2.2.2.2.2.2.1 x.2.2.2.2.2.2.2.2.2.2.2.2.1 x.2.2.2.2.2.2.2.2.2.2.2.2.2.1 x.2.2.2.2.2.2.2.2.2.2.2.2.2.2.1 x.2.2.2.2.2.2.2.2.2.2.2.2.2.2.2)
def R_stmtN : g_stmtN → CRes := (fun z => (fun (e : Int) (mn : Nat) (mh : ByteArray → Bool) (m0 : ByteArray → Int) (m1 : ByteArray → Int) (m2 : ByteArray → Int) (m3 : ByteArray → Int) (m4 : ByteArray → Int) => .ret (i64 e) [some (.blk [.mp 1]), some (.smap mn mh (fun j => .agg [i64 (m0 j), i64 (m1 j), i64 (m2 j), i64 (m3 j), i64 (m4 j)]))]) z.1 z.2.1 z.2.2.1 z.2.2.2.1 z.2.2.2.2.1 z.2.2.2.2.2.1 z.2.2.2.2.2.2.1 z.2.2.2.2.2.2.2 : (Int × Nat × (ByteArray → Bool) × (ByteArray → Int) × (ByteArray → Int) × (ByteArray → Int) × (ByteArray → Int) × (ByteArray → Int)) → CRes)
abbrev a_allsN : Type := Nat × (Nat → Int) × (Nat → Int) × (Nat → ByteArray) × (Nat → Nat) × (Nat → Nat → List V) × Nat × (ByteArray → Bool) × (ByteArray → Int) × (ByteArray → Int) × (ByteArray → Int) × (ByteArray → Int) × (ByteArray → Int)
abbrev g_allsN : Type := Int × Nat × (ByteArray → Bool) × (ByteArray → Int) × (ByteArray → Int) × (ByteArray → Int) × (ByteArray → Int) × (ByteArray → Int)
def A_allsN : a_allsN → List V × List (Option Chunk) := (fun x => (fun (nm : Nat) (ek : Nat → Int) (en : Nat → Int) (es : Nat → ByteArray) (em : Nat → Nat) (ef : Nat → Nat → List V) (mn : Nat) (mh : ByteArray → Bool) (m0 : ByteArray → Int) (m1 : ByteArray → Int) (m2 : ByteArray → Int) (m3 : ByteArray → Int) (m4 : ByteArray → Int) => (([.ptr 0 0, .ro 4 nm (fun j => [i64 (ek j), i64 (en j), st (es j), .ro 4 (em j) (ef j)])] : List V), ([some (.blk [.mp 1]), some (.smap mn mh (fun j => .agg [i64 (m0 j), i64 (m1 j), i64 (m2 j), i64 (m3 j), i64 (m4 j)]))] : List (Option Chunk)))) x.1 x.2.1 x.2.2.1 x.2.2.2.1 x.2.2.2.2.1 x.2.2.2.2.2.1 x.2.2.2.2.2.2.1 x.2.2.2.2.2.2.2.1 x.2.2.2.2.2.2.2.2.1 x.2.2.2.2.2.2.2.2.2.1 x.2.2.2.2.2.2.2.2.2.2.1 x.2.2.2.2.2.2.2.2.2.2.2.1 x.2.2.2.2.2.2.2.2.2.2.2.2)
def R_allsN : g_allsN → CRes := (fun z => (fun (e : Int) (mn : Nat) (mh : ByteArray → Bool) (m0 : ByteArray → Int) (m1 : ByteArray → Int) (m2 : ByteArray → Int) (m3 : ByteArray → Int) (m4 : ByteArray → Int) => .ret (i64 e) [some (.blk [.mp 1]), some (.smap mn mh (fun j => .agg [i64 (m0 j), i64 (m1 j), i64 (m2 j), i64 (m3 j), i64 (m4 j)]))]) z.1 z.2.1 z.2.2.1 z.2.2.2.1 z.2.2.2.2.1 z.2.2.2.2.2.1 z.2.2.2.2.2.2.1 z.2.2.2.2.2.2.2 : (Int × Nat × (ByteArray → Bool) × (ByteArray → Int) × (ByteArray → Int) × (ByteArray → Int) × (ByteArray → Int) × (ByteArray → Int)) → CRes)
def t_stmtN {β : Type} (c_wellF : a_wellF → Option g_wellF) (c_inRange : a_inRange → Option g_inRange) (c_letS : a_letS → Option g_letS) (c_cond : a_cond → Option g_cond) (c_quant : a_quant → Option g_quant) (c_alls : a_alls → Option g_alls) (x : a_stmtN) (dn : g_stmtN → Option β) : Option β :=
 (c_wellF ((x.1, x.2.1, x.2.2.1, x.2.2.2.1, x.2.2.2.2.1, x.2.2.2.2.2.1, x.2.2.2.2.2.2.1, x.2.2.2.2.2.2.2.1, x.2.2.2.2.2.2.2.2.1))).bind fun z9 =>
  if (!z9) = true then
   dn (((7 : Int), x.2.2.2.2.2.2.2.2.2))
  else
   (c_inRange ((x.1, x.2.1, x.2.2.1, x.2.2.2.1, fun (j : Nat) => [i64 (x.2.2.2.2.1 j), i64 (x.2.2.2.2.2.1 j), st (x.2.2.2.2.2.2.1 j), V.ro 4 (x.2.2.2.2.2.2.2.1 j) (x.2.2.2.2.2.2.2.2.1 j)]))).bind fun z15 =>
    if (!z15) = true then
     dn (((5 : Int), x.2.2.2.2.2.2.2.2.2))
    else
     if (x.1 == (1 : Int)) = true then
      (c_letS x).bind fun z32 =>
       dn z32
     else
      if (x.1 == (2 : Int)) = true then
       (c_letS x).bind fun z49 =>
        dn z49
      else
       if (x.1 == (7 : Int)) = true then
        if (0 : Int) ≤ (0 : Int) ∧ (0 : Int) < ((x.2.2.2.1 : Nat) : Int) then
         (c_cond ((x.2.2.2.2.1 0, x.2.2.2.2.2.1 0, x.2.2.2.2.2.2.1 0, x.2.2.2.2.2.2.2.1 0, x.2.2.2.2.2.2.2.2.1 0, x.2.2.2.2.2.2.2.2.2))).bind fun z62 =>
          dn z62
        else
         none
       else
        if (x.1 == (8 : Int)) = true then
         if (0 : Int) ≤ (0 : Int) ∧ (0 : Int) < ((x.2.2.2.1 : Nat) : Int) then
          (c_quant ((x.2.2.2.2.1 0, x.2.2.2.2.2.1 0, x.2.2.2.2.2.2.1 0, x.2.2.2.2.2.2.2.1 0, x.2.2.2.2.2.2.2.2.1 0, (0 : Int), (0 : Int), (0 : Int), (1 : Int), (0 : Int), x.2.2.2.2.2.2.2.2.2))).bind fun z80 =>
           dn z80
         else
          none
        else
         if (x.1 == (5 : Int)) = true then
          if (0 : Int) ≤ (0 : Int) ∧ (0 : Int) < ((x.2.2.2.1 : Nat) : Int) then
           (c_quant ((x.2.2.2.2.1 0, x.2.2.2.2.2.1 0, x.2.2.2.2.2.2.1 0, x.2.2.2.2.2.2.2.1 0, x.2.2.2.2.2.2.2.2.1 0, (0 : Int), (0 : Int), (1 : Int), (0 : Int), (0 : Int), x.2.2.2.2.2.2.2.2.2))).bind fun z98 =>
            dn z98
          else
           none
         else
          if (x.1 == (9 : Int)) = true then
           if (0 : Int) ≤ (0 : Int) ∧ (0 : Int) < ((x.2.2.2.1 : Nat) : Int) then
            (c_quant ((x.2.2.2.2.1 0, x.2.2.2.2.2.1 0, x.2.2.2.2.2.2.1 0, x.2.2.2.2.2.2.2.1 0, x.2.2.2.2.2.2.2.2.1 0, (0 : Int), (0 : Int), (1 : Int), (0 : Int), (0 : Int), x.2.2.2.2.2.2.2.2.2))).bind fun z116 =>
             dn z116
           else
            none
          else
           if (x.1 == (10 : Int)) = true then
            if (0 : Int) ≤ (0 : Int) ∧ (0 : Int) < ((x.2.2.2.1 : Nat) : Int) then
             (c_quant ((x.2.2.2.2.1 0, x.2.2.2.2.2.1 0, x.2.2.2.2.2.2.1 0, x.2.2.2.2.2.2.2.1 0, x.2.2.2.2.2.2.2.2.1 0, (0 : Int), (1 : Int), (0 : Int), (0 : Int), (0 : Int), x.2.2.2.2.2.2.2.2.2))).bind fun z134 =>
              dn z134
            else
             none
           else
            if (x.1 == (11 : Int)) = true then
             if (0 : Int) ≤ (0 : Int) ∧ (0 : Int) < ((x.2.2.2.1 : Nat) : Int) then
              (c_quant ((x.2.2.2.2.1 0, x.2.2.2.2.2.1 0, x.2.2.2.2.2.2.1 0, x.2.2.2.2.2.2.2.1 0, x.2.2.2.2.2.2.2.2.1 0, (0 : Int), (1 : Int), (0 : Int), (0 : Int), (0 : Int), x.2.2.2.2.2.2.2.2.2))).bind fun z152 =>
               dn z152
             else
              none
            else
             if (x.1 == (6 : Int)) = true then
              if (0 : Int) ≤ (0 : Int) ∧ (0 : Int) < ((x.2.2.2.1 : Nat) : Int) then
               (c_cond ((x.2.2.2.2.1 0, x.2.2.2.2.2.1 0, x.2.2.2.2.2.2.1 0, x.2.2.2.2.2.2.2.1 0, x.2.2.2.2.2.2.2.2.1 0, x.2.2.2.2.2.2.2.2.2))).bind fun z165 =>
                if (z165.1 != (0 : Int)) = true then
                 dn z165
                else
                 if (0 : Int) ≤ (1 : Int) ∧ (1 : Int) < ((x.2.2.2.1 : Nat) : Int) then
                  (c_quant ((x.2.2.2.2.1 1, x.2.2.2.2.2.1 1, x.2.2.2.2.2.2.1 1, x.2.2.2.2.2.2.2.1 1, x.2.2.2.2.2.2.2.2.1 1, (0 : Int), (0 : Int), (1 : Int), (0 : Int), (0 : Int), z165.2))).bind fun z183 =>
                   dn z183
                 else
                  none
              else
               none
             else
              if (x.1 == (3 : Int)) = true then
               if (0 : Int) ≤ (0 : Int) ∧ (0 : Int) < ((x.2.2.2.1 : Nat) : Int) then
                (c_cond ((x.2.2.2.2.1 0, x.2.2.2.2.2.1 0, x.2.2.2.2.2.2.1 0, x.2.2.2.2.2.2.2.1 0, x.2.2.2.2.2.2.2.2.1 0, x.2.2.2.2.2.2.2.2.2))).bind fun z196 =>
                 if (z196.1 != (0 : Int)) = true then
                  dn z196
                 else
                  if (0 : Int) ≤ (1 : Int) ∧ (1 : Int) ≤ ((x.2.2.2.1 : Nat) : Int) ∧ ((x.2.2.2.1 : Nat) : Int) ≤ ((x.2.2.2.1 : Nat) : Int) then
                   (c_alls ((Int.toNat ((x.2.2.2.1 : Nat) : Int) - 1, fun (j : Nat) => [i64 (x.2.2.2.2.1 (1 + j)), i64 (x.2.2.2.2.2.1 (1 + j)), st (x.2.2.2.2.2.2.1 (1 + j)), V.ro 4 (x.2.2.2.2.2.2.2.1 (1 + j)) (x.2.2.2.2.2.2.2.2.1 (1 + j))], z196.2))).bind fun z206 =>
                    dn z206
                  else
                   none
               else
                none
              else
               (c_alls ((x.2.2.2.1, fun (j : Nat) => [i64 (x.2.2.2.2.1 j), i64 (x.2.2.2.2.2.1 j), st (x.2.2.2.2.2.2.1 j), V.ro 4 (x.2.2.2.2.2.2.2.1 j) (x.2.2.2.2.2.2.2.2.1 j)], x.2.2.2.2.2.2.2.2.2))).bind fun z216 =>
                dn z216
theorem n_stmtN {β : Type} (c_wellF : a_wellF → Option g_wellF) (c_inRange : a_inRange → Option g_inRange) (c_letS : a_letS → Option g_letS) (c_cond : a_cond → Option g_cond) (c_quant : a_quant → Option g_quant) (c_alls : a_alls → Option g_alls) (x : a_stmtN) (dn : g_stmtN → Option β) : t_stmtN c_wellF c_inRange c_letS c_cond c_quant c_alls x dn = (t_stmtN c_wellF c_inRange c_letS c_cond c_quant c_alls x some).bind dn := by
  unfold t_stmtN
  repeat' first | exact free_none | refine free_bind (fun z => ?_) | refine free_ite ?_ ?_ | refine free_sum (fun z => ?_) (fun z => ?_) | rfl
theorem r_stmtN (c_wellF : a_wellF → Option g_wellF) (c_inRange : a_inRange → Option g_inRange) (c_letS : a_letS → Option g_letS) (c_cond : a_cond → Option g_cond) (c_quant : a_quant → Option g_quant) (c_alls : a_alls → Option g_alls) (x : a_stmtN) : callK E5 (ftab 26 (fun _ _ => true) A_wellF x_wellF c_wellF (ftab 27 (fun _ _ => true) A_inRange x_inRange c_inRange (ftab 28 (fun _ _ => true) A_letS x_letS c_letS (ftab 29 (fun _ _ => true) A_cond x_cond c_cond (ftab 30 (fun _ _ => true) A_quant x_quant c_quant (ftab 31 (fun _ _ => true) A_alls x_alls c_alls ca0)))))) lo0 17 (A_stmtN x).1 (A_stmtN x).2 K = t_stmtN (fun x => viaF A_wellF c_wellF (A_wellF x)) (fun x => viaF A_inRange c_inRange (A_inRange x)) (fun x => viaF A_letS c_letS (A_letS x)) (fun x => viaF A_cond c_cond (A_cond x)) (fun x => viaF A_quant c_quant (A_quant x)) (fun x => viaF A_alls c_alls (A_alls x)) x (fun z => some (.c (R_stmtN z))) := by kernel_rfl
theorem s_stmtN (c_wellF : a_wellF → Option g_wellF) (h_wellF : ∀ x z, c_wellF x = some z → SC E5 26 (A_wellF x).1 (A_wellF x).2 (R_wellF z)) (c_inRange : a_inRange → Option g_inRange) (h_inRange : ∀ x z, c_inRange x = some z → SC E5 27 (A_inRange x).1 (A_inRange x).2 (R_inRange z)) (c_letS : a_letS → Option g_letS) (h_letS : ∀ x z, c_letS x = some z → SC E5 28 (A_letS x).1 (A_letS x).2 (R_letS z)) (c_cond : a_cond → Option g_cond) (h_cond : ∀ x z, c_cond x = some z → SC E5 29 (A_cond x).1 (A_cond x).2 (R_cond z)) (c_quant : a_quant → Option g_quant) (h_quant : ∀ x z, c_quant x = some z → SC E5 30 (A_quant x).1 (A_quant x).2 (R_quant z)) (c_alls : a_alls → Option g_alls) (h_alls : ∀ x z, c_alls x = some z → SC E5 31 (A_alls x).1 (A_alls x).2 (R_alls z)) (q : Nat) (x : a_stmtN) (z : g_stmtN) (h : t_stmtN c_wellF c_inRange c_letS c_cond c_quant c_alls x some = some z) : SC E5 17 (A_stmtN x).1 (A_stmtN x).2 (R_stmtN z) := by
  refine SC.of hW5 hX5 (ftab_cons h_wellF xe_wellF (ftab_cons h_inRange xe_inRange (ftab_cons h_letS xe_letS (ftab_cons h_cond xe_cond (ftab_cons h_quant xe_quant (ftab_cons h_alls xe_alls ca0_sound)))))) lo0_sound ((r_stmtN c_wellF c_inRange c_letS c_cond c_quant c_alls x).trans ?_)
  rw [via_eq i_wellF c_wellF, via_eq i_inRange c_inRange, via_eq i_letS c_letS, via_eq i_cond c_cond, via_eq i_quant c_quant, via_eq i_alls c_alls, n_stmtN, h]; rfl
abbrev allsN_l0_a : Type := Int × Nat × (ByteArray → Bool) × (ByteArray → Int) × (ByteArray → Int) × (ByteArray → Int) × (ByteArray → Int) × (ByteArray → Int)
abbrev allsN_l0_g : Type := (Int × Nat × (ByteArray → Bool) × (ByteArray → Int) × (ByteArray → Int) × (ByteArray → Int) × (ByteArray → Int) × (ByteArray → Int)) ⊕ (Nat × (ByteArray → Bool) × (ByteArray → Int) × (ByteArray → Int) × (ByteArray → Int) × (ByteArray → Int) × (ByteArray → Int))
def allsN_l0_S (x : a_allsN) (y : allsN_l0_a) : St := { fr := [V.ptr 0 0] ++ jk 7 ++ [V.ro 4 (x.1) fun (j : Nat) => [i64 (x.2.1 j), i64 (x.2.2.1 j), st (x.2.2.2.1 j), V.ro 4 (x.2.2.2.2.1 j) (x.2.2.2.2.2.1 j)], i64 ((x.1 : Nat) : Int), i64 (y.1)] ++ jk 10, H := hp [some (Chunk.blk [V.mp 1]), some (Chunk.smap (y.2.1) (y.2.2.1) fun (j : ByteArray) => V.agg [i64 (y.2.2.2.1 j), i64 (y.2.2.2.2.1 j), i64 (y.2.2.2.2.2.1 j), i64 (y.2.2.2.2.2.2.1 j), i64 (y.2.2.2.2.2.2.2 j)])], nx := 2, rt := 1, me := 31 }
def allsN_l0_d (s : St) : allsN_l0_a := ((vI (s.fr.getD 10 .junk)), (smN (s.H 1)), (smH (s.H 1)), (fun j => (vI ((vAg ((smF (s.H 1)) j)).getD 0 .junk))), (fun j => (vI ((vAg ((smF (s.H 1)) j)).getD 1 .junk))), (fun j => (vI ((vAg ((smF (s.H 1)) j)).getD 2 .junk))), (fun j => (vI ((vAg ((smF (s.H 1)) j)).getD 3 .junk))), (fun j => (vI ((vAg ((smF (s.H 1)) j)).getD 4 .junk))))
theorem allsN_l0_i (x : a_allsN) : ∀ y y', allsN_l0_S x y = allsN_l0_S x y' → y = y' := fun y y' h => (congrArg allsN_l0_d h :)
def allsN_l0_T (x : a_allsN) : allsN_l0_g → Ex × St := (Sum.elim (fun z => (Ex.ret, { fr := jk 4 ++ [i64 (z.1)] ++ jk 16, H := hp [some (Chunk.blk [V.mp 1]), some (Chunk.smap (z.2.1) (z.2.2.1) fun (j : ByteArray) => V.agg [i64 (z.2.2.2.1 j), i64 (z.2.2.2.2.1 j), i64 (z.2.2.2.2.2.1 j), i64 (z.2.2.2.2.2.2.1 j), i64 (z.2.2.2.2.2.2.2 j)])], nx := 2, rt := 1, me := 31 })) (fun z => (Ex.exit 0, { fr := [V.junk] ++ jk 20, H := hp [some (Chunk.blk [V.mp 1]), some (Chunk.smap (z.1) (z.2.1) fun (j : ByteArray) => V.agg [i64 (z.2.2.1 j), i64 (z.2.2.2.1 j), i64 (z.2.2.2.2.1 j), i64 (z.2.2.2.2.2.1 j), i64 (z.2.2.2.2.2.2 j)])], nx := 2, rt := 1, me := 31 })))
def allsN_l0_x (x : a_allsN) (z : allsN_l0_g) (k : KX) : Option Ans := Sum.elim (fun za => k (allsN_l0_T x (.inl za)).1 (allsN_l0_T x (.inl za)).2) (fun zb => k (allsN_l0_T x (.inr zb)).1 (allsN_l0_T x (.inr zb)).2) z
theorem allsN_l0_xe (x : a_allsN) : ∀ z k, allsN_l0_x x z k = k (allsN_l0_T x z).1 (allsN_l0_T x z).2 := fun z k => by
  rcases z with z | z <;> rfl
theorem allsN_l0_k0 (x : a_allsN) (z : Int × Nat × (ByteArray → Bool) × (ByteArray → Int) × (ByteArray → Int) × (ByteArray → Int) × (ByteArray → Int) × (ByteArray → Int)) : KCM [(0, 0)] 16 (allsN_l0_T x (.inl z)).1 (allsN_l0_T x (.inl z)).2 = some (.l (allsN_l0_T x (.inl z)).1 (allsN_l0_T x (.inl z)).2) := by kernel_rfl
theorem allsN_l0_k1 (x : a_allsN) (z : Nat × (ByteArray → Bool) × (ByteArray → Int) × (ByteArray → Int) × (ByteArray → Int) × (ByteArray → Int) × (ByteArray → Int)) : KCM [(0, 0)] 16 (allsN_l0_T x (.inr z)).1 (allsN_l0_T x (.inr z)).2 = some (.l (allsN_l0_T x (.inr z)).1 (allsN_l0_T x (.inr z)).2) := by kernel_rfl
def allsN_l0_t {β : Type} (c_stmt : a_stmt → Option g_stmt) (x : a_allsN) (y : allsN_l0_a) (nx : allsN_l0_a → Option β) (dn : allsN_l0_g → Option β) : Option β :=
 if decide (y.1 < ((x.1 : Nat) : Int)) = true then
  if (0 : Int) ≤ y.1 ∧ y.1 < ((x.1 : Nat) : Int) then
   (c_stmt ((x.2.1 (Int.toNat (y.1)), x.2.2.1 (Int.toNat (y.1)), x.2.2.2.1 (Int.toNat (y.1)), x.2.2.2.2.1 (Int.toNat (y.1)), x.2.2.2.2.2.1 (Int.toNat (y.1)), y.2))).bind fun z116 =>
    if (z116.1 != (0 : Int)) = true then
     dn (.inl z116)
    else
     nx ((w (y.1 + (1 : Int)), z116.2))
  else
   none
 else
  dn (.inr (y.2))
theorem allsN_l0_n {β : Type} (c_stmt : a_stmt → Option g_stmt) (x : a_allsN) (y : allsN_l0_a) (nx : allsN_l0_a → Option β) (dn : allsN_l0_g → Option β) : allsN_l0_t c_stmt x y nx dn = (allsN_l0_t c_stmt x y (fun y => some (.inl y)) (fun z => some (.inr z))).bind fun r => Sum.elim nx dn r := by
  unfold allsN_l0_t
  repeat' first | exact free_none | refine free_bind (fun z => ?_) | refine free_ite ?_ ?_ | refine free_sum (fun z => ?_) (fun z => ?_) | rfl
theorem allsN_l0_r (c_stmt : a_stmt → Option g_stmt) (x : a_allsN) (y : allsN_l0_a) (lo : LoopT) : loopK E5 (ftab 17 (fun _ _ => true) A_stmt x_stmt c_stmt ca0) lo 0 1793 (bodyOf E5 31 0) (allsN_l0_S x y) (KCM [(0, 0)] 16) = allsN_l0_t (fun x => viaF A_stmt c_stmt (A_stmt x)) x y (fun y => lo 0 1793 (bodyOf E5 31 0) (allsN_l0_S x y) (KCM [(0, 0)] 16)) (fun z => some (.l (allsN_l0_T x z).1 (allsN_l0_T x z).2)) := by kernel_rfl
noncomputable def allsN_l0 (c_stmt : a_stmt → Option g_stmt) (q : Nat) (x : a_allsN) : allsN_l0_a → Option allsN_l0_g := lpG (fun y => allsN_l0_t c_stmt x y (fun y => some (.inl y)) (fun z => some (.inr z))) q
theorem allsN_l0_s (c_stmt : a_stmt → Option g_stmt) (h_stmt : ∀ x z, c_stmt x = some z → SC E5 17 (A_stmt x).1 (A_stmt x).2 (R_stmt z)) (q : Nat) (x : a_allsN) : ∀ y z, allsN_l0 c_stmt q x y = some z → SL E5 (bodyOf E5 31 0) (allsN_l0_S x y) (allsN_l0_T x z).1 (allsN_l0_T x z).2 :=
  SL.lp (LT := fun lo => lo) (T := allsN_l0_T x) (S := allsN_l0_S x) (ftab_cons h_stmt xe_stmt ca0_sound) hX5 (fun lo h => h) (fun lo y => (allsN_l0_r c_stmt x y lo).trans (by rw [via_eq i_stmt c_stmt]; exact allsN_l0_n _ _ _ _ _)) (fun z => by rcases z with z | z <;> first | exact allsN_l0_k0 x z | exact allsN_l0_k1 x z) q
def t_allsN {β : Type} (c_stmt : a_stmt → Option g_stmt) (l_allsN_l0 : allsN_l0_a → Option allsN_l0_g) (x : a_allsN) (dn : g_allsN → Option β) : Option β :=
 (l_allsN_l0 (((0 : Int), x.2.2.2.2.2.2))).bind fun z80 =>
  Sum.elim (fun z80a =>
  dn z80a) (fun z80b =>
  dn (((0 : Int), z80b))) z80
theorem n_allsN {β : Type} (c_stmt : a_stmt → Option g_stmt) (l_allsN_l0 : allsN_l0_a → Option allsN_l0_g) (x : a_allsN) (dn : g_allsN → Option β) : t_allsN c_stmt l_allsN_l0 x dn = (t_allsN c_stmt l_allsN_l0 x some).bind dn := by
  unfold t_allsN
  repeat' first | exact free_none | refine free_bind (fun z => ?_) | refine free_ite ?_ ?_ | refine free_sum (fun z => ?_) (fun z => ?_) | rfl
theorem r_allsN (c_stmt : a_stmt → Option g_stmt) (l_allsN_l0 : allsN_l0_a → Option allsN_l0_g) (x : a_allsN) : callK E5 (ftab 17 (fun _ _ => true) A_stmt x_stmt c_stmt ca0) (ltabF 0 (fun _ => true) (bodyOf E5 31 0) (allsN_l0_S x) (allsN_l0_x x) l_allsN_l0 lo0) 31 (A_allsN x).1 (A_allsN x).2 K = t_allsN (fun x => viaF A_stmt c_stmt (A_stmt x)) (fun y => viaF (fun y => (bodyOf E5 31 0, allsN_l0_S x y)) l_allsN_l0 (bodyOf E5 31 0, allsN_l0_S x y)) x (fun z => some (.c (R_allsN z))) := by kernel_rfl
theorem s_allsN (c_stmt : a_stmt → Option g_stmt) (h_stmt : ∀ x z, c_stmt x = some z → SC E5 17 (A_stmt x).1 (A_stmt x).2 (R_stmt z)) (q : Nat) (x : a_allsN) (z : g_allsN) (h : t_allsN c_stmt (allsN_l0 c_stmt q x) x some = some z) : SC E5 31 (A_allsN x).1 (A_allsN x).2 (R_allsN z) := by
  refine SC.of hW5 hX5 (ftab_cons h_stmt xe_stmt ca0_sound) (ltabF_cons (allsN_l0_s c_stmt h_stmt q x) (allsN_l0_xe x) lo0_sound) ((r_allsN c_stmt (allsN_l0 c_stmt q x) x).trans ?_)
  rw [via_eq i_stmt c_stmt, via_eq (pair_inj (bodyOf E5 31 0) (allsN_l0_i x)) (allsN_l0 c_stmt q x), n_allsN, h]; rfl
open Classical in
noncomputable def stAl : Nat → (a_stmt → Option g_stmt) × (a_alls → Option g_alls)
  | 0 => (fun _ => none, fun _ => none)
  | q + 1 => (fun x => if OpenN x.2.2.2.2.1 then t_stmtN (wellF q) (inRange q) (letS q) (cond q) (quant q) (stAl q).2 (x.1, x.2.1, x.2.2.1, x.2.2.2.1, opK x.2.2.2.2.1, opN x.2.2.2.2.1, opS x.2.2.2.2.1, opM x.2.2.2.2.1, opF x.2.2.2.2.1, x.2.2.2.2.2) some else none,
      fun x => if OpenN x.2.1 then t_allsN (stAl q).1 (allsN_l0 (stAl q).1 q (x.1, opK x.2.1, opN x.2.1, opS x.2.1, opM x.2.1, opF x.2.1, x.2.2)) (x.1, opK x.2.1, opN x.2.1, opS x.2.1, opM x.2.1, opF x.2.1, x.2.2) some else none)
noncomputable def stmt (q : Nat) : a_stmt → Option g_stmt := (stAl q).1
noncomputable def alls (q : Nat) : a_alls → Option g_alls := (stAl q).2
theorem stAl_sc : ∀ q, (∀ x z, stmt q x = some z → SC E5 17 (A_stmt x).1 (A_stmt x).2 (R_stmt z)) ∧ (∀ x z, alls q x = some z → SC E5 31 (A_alls x).1 (A_alls x).2 (R_alls z)) := by
  intro q
  induction q with
  | zero => exact ⟨(fun x z h => by cases h), (fun x z h => by cases h)⟩
  | succ q ih =>
    obtain ⟨h1, h2⟩ := ih
    refine ⟨fun x z h => ?_, fun x z h => ?_⟩
    · unfold stmt stAl at h
      dsimp only at h
      split at h
      · rename_i hO
        have this := s_stmtN (wellF q) (sc_wellF q) (inRange q) (sc_inRange q) (letS q) (sc_letS q) (cond q) (sc_cond q) (quant q) (sc_quant q) (alls q) h2 q (x.1, x.2.1, x.2.2.1, x.2.2.2.1, opK x.2.2.2.2.1, opN x.2.2.2.2.1, opS x.2.2.2.2.1, opM x.2.2.2.2.1, opF x.2.2.2.2.1, x.2.2.2.2.2) z h
        unfold A_stmtN at this
        unfold A_stmt
        simp only at this ⊢
        rw [open_eq hO] at this
        exact this
      · cases h
    · unfold alls stAl at h
      dsimp only at h
      split at h
      · rename_i hO
        have this := s_allsN (stmt q) h1 q (x.1, opK x.2.1, opN x.2.1, opS x.2.1, opM x.2.1, opF x.2.1, x.2.2) z h
        unfold A_allsN at this
        unfold A_alls
        simp only at this ⊢
        rw [open_eq hO] at this
        exact this
      · cases h
theorem sc_stmt (q : Nat) : ∀ (x : a_stmt) (z : g_stmt), stmt q x = some z → SC E5 17 (A_stmt x).1 (A_stmt x).2 (R_stmt z) := (stAl_sc q).1
abbrev a_Check : Type := ByteArray × Nat × (Nat → ByteArray) × (Nat → ByteArray) × Int × Int × ByteArray × Nat × (Nat → List V)
abbrev g_Check : Type := Int
def A_Check : a_Check → List V × List (Option Chunk) := (fun x => (fun (pn : ByteArray) (pm : Nat) (pa : Nat → ByteArray) (pu : Nat → ByteArray) (nk : Int) (nn : Int) (ns : ByteArray) (nm : Nat) (nf : Nat → List V) => (([.agg [st pn, .ro 2 pm (fun j => [st (pa j), st (pu j)]), i64 nk, i64 nn, st ns, .ro 4 nm nf]] : List V), ([] : List (Option Chunk)))) x.1 x.2.1 x.2.2.1 x.2.2.2.1 x.2.2.2.2.1 x.2.2.2.2.2.1 x.2.2.2.2.2.2.1 x.2.2.2.2.2.2.2.1 x.2.2.2.2.2.2.2.2)
def d_Check (t : List V × List (Option Chunk)) : a_Check := ((vS ((vAg (t.1.getD 0 .junk)).getD 0 .junk)), (vRoN ((vAg (t.1.getD 0 .junk)).getD 1 .junk)), (fun j => (vS (((vRoF ((vAg (t.1.getD 0 .junk)).getD 1 .junk)) j).getD 0 .junk))), (fun j => (vS (((vRoF ((vAg (t.1.getD 0 .junk)).getD 1 .junk)) j).getD 1 .junk))), (vI ((vAg (t.1.getD 0 .junk)).getD 2 .junk)), (vI ((vAg (t.1.getD 0 .junk)).getD 3 .junk)), (vS ((vAg (t.1.getD 0 .junk)).getD 4 .junk)), (vRoN ((vAg (t.1.getD 0 .junk)).getD 5 .junk)), (vRoF ((vAg (t.1.getD 0 .junk)).getD 5 .junk)))
theorem i_Check : ∀ x y, A_Check x = A_Check y → x = y := fun x y h => (congrArg d_Check h :)
def R_Check : g_Check → CRes := (fun z => (fun (e : Int) => .ret (i64 e) []) z : (Int) → CRes)
def x_Check (z : g_Check) (k : CRes → Option Ans) : Option Ans := k (R_Check z)
theorem xe_Check : ∀ z k, x_Check z k = k (R_Check z) := fun z k => rfl
abbrev Check_l0_a : Type := Int × Nat × (ByteArray → Bool) × (ByteArray → Int) × (ByteArray → Int) × (ByteArray → Int) × (ByteArray → Int) × (ByteArray → Int)
abbrev Check_l0_g : Type := (Int) ⊕ (Nat × (ByteArray → Bool) × (ByteArray → Int) × (ByteArray → Int) × (ByteArray → Int) × (ByteArray → Int) × (ByteArray → Int))
def Check_l0_S (x : a_Check) (y : Check_l0_a) : St := { fr := [V.junk, V.ptr 0 0, V.junk, V.ptr 1 0] ++ jk 9 ++ [V.ro 2 (x.2.1) fun (j : Nat) => [st (x.2.2.1 j), st (x.2.2.2.1 j)], i64 ((x.2.1 : Nat) : Int), i64 (y.1)] ++ jk 32, H := hp [some (Chunk.blk [st (x.1), V.ro 2 (x.2.1) fun (j : Nat) => [st (x.2.2.1 j), st (x.2.2.2.1 j)], i64 (x.2.2.2.2.1), i64 (x.2.2.2.2.2.1), st (x.2.2.2.2.2.2.1), V.ro 4 (x.2.2.2.2.2.2.2.1) (x.2.2.2.2.2.2.2.2)]), some (Chunk.blk [V.mp 2]), some (Chunk.smap (y.2.1) (y.2.2.1) fun (j : ByteArray) => V.agg [i64 (y.2.2.2.1 j), i64 (y.2.2.2.2.1 j), i64 (y.2.2.2.2.2.1 j), i64 (y.2.2.2.2.2.2.1 j), i64 (y.2.2.2.2.2.2.2 j)])], nx := 3, rt := 0, me := 6 }
def Check_l0_d (s : St) : Check_l0_a := ((vI (s.fr.getD 15 .junk)), (smN (s.H 2)), (smH (s.H 2)), (fun j => (vI ((vAg ((smF (s.H 2)) j)).getD 0 .junk))), (fun j => (vI ((vAg ((smF (s.H 2)) j)).getD 1 .junk))), (fun j => (vI ((vAg ((smF (s.H 2)) j)).getD 2 .junk))), (fun j => (vI ((vAg ((smF (s.H 2)) j)).getD 3 .junk))), (fun j => (vI ((vAg ((smF (s.H 2)) j)).getD 4 .junk))))
theorem Check_l0_i (x : a_Check) : ∀ y y', Check_l0_S x y = Check_l0_S x y' → y = y' := fun y y' h => (congrArg Check_l0_d h :)
def Check_l0_T (x : a_Check) : Check_l0_g → Ex × St := (Sum.elim (fun z => (Ex.ret, { fr := [V.junk, V.junk, i64 z] ++ jk 45, H := hp [], nx := 0, rt := 0, me := 6 })) (fun z => (Ex.exit 0, { fr := [V.junk, V.ptr 0 0, V.junk, V.ptr 1 0] ++ jk 44, H := hp [some (Chunk.blk [st (x.1), V.ro 2 (x.2.1) fun (j : Nat) => [st (x.2.2.1 j), st (x.2.2.2.1 j)], i64 (x.2.2.2.2.1), i64 (x.2.2.2.2.2.1), st (x.2.2.2.2.2.2.1), V.ro 4 (x.2.2.2.2.2.2.2.1) (x.2.2.2.2.2.2.2.2)]), some (Chunk.blk [V.mp 2]), some (Chunk.smap (z.1) (z.2.1) fun (j : ByteArray) => V.agg [i64 (z.2.2.1 j), i64 (z.2.2.2.1 j), i64 (z.2.2.2.2.1 j), i64 (z.2.2.2.2.2.1 j), i64 (z.2.2.2.2.2.2 j)])], nx := 3, rt := 0, me := 6 })))
def Check_l0_x (x : a_Check) (z : Check_l0_g) (k : KX) : Option Ans := Sum.elim (fun za => k (Check_l0_T x (.inl za)).1 (Check_l0_T x (.inl za)).2) (fun zb => k (Check_l0_T x (.inr zb)).1 (Check_l0_T x (.inr zb)).2) z
theorem Check_l0_xe (x : a_Check) : ∀ z k, Check_l0_x x z k = k (Check_l0_T x z).1 (Check_l0_T x z).2 := fun z k => by
  rcases z with z | z <;> rfl
theorem Check_l0_k0 (x : a_Check) (z : Int) : KCM [(0, 10)] 4 (Check_l0_T x (.inl z)).1 (Check_l0_T x (.inl z)).2 = some (.l (Check_l0_T x (.inl z)).1 (Check_l0_T x (.inl z)).2) := by kernel_rfl
theorem Check_l0_k1 (x : a_Check) (z : Nat × (ByteArray → Bool) × (ByteArray → Int) × (ByteArray → Int) × (ByteArray → Int) × (ByteArray → Int) × (ByteArray → Int)) : KCM [(0, 10)] 4 (Check_l0_T x (.inr z)).1 (Check_l0_T x (.inr z)).2 = some (.l (Check_l0_T x (.inr z)).1 (Check_l0_T x (.inr z)).2) := by kernel_rfl
def Check_l0_t {β : Type} (c_Lookup : a_Lookup → Option g_Lookup) (c_declare : a_declare → Option g_declare) (c_stmt : a_stmt → Option g_stmt) (x : a_Check) (y : Check_l0_a) (nx : Check_l0_a → Option β) (dn : Check_l0_g → Option β) : Option β :=
 if decide (y.1 < ((x.2.1 : Nat) : Int)) = true then
  if (0 : Int) ≤ y.1 ∧ y.1 < ((x.2.1 : Nat) : Int) then
   if (!ByteArray.toList (x.2.2.2.1 (Int.toNat (y.1))) == ByteArray.toList { data := #[] }) = true then
    (c_Lookup (x.2.2.2.1 (Int.toNat (y.1)))).bind fun z146 =>
     if (!z146.2.2.2.2.2.2) = true then
      dn (.inl ((10 : Int)))
     else
      (c_declare ((x.2.2.1 (Int.toNat (y.1)), z146.1, z146.2.1, z146.2.2.1, z146.2.2.2.1, z146.2.2.2.2.1, y.2))).bind fun z160 =>
       if (z160.1 != (0 : Int)) = true then
        dn (.inl (z160.1))
       else
        nx ((w (y.1 + (1 : Int)), z160.2))
   else
    (c_declare ((x.2.2.1 (Int.toNat (y.1)), (0 : Int), (0 : Int), (0 : Int), (0 : Int), (0 : Int), y.2))).bind fun z174 =>
     if (z174.1 != (0 : Int)) = true then
      dn (.inl (z174.1))
     else
      nx ((w (y.1 + (1 : Int)), z174.2))
  else
   none
 else
  dn (.inr (y.2))
theorem Check_l0_n {β : Type} (c_Lookup : a_Lookup → Option g_Lookup) (c_declare : a_declare → Option g_declare) (c_stmt : a_stmt → Option g_stmt) (x : a_Check) (y : Check_l0_a) (nx : Check_l0_a → Option β) (dn : Check_l0_g → Option β) : Check_l0_t c_Lookup c_declare c_stmt x y nx dn = (Check_l0_t c_Lookup c_declare c_stmt x y (fun y => some (.inl y)) (fun z => some (.inr z))).bind fun r => Sum.elim nx dn r := by
  unfold Check_l0_t
  repeat' first | exact free_none | refine free_bind (fun z => ?_) | refine free_ite ?_ ?_ | refine free_sum (fun z => ?_) (fun z => ?_) | rfl
theorem Check_l0_r (c_Lookup : a_Lookup → Option g_Lookup) (c_declare : a_declare → Option g_declare) (c_stmt : a_stmt → Option g_stmt) (x : a_Check) (y : Check_l0_a) (lo : LoopT) : loopK E5 (ftab 15 (fun _ _ => true) A_Lookup x_Lookup c_Lookup (ftab 16 (fun _ _ => true) A_declare x_declare c_declare (ftab 17 (fun _ _ => true) A_stmt x_stmt c_stmt ca0))) lo 0 57354 (bodyOf E5 6 0) (Check_l0_S x y) (KCM [(0, 10)] 4) = Check_l0_t (fun x => viaF A_Lookup c_Lookup (A_Lookup x)) (fun x => viaF A_declare c_declare (A_declare x)) (fun x => viaF A_stmt c_stmt (A_stmt x)) x y (fun y => lo 0 57354 (bodyOf E5 6 0) (Check_l0_S x y) (KCM [(0, 10)] 4)) (fun z => some (.l (Check_l0_T x z).1 (Check_l0_T x z).2)) := by kernel_rfl
noncomputable def Check_l0 (c_Lookup : a_Lookup → Option g_Lookup) (c_declare : a_declare → Option g_declare) (c_stmt : a_stmt → Option g_stmt) (q : Nat) (x : a_Check) : Check_l0_a → Option Check_l0_g := lpG (fun y => Check_l0_t c_Lookup c_declare c_stmt x y (fun y => some (.inl y)) (fun z => some (.inr z))) q
theorem Check_l0_s (c_Lookup : a_Lookup → Option g_Lookup) (h_Lookup : ∀ x z, c_Lookup x = some z → SC E5 15 (A_Lookup x).1 (A_Lookup x).2 (R_Lookup z)) (c_declare : a_declare → Option g_declare) (h_declare : ∀ x z, c_declare x = some z → SC E5 16 (A_declare x).1 (A_declare x).2 (R_declare z)) (c_stmt : a_stmt → Option g_stmt) (h_stmt : ∀ x z, c_stmt x = some z → SC E5 17 (A_stmt x).1 (A_stmt x).2 (R_stmt z)) (q : Nat) (x : a_Check) : ∀ y z, Check_l0 c_Lookup c_declare c_stmt q x y = some z → SL E5 (bodyOf E5 6 0) (Check_l0_S x y) (Check_l0_T x z).1 (Check_l0_T x z).2 :=
  SL.lp (LT := fun lo => lo) (T := Check_l0_T x) (S := Check_l0_S x) (ftab_cons h_Lookup xe_Lookup (ftab_cons h_declare xe_declare (ftab_cons h_stmt xe_stmt ca0_sound))) hX5 (fun lo h => h) (fun lo y => (Check_l0_r c_Lookup c_declare c_stmt x y lo).trans (by rw [via_eq i_Lookup c_Lookup, via_eq i_declare c_declare, via_eq i_stmt c_stmt]; exact Check_l0_n _ _ _ _ _ _ _)) (fun z => by rcases z with z | z <;> first | exact Check_l0_k0 x z | exact Check_l0_k1 x z) q
def t_Check {β : Type} (c_Lookup : a_Lookup → Option g_Lookup) (c_declare : a_declare → Option g_declare) (c_stmt : a_stmt → Option g_stmt) (l_Check_l0 : Check_l0_a → Option Check_l0_g) (x : a_Check) (dn : g_Check → Option β) : Option β :=
 (l_Check_l0 (((0 : Int), 0, fun (x : ByteArray) => false, fun (j : ByteArray) => (0 : Int), fun (j : ByteArray) => (0 : Int), fun (j : ByteArray) => (0 : Int), fun (j : ByteArray) => (0 : Int), fun (j : ByteArray) => (0 : Int)))).bind fun z119 =>
  Sum.elim (fun z119a =>
  dn z119a) (fun z119b =>
  if (x.2.2.2.2.1 != (14 : Int)) = true then
   dn ((7 : Int))
  else
   (c_stmt ((x.2.2.2.2.1, x.2.2.2.2.2.1, x.2.2.2.2.2.2.1, x.2.2.2.2.2.2.2.1, x.2.2.2.2.2.2.2.2, z119b))).bind fun z133 =>
    dn (z133.1)) z119
theorem n_Check {β : Type} (c_Lookup : a_Lookup → Option g_Lookup) (c_declare : a_declare → Option g_declare) (c_stmt : a_stmt → Option g_stmt) (l_Check_l0 : Check_l0_a → Option Check_l0_g) (x : a_Check) (dn : g_Check → Option β) : t_Check c_Lookup c_declare c_stmt l_Check_l0 x dn = (t_Check c_Lookup c_declare c_stmt l_Check_l0 x some).bind dn := by
  unfold t_Check
  repeat' first | exact free_none | refine free_bind (fun z => ?_) | refine free_ite ?_ ?_ | refine free_sum (fun z => ?_) (fun z => ?_) | rfl
theorem r_Check (c_Lookup : a_Lookup → Option g_Lookup) (c_declare : a_declare → Option g_declare) (c_stmt : a_stmt → Option g_stmt) (l_Check_l0 : Check_l0_a → Option Check_l0_g) (x : a_Check) : callK E5 (ftab 15 (fun _ _ => true) A_Lookup x_Lookup c_Lookup (ftab 16 (fun _ _ => true) A_declare x_declare c_declare (ftab 17 (fun _ _ => true) A_stmt x_stmt c_stmt ca0))) (ltabF 0 (fun _ => true) (bodyOf E5 6 0) (Check_l0_S x) (Check_l0_x x) l_Check_l0 lo0) 6 (A_Check x).1 (A_Check x).2 K = t_Check (fun x => viaF A_Lookup c_Lookup (A_Lookup x)) (fun x => viaF A_declare c_declare (A_declare x)) (fun x => viaF A_stmt c_stmt (A_stmt x)) (fun y => viaF (fun y => (bodyOf E5 6 0, Check_l0_S x y)) l_Check_l0 (bodyOf E5 6 0, Check_l0_S x y)) x (fun z => some (.c (R_Check z))) := by kernel_rfl
theorem s_Check (c_Lookup : a_Lookup → Option g_Lookup) (h_Lookup : ∀ x z, c_Lookup x = some z → SC E5 15 (A_Lookup x).1 (A_Lookup x).2 (R_Lookup z)) (c_declare : a_declare → Option g_declare) (h_declare : ∀ x z, c_declare x = some z → SC E5 16 (A_declare x).1 (A_declare x).2 (R_declare z)) (c_stmt : a_stmt → Option g_stmt) (h_stmt : ∀ x z, c_stmt x = some z → SC E5 17 (A_stmt x).1 (A_stmt x).2 (R_stmt z)) (q : Nat) (x : a_Check) (z : g_Check) (h : t_Check c_Lookup c_declare c_stmt (Check_l0 c_Lookup c_declare c_stmt q x) x some = some z) : SC E5 6 (A_Check x).1 (A_Check x).2 (R_Check z) := by
  refine SC.of hW5 hX5 (ftab_cons h_Lookup xe_Lookup (ftab_cons h_declare xe_declare (ftab_cons h_stmt xe_stmt ca0_sound))) (ltabF_cons (Check_l0_s c_Lookup h_Lookup c_declare h_declare c_stmt h_stmt q x) (Check_l0_xe x) lo0_sound) ((r_Check c_Lookup c_declare c_stmt (Check_l0 c_Lookup c_declare c_stmt q x) x).trans ?_)
  rw [via_eq i_Lookup c_Lookup, via_eq i_declare c_declare, via_eq i_stmt c_stmt, via_eq (pair_inj (bodyOf E5 6 0) (Check_l0_i x)) (Check_l0 c_Lookup c_declare c_stmt q x), n_Check, h]; rfl
noncomputable def Check (q : Nat) (x : a_Check) : Option g_Check := t_Check (Lookup q) (declare q) (stmt q) (Check_l0 (Lookup q) (declare q) (stmt q) q x) x some
theorem sc_Check (q : Nat) : ∀ (x : a_Check) (z : g_Check), Check q x = some z → SC E5 6 (A_Check x).1 (A_Check x).2 (R_Check z) := fun x z h => s_Check (Lookup q) (sc_Lookup q) (declare q) (sc_declare q) (stmt q) (sc_stmt q) q x z h
end Go.Proofs.YtniogljhkjbcgaaGreatDoor
/- Types: statements on trees as data (plain). -/
namespace Go.Proofs.YtniogljhkjbcgaaGreatDoor
open Go Go.Am Go.Proofs
set_option linter.unusedSimpArgs false
set_option linter.unusedVariables false
set_option maxRecDepth 100000
theorem dims_ne {a b c d e a' b' c' d' e' : Int} : ((if true = true then !(a == a' && (b == b' && (c == c' && (d == d' && (e == e' && true))))) else a == a' && (b == b' && (c == c' && (d == d' && (e == e' && true))))) = true) ↔ ¬ ((a, b, c, d, e) = (a', b', c', d', e')) := by
  simp only [if_true, Bool.not_eq_true', Bool.and_true, Prod.mk.injEq]
  rw [← Bool.not_eq_true]
  simp only [Bool.and_eq_true, beq_iff_eq]
/-- Variables: how many, and of which dimension. -/
abbrev Sg : Type := Nat × (ByteArray → Option DimT)
def absS (t : TabT) : Sg := (t.1, tabOf t)
def putT (T : ByteArray → Option DimT) (s : ByteArray) (d : DimT) : ByteArray → Option DimT := fun x => if x = s then some d else T x
def declV (s : ByteArray) (d : DimT) (g : Sg) : Int × Sg := if (g.2 s).isSome then (4, g) else if g.1 ≥ 12 then (2, g) else (0, g.1 + 1, putT g.2 s d)
def tyD' (z : Ty) : DimT := (z.2.1, z.2.2.1, z.2.2.2.1, z.2.2.2.2.1, z.2.2.2.2.2.1)
noncomputable def condV (a : Tr) (g : Sg) : Int := if errV (ofV g.2 a) = 0 then (if (ofV g.2 a).1 = true then 0 else 12) else errV (ofV g.2 a)
noncomputable def quantV (a : Tr) (d : DimT) (g : Sg) : Int := if errV (ofV g.2 a) = 0 then (if (ofV g.2 a).1 = true then 12 else if tyD' (ofV g.2 a) = d then 0 else 10) else errV (ofV g.2 a)
noncomputable def letT (T : Ty) (k : Int) (s : ByteArray) (g : Sg) : Int × Sg :=
  if errV T = 0 then
    if k = 2 then (match g.2 s with | none => (3, g) | some d => if T.1 = true then (12, g) else if d = tyD' T then (0, g) else (10, g))
    else if T.1 = true then (12, g) else declV s (tyD' T) g
  else (errV T, g)
noncomputable def letV (k : Int) (s : ByteArray) (a : Tr) (g : Sg) : Int × Sg := letT (ofV g.2 a) k s g
def kdT : Tr → Int | .node k _ _ _ => k
def kdAt (l : List Tr) (i : Nat) : Int := match l[i]? with | some t => kdT t | none => 0
/-- Statements that are well-formed. -/
def wfV (k : Int) (l : List Tr) : Bool :=
  if k = 14 then true else
  if k = 1 ∨ k = 2 ∨ k = 7 ∨ k = 8 then l.length == 1 else
  if k = 5 ∨ k = 11 ∨ k = 9 ∨ k = 10 then l.length == 1 && kdAt l 0 == 15 else
  if k = 6 then l.length == 2 && kdAt l 1 == 15 else
  if k = 3 then l.length == 3 && (kdAt l 1 == 14 && kdAt l 2 == 14) else
  if k = 4 then l.length == 1 && kdAt l 0 == 14 else
  if k = 12 ∨ k = 13 then l.length == 0 else false
def rgV (k n : Int) : Bool :=
  if k = 4 then decide (1 ≤ n ∧ n ≤ 100) else
  if k = 9 ∨ k = 10 then decide (0 ≤ n ∧ n ≤ 7) else
  if k = 12 then decide (0 ≤ n ∧ n ≤ 99) else
  if k = 13 then decide (0 ≤ n ∧ n ≤ 999) else true
def hdT (l : List Tr) : Tr := l.headD (.node 0 0 ByteArray.empty [])
def sdT (l : List Tr) : Tr := l.tail.headD (.node 0 0 ByteArray.empty [])
mutual
noncomputable def stV : Tr → Sg → Int × Sg
  | .node k n s l, g =>
    if wfV k l = false then (7, g) else
    if rgV k n = false then (5, g) else
    if k = 1 ∨ k = 2 then letV k s (hdT l) g else
    if k = 7 then (condV (hdT l) g, g) else
    if k = 8 then (quantV (hdT l) (0, 0, 0, 1, 0) g, g) else
    if k = 5 ∨ k = 9 then (quantV (hdT l) (0, 0, 1, 0, 0) g, g) else
    if k = 10 ∨ k = 11 then (quantV (hdT l) (0, 1, 0, 0, 0) g, g) else
    if k = 6 then (if condV (hdT l) g = 0 then (quantV (sdT l) (0, 0, 1, 0, 0) g, g) else (condV (hdT l) g, g)) else
    if k = 3 then (if condV (hdT l) g = 0 then alV 1 l g else (condV (hdT l) g, g)) else
    alV 0 l g
/-- Statements one after the other, the first ones passed over. -/
noncomputable def alV : Nat → List Tr → Sg → Int × Sg
  | _, [], g => (0, g)
  | i + 1, _ :: l, g => alV i l g
  | 0, t :: l, g => if (stV t g).1 = 0 then alV 0 l (stV t g).2 else stV t g
end
theorem stV_node (k n : Int) (s : ByteArray) (l : List Tr) (g : Sg) : stV (.node k n s l) g =
    if wfV k l = false then (7, g) else
    if rgV k n = false then (5, g) else
    if k = 1 ∨ k = 2 then letV k s (hdT l) g else
    if k = 7 then (condV (hdT l) g, g) else
    if k = 8 then (quantV (hdT l) (0, 0, 0, 1, 0) g, g) else
    if k = 5 ∨ k = 9 then (quantV (hdT l) (0, 0, 1, 0, 0) g, g) else
    if k = 10 ∨ k = 11 then (quantV (hdT l) (0, 1, 0, 0, 0) g, g) else
    if k = 6 then (if condV (hdT l) g = 0 then (quantV (sdT l) (0, 0, 1, 0, 0) g, g) else (condV (hdT l) g, g)) else
    if k = 3 then (if condV (hdT l) g = 0 then alV 1 l g else (condV (hdT l) g, g)) else
    alV 0 l g := by rw [stV]
theorem alV_nil (i : Nat) (g : Sg) : alV i [] g = (0, g) := by cases i <;> rw [alV]
theorem alV_cons (t : Tr) (l : List Tr) (g : Sg) : alV 0 (t :: l) g = if (stV t g).1 = 0 then alV 0 l (stV t g).2 else stV t g := by rw [alV]
theorem alV_one (t : Tr) (l : List Tr) (g : Sg) : alV 1 (t :: l) g = alV 0 l g := by rw [alV]
abbrev Out (r : Int × Sg) (z : g_declare) : Prop := (z.1, absS z.2) = r
theorem has_eq (t : TabT) (s : ByteArray) : (tabOf t s).isSome = t.2.1 s := by
  unfold tabOf; cases t.2.1 s <;> simp
theorem declV_dup {s : ByteArray} {d : DimT} {g : Sg} (h : (g.2 s).isSome = true) : declV s d g = (4, g) := by unfold declV; rw [if_pos h]
theorem declV_full {s : ByteArray} {d : DimT} {g : Sg} (h : ¬ (g.2 s).isSome = true) (h2 : g.1 ≥ 12) : declV s d g = (2, g) := by unfold declV; rw [if_neg h, if_pos h2]
theorem declV_ok {s : ByteArray} {d : DimT} {g : Sg} (h : ¬ (g.2 s).isSome = true) (h2 : ¬ g.1 ≥ 12) : declV s d g = (0, g.1 + 1, putT g.2 s d) := by unfold declV; rw [if_neg h, if_neg h2]
theorem declare_V (q : Nat) (s : ByteArray) (d : DimT) (t : TabT) : Runs (declare q (s, d.1, d.2.1, d.2.2.1, d.2.2.2.1, d.2.2.2.2, t)) (Out (declV s d (absS t))) := by
  have hs : ((absS t).2 s).isSome = t.2.1 s := has_eq t s
  unfold declare t_declare
  dsimp only
  refine Runs.ite (fun h => Runs.some ?_) fun h => Runs.ite (fun h2 => Runs.some ?_) fun h2 => Runs.some ?_
  · rw [declV_dup (by rw [hs]; exact h)]
  · rw [declV_full (by rw [hs]; exact h) (show t.1 ≥ 12 by simp only [decide_eq_true_eq] at h2; omega)]
  · rw [declV_ok (by rw [hs]; exact h) (show ¬ t.1 ≥ 12 by simp only [decide_eq_true_eq] at h2; omega)]
    show ((0 : Int), absS _) = _
    rw [if_neg h]
    unfold absS
    rw [tabOf_put t s d]
    rfl
theorem of_R {t : TabT} {a : Tr} {x : NodeT} {q : Nat} (h : Rep a x) (hq : siz a < q) : Runs (Of q (x.1, x.2.1, x.2.2.1, x.2.2.2.1, x.2.2.2.2, t)) (fun z => z = ((ofV (tabOf t) a).1, (ofV (tabOf t) a).2.1, (ofV (tabOf t) a).2.2.1, (ofV (tabOf t) a).2.2.2.1, (ofV (tabOf t) a).2.2.2.2.1, (ofV (tabOf t) a).2.2.2.2.2.1, (ofV (tabOf t) a).2.2.2.2.2.2, t)) := ⟨_, of_V t a x q h hq, rfl⟩
theorem cond_V {t : TabT} {a : Tr} {x : NodeT} {q : Nat} (h : Rep a x) (hq : siz a < q) : Runs (cond q (x.1, x.2.1, x.2.2.1, x.2.2.2.1, x.2.2.2.2, t)) (Out (condV a (absS t), absS t)) := by
  unfold cond t_cond condV errV
  refine Runs.bind (of_R h hq) fun z hz => ?_
  subst hz
  dsimp only
  show Runs _ (Out ((if (ofV (tabOf t) a).2.2.2.2.2.2 = 0 then (if (ofV (tabOf t) a).1 = true then 0 else 12) else (ofV (tabOf t) a).2.2.2.2.2.2), absS t))
  generalize ofV (tabOf t) a = T
  by_cases he : T.2.2.2.2.2.2 = 0
  · rw [if_pos (by simpa using he), if_pos he]
    cases hb : T.1
    · exact Runs.if_pos rfl (Runs.some rfl)
    · exact Runs.if_neg (by simp) (Runs.some (by rw [he]; rfl))
  · rw [if_neg (by simpa using he), if_neg he]
    exact Runs.some rfl
theorem quant_V {t : TabT} {a : Tr} {x : NodeT} {d : DimT} {q : Nat} (h : Rep a x) (hq : siz a < q) : Runs (quant q (x.1, x.2.1, x.2.2.1, x.2.2.2.1, x.2.2.2.2, d.1, d.2.1, d.2.2.1, d.2.2.2.1, d.2.2.2.2, t)) (Out (quantV a d (absS t), absS t)) := by
  unfold quant t_quant quantV errV
  refine Runs.bind (of_R h hq) fun z hz => ?_
  subst hz
  dsimp only
  show Runs _ (Out ((if (ofV (tabOf t) a).2.2.2.2.2.2 = 0 then (if (ofV (tabOf t) a).1 = true then 12 else if tyD' (ofV (tabOf t) a) = d then 0 else 10) else (ofV (tabOf t) a).2.2.2.2.2.2), absS t))
  generalize ofV (tabOf t) a = T
  by_cases he : T.2.2.2.2.2.2 = 0
  · rw [if_neg (by simpa using he), if_pos he]
    by_cases hb : T.1 = true
    · rw [if_pos hb, if_pos hb]
      exact Runs.some rfl
    · rw [if_neg hb, if_neg hb]
      by_cases hd : tyD' T = d
      · rw [if_pos hd, if_neg (by rw [dims_ne]; exact fun h => h hd)]
        exact Runs.some rfl
      · rw [if_neg hd, if_pos (by rw [dims_ne]; exact hd)]
        exact Runs.some rfl
  · rw [if_pos (by simpa using he), if_neg he]
    exact Runs.some rfl
theorem inRange_V (q : Nat) (k n : Int) (s : ByteArray) (m : Nat) (f : Nat → List V) : Runs (inRange q (k, n, s, m, f)) (fun b => b = rgV k n) := by
  unfold inRange t_inRange rgV
  dsimp only
  have key : ∀ (lo hi : Int), Runs (if decide (n ≥ lo) = true then (some (decide (n ≤ hi)) : Option g_inRange) else some false) (fun b => b = decide (lo ≤ n ∧ n ≤ hi)) := fun lo hi => by
    refine Runs.ite (fun h => Runs.some ?_) fun h => Runs.some ?_
    · have h : lo ≤ n := by simpa using h
      simp [h]
    · have h : ¬ lo ≤ n := by simpa using h
      simp [h]
  by_cases h4 : k = 4
  · rw [if_pos (show k = 4 by omega)]; exact Runs.if_pos (by simpa using h4) (key 1 100)
  rw [if_neg (show ¬ (k = 4) by omega)]; refine Runs.if_neg (by simpa using h4) ?_
  by_cases h9 : k = 9
  · rw [if_pos (show k = 9 ∨ k = 10 by omega)]; exact Runs.if_pos (by simpa using h9) (key 0 7)
  refine Runs.if_neg (by simpa using h9) ?_
  by_cases h10 : k = 10
  · rw [if_pos (show k = 9 ∨ k = 10 by omega)]; exact Runs.if_pos (by simpa using h10) (key 0 7)
  rw [if_neg (show ¬ (k = 9 ∨ k = 10) by omega)]; refine Runs.if_neg (by simpa using h10) ?_
  by_cases h12 : k = 12
  · rw [if_pos (show k = 12 by omega)]; exact Runs.if_pos (by simpa using h12) (key 0 99)
  rw [if_neg (show ¬ (k = 12) by omega)]; refine Runs.if_neg (by simpa using h12) ?_
  by_cases h13 : k = 13
  · rw [if_pos (show k = 13 by omega)]; exact Runs.if_pos (by simpa using h13) (key 0 999)
  rw [if_neg (show ¬ (k = 13) by omega)]; refine Runs.if_neg (by simpa using h13) ?_
  exact Runs.some rfl
theorem rep_kd {t : Tr} {x : NodeT} (h : Rep t x) : x.1 = kdT t := by
  obtain ⟨k, n, s, l⟩ := t
  unfold Rep at h
  exact h.1
theorem kdAt_rep {l : List Tr} {f : Nat → List V} (hr : RepL l f 0) {i : Nat} (hi : i < l.length) : kdAt l i = opK f i := by
  unfold kdAt
  rw [List.getElem?_eq_getElem hi]
  have := repL_at l f 0 hr i _ (List.getElem?_eq_getElem hi)
  rw [Nat.zero_add] at this
  exact (rep_kd this).symm
theorem wellF_V (q : Nat) (k n : Int) (s : ByteArray) {l : List Tr} {f : Nat → List V} (hr : RepL l f 0) : Runs (wellF q (k, n, s, l.length, opK f, opN f, opS f, opM f, opF f)) (fun b => b = wfV k l) := by
  unfold wellF t_wellF wfV
  dsimp only
  have e1 : ∀ m : Nat, ((l.length : Int) == (m : Int)) = (l.length == m) := fun m => by
    by_cases h : l.length = m
    · simp [h]
    · have h2 : ¬ ((l.length : Int) = (m : Int)) := by omega
      rw [beq_eq_false_iff_ne.2 h2, beq_eq_false_iff_ne.2 h]
  have lit : ∀ (c : Int), Runs (if ((l.length : Int) == (1 : Int)) = true then (if (0 : Int) ≤ (0 : Int) ∧ (0 : Int) < (l.length : Int) then (some (opK f 0 == c) : Option g_wellF) else none) else some false) (fun b => b = (l.length == 1 && kdAt l 0 == c)) := fun c => by
    refine Runs.ite (fun h => ?_) fun h => Runs.some ?_
    · have h : (l.length : Int) = 1 := by simpa using h
      have h' : l.length = 1 := by omega
      refine Runs.if_pos ⟨by omega, by omega⟩ (Runs.some ?_)
      rw [kdAt_rep hr (by omega)]
      simp [h']
    · have h : ¬ (l.length : Int) = 1 := by simpa using h
      have h' : ¬ l.length = 1 := by omega
      simp [h']
  have cnt : ∀ (m : Nat), ((l.length : Int) == ((m : Nat) : Int)) = (l.length == m) := e1
  by_cases h14 : k = 14
  · rw [if_pos (show k = 14 by omega)]; exact Runs.if_pos (by simpa using h14) (Runs.some rfl)
  rw [if_neg (show ¬ (k = 14) by omega)]; refine Runs.if_neg (by simpa using h14) ?_
  by_cases h1 : k = 1
  · rw [if_pos (show k = 1 ∨ k = 2 ∨ k = 7 ∨ k = 8 by omega)]; exact Runs.if_pos (by simpa using h1) (Runs.some (cnt 1))
  refine Runs.if_neg (by simpa using h1) ?_
  by_cases h2 : k = 2
  · rw [if_pos (show k = 1 ∨ k = 2 ∨ k = 7 ∨ k = 8 by omega)]; exact Runs.if_pos (by simpa using h2) (Runs.some (cnt 1))
  refine Runs.if_neg (by simpa using h2) ?_
  by_cases h7 : k = 7
  · rw [if_pos (show k = 1 ∨ k = 2 ∨ k = 7 ∨ k = 8 by omega)]; exact Runs.if_pos (by simpa using h7) (Runs.some (cnt 1))
  refine Runs.if_neg (by simpa using h7) ?_
  by_cases h8 : k = 8
  · rw [if_pos (show k = 1 ∨ k = 2 ∨ k = 7 ∨ k = 8 by omega)]; exact Runs.if_pos (by simpa using h8) (Runs.some (cnt 1))
  rw [if_neg (show ¬ (k = 1 ∨ k = 2 ∨ k = 7 ∨ k = 8) by omega)]; refine Runs.if_neg (by simpa using h8) ?_
  by_cases h5 : k = 5
  · rw [if_pos (show k = 5 ∨ k = 11 ∨ k = 9 ∨ k = 10 by omega)]; exact Runs.if_pos (by simpa using h5) (lit 15)
  refine Runs.if_neg (by simpa using h5) ?_
  by_cases h11 : k = 11
  · rw [if_pos (show k = 5 ∨ k = 11 ∨ k = 9 ∨ k = 10 by omega)]; exact Runs.if_pos (by simpa using h11) (lit 15)
  refine Runs.if_neg (by simpa using h11) ?_
  by_cases h9 : k = 9
  · rw [if_pos (show k = 5 ∨ k = 11 ∨ k = 9 ∨ k = 10 by omega)]; exact Runs.if_pos (by simpa using h9) (lit 15)
  refine Runs.if_neg (by simpa using h9) ?_
  by_cases h10 : k = 10
  · rw [if_pos (show k = 5 ∨ k = 11 ∨ k = 9 ∨ k = 10 by omega)]; exact Runs.if_pos (by simpa using h10) (lit 15)
  rw [if_neg (show ¬ (k = 5 ∨ k = 11 ∨ k = 9 ∨ k = 10) by omega)]; refine Runs.if_neg (by simpa using h10) ?_
  by_cases h6 : k = 6
  · rw [if_pos (show k = 6 by omega)]; refine Runs.if_pos (by simpa using h6) ?_
    refine Runs.ite (fun h => ?_) fun h => Runs.some ?_
    · have h : (l.length : Int) = 2 := by simpa using h
      have h' : l.length = 2 := by omega
      refine Runs.if_pos ⟨by omega, by omega⟩ (Runs.some ?_)
      rw [kdAt_rep hr (by omega)]
      simp [h']
    · have h : ¬ (l.length : Int) = 2 := by simpa using h
      have h' : ¬ l.length = 2 := by omega
      simp [h']
  rw [if_neg (show ¬ (k = 6) by omega)]; refine Runs.if_neg (by simpa using h6) ?_
  by_cases h3 : k = 3
  · rw [if_pos (show k = 3 by omega)]; refine Runs.if_pos (by simpa using h3) ?_
    refine Runs.ite (fun h => ?_) fun h => Runs.some ?_
    · have h : (l.length : Int) = 3 := by simpa using h
      have h' : l.length = 3 := by omega
      refine Runs.if_pos ⟨by omega, by omega⟩ ?_
      rw [kdAt_rep hr (by omega), kdAt_rep hr (by omega)]
      refine Runs.ite (fun g => Runs.if_pos ⟨by omega, by omega⟩ (Runs.some ?_)) fun g => Runs.some ?_
      · simp [h', g]
      · have g : (opK f 1 == 14) = false := by simpa using g
        simp [g]
    · have h : ¬ (l.length : Int) = 3 := by simpa using h
      have h' : ¬ l.length = 3 := by omega
      simp [h']
  rw [if_neg (show ¬ (k = 3) by omega)]; refine Runs.if_neg (by simpa using h3) ?_
  by_cases h4 : k = 4
  · rw [if_pos (show k = 4 by omega)]; exact Runs.if_pos (by simpa using h4) (lit 14)
  rw [if_neg (show ¬ (k = 4) by omega)]; refine Runs.if_neg (by simpa using h4) ?_
  by_cases h12 : k = 12
  · rw [if_pos (show k = 12 ∨ k = 13 by omega)]; exact Runs.if_pos (by simpa using h12) (Runs.some (cnt 0))
  refine Runs.if_neg (by simpa using h12) ?_
  by_cases h13 : k = 13
  · rw [if_pos (show k = 12 ∨ k = 13 by omega)]; exact Runs.if_pos (by simpa using h13) (Runs.some (cnt 0))
  rw [if_neg (show ¬ (k = 12 ∨ k = 13) by omega)]; refine Runs.if_neg (by simpa using h13) ?_
  exact Runs.some rfl
theorem hd_rep {l : List Tr} {f : Nat → List V} (hr : RepL l f 0) (h : 0 < l.length) : Rep (hdT l) (kidAt f 0) ∧ siz (hdT l) ≤ sizL l := by
  cases l with
  | nil => simp at h
  | cons a l =>
    simp only [RepL] at hr
    refine ⟨hr.1, ?_⟩
    show siz a ≤ _
    simp only [sizL]; omega
theorem sd_rep {l : List Tr} {f : Nat → List V} (hr : RepL l f 0) (h : 1 < l.length) : Rep (sdT l) (kidAt f 1) ∧ siz (sdT l) ≤ sizL l := by
  cases l with
  | nil => simp at h
  | cons a l =>
    cases l with
    | nil => simp at h
    | cons b l =>
      simp only [RepL] at hr
      refine ⟨hr.2.1, ?_⟩
      show siz b ≤ _
      simp only [sizL]; omega
theorem letT_err {T : Ty} {k : Int} {s : ByteArray} {g : Sg} (h : ¬ T.2.2.2.2.2.2 = 0) : letT T k s g = (T.2.2.2.2.2.2, g) := by
  unfold letT errV; rw [if_neg h]
theorem letT_none {T : Ty} {s : ByteArray} {g : Sg} (h : T.2.2.2.2.2.2 = 0) (hs : g.2 s = none) : letT T 2 s g = (3, g) := by
  unfold letT errV; rw [if_pos h, if_pos rfl, hs]
theorem letT_bool {T : Ty} {s : ByteArray} {g : Sg} {d : DimT} (h : T.2.2.2.2.2.2 = 0) (hs : g.2 s = some d) (hb : T.1 = true) : letT T 2 s g = (12, g) := by
  unfold letT errV; rw [if_pos h, if_pos rfl, hs]; dsimp only; rw [if_pos hb]
theorem letT_same {T : Ty} {s : ByteArray} {g : Sg} {d : DimT} (h : T.2.2.2.2.2.2 = 0) (hs : g.2 s = some d) (hb : ¬ T.1 = true) (hd : d = tyD' T) : letT T 2 s g = (0, g) := by
  unfold letT errV; rw [if_pos h, if_pos rfl, hs]; dsimp only; rw [if_neg hb, if_pos hd]
theorem letT_diff {T : Ty} {s : ByteArray} {g : Sg} {d : DimT} (h : T.2.2.2.2.2.2 = 0) (hs : g.2 s = some d) (hb : ¬ T.1 = true) (hd : ¬ d = tyD' T) : letT T 2 s g = (10, g) := by
  unfold letT errV; rw [if_pos h, if_pos rfl, hs]; dsimp only; rw [if_neg hb, if_neg hd]
theorem letT_bool1 {T : Ty} {s : ByteArray} {g : Sg} (h : T.2.2.2.2.2.2 = 0) (hb : T.1 = true) : letT T 1 s g = (12, g) := by
  unfold letT errV; rw [if_pos h, if_neg (by decide), if_pos hb]
theorem letT_decl {T : Ty} {s : ByteArray} {g : Sg} (h : T.2.2.2.2.2.2 = 0) (hb : ¬ T.1 = true) : letT T 1 s g = declV s (tyD' T) g := by
  unfold letT errV; rw [if_pos h, if_neg (by decide), if_neg hb]
theorem letS_V {t : TabT} {k n : Int} {s : ByteArray} {l : List Tr} {f : Nat → List V} {q : Nat} (hr : RepL l f 0) (h : 0 < l.length) (hk : k = 1 ∨ k = 2) (hq : sizL l < q) : Runs (letS q (k, n, s, l.length, opK f, opN f, opS f, opM f, opF f, t)) (Out (letV k s (hdT l) (absS t))) := by
  obtain ⟨h1, h2⟩ := hd_rep hr h
  unfold letS t_letS letV
  dsimp only
  refine Runs.if_pos ⟨by omega, by omega⟩ (Runs.bind (of_R h1 (by omega)) fun z hz => ?_)
  subst hz
  dsimp only
  show Runs _ (Out (letT (ofV (tabOf t) (hdT l)) k s (absS t)))
  generalize ofV (tabOf t) (hdT l) = T
  by_cases he : T.2.2.2.2.2.2 = 0
  · refine Runs.if_neg (by simpa using he) ?_
    have dcl : Runs ((declare q (s, T.2.1, T.2.2.1, T.2.2.2.1, T.2.2.2.2.1, T.2.2.2.2.2.1, t)).bind fun z => some z) (Out (declV s (tyD' T) (absS t))) := Runs.bind (declare_V q s (tyD' T) t) fun z hz => Runs.some hz
    rcases hk with rfl | rfl
    · refine Runs.if_neg (by decide) (Runs.ite (fun hb => ?_) fun hb => Runs.if_neg (by decide) (Runs.if_neg (by decide) ?_))
      · rw [letT_bool1 he hb]; exact Runs.some rfl
      · rw [letT_decl he hb]; exact dcl
    · refine Runs.if_pos (by decide) ?_
      by_cases hs : t.2.1 s = true
      · have e : (absS t).2 s = some (t.2.2.1 s, t.2.2.2.1 s, t.2.2.2.2.1 s, t.2.2.2.2.2.1 s, t.2.2.2.2.2.2 s) := by show tabOf t s = _; unfold tabOf; rw [if_pos hs]
        refine Runs.if_neg (by rw [hs]; decide) (Runs.ite (fun hb => ?_) fun hb => Runs.if_pos (by decide) ?_)
        · rw [letT_bool he e hb]; exact Runs.some rfl
        · rw [if_pos hs, if_pos hs, if_pos hs, if_pos hs, if_pos hs]
          by_cases hd : (t.2.2.1 s, t.2.2.2.1 s, t.2.2.2.2.1 s, t.2.2.2.2.2.1 s, t.2.2.2.2.2.2 s) = tyD' T
          · rw [letT_same he e hb hd]
            exact Runs.if_neg (fun g => (dims_ne.1 g) hd) (Runs.if_pos (by decide) (Runs.some rfl))
          · rw [letT_diff he e hb hd]
            exact Runs.if_pos (dims_ne.2 hd) (Runs.some rfl)
      · have e : (absS t).2 s = none := by show tabOf t s = _; unfold tabOf; rw [if_neg hs]
        rw [letT_none he e]
        exact Runs.if_pos (by simpa using hs) (Runs.some rfl)
  · rw [letT_err he]
    exact Runs.if_pos (by simpa using he) (Runs.some rfl)
end Go.Proofs.YtniogljhkjbcgaaGreatDoor
/- Types: Check on trees as data (plain). -/
namespace Go.Proofs.YtniogljhkjbcgaaGreatDoor
open Go Go.Am Go.Proofs
set_option linter.unusedSimpArgs false
set_option linter.unusedVariables false
set_option maxRecDepth 100000
theorem wf_len {k : Int} {l : List Tr} (h : wfV k l = true) : (k = 1 ∨ k = 2 ∨ k = 7 ∨ k = 8 ∨ k = 5 ∨ k = 9 ∨ k = 10 ∨ k = 11 ∨ k = 6 ∨ k = 3 → 0 < l.length) ∧ (k = 6 → 1 < l.length) ∧ (k = 3 → 1 < l.length) := by
  refine ⟨fun g => ?_, fun g => ?_, fun g => ?_⟩
  · rcases g with rfl | rfl | rfl | rfl | rfl | rfl | rfl | rfl | rfl | rfl <;> simp [wfV] at h <;> omega
  · subst g; simp [wfV] at h; omega
  · subst g; simp [wfV] at h; omega
theorem alls_loop {c : a_stmt → Option g_stmt} {l : List Tr} {f : Nat → List V} {t0 : TabT} (hl : l.length ≤ 9223372036854775807)
    (hc : ∀ (j : Nat) (tr : Tr) (t : TabT), l[j]? = some tr → Runs (c (opK f j, opN f j, opS f j, opM f j, opF f j, t)) (Out (stV tr (absS t)))) :
    ∀ (r q i : Nat) (t : TabT), i + r = l.length → r < q → Runs (allsN_l0 c q (l.length, opK f, opN f, opS f, opM f, opF f, t0) ((i : Int), t)) (fun z => Out (alV 0 (l.drop i) (absS t)) (Sum.elim id (fun t => (0, t)) z)) := by
  intro r
  induction r with
  | zero =>
    intro q i t hi hq
    obtain ⟨q, rfl⟩ : ∃ k, q = k + 1 := ⟨q - 1, by omega⟩
    refine lp_step ?_
    unfold allsN_l0_t
    dsimp only
    rw [List.drop_of_length_le (by omega), alV_nil]
    exact Runs.if_neg (by simp only [decide_eq_true_eq]; omega) (Runs.some rfl)
  | succ r ih =>
    intro q i t hi hq
    obtain ⟨q, rfl⟩ : ∃ k, q = k + 1 := ⟨q - 1, by omega⟩
    refine lp_step ?_
    unfold allsN_l0_t
    dsimp only
    have hil : i < l.length := by omega
    have ht : l[i]? = some l[i] := List.getElem?_eq_getElem hil
    rw [List.drop_eq_getElem_cons hil, alV_cons]
    refine Runs.if_pos (by simp only [decide_eq_true_eq]; omega) (Runs.if_pos ⟨by omega, by omega⟩ ?_)
    rw [Int.toNat_natCast, w_succ (by omega)]
    refine Runs.bind (hc i _ t ht) fun z hz => ?_
    have h1 : z.1 = (stV l[i] (absS t)).1 := congrArg Prod.fst hz
    have h2 : absS z.2 = (stV l[i] (absS t)).2 := congrArg Prod.snd hz
    refine Runs.ite (fun h => Runs.some ?_) fun h => Runs.some ?_
    · have h : ¬ z.1 = 0 := by simpa using h
      rw [if_neg (by rw [← h1]; exact h)]
      exact hz
    · have h : z.1 = 0 := by simpa using h
      rw [if_pos (by rw [← h1]; exact h), ← h2]
      exact ih q (i + 1) z.2 (by omega) (by omega)
theorem repL_tail {a : Tr} {l : List Tr} {f : Nat → List V} (h : RepL (a :: l) f 0) : RepL l (fun j => f (1 + j)) 0 := by
  simp only [RepL] at h
  refine repL_mk l _ 0 fun j t e => ?_
  have := repL_at l f (0 + 1) h.2 j t e
  rw [Nat.zero_add] at this ⊢
  exact this
theorem stAl_V : ∀ q : Nat, (∀ (tr : Tr) (x : NodeT) (t : TabT), Rep tr x → 2 * siz tr < q → siz tr ≤ 9223372036854775807 → Runs (stmt q (x.1, x.2.1, x.2.2.1, x.2.2.2.1, x.2.2.2.2, t)) (Out (stV tr (absS t)))) ∧
    (∀ (l : List Tr) (f : Nat → List V) (t : TabT), RepL l f 0 → OpenN f → 2 * sizL l + 1 < q → sizL l ≤ 9223372036854775807 → Runs (alls q (l.length, f, t)) (Out (alV 0 l (absS t)))) := by
  intro q
  induction q with
  | zero => exact ⟨fun _ _ _ _ h => by omega, fun _ _ _ _ _ h => by omega⟩
  | succ q ih =>
    obtain ⟨ih1, ih2⟩ := ih
    refine ⟨?_, ?_⟩
    · rintro ⟨k, n, s, l⟩ ⟨k', n', s', m', f⟩ t hr hq hm
      simp only [Rep] at hr
      obtain ⟨rfl, rfl, rfl, rfl, hl, ho, hk⟩ := hr
      simp only [siz] at hq hm
      unfold stmt stAl
      dsimp only
      rw [_root_.if_pos ho]
      unfold t_stmtN
      dsimp only
      refine Runs.bind (wellF_V q k' n' s' hk) fun b hb => ?_
      subst hb
      rw [stV_node]
      by_cases hw : wfV k' l = false
      · rw [if_pos hw]
        exact Runs.if_pos (by rw [hw]; rfl) (Runs.some rfl)
      rw [if_neg hw]
      have hw' : wfV k' l = true := by simpa using hw
      obtain ⟨w1, w2, w3⟩ := wf_len hw'
      refine Runs.if_neg (by rw [hw']; decide) (Runs.bind (inRange_V q k' n' s' l.length _) fun b hb => ?_)
      subst hb
      by_cases hg : rgV k' n' = false
      · rw [if_pos hg]
        exact Runs.if_pos (by rw [hg]; rfl) (Runs.some rfl)
      rw [if_neg hg]
      have hg' : rgV k' n' = true := by simpa using hg
      refine Runs.if_neg (by rw [hg']; decide) ?_
      have allC : ∀ t', Runs (((stAl q).2 (l.length, fun j => [i64 (opK f j), i64 (opN f j), st (opS f j), V.ro 4 (opM f j) (opF f j)], t')).bind fun z => some z) (Out (alV 0 l (absS t'))) := fun t' => by
        rw [open_eq ho]
        exact Runs.bind (ih2 l f t' hk ho (by omega) (by omega)) fun z hz => Runs.some hz
      by_cases h1 : k' = 1
      · rw [if_pos (show k' = 1 ∨ k' = 2 by omega)]
        exact Runs.if_pos (by simpa using h1) (Runs.bind (letS_V hk (w1 (by omega)) (.inl h1) (by omega)) fun z hz => Runs.some hz)
      refine Runs.if_neg (by simpa using h1) ?_
      by_cases h2 : k' = 2
      · rw [if_pos (show k' = 1 ∨ k' = 2 by omega)]
        exact Runs.if_pos (by simpa using h2) (Runs.bind (letS_V hk (w1 (by omega)) (.inr h2) (by omega)) fun z hz => Runs.some hz)
      rw [if_neg (show ¬ (k' = 1 ∨ k' = 2) by omega)]
      refine Runs.if_neg (by simpa using h2) ?_
      by_cases h7 : k' = 7
      · rw [if_pos h7]
        obtain ⟨g1, g2⟩ := hd_rep hk (w1 (by omega))
        exact Runs.if_pos (by simpa using h7) (Runs.if_pos ⟨by omega, by have := w1 (by omega); omega⟩ (Runs.bind (cond_V g1 (by omega)) fun z hz => Runs.some hz))
      rw [if_neg h7]
      refine Runs.if_neg (by simpa using h7) ?_
      by_cases h8 : k' = 8
      · rw [if_pos h8]
        obtain ⟨g1, g2⟩ := hd_rep hk (w1 (by omega))
        exact Runs.if_pos (by simpa using h8) (Runs.if_pos ⟨by omega, by have := w1 (by omega); omega⟩ (Runs.bind (quant_V (d := (0, 0, 0, 1, 0)) g1 (by omega)) fun z hz => Runs.some hz))
      rw [if_neg h8]
      refine Runs.if_neg (by simpa using h8) ?_
      by_cases h5 : k' = 5
      · rw [if_pos (show k' = 5 ∨ k' = 9 by omega)]
        obtain ⟨g1, g2⟩ := hd_rep hk (w1 (by omega))
        exact Runs.if_pos (by simpa using h5) (Runs.if_pos ⟨by omega, by have := w1 (by omega); omega⟩ (Runs.bind (quant_V (d := (0, 0, 1, 0, 0)) g1 (by omega)) fun z hz => Runs.some hz))
      refine Runs.if_neg (by simpa using h5) ?_
      by_cases h9 : k' = 9
      · rw [if_pos (show k' = 5 ∨ k' = 9 by omega)]
        obtain ⟨g1, g2⟩ := hd_rep hk (w1 (by omega))
        exact Runs.if_pos (by simpa using h9) (Runs.if_pos ⟨by omega, by have := w1 (by omega); omega⟩ (Runs.bind (quant_V (d := (0, 0, 1, 0, 0)) g1 (by omega)) fun z hz => Runs.some hz))
      rw [if_neg (show ¬ (k' = 5 ∨ k' = 9) by omega)]
      refine Runs.if_neg (by simpa using h9) ?_
      by_cases h10 : k' = 10
      · rw [if_pos (show k' = 10 ∨ k' = 11 by omega)]
        obtain ⟨g1, g2⟩ := hd_rep hk (w1 (by omega))
        exact Runs.if_pos (by simpa using h10) (Runs.if_pos ⟨by omega, by have := w1 (by omega); omega⟩ (Runs.bind (quant_V (d := (0, 1, 0, 0, 0)) g1 (by omega)) fun z hz => Runs.some hz))
      refine Runs.if_neg (by simpa using h10) ?_
      by_cases h11 : k' = 11
      · rw [if_pos (show k' = 10 ∨ k' = 11 by omega)]
        obtain ⟨g1, g2⟩ := hd_rep hk (w1 (by omega))
        exact Runs.if_pos (by simpa using h11) (Runs.if_pos ⟨by omega, by have := w1 (by omega); omega⟩ (Runs.bind (quant_V (d := (0, 1, 0, 0, 0)) g1 (by omega)) fun z hz => Runs.some hz))
      rw [if_neg (show ¬ (k' = 10 ∨ k' = 11) by omega)]
      refine Runs.if_neg (by simpa using h11) ?_
      by_cases h6 : k' = 6
      · rw [if_pos h6]
        obtain ⟨g1, g2⟩ := hd_rep hk (w1 (by omega))
        obtain ⟨g3, g4⟩ := sd_rep hk (w2 h6)
        refine Runs.if_pos (by simpa using h6) (Runs.if_pos ⟨by omega, by have := w1 (by omega); omega⟩ (Runs.bind (cond_V g1 (by omega)) fun z hz => ?_))
        have e1 : z.1 = condV (hdT l) (absS t) := congrArg Prod.fst hz
        have e2 : absS z.2 = absS t := congrArg Prod.snd hz
        refine Runs.ite (fun h => Runs.some ?_) fun h => Runs.if_pos ⟨by omega, by have := w2 h6; omega⟩ ?_
        · have h : ¬ z.1 = 0 := by simpa using h
          rw [if_neg (by rw [← e1]; exact h)]
          exact hz
        · have h : z.1 = 0 := by simpa using h
          rw [if_pos (by rw [← e1]; exact h), ← e2]
          exact Runs.bind (quant_V (d := (0, 0, 1, 0, 0)) g3 (by omega)) fun z hz => Runs.some hz
      rw [if_neg h6]
      refine Runs.if_neg (by simpa using h6) ?_
      by_cases h3 : k' = 3
      · rw [if_pos h3]
        obtain ⟨g1, g2⟩ := hd_rep hk (w1 (by omega))
        have hlen := w3 h3
        refine Runs.if_pos (by simpa using h3) (Runs.if_pos ⟨by omega, by omega⟩ (Runs.bind (cond_V g1 (by omega)) fun z hz => ?_))
        have e1 : z.1 = condV (hdT l) (absS t) := congrArg Prod.fst hz
        have e2 : absS z.2 = absS t := congrArg Prod.snd hz
        refine Runs.ite (fun h => Runs.some ?_) fun h => Runs.if_pos ⟨by omega, by omega, by omega⟩ ?_
        · have h : ¬ z.1 = 0 := by simpa using h
          rw [if_neg (by rw [← e1]; exact h)]
          exact hz
        · have h : z.1 = 0 := by simpa using h
          rw [if_pos (by rw [← e1]; exact h), ← e2]
          cases l with
          | nil => simp at hlen
          | cons a l =>
            rw [alV_one]
            have ef : (fun j : Nat => [i64 (opK f (1 + j)), i64 (opN f (1 + j)), st (opS f (1 + j)), V.ro 4 (opM f (1 + j)) (opF f (1 + j))]) = fun j => f (1 + j) := funext fun j => (ho (1 + j)).symm
            have en : Int.toNat ((List.length (a :: l) : Nat) : Int) - 1 = l.length := by simp
            rw [ef, en]
            simp only [sizL] at hq hm
            exact Runs.bind (ih2 l (fun j => f (1 + j)) z.2 (repL_tail hk) (fun j => ho (1 + j)) (by have := siz_pos a; omega) (by omega)) fun z hz => Runs.some hz
      rw [if_neg h3]
      exact Runs.if_neg (by simpa using h3) (allC t)
    · intro l f t hk ho hq hm
      unfold alls stAl
      dsimp only
      rw [_root_.if_pos ho]
      unfold t_allsN
      have hlen := sizL_len l
      refine Runs.bind (alls_loop (by omega) (fun j tr t' hj => ?_) l.length q 0 t (by omega) (by omega)) fun z hz => ?_
      · have h1 := repL_at l f 0 hk j tr hj
        rw [Nat.zero_add] at h1
        have h2 := sizL_at l j tr hj
        exact ih1 tr (kidAt f j) t' h1 (by omega) (by omega)
      · rw [List.drop_zero] at hz
        rcases z with z | z
        · exact Runs.some hz
        · exact Runs.some hz
noncomputable def lookV (u : ByteArray) : g_Lookup := (Lookup 0 u).getD (0, 0, 0, 0, 0, 0, false)
theorem look_eq (q : Nat) (u : ByteArray) : Lookup q u = some (lookV u) := by
  obtain ⟨z, h, _⟩ := lookup_both 0 0 u
  exact (show Lookup q u = Lookup 0 u from rfl).trans (some_getD ⟨z, h⟩)
noncomputable def unitV (u : ByteArray) : Option DimT := if u = { data := #[] } then some (0, 0, 0, 0, 0) else if (lookV u).2.2.2.2.2.2 = true then some ((lookV u).1, (lookV u).2.1, (lookV u).2.2.1, (lookV u).2.2.2.1, (lookV u).2.2.2.2.1) else none
noncomputable def parV (pa pu : Nat → ByteArray) : Nat → Nat → Sg → Int × Sg
  | 0, _, g => (0, g)
  | r + 1, i, g => match unitV (pu i) with
    | none => (10, g)
    | some d => if (declV (pa i) d g).1 = 0 then parV pa pu r (i + 1) (declV (pa i) d g).2 else declV (pa i) d g
def ParP (r : Int × Sg) (z : Check_l0_g) : Prop := Sum.elim (fun e => e ≠ 0 ∧ r.1 = e) (fun t => r = (0, absS t)) z
theorem par_loop {pn : ByteArray} {pm : Nat} {pa pu : Nat → ByteArray} {nd : NodeT} {q' : Nat} {c : a_stmt → Option g_stmt} (hm : pm ≤ 9223372036854775807) :
    ∀ (r q i : Nat) (t : TabT), i + r = pm → r < q → Runs (Check_l0 (Lookup q') (declare q') c q (pn, pm, pa, pu, nd) ((i : Int), t)) (ParP (parV pa pu r i (absS t))) := by
  intro r
  induction r with
  | zero =>
    intro q i t hi hq
    obtain ⟨q, rfl⟩ : ∃ k, q = k + 1 := ⟨q - 1, by omega⟩
    refine lp_step ?_
    unfold Check_l0_t
    dsimp only
    exact Runs.if_neg (by simp only [decide_eq_true_eq]; omega) (Runs.some rfl)
  | succ r ih =>
    intro q i t hi hq
    obtain ⟨q, rfl⟩ : ∃ k, q = k + 1 := ⟨q - 1, by omega⟩
    refine lp_step ?_
    unfold Check_l0_t
    dsimp only
    refine Runs.if_pos (by simp only [decide_eq_true_eq]; omega) (Runs.if_pos ⟨by omega, by omega⟩ ?_)
    rw [Int.toNat_natCast, w_succ (by omega)]
    have dcl : ∀ d : DimT, unitV (pu i) = some d → Runs ((declare q' (pa i, d.1, d.2.1, d.2.2.1, d.2.2.2.1, d.2.2.2.2, t)).bind fun z => if (z.1 != (0 : Int)) = true then (some (.inr (.inl z.1)) : Option (Check_l0_a ⊕ Check_l0_g)) else some (.inl (((i + 1 : Nat) : Int), z.2)))
        (fun r' => Sum.elim (fun y' => Runs (Check_l0 (Lookup q') (declare q') c q (pn, pm, pa, pu, nd) y') (ParP (parV pa pu (r + 1) i (absS t)))) (ParP (parV pa pu (r + 1) i (absS t))) r') := fun d hd => by
      refine Runs.bind (declare_V q' (pa i) d t) fun z hz => ?_
      have e1 : z.1 = (declV (pa i) d (absS t)).1 := congrArg Prod.fst hz
      have e2 : absS z.2 = (declV (pa i) d (absS t)).2 := congrArg Prod.snd hz
      have ep : parV pa pu (r + 1) i (absS t) = if (declV (pa i) d (absS t)).1 = 0 then parV pa pu r (i + 1) (declV (pa i) d (absS t)).2 else declV (pa i) d (absS t) := by
        rw [parV, hd]
      rw [ep]
      refine Runs.ite (fun h => Runs.some ?_) fun h => Runs.some ?_
      · have h : ¬ z.1 = 0 := by simpa using h
        rw [if_neg (by rw [← e1]; exact h)]
        exact ⟨h, e1.symm⟩
      · have h : z.1 = 0 := by simpa using h
        rw [if_pos (by rw [← e1]; exact h), ← e2]
        exact ih q (i + 1) z.2 (by omega) (by omega)
    refine Runs.ite (fun h => ?_) fun h => ?_
    · have h : ¬ pu i = { data := #[] } := fun e => by rw [e] at h; simp at h
      refine Runs.bind (P := fun z => z = lookV (pu i)) ⟨_, look_eq _ _, rfl⟩ fun z hz => ?_
      subst hz
      by_cases hf : (lookV (pu i)).2.2.2.2.2.2 = true
      · exact Runs.if_neg (by rw [hf]; decide) (dcl ((lookV (pu i)).1, (lookV (pu i)).2.1, (lookV (pu i)).2.2.1, (lookV (pu i)).2.2.2.1, (lookV (pu i)).2.2.2.2.1) (by unfold unitV; rw [if_neg h, if_pos hf]))
      · refine Runs.if_pos (by simpa using hf) (Runs.some ?_)
        rw [parV, show unitV (pu i) = none by unfold unitV; rw [if_neg h, if_neg hf]]
        exact ⟨by decide, rfl⟩
    · have h : pu i = { data := #[] } := tl_eq.1 (by simpa using h)
      exact dcl (0, 0, 0, 0, 0) (by unfold unitV; rw [if_pos h])
noncomputable def checkV (pm : Nat) (pa pu : Nat → ByteArray) (b : Tr) : Int :=
  if (parV pa pu pm 0 (0, fun _ => none)).1 = 0 then (if kdT b = 14 then (stV b (parV pa pu pm 0 (0, fun _ => none)).2).1 else 7) else (parV pa pu pm 0 (0, fun _ => none)).1
theorem check_V {pn : ByteArray} {pm : Nat} {pa pu : Nat → ByteArray} {b : Tr} {nd : NodeT} {q : Nat} (hr : Rep b nd) (hm : pm ≤ 9223372036854775807) (hq : pm + 2 * siz b < q) (hs : siz b ≤ 9223372036854775807) :
    Runs (Check q (pn, pm, pa, pu, nd)) (fun (e : Int) => e = checkV pm pa pu b) := by
  unfold Check t_Check checkV
  have e0 : absS (0, (fun _ => false), (fun _ => 0), (fun _ => 0), (fun _ => 0), (fun _ => 0), (fun _ => 0)) = (0, fun _ => none) := by
    unfold absS tabOf; simp
  refine Runs.bind (par_loop (nd := nd) (pn := pn) hm pm q 0 (0, (fun _ => false), (fun _ => 0), (fun _ => 0), (fun _ => 0), (fun _ => 0), (fun _ => 0)) (by omega) (by omega)) fun z hz => ?_
  rw [e0] at hz
  generalize parV pa pu pm 0 (0, fun _ => none) = o at hz ⊢
  have hkd : nd.1 = kdT b := rep_kd hr
  rcases z with z | t
  · obtain ⟨h1, h2⟩ := hz
    rw [if_neg (by rw [h2]; exact h1)]
    exact Runs.some h2.symm
  · have hz : o = (0, absS t) := hz
    subst hz
    rw [if_pos rfl]
    by_cases hk : kdT b = 14
    · rw [if_pos hk]
      exact Runs.if_neg (by show ¬ (nd.1 != (14 : Int)) = true; rw [hkd, hk]; decide) (Runs.bind ((stAl_V q).1 b nd t hr (by omega) hs) fun y hy => Runs.some (congrArg Prod.fst hy))
    · rw [if_neg hk]
      exact Runs.if_pos (by show (nd.1 != (14 : Int)) = true; rw [hkd]; simpa using hk) (Runs.some rfl)
end Go.Proofs.YtniogljhkjbcgaaGreatDoor
/- The specification's Check, lifted: declarations. -/
namespace Go.Proofs.YtniogljhkjbcgaaGreatDoor
open Go Go.Am Go.Proofs
set_option linter.unusedSimpArgs false
set_option linter.unusedVariables false
set_option maxRecDepth 100000
abbrev a_DeclN : Type := Nat × (Nat → ByteArray) × (Nat → Int) × (Nat → Int) × (Nat → Int) × (Nat → Int) × (Nat → Int) × ByteArray × Int × Int × Int × Int × Int
abbrev g_DeclN : Type := (Nat × (Nat → ByteArray) × (Nat → Int) × (Nat → Int) × (Nat → Int) × (Nat → Int) × (Nat → Int) × Int) ⊕ (Nat × (Nat → ByteArray) × (Nat → Int) × (Nat → Int) × (Nat → Int) × (Nat → Int) × (Nat → Int))
def A_DeclN : a_DeclN → List V × List (Option Chunk) := (fun x => (fun (vn : Nat) (vs : Nat → ByteArray) (v0 : Nat → Int) (v1 : Nat → Int) (v2 : Nat → Int) (v3 : Nat → Int) (v4 : Nat → Int) (ms : ByteArray) (m0 : Int) (m1 : Int) (m2 : Int) (m3 : Int) (m4 : Int) => (([.ro 6 vn (fun j => [st (vs j), i64 (v0 j), i64 (v1 j), i64 (v2 j), i64 (v3 j), i64 (v4 j)]), .agg [st ms, i64 m0, i64 m1, i64 m2, i64 m3, i64 m4]] : List V), ([] : List (Option Chunk)))) x.1 x.2.1 x.2.2.1 x.2.2.2.1 x.2.2.2.2.1 x.2.2.2.2.2.1 x.2.2.2.2.2.2.1 x.2.2.2.2.2.2.2.1 x.2.2.2.2.2.2.2.2.1 x.2.2.2.2.2.2.2.2.2.1 x.2.2.2.2.2.2.2.2.2.2.1 x.2.2.2.2.2.2.2.2.2.2.2.1 x.2.2.2.2.2.2.2.2.2.2.2.2)
def R_DeclN : g_DeclN → CRes := Sum.elim ((fun z => CRes.ret (V.tup [V.ro 6 (z.1) fun (j : Nat) => [st (z.2.1 j), i64 (z.2.2.1 j), i64 (z.2.2.2.1 j), i64 (z.2.2.2.2.1 j), i64 (z.2.2.2.2.2.1 j), i64 (z.2.2.2.2.2.2.1 j)], i64 (z.2.2.2.2.2.2.2)]) [] : (Nat × (Nat → ByteArray) × (Nat → Int) × (Nat → Int) × (Nat → Int) × (Nat → Int) × (Nat → Int) × Int) → CRes)) ((fun z => CRes.ret (V.tup [V.sl 0 6 0 (z.1), i64 (0 : Int)]) [some (Chunk.row 77 6 (z.1) fun (j : Nat) => [st (z.2.1 j), i64 (z.2.2.1 j), i64 (z.2.2.2.1 j), i64 (z.2.2.2.2.1 j), i64 (z.2.2.2.2.2.1 j), i64 (z.2.2.2.2.2.2 j)])] : (Nat × (Nat → ByteArray) × (Nat → Int) × (Nat → Int) × (Nat → Int) × (Nat → Int) × (Nat → Int)) → CRes))
def t_DeclN {β : Type} (c_Find : a_Find → Option g_Find) (x : a_DeclN) (dn : g_DeclN → Option β) : Option β :=
 (c_Find ((x.1, x.2.1, x.2.2.1, x.2.2.2.1, x.2.2.2.2.1, x.2.2.2.2.2.1, x.2.2.2.2.2.2.1, x.2.2.2.2.2.2.2.1))).bind fun z8 =>
  if decide (z8 ≥ (0 : Int)) = true then
   dn (.inl ((x.1, x.2.1, x.2.2.1, x.2.2.2.1, x.2.2.2.2.1, x.2.2.2.2.2.1, x.2.2.2.2.2.2.1, (4 : Int))))
  else
   if decide (((x.1 : Nat) : Int) ≥ (12 : Int)) = true then
    dn (.inl ((x.1, x.2.1, x.2.2.1, x.2.2.2.1, x.2.2.2.2.1, x.2.2.2.2.2.1, x.2.2.2.2.2.2.1, (2 : Int))))
   else
    if (0 + x.1) * 56 ≤ roomBound ∧ 0 + x.1 ≤ maxLen ∧ 0 ≤ 0 then
     if (0 + x.1 + 1) * 56 ≤ roomBound ∧ 0 + x.1 + 1 ≤ maxLen ∧ 0 + x.1 ≤ 0 + x.1 then
      dn (.inr ((0 + x.1 + 1, fun (j : Nat) => if j < 0 + x.1 then x.2.1 j else x.2.2.2.2.2.2.2.1, fun (j : Nat) => if j < 0 + x.1 then x.2.2.1 j else x.2.2.2.2.2.2.2.2.1, fun (j : Nat) => if j < 0 + x.1 then x.2.2.2.1 j else x.2.2.2.2.2.2.2.2.2.1, fun (j : Nat) => if j < 0 + x.1 then x.2.2.2.2.1 j else x.2.2.2.2.2.2.2.2.2.2.1, fun (j : Nat) => if j < 0 + x.1 then x.2.2.2.2.2.1 j else x.2.2.2.2.2.2.2.2.2.2.2.1, fun (j : Nat) => if j < 0 + x.1 then x.2.2.2.2.2.2.1 j else x.2.2.2.2.2.2.2.2.2.2.2.2)))
     else
      none
    else
     none
theorem n_DeclN {β : Type} (c_Find : a_Find → Option g_Find) (x : a_DeclN) (dn : g_DeclN → Option β) : t_DeclN c_Find x dn = (t_DeclN c_Find x some).bind dn := by
  unfold t_DeclN
  repeat' first | exact free_none | refine free_bind (fun z => ?_) | refine free_ite ?_ ?_ | refine free_sum (fun z => ?_) (fun z => ?_) | rfl
theorem r_DeclN (c_Find : a_Find → Option g_Find) (x : a_DeclN) : callK E5 (ftab 49 (fun _ _ => true) A_Find x_Find c_Find ca0) lo0 33 (A_DeclN x).1 (A_DeclN x).2 K = t_DeclN (fun x => viaF A_Find c_Find (A_Find x)) x (fun z => some (.c (R_DeclN z))) := by kernel_rfl
theorem s_DeclN (c_Find : a_Find → Option g_Find) (h_Find : ∀ x z, c_Find x = some z → SC E5 49 (A_Find x).1 (A_Find x).2 (R_Find z)) (q : Nat) (x : a_DeclN) (z : g_DeclN) (h : t_DeclN c_Find x some = some z) : SC E5 33 (A_DeclN x).1 (A_DeclN x).2 (R_DeclN z) := by
  refine SC.of hW5 hX5 (ftab_cons h_Find xe_Find ca0_sound) lo0_sound ((r_DeclN c_Find x).trans ?_)
  rw [via_eq i_Find c_Find, n_DeclN, h]; rfl
noncomputable def DeclN (q : Nat) (x : a_DeclN) : Option g_DeclN := t_DeclN (Find q) x some
theorem sc_DeclN (q : Nat) : ∀ (x : a_DeclN) (z : g_DeclN), DeclN q x = some z → SC E5 33 (A_DeclN x).1 (A_DeclN x).2 (R_DeclN z) := fun x z h => s_DeclN (Find q) (sc_Find q) q x z h
abbrev a_DeclZ : Type := ByteArray × Int × Int × Int × Int × Int
abbrev g_DeclZ : Type := (Unit) ⊕ ((Nat → ByteArray) × (Nat → Int) × (Nat → Int) × (Nat → Int) × (Nat → Int) × (Nat → Int))
def A_DeclZ : a_DeclZ → List V × List (Option Chunk) := (fun x => (fun (ms : ByteArray) (m0 : Int) (m1 : Int) (m2 : Int) (m3 : Int) (m4 : Int) => (([nilS, .agg [st ms, i64 m0, i64 m1, i64 m2, i64 m3, i64 m4]] : List V), ([] : List (Option Chunk)))) x.1 x.2.1 x.2.2.1 x.2.2.2.1 x.2.2.2.2.1 x.2.2.2.2.2)
def R_DeclZ : g_DeclZ → CRes := Sum.elim ((fun z => CRes.ret (V.tup [nilS, i64 (4 : Int)]) [] : (Unit) → CRes)) ((fun z => CRes.ret (V.tup [V.sl 0 6 0 1, i64 (0 : Int)]) [some (Chunk.row 77 6 1 fun (j : Nat) => [st (z.1 j), i64 (z.2.1 j), i64 (z.2.2.1 j), i64 (z.2.2.2.1 j), i64 (z.2.2.2.2.1 j), i64 (z.2.2.2.2.2 j)])] : ((Nat → ByteArray) × (Nat → Int) × (Nat → Int) × (Nat → Int) × (Nat → Int) × (Nat → Int)) → CRes))
def t_DeclZ {β : Type} (c_FindZ : a_FindZ → Option g_FindZ) (x : a_DeclZ) (dn : g_DeclZ → Option β) : Option β :=
 (c_FindZ (x.1)).bind fun z1 =>
  if decide (z1 ≥ (0 : Int)) = true then
   dn (.inl ())
  else
   dn (.inr ((fun j => x.1, fun (j : Nat) => x.2.1, fun (j : Nat) => x.2.2.1, fun (j : Nat) => x.2.2.2.1, fun (j : Nat) => x.2.2.2.2.1, fun (j : Nat) => x.2.2.2.2.2)))
theorem n_DeclZ {β : Type} (c_FindZ : a_FindZ → Option g_FindZ) (x : a_DeclZ) (dn : g_DeclZ → Option β) : t_DeclZ c_FindZ x dn = (t_DeclZ c_FindZ x some).bind dn := by
  unfold t_DeclZ
  repeat' first | exact free_none | refine free_bind (fun z => ?_) | refine free_ite ?_ ?_ | refine free_sum (fun z => ?_) (fun z => ?_) | rfl
theorem r_DeclZ (c_FindZ : a_FindZ → Option g_FindZ) (x : a_DeclZ) : callK E5 (ftab 49 (fun a _ => fstNil a) A_FindZ x_FindZ c_FindZ ca0) lo0 33 (A_DeclZ x).1 (A_DeclZ x).2 K = t_DeclZ (fun x => viaF A_FindZ c_FindZ (A_FindZ x)) x (fun z => some (.c (R_DeclZ z))) := by kernel_rfl
theorem s_DeclZ (c_FindZ : a_FindZ → Option g_FindZ) (h_FindZ : ∀ x z, c_FindZ x = some z → SC E5 49 (A_FindZ x).1 (A_FindZ x).2 (R_FindZ z)) (q : Nat) (x : a_DeclZ) (z : g_DeclZ) (h : t_DeclZ c_FindZ x some = some z) : SC E5 33 (A_DeclZ x).1 (A_DeclZ x).2 (R_DeclZ z) := by
  refine SC.of hW5 hX5 (ftab_cons h_FindZ xe_FindZ ca0_sound) lo0_sound ((r_DeclZ c_FindZ x).trans ?_)
  rw [via_eq i_FindZ c_FindZ, n_DeclZ, h]; rfl
noncomputable def DeclZ (q : Nat) (x : a_DeclZ) : Option g_DeclZ := t_DeclZ (FindZ q) x some
theorem sc_DeclZ (q : Nat) : ∀ (x : a_DeclZ) (z : g_DeclZ), DeclZ q x = some z → SC E5 33 (A_DeclZ x).1 (A_DeclZ x).2 (R_DeclZ z) := fun x z h => s_DeclZ (FindZ q) (sc_FindZ q) q x z h
abbrev a_Decl : Type := Nat × (Nat → ByteArray) × (Nat → Int) × (Nat → Int) × (Nat → Int) × (Nat → Int) × (Nat → Int) × ByteArray × Int × Int × Int × Int × Int
abbrev g_Decl : Type := Nat × (Nat → ByteArray) × (Nat → Int) × (Nat → Int) × (Nat → Int) × (Nat → Int) × (Nat → Int) × Int
def A_Decl : a_Decl → List V × List (Option Chunk) := (fun x => (fun (vn : Nat) (vs : Nat → ByteArray) (v0 : Nat → Int) (v1 : Nat → Int) (v2 : Nat → Int) (v3 : Nat → Int) (v4 : Nat → Int) (ms : ByteArray) (m0 : Int) (m1 : Int) (m2 : Int) (m3 : Int) (m4 : Int) => (([.ro 6 vn (fun j => [st (vs j), i64 (v0 j), i64 (v1 j), i64 (v2 j), i64 (v3 j), i64 (v4 j)]), .agg [st ms, i64 m0, i64 m1, i64 m2, i64 m3, i64 m4]] : List V), ([] : List (Option Chunk)))) x.1 x.2.1 x.2.2.1 x.2.2.2.1 x.2.2.2.2.1 x.2.2.2.2.2.1 x.2.2.2.2.2.2.1 x.2.2.2.2.2.2.2.1 x.2.2.2.2.2.2.2.2.1 x.2.2.2.2.2.2.2.2.2.1 x.2.2.2.2.2.2.2.2.2.2.1 x.2.2.2.2.2.2.2.2.2.2.2.1 x.2.2.2.2.2.2.2.2.2.2.2.2)
def d_Decl (t : List V × List (Option Chunk)) : a_Decl := ((vRoN (t.1.getD 0 .junk)), (fun j => vS ((vRoF (t.1.getD 0 .junk) j).getD 0 .junk)), (fun j => vI ((vRoF (t.1.getD 0 .junk) j).getD 1 .junk)), (fun j => vI ((vRoF (t.1.getD 0 .junk) j).getD 2 .junk)), (fun j => vI ((vRoF (t.1.getD 0 .junk) j).getD 3 .junk)), (fun j => vI ((vRoF (t.1.getD 0 .junk) j).getD 4 .junk)), (fun j => vI ((vRoF (t.1.getD 0 .junk) j).getD 5 .junk)), (vS ((vAg (t.1.getD 1 .junk)).getD 0 .junk)), (vI ((vAg (t.1.getD 1 .junk)).getD 1 .junk)), (vI ((vAg (t.1.getD 1 .junk)).getD 2 .junk)), (vI ((vAg (t.1.getD 1 .junk)).getD 3 .junk)), (vI ((vAg (t.1.getD 1 .junk)).getD 4 .junk)), (vI ((vAg (t.1.getD 1 .junk)).getD 5 .junk)))
theorem i_Decl : ∀ x y, A_Decl x = A_Decl y → x = y := fun x y h => (congrArg d_Decl h :)
def R_Decl : g_Decl → CRes := (fun z => (fun (vn : Nat) (vs : Nat → ByteArray) (v0 : Nat → Int) (v1 : Nat → Int) (v2 : Nat → Int) (v3 : Nat → Int) (v4 : Nat → Int) (e : Int) => .ret (.tup [.ro 6 vn (fun j => [st (vs j), i64 (v0 j), i64 (v1 j), i64 (v2 j), i64 (v3 j), i64 (v4 j)]), i64 e]) []) z.1 z.2.1 z.2.2.1 z.2.2.2.1 z.2.2.2.2.1 z.2.2.2.2.2.1 z.2.2.2.2.2.2.1 z.2.2.2.2.2.2.2 : (Nat × (Nat → ByteArray) × (Nat → Int) × (Nat → Int) × (Nat → Int) × (Nat → Int) × (Nat → Int) × Int) → CRes)
def x_Decl (z : g_Decl) (k : CRes → Option Ans) : Option Ans := k (R_Decl z)
theorem xe_Decl : ∀ z k, x_Decl z k = k (R_Decl z) := fun z k => rfl
theorem Le.tup2 {a a' : V} {e : V} (h : Le a a') : Le (.tup [a, e]) (.tup [a', e]) := by
  intro β S w D u hd
  simp only [Am.den] at hd ⊢
  obtain ⟨us, h1, h2⟩ := hd
  refine ⟨us, h1, ?_⟩
  simp only [denL] at h2 ⊢
  obtain ⟨x, xs, rfl, h3, h4⟩ := h2
  exact ⟨x, xs, rfl, h _ _ _ _ _ h3, h4⟩
def cv_Decl : g_DeclN → g_Decl := Sum.elim id (fun z => (z.1, z.2.1, z.2.2.1, z.2.2.2.1, z.2.2.2.2.1, z.2.2.2.2.2.1, z.2.2.2.2.2.2, 0))
noncomputable def Decl (q : Nat) (x : a_Decl) : Option g_Decl := (DeclN q x).map cv_Decl
theorem sc_Decl (q : Nat) : ∀ (x : a_Decl) (z : g_Decl), Decl q x = some z → SC E5 33 (A_Decl x).1 (A_Decl x).2 (R_Decl z) := by
  intro x z h
  unfold Decl at h
  obtain ⟨z2, h2, rfl⟩ := Option.map_eq_some_iff.1 h
  have g := sc_DeclN q _ _ h2
  rcases z2 with z2 | z2
  · exact g
  · exact (SC.give g (by simp [V.bw, V.bw2, V.bw1, hp, V.pure, pureL])).le (Le.of_eq (by simp [V.bw, V.bw2, V.bw1, hp] <;> exact ⟨⟨rfl, rfl⟩, rfl⟩))
abbrev a_DeclZR : Type := ByteArray × Int × Int × Int × Int × Int
abbrev g_DeclZR : Type := Nat × (Nat → ByteArray) × (Nat → Int) × (Nat → Int) × (Nat → Int) × (Nat → Int) × (Nat → Int) × Int
def A_DeclZR : a_DeclZR → List V × List (Option Chunk) := (fun x => (fun (ms : ByteArray) (m0 : Int) (m1 : Int) (m2 : Int) (m3 : Int) (m4 : Int) => (([nilS, .agg [st ms, i64 m0, i64 m1, i64 m2, i64 m3, i64 m4]] : List V), ([] : List (Option Chunk)))) x.1 x.2.1 x.2.2.1 x.2.2.2.1 x.2.2.2.2.1 x.2.2.2.2.2)
def d_DeclZR (t : List V × List (Option Chunk)) : a_DeclZR := ((vS ((vAg (t.1.getD 1 .junk)).getD 0 .junk)), (vI ((vAg (t.1.getD 1 .junk)).getD 1 .junk)), (vI ((vAg (t.1.getD 1 .junk)).getD 2 .junk)), (vI ((vAg (t.1.getD 1 .junk)).getD 3 .junk)), (vI ((vAg (t.1.getD 1 .junk)).getD 4 .junk)), (vI ((vAg (t.1.getD 1 .junk)).getD 5 .junk)))
theorem i_DeclZR : ∀ x y, A_DeclZR x = A_DeclZR y → x = y := fun x y h => (congrArg d_DeclZR h :)
def R_DeclZR : g_DeclZR → CRes := (fun z => (fun (vn : Nat) (vs : Nat → ByteArray) (v0 : Nat → Int) (v1 : Nat → Int) (v2 : Nat → Int) (v3 : Nat → Int) (v4 : Nat → Int) (e : Int) => .ret (.tup [.ro 6 vn (fun j => [st (vs j), i64 (v0 j), i64 (v1 j), i64 (v2 j), i64 (v3 j), i64 (v4 j)]), i64 e]) []) z.1 z.2.1 z.2.2.1 z.2.2.2.1 z.2.2.2.2.1 z.2.2.2.2.2.1 z.2.2.2.2.2.2.1 z.2.2.2.2.2.2.2 : (Nat × (Nat → ByteArray) × (Nat → Int) × (Nat → Int) × (Nat → Int) × (Nat → Int) × (Nat → Int) × Int) → CRes)
def x_DeclZR (z : g_DeclZR) (k : CRes → Option Ans) : Option Ans := k (R_DeclZR z)
theorem xe_DeclZR : ∀ z k, x_DeclZR z k = k (R_DeclZR z) := fun z k => rfl
def cv_DeclZR : g_DeclZ → g_DeclZR := Sum.elim (fun _ => (0, (fun _ => ByteArray.empty), (fun _ => 0), (fun _ => 0), (fun _ => 0), (fun _ => 0), (fun _ => 0), 4)) (fun z => (1, z.1, z.2.1, z.2.2.1, z.2.2.2.1, z.2.2.2.2.1, z.2.2.2.2.2, 0))
noncomputable def DeclZR (q : Nat) (x : a_DeclZR) : Option g_DeclZR := (DeclZ q x).map cv_DeclZR
theorem sc_DeclZR (q : Nat) : ∀ (x : a_DeclZR) (z : g_DeclZR), DeclZR q x = some z → SC E5 33 (A_DeclZR x).1 (A_DeclZR x).2 (R_DeclZR z) := by
  intro x z h
  unfold DeclZR at h
  obtain ⟨z2, h2, rfl⟩ := Option.map_eq_some_iff.1 h
  have g := sc_DeclZ q _ _ h2
  rcases z2 with z2 | z2
  · exact g.le (Le.tup2 Le.nil_ro)
  · exact (SC.give g (by simp [V.bw, V.bw2, V.bw1, hp, V.pure, pureL])).le (Le.of_eq (by simp [V.bw, V.bw2, V.bw1, hp] <;> exact ⟨⟨rfl, rfl⟩, rfl⟩))
abbrev a_Params : Type := Nat × (Nat → ByteArray) × (Nat → ByteArray)
abbrev g_Params : Type := (Int) ⊕ (Nat × (Nat → ByteArray) × (Nat → Int) × (Nat → Int) × (Nat → Int) × (Nat → Int) × (Nat → Int))
def A_Params : a_Params → List V × List (Option Chunk) := (fun x => (fun (pm : Nat) (pa : Nat → ByteArray) (pu : Nat → ByteArray) => (([.ro 2 pm (fun j => [st (pa j), st (pu j)])] : List V), ([] : List (Option Chunk)))) x.1 x.2.1 x.2.2)
def R_Params : g_Params → CRes := Sum.elim ((fun z => CRes.ret (V.tup [nilS, i64 z]) [] : (Int) → CRes)) ((fun z => CRes.ret (V.tup [V.ro 6 (z.1) fun (j : Nat) => [st (z.2.1 j), i64 (z.2.2.1 j), i64 (z.2.2.2.1 j), i64 (z.2.2.2.2.1 j), i64 (z.2.2.2.2.2.1 j), i64 (z.2.2.2.2.2.2 j)], i64 (0 : Int)]) [] : (Nat × (Nat → ByteArray) × (Nat → Int) × (Nat → Int) × (Nat → Int) × (Nat → Int) × (Nat → Int)) → CRes))
abbrev Params_l0_a : Type := (Unit) ⊕ (Nat × (Nat → ByteArray) × (Nat → Int) × (Nat → Int) × (Nat → Int) × (Nat → Int) × (Nat → Int) × Int)
abbrev Params_l0_g : Type := (Int) ⊕ (Unit) ⊕ (Nat × (Nat → ByteArray) × (Nat → Int) × (Nat → Int) × (Nat → Int) × (Nat → Int) × (Nat → Int))
def Params_l0_S0 (x : a_Params) (y : Unit) : St := { fr := [V.ro 2 (x.1) fun (j : Nat) => [st (x.2.1 j), st (x.2.2 j)], V.junk, V.junk, V.junk, nilS, i64 (0 : Int)] ++ jk 46, H := hp [], nx := 0, rt := 0, me := 18 }
def Params_l0_d0 (s : St) : Unit := ()
def Params_l0_S1 (x : a_Params) (y : Nat × (Nat → ByteArray) × (Nat → Int) × (Nat → Int) × (Nat → Int) × (Nat → Int) × (Nat → Int) × Int) : St := { fr := [V.ro 2 (x.1) fun (j : Nat) => [st (x.2.1 j), st (x.2.2 j)], V.junk, V.junk, V.junk, V.ro 6 (y.1) fun (j : Nat) => [st (y.2.1 j), i64 (y.2.2.1 j), i64 (y.2.2.2.1 j), i64 (y.2.2.2.2.1 j), i64 (y.2.2.2.2.2.1 j), i64 (y.2.2.2.2.2.2.1 j)], i64 (y.2.2.2.2.2.2.2)] ++ jk 46, H := hp [], nx := 0, rt := 0, me := 18 }
def Params_l0_d1 (s : St) : Nat × (Nat → ByteArray) × (Nat → Int) × (Nat → Int) × (Nat → Int) × (Nat → Int) × (Nat → Int) × Int := ((vRoN (s.fr.getD 4 .junk)), (fun j => (vS (((vRoF (s.fr.getD 4 .junk)) j).getD 0 .junk))), (fun j => (vI (((vRoF (s.fr.getD 4 .junk)) j).getD 1 .junk))), (fun j => (vI (((vRoF (s.fr.getD 4 .junk)) j).getD 2 .junk))), (fun j => (vI (((vRoF (s.fr.getD 4 .junk)) j).getD 3 .junk))), (fun j => (vI (((vRoF (s.fr.getD 4 .junk)) j).getD 4 .junk))), (fun j => (vI (((vRoF (s.fr.getD 4 .junk)) j).getD 5 .junk))), (vI (s.fr.getD 5 .junk)))
def Params_l0_S (x : a_Params) : Params_l0_a → St := (Sum.elim (Params_l0_S0 x) (Params_l0_S1 x))
def Params_l0_d (s : St) : Params_l0_a := (match isNilV (s.fr.getD 4 .junk) with | true => (.inl (Params_l0_d0 s)) | false => (.inr (Params_l0_d1 s)))
theorem Params_l0_i (x : a_Params) : ∀ y y', Params_l0_S x y = Params_l0_S x y' → y = y' := fun y y' h => by rcases y with y | y <;> rcases y' with y | y <;> exact (congrArg Params_l0_d h :)
def Params_l0_T (x : a_Params) : Params_l0_g → Ex × St := (Sum.elim (fun z => (Ex.ret, { fr := [V.junk, V.junk, nilS, i64 z] ++ jk 48, H := hp [], nx := 0, rt := 0, me := 18 })) (Sum.elim (fun z => (Ex.exit 0, { fr := jk 4 ++ [nilS] ++ jk 47, H := hp [], nx := 0, rt := 0, me := 18 })) (fun z => (Ex.exit 0, { fr := jk 4 ++ [V.ro 6 (z.1) fun (j : Nat) => [st (z.2.1 j), i64 (z.2.2.1 j), i64 (z.2.2.2.1 j), i64 (z.2.2.2.2.1 j), i64 (z.2.2.2.2.2.1 j), i64 (z.2.2.2.2.2.2 j)]] ++ jk 47, H := hp [], nx := 0, rt := 0, me := 18 }))))
def Params_l0_x (x : a_Params) (z : Params_l0_g) (k : KX) : Option Ans := Sum.elim (fun za => k (Params_l0_T x (.inl za)).1 (Params_l0_T x (.inl za)).2) (fun zb => Sum.elim (fun zba => k (Params_l0_T x (.inr (.inl zba))).1 (Params_l0_T x (.inr (.inl zba))).2) (fun zbb => k (Params_l0_T x (.inr (.inr zbb))).1 (Params_l0_T x (.inr (.inr zbb))).2) zb) z
theorem Params_l0_xe (x : a_Params) : ∀ z k, Params_l0_x x z k = k (Params_l0_T x z).1 (Params_l0_T x z).2 := fun z k => by
  rcases z with z | z | z <;> rfl
theorem Params_l0_k0 (x : a_Params) (z : Int) : KCM [(0, 16)] 12 (Params_l0_T x (.inl z)).1 (Params_l0_T x (.inl z)).2 = some (.l (Params_l0_T x (.inl z)).1 (Params_l0_T x (.inl z)).2) := by kernel_rfl
theorem Params_l0_k1 (x : a_Params) (z : Unit) : KCM [(0, 16)] 12 (Params_l0_T x (.inr (.inl z))).1 (Params_l0_T x (.inr (.inl z))).2 = some (.l (Params_l0_T x (.inr (.inl z))).1 (Params_l0_T x (.inr (.inl z))).2) := by kernel_rfl
theorem Params_l0_k2 (x : a_Params) (z : Nat × (Nat → ByteArray) × (Nat → Int) × (Nat → Int) × (Nat → Int) × (Nat → Int) × (Nat → Int)) : KCM [(0, 16)] 12 (Params_l0_T x (.inr (.inr z))).1 (Params_l0_T x (.inr (.inr z))).2 = some (.l (Params_l0_T x (.inr (.inr z))).1 (Params_l0_T x (.inr (.inr z))).2) := by kernel_rfl
def Params_l0_t0 {β : Type} (c_RLookup : a_RLookup → Option g_RLookup) (c_DeclZR : a_DeclZR → Option g_DeclZR) (c_Decl : a_Decl → Option g_Decl) (x : a_Params) (y : Unit) (nx : Params_l0_a → Option β) (dn : Params_l0_g → Option β) : Option β :=
 if decide ((0 : Int) < ((x.1 : Nat) : Int)) = true then
  if (0 : Int) ≤ (0 : Int) ∧ (0 : Int) < ((x.1 : Nat) : Int) then
   if (!ByteArray.toList (x.2.2 0) == ByteArray.toList { data := #[] }) = true then
    if (0 : Int) ≤ (0 : Int) ∧ (0 : Int) < ((x.1 : Nat) : Int) then
     (c_RLookup (x.2.2 0)).bind fun z297 =>
      if (!z297.2.2.2.2.2.2) = true then
       dn (.inl ((10 : Int)))
      else
       if (0 : Int) ≤ (0 : Int) ∧ (0 : Int) < ((x.1 : Nat) : Int) then
        (c_DeclZR ((x.2.1 0, z297.1, z297.2.1, z297.2.2.1, z297.2.2.2.1, z297.2.2.2.2.1))).bind fun z304 =>
         if (z304.2.2.2.2.2.2.2 != (0 : Int)) = true then
          dn (.inl (z304.2.2.2.2.2.2.2))
         else
          nx (.inr ((z304.1, z304.2.1, z304.2.2.1, z304.2.2.2.1, z304.2.2.2.2.1, z304.2.2.2.2.2.1, z304.2.2.2.2.2.2.1, (1 : Int))))
       else
        none
    else
     none
   else
    if (0 : Int) ≤ (0 : Int) ∧ (0 : Int) < ((x.1 : Nat) : Int) then
     (c_DeclZR ((x.2.1 0, (0 : Int), (0 : Int), (0 : Int), (0 : Int), (0 : Int)))).bind fun z311 =>
      if (z311.2.2.2.2.2.2.2 != (0 : Int)) = true then
       dn (.inl (z311.2.2.2.2.2.2.2))
      else
       nx (.inr ((z311.1, z311.2.1, z311.2.2.1, z311.2.2.2.1, z311.2.2.2.2.1, z311.2.2.2.2.2.1, z311.2.2.2.2.2.2.1, (1 : Int))))
    else
     none
  else
   none
 else
  dn (.inr (.inl ()))
theorem Params_l0_n0 {β : Type} (c_RLookup : a_RLookup → Option g_RLookup) (c_DeclZR : a_DeclZR → Option g_DeclZR) (c_Decl : a_Decl → Option g_Decl) (x : a_Params) (y : Unit) (nx : Params_l0_a → Option β) (dn : Params_l0_g → Option β) : Params_l0_t0 c_RLookup c_DeclZR c_Decl x y nx dn = (Params_l0_t0 c_RLookup c_DeclZR c_Decl x y (fun y => some (.inl y)) (fun z => some (.inr z))).bind fun r => Sum.elim nx dn r := by
  unfold Params_l0_t0
  repeat' first | exact free_none | refine free_bind (fun z => ?_) | refine free_ite ?_ ?_ | refine free_sum (fun z => ?_) (fun z => ?_) | rfl
theorem Params_l0_r0 (c_RLookup : a_RLookup → Option g_RLookup) (c_DeclZR : a_DeclZR → Option g_DeclZR) (c_Decl : a_Decl → Option g_Decl) (x : a_Params) (y : Unit) (lo : LoopT) : loopK E5 (ftab 32 (fun _ _ => true) A_RLookup x_RLookup c_RLookup (ftab 33 (fun a _ => fstNil a) A_DeclZR x_DeclZR c_DeclZR (ftab 33 (fun _ _ => true) A_Decl x_Decl c_Decl ca0))) lo 0 49 (bodyOf E5 18 0) (Params_l0_S x (.inl y)) (KCM [(0, 16)] 12) = Params_l0_t0 (fun x => viaF A_RLookup c_RLookup (A_RLookup x)) (fun x => viaF A_DeclZR c_DeclZR (A_DeclZR x)) (fun x => viaF A_Decl c_Decl (A_Decl x)) x y (fun y => lo 0 49 (bodyOf E5 18 0) (Params_l0_S x y) (KCM [(0, 16)] 12)) (fun z => some (.l (Params_l0_T x z).1 (Params_l0_T x z).2)) := by kernel_rfl
def Params_l0_t1 {β : Type} (c_RLookup : a_RLookup → Option g_RLookup) (c_DeclZR : a_DeclZR → Option g_DeclZR) (c_Decl : a_Decl → Option g_Decl) (x : a_Params) (y : Nat × (Nat → ByteArray) × (Nat → Int) × (Nat → Int) × (Nat → Int) × (Nat → Int) × (Nat → Int) × Int) (nx : Params_l0_a → Option β) (dn : Params_l0_g → Option β) : Option β :=
 if decide (y.2.2.2.2.2.2.2 < ((x.1 : Nat) : Int)) = true then
  if (0 : Int) ≤ y.2.2.2.2.2.2.2 ∧ y.2.2.2.2.2.2.2 < ((x.1 : Nat) : Int) then
   if (!ByteArray.toList (x.2.2 (Int.toNat (y.2.2.2.2.2.2.2))) == ByteArray.toList { data := #[] }) = true then
    if (0 : Int) ≤ y.2.2.2.2.2.2.2 ∧ y.2.2.2.2.2.2.2 < ((x.1 : Nat) : Int) then
     (c_RLookup (x.2.2 (Int.toNat (y.2.2.2.2.2.2.2)))).bind fun z314 =>
      if (!z314.2.2.2.2.2.2) = true then
       dn (.inl ((10 : Int)))
      else
       if (0 : Int) ≤ y.2.2.2.2.2.2.2 ∧ y.2.2.2.2.2.2.2 < ((x.1 : Nat) : Int) then
        (c_Decl ((y.1, y.2.1, y.2.2.1, y.2.2.2.1, y.2.2.2.2.1, y.2.2.2.2.2.1, y.2.2.2.2.2.2.1, x.2.1 (Int.toNat (y.2.2.2.2.2.2.2)), z314.1, z314.2.1, z314.2.2.1, z314.2.2.2.1, z314.2.2.2.2.1))).bind fun z328 =>
         if (z328.2.2.2.2.2.2.2 != (0 : Int)) = true then
          dn (.inl (z328.2.2.2.2.2.2.2))
         else
          nx (.inr ((z328.1, z328.2.1, z328.2.2.1, z328.2.2.2.1, z328.2.2.2.2.1, z328.2.2.2.2.2.1, z328.2.2.2.2.2.2.1, w (y.2.2.2.2.2.2.2 + (1 : Int)))))
       else
        none
    else
     none
   else
    if (0 : Int) ≤ y.2.2.2.2.2.2.2 ∧ y.2.2.2.2.2.2.2 < ((x.1 : Nat) : Int) then
     (c_Decl ((y.1, y.2.1, y.2.2.1, y.2.2.2.1, y.2.2.2.2.1, y.2.2.2.2.2.1, y.2.2.2.2.2.2.1, x.2.1 (Int.toNat (y.2.2.2.2.2.2.2)), (0 : Int), (0 : Int), (0 : Int), (0 : Int), (0 : Int)))).bind fun z342 =>
      if (z342.2.2.2.2.2.2.2 != (0 : Int)) = true then
       dn (.inl (z342.2.2.2.2.2.2.2))
      else
       nx (.inr ((z342.1, z342.2.1, z342.2.2.1, z342.2.2.2.1, z342.2.2.2.2.1, z342.2.2.2.2.2.1, z342.2.2.2.2.2.2.1, w (y.2.2.2.2.2.2.2 + (1 : Int)))))
    else
     none
  else
   none
 else
  dn (.inr (.inr ((y.1, y.2.1, y.2.2.1, y.2.2.2.1, y.2.2.2.2.1, y.2.2.2.2.2.1, y.2.2.2.2.2.2.1))))
theorem Params_l0_n1 {β : Type} (c_RLookup : a_RLookup → Option g_RLookup) (c_DeclZR : a_DeclZR → Option g_DeclZR) (c_Decl : a_Decl → Option g_Decl) (x : a_Params) (y : Nat × (Nat → ByteArray) × (Nat → Int) × (Nat → Int) × (Nat → Int) × (Nat → Int) × (Nat → Int) × Int) (nx : Params_l0_a → Option β) (dn : Params_l0_g → Option β) : Params_l0_t1 c_RLookup c_DeclZR c_Decl x y nx dn = (Params_l0_t1 c_RLookup c_DeclZR c_Decl x y (fun y => some (.inl y)) (fun z => some (.inr z))).bind fun r => Sum.elim nx dn r := by
  unfold Params_l0_t1
  repeat' first | exact free_none | refine free_bind (fun z => ?_) | refine free_ite ?_ ?_ | refine free_sum (fun z => ?_) (fun z => ?_) | rfl
theorem Params_l0_r1 (c_RLookup : a_RLookup → Option g_RLookup) (c_DeclZR : a_DeclZR → Option g_DeclZR) (c_Decl : a_Decl → Option g_Decl) (x : a_Params) (y : Nat × (Nat → ByteArray) × (Nat → Int) × (Nat → Int) × (Nat → Int) × (Nat → Int) × (Nat → Int) × Int) (lo : LoopT) : loopK E5 (ftab 32 (fun _ _ => true) A_RLookup x_RLookup c_RLookup (ftab 33 (fun a _ => fstNil a) A_DeclZR x_DeclZR c_DeclZR (ftab 33 (fun _ _ => true) A_Decl x_Decl c_Decl ca0))) lo 0 49 (bodyOf E5 18 0) (Params_l0_S x (.inr y)) (KCM [(0, 16)] 12) = Params_l0_t1 (fun x => viaF A_RLookup c_RLookup (A_RLookup x)) (fun x => viaF A_DeclZR c_DeclZR (A_DeclZR x)) (fun x => viaF A_Decl c_Decl (A_Decl x)) x y (fun y => lo 0 49 (bodyOf E5 18 0) (Params_l0_S x y) (KCM [(0, 16)] 12)) (fun z => some (.l (Params_l0_T x z).1 (Params_l0_T x z).2)) := by kernel_rfl
noncomputable def Params_l0 (c_RLookup : a_RLookup → Option g_RLookup) (c_DeclZR : a_DeclZR → Option g_DeclZR) (c_Decl : a_Decl → Option g_Decl) (q : Nat) (x : a_Params) : Params_l0_a → Option Params_l0_g := lpG (Sum.elim (fun y => Params_l0_t0 c_RLookup c_DeclZR c_Decl x y (fun y => some (.inl y)) (fun z => some (.inr z))) (fun y => Params_l0_t1 c_RLookup c_DeclZR c_Decl x y (fun y => some (.inl y)) (fun z => some (.inr z)))) q
theorem Params_l0_s (c_RLookup : a_RLookup → Option g_RLookup) (h_RLookup : ∀ x z, c_RLookup x = some z → SC E5 32 (A_RLookup x).1 (A_RLookup x).2 (R_RLookup z)) (c_DeclZR : a_DeclZR → Option g_DeclZR) (h_DeclZR : ∀ x z, c_DeclZR x = some z → SC E5 33 (A_DeclZR x).1 (A_DeclZR x).2 (R_DeclZR z)) (c_Decl : a_Decl → Option g_Decl) (h_Decl : ∀ x z, c_Decl x = some z → SC E5 33 (A_Decl x).1 (A_Decl x).2 (R_Decl z)) (q : Nat) (x : a_Params) : ∀ y z, Params_l0 c_RLookup c_DeclZR c_Decl q x y = some z → SL E5 (bodyOf E5 18 0) (Params_l0_S x y) (Params_l0_T x z).1 (Params_l0_T x z).2 :=
  SL.lp (LT := fun lo => lo) (T := Params_l0_T x) (S := Params_l0_S x) (ftab_cons h_RLookup xe_RLookup (ftab_cons h_DeclZR xe_DeclZR (ftab_cons h_Decl xe_Decl ca0_sound))) hX5 (fun lo h => h) (fun lo y => by
      rcases y with y | y
      · exact (Params_l0_r0 c_RLookup c_DeclZR c_Decl x y lo).trans (by rw [via_eq i_RLookup c_RLookup, via_eq i_DeclZR c_DeclZR, via_eq i_Decl c_Decl]; exact Params_l0_n0 _ _ _ _ _ _ _)
      · exact (Params_l0_r1 c_RLookup c_DeclZR c_Decl x y lo).trans (by rw [via_eq i_RLookup c_RLookup, via_eq i_DeclZR c_DeclZR, via_eq i_Decl c_Decl]; exact Params_l0_n1 _ _ _ _ _ _ _)) (fun z => by rcases z with z | z | z <;> first | exact Params_l0_k0 x z | exact Params_l0_k1 x z | exact Params_l0_k2 x z) q
def t_Params {β : Type} (c_RLookup : a_RLookup → Option g_RLookup) (c_DeclZR : a_DeclZR → Option g_DeclZR) (c_Decl : a_Decl → Option g_Decl) (l_Params_l0 : Params_l0_a → Option Params_l0_g) (x : a_Params) (dn : g_Params → Option β) : Option β :=
 (l_Params_l0 (.inl ())).bind fun z281 =>
  Sum.elim (fun z281a =>
  dn (.inl z281a)) (fun z281b =>
  Sum.elim (fun z281ba =>
  dn (.inl ((0 : Int)))) (fun z281bb =>
  dn (.inr z281bb)) z281b) z281
theorem n_Params {β : Type} (c_RLookup : a_RLookup → Option g_RLookup) (c_DeclZR : a_DeclZR → Option g_DeclZR) (c_Decl : a_Decl → Option g_Decl) (l_Params_l0 : Params_l0_a → Option Params_l0_g) (x : a_Params) (dn : g_Params → Option β) : t_Params c_RLookup c_DeclZR c_Decl l_Params_l0 x dn = (t_Params c_RLookup c_DeclZR c_Decl l_Params_l0 x some).bind dn := by
  unfold t_Params
  repeat' first | exact free_none | refine free_bind (fun z => ?_) | refine free_ite ?_ ?_ | refine free_sum (fun z => ?_) (fun z => ?_) | rfl
theorem r_Params (c_RLookup : a_RLookup → Option g_RLookup) (c_DeclZR : a_DeclZR → Option g_DeclZR) (c_Decl : a_Decl → Option g_Decl) (l_Params_l0 : Params_l0_a → Option Params_l0_g) (x : a_Params) : callK E5 (ftab 32 (fun _ _ => true) A_RLookup x_RLookup c_RLookup (ftab 33 (fun a _ => fstNil a) A_DeclZR x_DeclZR c_DeclZR (ftab 33 (fun _ _ => true) A_Decl x_Decl c_Decl ca0))) (ltabF 0 (fun _ => true) (bodyOf E5 18 0) (Params_l0_S x) (Params_l0_x x) l_Params_l0 lo0) 18 (A_Params x).1 (A_Params x).2 K = t_Params (fun x => viaF A_RLookup c_RLookup (A_RLookup x)) (fun x => viaF A_DeclZR c_DeclZR (A_DeclZR x)) (fun x => viaF A_Decl c_Decl (A_Decl x)) (fun y => viaF (fun y => (bodyOf E5 18 0, Params_l0_S x y)) l_Params_l0 (bodyOf E5 18 0, Params_l0_S x y)) x (fun z => some (.c (R_Params z))) := by kernel_rfl
theorem s_Params (c_RLookup : a_RLookup → Option g_RLookup) (h_RLookup : ∀ x z, c_RLookup x = some z → SC E5 32 (A_RLookup x).1 (A_RLookup x).2 (R_RLookup z)) (c_DeclZR : a_DeclZR → Option g_DeclZR) (h_DeclZR : ∀ x z, c_DeclZR x = some z → SC E5 33 (A_DeclZR x).1 (A_DeclZR x).2 (R_DeclZR z)) (c_Decl : a_Decl → Option g_Decl) (h_Decl : ∀ x z, c_Decl x = some z → SC E5 33 (A_Decl x).1 (A_Decl x).2 (R_Decl z)) (q : Nat) (x : a_Params) (z : g_Params) (h : t_Params c_RLookup c_DeclZR c_Decl (Params_l0 c_RLookup c_DeclZR c_Decl q x) x some = some z) : SC E5 18 (A_Params x).1 (A_Params x).2 (R_Params z) := by
  refine SC.of hW5 hX5 (ftab_cons h_RLookup xe_RLookup (ftab_cons h_DeclZR xe_DeclZR (ftab_cons h_Decl xe_Decl ca0_sound))) (ltabF_cons (Params_l0_s c_RLookup h_RLookup c_DeclZR h_DeclZR c_Decl h_Decl q x) (Params_l0_xe x) lo0_sound) ((r_Params c_RLookup c_DeclZR c_Decl (Params_l0 c_RLookup c_DeclZR c_Decl q x) x).trans ?_)
  rw [via_eq i_RLookup c_RLookup, via_eq i_DeclZR c_DeclZR, via_eq i_Decl c_Decl, via_eq (pair_inj (bodyOf E5 18 0) (Params_l0_i x)) (Params_l0 c_RLookup c_DeclZR c_Decl q x), n_Params, h]; rfl
noncomputable def Params (q : Nat) (x : a_Params) : Option g_Params := t_Params (RLookup q) (DeclZR q) (Decl q) (Params_l0 (RLookup q) (DeclZR q) (Decl q) q x) x some
theorem sc_Params (q : Nat) : ∀ (x : a_Params) (z : g_Params), Params q x = some z → SC E5 18 (A_Params x).1 (A_Params x).2 (R_Params z) := fun x z h => s_Params (RLookup q) (sc_RLookup q) (DeclZR q) (sc_DeclZR q) (Decl q) (sc_Decl q) q x z h
abbrev a_ParamsR : Type := Nat × (Nat → ByteArray) × (Nat → ByteArray)
abbrev g_ParamsR : Type := Nat × (Nat → ByteArray) × (Nat → Int) × (Nat → Int) × (Nat → Int) × (Nat → Int) × (Nat → Int) × Int
def A_ParamsR : a_ParamsR → List V × List (Option Chunk) := (fun x => (fun (pm : Nat) (pa : Nat → ByteArray) (pu : Nat → ByteArray) => (([.ro 2 pm (fun j => [st (pa j), st (pu j)])] : List V), ([] : List (Option Chunk)))) x.1 x.2.1 x.2.2)
def d_ParamsR (t : List V × List (Option Chunk)) : a_ParamsR := ((vRoN (t.1.getD 0 .junk)), (fun j => vS ((vRoF (t.1.getD 0 .junk) j).getD 0 .junk)), (fun j => vS ((vRoF (t.1.getD 0 .junk) j).getD 1 .junk)))
theorem i_ParamsR : ∀ x y, A_ParamsR x = A_ParamsR y → x = y := fun x y h => (congrArg d_ParamsR h :)
def R_ParamsR : g_ParamsR → CRes := (fun z => (fun (vn : Nat) (vs : Nat → ByteArray) (v0 : Nat → Int) (v1 : Nat → Int) (v2 : Nat → Int) (v3 : Nat → Int) (v4 : Nat → Int) (e : Int) => .ret (.tup [.ro 6 vn (fun j => [st (vs j), i64 (v0 j), i64 (v1 j), i64 (v2 j), i64 (v3 j), i64 (v4 j)]), i64 e]) []) z.1 z.2.1 z.2.2.1 z.2.2.2.1 z.2.2.2.2.1 z.2.2.2.2.2.1 z.2.2.2.2.2.2.1 z.2.2.2.2.2.2.2 : (Nat × (Nat → ByteArray) × (Nat → Int) × (Nat → Int) × (Nat → Int) × (Nat → Int) × (Nat → Int) × Int) → CRes)
def x_ParamsR (z : g_ParamsR) (k : CRes → Option Ans) : Option Ans := k (R_ParamsR z)
theorem xe_ParamsR : ∀ z k, x_ParamsR z k = k (R_ParamsR z) := fun z k => rfl
def cv_Params : g_Params → g_ParamsR := Sum.elim (fun e => (0, (fun _ => ByteArray.empty), (fun _ => 0), (fun _ => 0), (fun _ => 0), (fun _ => 0), (fun _ => 0), e)) (fun z => (z.1, z.2.1, z.2.2.1, z.2.2.2.1, z.2.2.2.2.1, z.2.2.2.2.2.1, z.2.2.2.2.2.2, 0))
noncomputable def ParamsR (q : Nat) (x : a_ParamsR) : Option g_ParamsR := (Params q x).map cv_Params
theorem sc_ParamsR (q : Nat) : ∀ (x : a_ParamsR) (z : g_ParamsR), ParamsR q x = some z → SC E5 18 (A_ParamsR x).1 (A_ParamsR x).2 (R_ParamsR z) := by
  intro x z h
  unfold ParamsR at h
  obtain ⟨z2, h2, rfl⟩ := Option.map_eq_some_iff.1 h
  have g := sc_Params q _ _ h2
  rcases z2 with z2 | z2
  · exact g.le (Le.tup2 Le.nil_ro)
  · exact g
abbrev a_Rcond : Type := Int × Int × ByteArray × Nat × (Nat → List V) × Nat × (Nat → ByteArray) × (Nat → Int) × (Nat → Int) × (Nat → Int) × (Nat → Int) × (Nat → Int)
abbrev g_Rcond : Type := Int
def A_Rcond : a_Rcond → List V × List (Option Chunk) := (fun x => (fun (nk : Int) (nn : Int) (ns : ByteArray) (nm : Nat) (nf : Nat → List V) (vn : Nat) (vs : Nat → ByteArray) (v0 : Nat → Int) (v1 : Nat → Int) (v2 : Nat → Int) (v3 : Nat → Int) (v4 : Nat → Int) => (([.agg [i64 nk, i64 nn, st ns, .ro 4 nm nf], .ro 6 vn (fun j => [st (vs j), i64 (v0 j), i64 (v1 j), i64 (v2 j), i64 (v3 j), i64 (v4 j)])] : List V), ([] : List (Option Chunk)))) x.1 x.2.1 x.2.2.1 x.2.2.2.1 x.2.2.2.2.1 x.2.2.2.2.2.1 x.2.2.2.2.2.2.1 x.2.2.2.2.2.2.2.1 x.2.2.2.2.2.2.2.2.1 x.2.2.2.2.2.2.2.2.2.1 x.2.2.2.2.2.2.2.2.2.2.1 x.2.2.2.2.2.2.2.2.2.2.2)
def d_Rcond (t : List V × List (Option Chunk)) : a_Rcond := ((vI ((vAg (t.1.getD 0 .junk)).getD 0 .junk)), (vI ((vAg (t.1.getD 0 .junk)).getD 1 .junk)), (vS ((vAg (t.1.getD 0 .junk)).getD 2 .junk)), (vRoN ((vAg (t.1.getD 0 .junk)).getD 3 .junk)), (vRoF ((vAg (t.1.getD 0 .junk)).getD 3 .junk)), (vRoN (t.1.getD 1 .junk)), (fun j => (vS (((vRoF (t.1.getD 1 .junk)) j).getD 0 .junk))), (fun j => (vI (((vRoF (t.1.getD 1 .junk)) j).getD 1 .junk))), (fun j => (vI (((vRoF (t.1.getD 1 .junk)) j).getD 2 .junk))), (fun j => (vI (((vRoF (t.1.getD 1 .junk)) j).getD 3 .junk))), (fun j => (vI (((vRoF (t.1.getD 1 .junk)) j).getD 4 .junk))), (fun j => (vI (((vRoF (t.1.getD 1 .junk)) j).getD 5 .junk))))
theorem i_Rcond : ∀ x y, A_Rcond x = A_Rcond y → x = y := fun x y h => (congrArg d_Rcond h :)
def R_Rcond : g_Rcond → CRes := (fun z => (fun (e : Int) => .ret (i64 e) []) z : (Int) → CRes)
def x_Rcond (z : g_Rcond) (k : CRes → Option Ans) : Option Ans := k (R_Rcond z)
theorem xe_Rcond : ∀ z k, x_Rcond z k = k (R_Rcond z) := fun z k => rfl
def t_Rcond {β : Type} (c_ROf : a_ROf → Option g_ROf) (x : a_Rcond) (dn : g_Rcond → Option β) : Option β :=
 (c_ROf x).bind fun z12 =>
  if (z12.2.2.2.2.2.2 == (0 : Int)) = true then
   if (!z12.1) = true then
    dn ((12 : Int))
   else
    dn (z12.2.2.2.2.2.2)
  else
   dn (z12.2.2.2.2.2.2)
theorem n_Rcond {β : Type} (c_ROf : a_ROf → Option g_ROf) (x : a_Rcond) (dn : g_Rcond → Option β) : t_Rcond c_ROf x dn = (t_Rcond c_ROf x some).bind dn := by
  unfold t_Rcond
  repeat' first | exact free_none | refine free_bind (fun z => ?_) | refine free_ite ?_ ?_ | refine free_sum (fun z => ?_) (fun z => ?_) | rfl
theorem r_Rcond (c_ROf : a_ROf → Option g_ROf) (x : a_Rcond) : callK E5 (ftab 51 (fun _ _ => true) A_ROf x_ROf c_ROf ca0) lo0 38 (A_Rcond x).1 (A_Rcond x).2 K = t_Rcond (fun x => viaF A_ROf c_ROf (A_ROf x)) x (fun z => some (.c (R_Rcond z))) := by kernel_rfl
theorem s_Rcond (c_ROf : a_ROf → Option g_ROf) (h_ROf : ∀ x z, c_ROf x = some z → SC E5 51 (A_ROf x).1 (A_ROf x).2 (R_ROf z)) (q : Nat) (x : a_Rcond) (z : g_Rcond) (h : t_Rcond c_ROf x some = some z) : SC E5 38 (A_Rcond x).1 (A_Rcond x).2 (R_Rcond z) := by
  refine SC.of hW5 hX5 (ftab_cons h_ROf xe_ROf ca0_sound) lo0_sound ((r_Rcond c_ROf x).trans ?_)
  rw [via_eq i_ROf c_ROf, n_Rcond, h]; rfl
noncomputable def Rcond (q : Nat) (x : a_Rcond) : Option g_Rcond := t_Rcond (ROf q) x some
theorem sc_Rcond (q : Nat) : ∀ (x : a_Rcond) (z : g_Rcond), Rcond q x = some z → SC E5 38 (A_Rcond x).1 (A_Rcond x).2 (R_Rcond z) := fun x z h => s_Rcond (ROf q) (sc_ROf q) q x z h
abbrev a_Rquant : Type := Int × Int × ByteArray × Nat × (Nat → List V) × Nat × (Nat → ByteArray) × (Nat → Int) × (Nat → Int) × (Nat → Int) × (Nat → Int) × (Nat → Int) × Int × Int × Int × Int × Int
abbrev g_Rquant : Type := Int
def A_Rquant : a_Rquant → List V × List (Option Chunk) := (fun x => (fun (nk : Int) (nn : Int) (ns : ByteArray) (nm : Nat) (nf : Nat → List V) (vn : Nat) (vs : Nat → ByteArray) (v0 : Nat → Int) (v1 : Nat → Int) (v2 : Nat → Int) (v3 : Nat → Int) (v4 : Nat → Int) (d0 : Int) (d1 : Int) (d2 : Int) (d3 : Int) (d4 : Int) => (([.agg [i64 nk, i64 nn, st ns, .ro 4 nm nf], .ro 6 vn (fun j => [st (vs j), i64 (v0 j), i64 (v1 j), i64 (v2 j), i64 (v3 j), i64 (v4 j)]), .agg [i64 d0, i64 d1, i64 d2, i64 d3, i64 d4]] : List V), ([] : List (Option Chunk)))) x.1 x.2.1 x.2.2.1 x.2.2.2.1 x.2.2.2.2.1 x.2.2.2.2.2.1 x.2.2.2.2.2.2.1 x.2.2.2.2.2.2.2.1 x.2.2.2.2.2.2.2.2.1 x.2.2.2.2.2.2.2.2.2.1 x.2.2.2.2.2.2.2.2.2.2.1 x.2.2.2.2.2.2.2.2.2.2.2.1 x.2.2.2.2.2.2.2.2.2.2.2.2.1 x.2.2.2.2.2.2.2.2.2.2.2.2.2.1 x.2.2.2.2.2.2.2.2.2.2.2.2.2.2.1 x.2.2.2.2.2.2.2.2.2.2.2.2.2.2.2.1 x.2.2.2.2.2.2.2.2.2.2.2.2.2.2.2.2)
def d_Rquant (t : List V × List (Option Chunk)) : a_Rquant := ((vI ((vAg (t.1.getD 0 .junk)).getD 0 .junk)), (vI ((vAg (t.1.getD 0 .junk)).getD 1 .junk)), (vS ((vAg (t.1.getD 0 .junk)).getD 2 .junk)), (vRoN ((vAg (t.1.getD 0 .junk)).getD 3 .junk)), (vRoF ((vAg (t.1.getD 0 .junk)).getD 3 .junk)), (vRoN (t.1.getD 1 .junk)), (fun j => (vS (((vRoF (t.1.getD 1 .junk)) j).getD 0 .junk))), (fun j => (vI (((vRoF (t.1.getD 1 .junk)) j).getD 1 .junk))), (fun j => (vI (((vRoF (t.1.getD 1 .junk)) j).getD 2 .junk))), (fun j => (vI (((vRoF (t.1.getD 1 .junk)) j).getD 3 .junk))), (fun j => (vI (((vRoF (t.1.getD 1 .junk)) j).getD 4 .junk))), (fun j => (vI (((vRoF (t.1.getD 1 .junk)) j).getD 5 .junk))), (vI ((vAg (t.1.getD 2 .junk)).getD 0 .junk)), (vI ((vAg (t.1.getD 2 .junk)).getD 1 .junk)), (vI ((vAg (t.1.getD 2 .junk)).getD 2 .junk)), (vI ((vAg (t.1.getD 2 .junk)).getD 3 .junk)), (vI ((vAg (t.1.getD 2 .junk)).getD 4 .junk)))
theorem i_Rquant : ∀ x y, A_Rquant x = A_Rquant y → x = y := fun x y h => (congrArg d_Rquant h :)
def R_Rquant : g_Rquant → CRes := (fun z => (fun (e : Int) => .ret (i64 e) []) z : (Int) → CRes)
def x_Rquant (z : g_Rquant) (k : CRes → Option Ans) : Option Ans := k (R_Rquant z)
theorem xe_Rquant : ∀ z k, x_Rquant z k = k (R_Rquant z) := fun z k => rfl
def t_Rquant {β : Type} (c_ROf : a_ROf → Option g_ROf) (x : a_Rquant) (dn : g_Rquant → Option β) : Option β :=
 (c_ROf ((x.1, x.2.1, x.2.2.1, x.2.2.2.1, x.2.2.2.2.1, x.2.2.2.2.2.1, x.2.2.2.2.2.2.1, x.2.2.2.2.2.2.2.1, x.2.2.2.2.2.2.2.2.1, x.2.2.2.2.2.2.2.2.2.1, x.2.2.2.2.2.2.2.2.2.2.1, x.2.2.2.2.2.2.2.2.2.2.2.1))).bind fun z12 =>
  if (z12.2.2.2.2.2.2 == (0 : Int)) = true then
   if z12.1 = true then
    dn ((12 : Int))
   else
    if (z12.2.2.2.2.2.2 == (0 : Int)) = true then
     if (if true = true then !(z12.2.1 == x.2.2.2.2.2.2.2.2.2.2.2.2.1 && (z12.2.2.1 == x.2.2.2.2.2.2.2.2.2.2.2.2.2.1 && (z12.2.2.2.1 == x.2.2.2.2.2.2.2.2.2.2.2.2.2.2.1 && (z12.2.2.2.2.1 == x.2.2.2.2.2.2.2.2.2.2.2.2.2.2.2.1 && (z12.2.2.2.2.2.1 == x.2.2.2.2.2.2.2.2.2.2.2.2.2.2.2.2 && true))))) else z12.2.1 == x.2.2.2.2.2.2.2.2.2.2.2.2.1 && (z12.2.2.1 == x.2.2.2.2.2.2.2.2.2.2.2.2.2.1 && (z12.2.2.2.1 == x.2.2.2.2.2.2.2.2.2.2.2.2.2.2.1 && (z12.2.2.2.2.1 == x.2.2.2.2.2.2.2.2.2.2.2.2.2.2.2.1 && (z12.2.2.2.2.2.1 == x.2.2.2.2.2.2.2.2.2.2.2.2.2.2.2.2 && true))))) = true then
      dn ((10 : Int))
     else
      dn (z12.2.2.2.2.2.2)
    else
     dn (z12.2.2.2.2.2.2)
  else
   if (z12.2.2.2.2.2.2 == (0 : Int)) = true then
    if (if true = true then !(z12.2.1 == x.2.2.2.2.2.2.2.2.2.2.2.2.1 && (z12.2.2.1 == x.2.2.2.2.2.2.2.2.2.2.2.2.2.1 && (z12.2.2.2.1 == x.2.2.2.2.2.2.2.2.2.2.2.2.2.2.1 && (z12.2.2.2.2.1 == x.2.2.2.2.2.2.2.2.2.2.2.2.2.2.2.1 && (z12.2.2.2.2.2.1 == x.2.2.2.2.2.2.2.2.2.2.2.2.2.2.2.2 && true))))) else z12.2.1 == x.2.2.2.2.2.2.2.2.2.2.2.2.1 && (z12.2.2.1 == x.2.2.2.2.2.2.2.2.2.2.2.2.2.1 && (z12.2.2.2.1 == x.2.2.2.2.2.2.2.2.2.2.2.2.2.2.1 && (z12.2.2.2.2.1 == x.2.2.2.2.2.2.2.2.2.2.2.2.2.2.2.1 && (z12.2.2.2.2.2.1 == x.2.2.2.2.2.2.2.2.2.2.2.2.2.2.2.2 && true))))) = true then
     dn ((10 : Int))
    else
     dn (z12.2.2.2.2.2.2)
   else
    dn (z12.2.2.2.2.2.2)
theorem n_Rquant {β : Type} (c_ROf : a_ROf → Option g_ROf) (x : a_Rquant) (dn : g_Rquant → Option β) : t_Rquant c_ROf x dn = (t_Rquant c_ROf x some).bind dn := by
  unfold t_Rquant
  repeat' first | exact free_none | refine free_bind (fun z => ?_) | refine free_ite ?_ ?_ | refine free_sum (fun z => ?_) (fun z => ?_) | rfl
theorem r_Rquant (c_ROf : a_ROf → Option g_ROf) (x : a_Rquant) : callK E5 (ftab 51 (fun _ _ => true) A_ROf x_ROf c_ROf ca0) lo0 39 (A_Rquant x).1 (A_Rquant x).2 K = t_Rquant (fun x => viaF A_ROf c_ROf (A_ROf x)) x (fun z => some (.c (R_Rquant z))) := by kernel_rfl
theorem s_Rquant (c_ROf : a_ROf → Option g_ROf) (h_ROf : ∀ x z, c_ROf x = some z → SC E5 51 (A_ROf x).1 (A_ROf x).2 (R_ROf z)) (q : Nat) (x : a_Rquant) (z : g_Rquant) (h : t_Rquant c_ROf x some = some z) : SC E5 39 (A_Rquant x).1 (A_Rquant x).2 (R_Rquant z) := by
  refine SC.of hW5 hX5 (ftab_cons h_ROf xe_ROf ca0_sound) lo0_sound ((r_Rquant c_ROf x).trans ?_)
  rw [via_eq i_ROf c_ROf, n_Rquant, h]; rfl
noncomputable def Rquant (q : Nat) (x : a_Rquant) : Option g_Rquant := t_Rquant (ROf q) x some
theorem sc_Rquant (q : Nat) : ∀ (x : a_Rquant) (z : g_Rquant), Rquant q x = some z → SC E5 39 (A_Rquant x).1 (A_Rquant x).2 (R_Rquant z) := fun x z h => s_Rquant (ROf q) (sc_ROf q) q x z h
abbrev a_Rvar : Type := Int × Int × ByteArray × Nat × (Nat → Int) × (Nat → Int) × (Nat → ByteArray) × (Nat → Nat) × (Nat → Nat → List V) × Nat × (Nat → ByteArray) × (Nat → Int) × (Nat → Int) × (Nat → Int) × (Nat → Int) × (Nat → Int)
abbrev g_Rvar : Type := Nat × (Nat → ByteArray) × (Nat → Int) × (Nat → Int) × (Nat → Int) × (Nat → Int) × (Nat → Int) × Int
def A_Rvar : a_Rvar → List V × List (Option Chunk) := (fun x => (fun (nk : Int) (nn : Int) (ns : ByteArray) (nm : Nat) (ek : Nat → Int) (en : Nat → Int) (es : Nat → ByteArray) (em : Nat → Nat) (ef : Nat → Nat → List V) (vn : Nat) (vs : Nat → ByteArray) (v0 : Nat → Int) (v1 : Nat → Int) (v2 : Nat → Int) (v3 : Nat → Int) (v4 : Nat → Int) => (([.agg [i64 nk, i64 nn, st ns, .ro 4 nm (fun j => [i64 (ek j), i64 (en j), st (es j), .ro 4 (em j) (ef j)])], .ro 6 vn (fun j => [st (vs j), i64 (v0 j), i64 (v1 j), i64 (v2 j), i64 (v3 j), i64 (v4 j)])] : List V), ([] : List (Option Chunk)))) x.1 x.2.1 x.2.2.1 x.2.2.2.1 x.2.2.2.2.1 x.2.2.2.2.2.1 x.2.2.2.2.2.2.1 x.2.2.2.2.2.2.2.1 x.2.2.2.2.2.2.2.2.1 x.2.2.2.2.2.2.2.2.2.1 x.2.2.2.2.2.2.2.2.2.2.1 x.2.2.2.2.2.2.2.2.2.2.2.1 x.2.2.2.2.2.2.2.2.2.2.2.2.1 x.2.2.2.2.2.2.2.2.2.2.2.2.2.1 x.2.2.2.2.2.2.2.2.2.2.2.2.2.2.1 x.2.2.2.2.2.2.2.2.2.2.2.2.2.2.2)
def d_Rvar (t : List V × List (Option Chunk)) : a_Rvar := ((vI ((vAg (t.1.getD 0 .junk)).getD 0 .junk)), (vI ((vAg (t.1.getD 0 .junk)).getD 1 .junk)), (vS ((vAg (t.1.getD 0 .junk)).getD 2 .junk)), (vRoN ((vAg (t.1.getD 0 .junk)).getD 3 .junk)), (fun j => (vI (((vRoF ((vAg (t.1.getD 0 .junk)).getD 3 .junk)) j).getD 0 .junk))), (fun j => (vI (((vRoF ((vAg (t.1.getD 0 .junk)).getD 3 .junk)) j).getD 1 .junk))), (fun j => (vS (((vRoF ((vAg (t.1.getD 0 .junk)).getD 3 .junk)) j).getD 2 .junk))), (fun j => (vRoN (((vRoF ((vAg (t.1.getD 0 .junk)).getD 3 .junk)) j).getD 3 .junk))), (fun j => (vRoF (((vRoF ((vAg (t.1.getD 0 .junk)).getD 3 .junk)) j).getD 3 .junk))), (vRoN (t.1.getD 1 .junk)), (fun j => (vS (((vRoF (t.1.getD 1 .junk)) j).getD 0 .junk))), (fun j => (vI (((vRoF (t.1.getD 1 .junk)) j).getD 1 .junk))), (fun j => (vI (((vRoF (t.1.getD 1 .junk)) j).getD 2 .junk))), (fun j => (vI (((vRoF (t.1.getD 1 .junk)) j).getD 3 .junk))), (fun j => (vI (((vRoF (t.1.getD 1 .junk)) j).getD 4 .junk))), (fun j => (vI (((vRoF (t.1.getD 1 .junk)) j).getD 5 .junk))))
theorem i_Rvar : ∀ x y, A_Rvar x = A_Rvar y → x = y := fun x y h => (congrArg d_Rvar h :)
def R_Rvar : g_Rvar → CRes := (fun z => (fun (vn : Nat) (vs : Nat → ByteArray) (v0 : Nat → Int) (v1 : Nat → Int) (v2 : Nat → Int) (v3 : Nat → Int) (v4 : Nat → Int) (e : Int) => .ret (.tup [.ro 6 vn (fun j => [st (vs j), i64 (v0 j), i64 (v1 j), i64 (v2 j), i64 (v3 j), i64 (v4 j)]), i64 e]) []) z.1 z.2.1 z.2.2.1 z.2.2.2.1 z.2.2.2.2.1 z.2.2.2.2.2.1 z.2.2.2.2.2.2.1 z.2.2.2.2.2.2.2 : (Nat × (Nat → ByteArray) × (Nat → Int) × (Nat → Int) × (Nat → Int) × (Nat → Int) × (Nat → Int) × Int) → CRes)
def x_Rvar (z : g_Rvar) (k : CRes → Option Ans) : Option Ans := k (R_Rvar z)
theorem xe_Rvar : ∀ z k, x_Rvar z k = k (R_Rvar z) := fun z k => rfl
def t_Rvar {β : Type} (c_ROf : a_ROf → Option g_ROf) (c_Find : a_Find → Option g_Find) (c_Decl : a_Decl → Option g_Decl) (x : a_Rvar) (dn : g_Rvar → Option β) : Option β :=
 if (0 : Int) ≤ (0 : Int) ∧ (0 : Int) < ((x.2.2.2.1 : Nat) : Int) then
  (c_ROf ((x.2.2.2.2.1 0, x.2.2.2.2.2.1 0, x.2.2.2.2.2.2.1 0, x.2.2.2.2.2.2.2.1 0, x.2.2.2.2.2.2.2.2.1 0, x.2.2.2.2.2.2.2.2.2))).bind fun z12 =>
   (c_Find ((x.2.2.2.2.2.2.2.2.2.1, x.2.2.2.2.2.2.2.2.2.2.1, x.2.2.2.2.2.2.2.2.2.2.2.1, x.2.2.2.2.2.2.2.2.2.2.2.2.1, x.2.2.2.2.2.2.2.2.2.2.2.2.2.1, x.2.2.2.2.2.2.2.2.2.2.2.2.2.2.1, x.2.2.2.2.2.2.2.2.2.2.2.2.2.2.2, x.2.2.1))).bind fun z21 =>
    if (z12.2.2.2.2.2.2 != (0 : Int)) = true then
     dn ((x.2.2.2.2.2.2.2.2.2.1, x.2.2.2.2.2.2.2.2.2.2.1, x.2.2.2.2.2.2.2.2.2.2.2.1, x.2.2.2.2.2.2.2.2.2.2.2.2.1, x.2.2.2.2.2.2.2.2.2.2.2.2.2.1, x.2.2.2.2.2.2.2.2.2.2.2.2.2.2.1, x.2.2.2.2.2.2.2.2.2.2.2.2.2.2.2, z12.2.2.2.2.2.2))
    else
     if (x.1 == (2 : Int)) = true then
      if decide (z21 < (0 : Int)) = true then
       dn ((x.2.2.2.2.2.2.2.2.2.1, x.2.2.2.2.2.2.2.2.2.2.1, x.2.2.2.2.2.2.2.2.2.2.2.1, x.2.2.2.2.2.2.2.2.2.2.2.2.1, x.2.2.2.2.2.2.2.2.2.2.2.2.2.1, x.2.2.2.2.2.2.2.2.2.2.2.2.2.2.1, x.2.2.2.2.2.2.2.2.2.2.2.2.2.2.2, (3 : Int)))
      else
       if z12.1 = true then
        dn ((x.2.2.2.2.2.2.2.2.2.1, x.2.2.2.2.2.2.2.2.2.2.1, x.2.2.2.2.2.2.2.2.2.2.2.1, x.2.2.2.2.2.2.2.2.2.2.2.2.1, x.2.2.2.2.2.2.2.2.2.2.2.2.2.1, x.2.2.2.2.2.2.2.2.2.2.2.2.2.2.1, x.2.2.2.2.2.2.2.2.2.2.2.2.2.2.2, (12 : Int)))
       else
        if (x.1 == (2 : Int)) = true then
         if (0 : Int) ≤ z21 ∧ z21 < ((x.2.2.2.2.2.2.2.2.2.1 : Nat) : Int) then
          if (if true = true then !(x.2.2.2.2.2.2.2.2.2.2.2.1 (Int.toNat z21) == z12.2.1 && (x.2.2.2.2.2.2.2.2.2.2.2.2.1 (Int.toNat z21) == z12.2.2.1 && (x.2.2.2.2.2.2.2.2.2.2.2.2.2.1 (Int.toNat z21) == z12.2.2.2.1 && (x.2.2.2.2.2.2.2.2.2.2.2.2.2.2.1 (Int.toNat z21) == z12.2.2.2.2.1 && (x.2.2.2.2.2.2.2.2.2.2.2.2.2.2.2 (Int.toNat z21) == z12.2.2.2.2.2.1 && true))))) else x.2.2.2.2.2.2.2.2.2.2.2.1 (Int.toNat z21) == z12.2.1 && (x.2.2.2.2.2.2.2.2.2.2.2.2.1 (Int.toNat z21) == z12.2.2.1 && (x.2.2.2.2.2.2.2.2.2.2.2.2.2.1 (Int.toNat z21) == z12.2.2.2.1 && (x.2.2.2.2.2.2.2.2.2.2.2.2.2.2.1 (Int.toNat z21) == z12.2.2.2.2.1 && (x.2.2.2.2.2.2.2.2.2.2.2.2.2.2.2 (Int.toNat z21) == z12.2.2.2.2.2.1 && true))))) = true then
           dn ((x.2.2.2.2.2.2.2.2.2.1, x.2.2.2.2.2.2.2.2.2.2.1, x.2.2.2.2.2.2.2.2.2.2.2.1, x.2.2.2.2.2.2.2.2.2.2.2.2.1, x.2.2.2.2.2.2.2.2.2.2.2.2.2.1, x.2.2.2.2.2.2.2.2.2.2.2.2.2.2.1, x.2.2.2.2.2.2.2.2.2.2.2.2.2.2.2, (10 : Int)))
          else
           dn ((x.2.2.2.2.2.2.2.2.2.1, x.2.2.2.2.2.2.2.2.2.2.1, x.2.2.2.2.2.2.2.2.2.2.2.1, x.2.2.2.2.2.2.2.2.2.2.2.2.1, x.2.2.2.2.2.2.2.2.2.2.2.2.2.1, x.2.2.2.2.2.2.2.2.2.2.2.2.2.2.1, x.2.2.2.2.2.2.2.2.2.2.2.2.2.2.2, (0 : Int)))
         else
          none
        else
         (c_Decl ((x.2.2.2.2.2.2.2.2.2.1, x.2.2.2.2.2.2.2.2.2.2.1, x.2.2.2.2.2.2.2.2.2.2.2.1, x.2.2.2.2.2.2.2.2.2.2.2.2.1, x.2.2.2.2.2.2.2.2.2.2.2.2.2.1, x.2.2.2.2.2.2.2.2.2.2.2.2.2.2.1, x.2.2.2.2.2.2.2.2.2.2.2.2.2.2.2, x.2.2.1, z12.2.1, z12.2.2.1, z12.2.2.2.1, z12.2.2.2.2.1, z12.2.2.2.2.2.1))).bind fun z35 =>
          dn z35
     else
      if z12.1 = true then
       dn ((x.2.2.2.2.2.2.2.2.2.1, x.2.2.2.2.2.2.2.2.2.2.1, x.2.2.2.2.2.2.2.2.2.2.2.1, x.2.2.2.2.2.2.2.2.2.2.2.2.1, x.2.2.2.2.2.2.2.2.2.2.2.2.2.1, x.2.2.2.2.2.2.2.2.2.2.2.2.2.2.1, x.2.2.2.2.2.2.2.2.2.2.2.2.2.2.2, (12 : Int)))
      else
       if (x.1 == (2 : Int)) = true then
        if (0 : Int) ≤ z21 ∧ z21 < ((x.2.2.2.2.2.2.2.2.2.1 : Nat) : Int) then
         if (if true = true then !(x.2.2.2.2.2.2.2.2.2.2.2.1 (Int.toNat z21) == z12.2.1 && (x.2.2.2.2.2.2.2.2.2.2.2.2.1 (Int.toNat z21) == z12.2.2.1 && (x.2.2.2.2.2.2.2.2.2.2.2.2.2.1 (Int.toNat z21) == z12.2.2.2.1 && (x.2.2.2.2.2.2.2.2.2.2.2.2.2.2.1 (Int.toNat z21) == z12.2.2.2.2.1 && (x.2.2.2.2.2.2.2.2.2.2.2.2.2.2.2 (Int.toNat z21) == z12.2.2.2.2.2.1 && true))))) else x.2.2.2.2.2.2.2.2.2.2.2.1 (Int.toNat z21) == z12.2.1 && (x.2.2.2.2.2.2.2.2.2.2.2.2.1 (Int.toNat z21) == z12.2.2.1 && (x.2.2.2.2.2.2.2.2.2.2.2.2.2.1 (Int.toNat z21) == z12.2.2.2.1 && (x.2.2.2.2.2.2.2.2.2.2.2.2.2.2.1 (Int.toNat z21) == z12.2.2.2.2.1 && (x.2.2.2.2.2.2.2.2.2.2.2.2.2.2.2 (Int.toNat z21) == z12.2.2.2.2.2.1 && true))))) = true then
          dn ((x.2.2.2.2.2.2.2.2.2.1, x.2.2.2.2.2.2.2.2.2.2.1, x.2.2.2.2.2.2.2.2.2.2.2.1, x.2.2.2.2.2.2.2.2.2.2.2.2.1, x.2.2.2.2.2.2.2.2.2.2.2.2.2.1, x.2.2.2.2.2.2.2.2.2.2.2.2.2.2.1, x.2.2.2.2.2.2.2.2.2.2.2.2.2.2.2, (10 : Int)))
         else
          dn ((x.2.2.2.2.2.2.2.2.2.1, x.2.2.2.2.2.2.2.2.2.2.1, x.2.2.2.2.2.2.2.2.2.2.2.1, x.2.2.2.2.2.2.2.2.2.2.2.2.1, x.2.2.2.2.2.2.2.2.2.2.2.2.2.1, x.2.2.2.2.2.2.2.2.2.2.2.2.2.2.1, x.2.2.2.2.2.2.2.2.2.2.2.2.2.2.2, (0 : Int)))
        else
         none
       else
        (c_Decl ((x.2.2.2.2.2.2.2.2.2.1, x.2.2.2.2.2.2.2.2.2.2.1, x.2.2.2.2.2.2.2.2.2.2.2.1, x.2.2.2.2.2.2.2.2.2.2.2.2.1, x.2.2.2.2.2.2.2.2.2.2.2.2.2.1, x.2.2.2.2.2.2.2.2.2.2.2.2.2.2.1, x.2.2.2.2.2.2.2.2.2.2.2.2.2.2.2, x.2.2.1, z12.2.1, z12.2.2.1, z12.2.2.2.1, z12.2.2.2.2.1, z12.2.2.2.2.2.1))).bind fun z49 =>
         dn z49
 else
  none
theorem n_Rvar {β : Type} (c_ROf : a_ROf → Option g_ROf) (c_Find : a_Find → Option g_Find) (c_Decl : a_Decl → Option g_Decl) (x : a_Rvar) (dn : g_Rvar → Option β) : t_Rvar c_ROf c_Find c_Decl x dn = (t_Rvar c_ROf c_Find c_Decl x some).bind dn := by
  unfold t_Rvar
  repeat' first | exact free_none | refine free_bind (fun z => ?_) | refine free_ite ?_ ?_ | refine free_sum (fun z => ?_) (fun z => ?_) | rfl
theorem r_Rvar (c_ROf : a_ROf → Option g_ROf) (c_Find : a_Find → Option g_Find) (c_Decl : a_Decl → Option g_Decl) (x : a_Rvar) : callK E5 (ftab 51 (fun _ _ => true) A_ROf x_ROf c_ROf (ftab 49 (fun _ _ => true) A_Find x_Find c_Find (ftab 33 (fun _ _ => true) A_Decl x_Decl c_Decl ca0))) lo0 37 (A_Rvar x).1 (A_Rvar x).2 K = t_Rvar (fun x => viaF A_ROf c_ROf (A_ROf x)) (fun x => viaF A_Find c_Find (A_Find x)) (fun x => viaF A_Decl c_Decl (A_Decl x)) x (fun z => some (.c (R_Rvar z))) := by kernel_rfl
theorem s_Rvar (c_ROf : a_ROf → Option g_ROf) (h_ROf : ∀ x z, c_ROf x = some z → SC E5 51 (A_ROf x).1 (A_ROf x).2 (R_ROf z)) (c_Find : a_Find → Option g_Find) (h_Find : ∀ x z, c_Find x = some z → SC E5 49 (A_Find x).1 (A_Find x).2 (R_Find z)) (c_Decl : a_Decl → Option g_Decl) (h_Decl : ∀ x z, c_Decl x = some z → SC E5 33 (A_Decl x).1 (A_Decl x).2 (R_Decl z)) (q : Nat) (x : a_Rvar) (z : g_Rvar) (h : t_Rvar c_ROf c_Find c_Decl x some = some z) : SC E5 37 (A_Rvar x).1 (A_Rvar x).2 (R_Rvar z) := by
  refine SC.of hW5 hX5 (ftab_cons h_ROf xe_ROf (ftab_cons h_Find xe_Find (ftab_cons h_Decl xe_Decl ca0_sound))) lo0_sound ((r_Rvar c_ROf c_Find c_Decl x).trans ?_)
  rw [via_eq i_ROf c_ROf, via_eq i_Find c_Find, via_eq i_Decl c_Decl, n_Rvar, h]; rfl
noncomputable def Rvar (q : Nat) (x : a_Rvar) : Option g_Rvar := t_Rvar (ROf q) (Find q) (Decl q) x some
theorem sc_Rvar (q : Nat) : ∀ (x : a_Rvar) (z : g_Rvar), Rvar q x = some z → SC E5 37 (A_Rvar x).1 (A_Rvar x).2 (R_Rvar z) := fun x z h => s_Rvar (ROf q) (sc_ROf q) (Find q) (sc_Find q) (Decl q) (sc_Decl q) q x z h
abbrev a_Rstated : Type := Int × Int × ByteArray × Nat × (Nat → Int) × (Nat → Int) × (Nat → ByteArray) × (Nat → Nat) × (Nat → Nat → List V)
abbrev g_Rstated : Type := Bool
def A_Rstated : a_Rstated → List V × List (Option Chunk) := (fun x => (fun (nk : Int) (nn : Int) (ns : ByteArray) (nm : Nat) (ek : Nat → Int) (en : Nat → Int) (es : Nat → ByteArray) (em : Nat → Nat) (ef : Nat → Nat → List V) => (([.agg [i64 nk, i64 nn, st ns, .ro 4 nm (fun j => [i64 (ek j), i64 (en j), st (es j), .ro 4 (em j) (ef j)])]] : List V), ([] : List (Option Chunk)))) x.1 x.2.1 x.2.2.1 x.2.2.2.1 x.2.2.2.2.1 x.2.2.2.2.2.1 x.2.2.2.2.2.2.1 x.2.2.2.2.2.2.2.1 x.2.2.2.2.2.2.2.2)
def d_Rstated (t : List V × List (Option Chunk)) : a_Rstated := ((vI ((vAg (t.1.getD 0 .junk)).getD 0 .junk)), (vI ((vAg (t.1.getD 0 .junk)).getD 1 .junk)), (vS ((vAg (t.1.getD 0 .junk)).getD 2 .junk)), (vRoN ((vAg (t.1.getD 0 .junk)).getD 3 .junk)), (fun j => (vI (((vRoF ((vAg (t.1.getD 0 .junk)).getD 3 .junk)) j).getD 0 .junk))), (fun j => (vI (((vRoF ((vAg (t.1.getD 0 .junk)).getD 3 .junk)) j).getD 1 .junk))), (fun j => (vS (((vRoF ((vAg (t.1.getD 0 .junk)).getD 3 .junk)) j).getD 2 .junk))), (fun j => (vRoN (((vRoF ((vAg (t.1.getD 0 .junk)).getD 3 .junk)) j).getD 3 .junk))), (fun j => (vRoF (((vRoF ((vAg (t.1.getD 0 .junk)).getD 3 .junk)) j).getD 3 .junk))))
theorem i_Rstated : ∀ x y, A_Rstated x = A_Rstated y → x = y := fun x y h => (congrArg d_Rstated h :)
def R_Rstated : g_Rstated → CRes := (fun z => (fun (b : Bool) => .ret (bo b) []) z : (Bool) → CRes)
def x_Rstated (z : g_Rstated) (k : CRes → Option Ans) : Option Ans := k (R_Rstated z)
theorem xe_Rstated : ∀ z k, x_Rstated z k = k (R_Rstated z) := fun z k => rfl
def t_Rstated {β : Type} (x : a_Rstated) (dn : g_Rstated → Option β) : Option β :=
 if (x.1 == (14 : Int)) = true then
  dn true
 else
  if (x.1 == (1 : Int)) = true then
   dn (((x.2.2.2.1 : Nat) : Int) == (1 : Int))
  else
   if (x.1 == (2 : Int)) = true then
    dn (((x.2.2.2.1 : Nat) : Int) == (1 : Int))
   else
    if (x.1 == (7 : Int)) = true then
     dn (((x.2.2.2.1 : Nat) : Int) == (1 : Int))
    else
     if (x.1 == (8 : Int)) = true then
      dn (((x.2.2.2.1 : Nat) : Int) == (1 : Int))
     else
      if (x.1 == (5 : Int)) = true then
       if (((x.2.2.2.1 : Nat) : Int) == (1 : Int)) = true then
        if (0 : Int) ≤ (0 : Int) ∧ (0 : Int) < ((x.2.2.2.1 : Nat) : Int) then
         dn (x.2.2.2.2.1 0 == (15 : Int))
        else
         none
       else
        dn false
      else
       if (x.1 == (11 : Int)) = true then
        if (((x.2.2.2.1 : Nat) : Int) == (1 : Int)) = true then
         if (0 : Int) ≤ (0 : Int) ∧ (0 : Int) < ((x.2.2.2.1 : Nat) : Int) then
          dn (x.2.2.2.2.1 0 == (15 : Int))
         else
          none
        else
         dn false
       else
        if (x.1 == (9 : Int)) = true then
         if (((x.2.2.2.1 : Nat) : Int) == (1 : Int)) = true then
          if (0 : Int) ≤ (0 : Int) ∧ (0 : Int) < ((x.2.2.2.1 : Nat) : Int) then
           dn (x.2.2.2.2.1 0 == (15 : Int))
          else
           none
         else
          dn false
        else
         if (x.1 == (10 : Int)) = true then
          if (((x.2.2.2.1 : Nat) : Int) == (1 : Int)) = true then
           if (0 : Int) ≤ (0 : Int) ∧ (0 : Int) < ((x.2.2.2.1 : Nat) : Int) then
            dn (x.2.2.2.2.1 0 == (15 : Int))
           else
            none
          else
           dn false
         else
          if (x.1 == (6 : Int)) = true then
           if (((x.2.2.2.1 : Nat) : Int) == (2 : Int)) = true then
            if (0 : Int) ≤ (1 : Int) ∧ (1 : Int) < ((x.2.2.2.1 : Nat) : Int) then
             dn (x.2.2.2.2.1 1 == (15 : Int))
            else
             none
           else
            dn false
          else
           if (x.1 == (3 : Int)) = true then
            if (((x.2.2.2.1 : Nat) : Int) == (3 : Int)) = true then
             if (0 : Int) ≤ (1 : Int) ∧ (1 : Int) < ((x.2.2.2.1 : Nat) : Int) then
              if (x.2.2.2.2.1 1 == (14 : Int)) = true then
               if (0 : Int) ≤ (2 : Int) ∧ (2 : Int) < ((x.2.2.2.1 : Nat) : Int) then
                dn (x.2.2.2.2.1 2 == (14 : Int))
               else
                none
              else
               dn false
             else
              none
            else
             dn false
           else
            if (x.1 == (4 : Int)) = true then
             if (((x.2.2.2.1 : Nat) : Int) == (1 : Int)) = true then
              if (0 : Int) ≤ (0 : Int) ∧ (0 : Int) < ((x.2.2.2.1 : Nat) : Int) then
               dn (x.2.2.2.2.1 0 == (14 : Int))
              else
               none
             else
              dn false
            else
             if (x.1 == (12 : Int)) = true then
              dn (((x.2.2.2.1 : Nat) : Int) == (0 : Int))
             else
              if (x.1 == (13 : Int)) = true then
               dn (((x.2.2.2.1 : Nat) : Int) == (0 : Int))
              else
               dn false
theorem n_Rstated {β : Type} (x : a_Rstated) (dn : g_Rstated → Option β) : t_Rstated x dn = (t_Rstated x some).bind dn := by
  unfold t_Rstated
  repeat' first | exact free_none | refine free_bind (fun z => ?_) | refine free_ite ?_ ?_ | refine free_sum (fun z => ?_) (fun z => ?_) | rfl
theorem r_Rstated (x : a_Rstated) : callK E5 (callG E5 20) lo0 34 (A_Rstated x).1 (A_Rstated x).2 K = t_Rstated x (fun z => some (.c (R_Rstated z))) := by kernel_rfl
theorem s_Rstated (q : Nat) (x : a_Rstated) (z : g_Rstated) (h : t_Rstated x some = some z) : SC E5 34 (A_Rstated x).1 (A_Rstated x).2 (R_Rstated z) := by
  refine SC.of hW5 hX5 (sound_G hW5 hX5 20).1 lo0_sound ((r_Rstated x).trans ?_)
  rw [n_Rstated, h]; rfl
noncomputable def Rstated (q : Nat) (x : a_Rstated) : Option g_Rstated := t_Rstated x some
theorem sc_Rstated (q : Nat) : ∀ (x : a_Rstated) (z : g_Rstated), Rstated q x = some z → SC E5 34 (A_Rstated x).1 (A_Rstated x).2 (R_Rstated z) := fun x z h => s_Rstated q x z h
abbrev a_Rranged : Type := Int × Int × ByteArray × Nat × (Nat → List V)
abbrev g_Rranged : Type := Bool
def A_Rranged : a_Rranged → List V × List (Option Chunk) := (fun x => (fun (nk : Int) (nn : Int) (ns : ByteArray) (nm : Nat) (nf : Nat → List V) => (([.agg [i64 nk, i64 nn, st ns, .ro 4 nm nf]] : List V), ([] : List (Option Chunk)))) x.1 x.2.1 x.2.2.1 x.2.2.2.1 x.2.2.2.2)
def d_Rranged (t : List V × List (Option Chunk)) : a_Rranged := ((vI ((vAg (t.1.getD 0 .junk)).getD 0 .junk)), (vI ((vAg (t.1.getD 0 .junk)).getD 1 .junk)), (vS ((vAg (t.1.getD 0 .junk)).getD 2 .junk)), (vRoN ((vAg (t.1.getD 0 .junk)).getD 3 .junk)), (vRoF ((vAg (t.1.getD 0 .junk)).getD 3 .junk)))
theorem i_Rranged : ∀ x y, A_Rranged x = A_Rranged y → x = y := fun x y h => (congrArg d_Rranged h :)
def R_Rranged : g_Rranged → CRes := (fun z => (fun (b : Bool) => .ret (bo b) []) z : (Bool) → CRes)
def x_Rranged (z : g_Rranged) (k : CRes → Option Ans) : Option Ans := k (R_Rranged z)
theorem xe_Rranged : ∀ z k, x_Rranged z k = k (R_Rranged z) := fun z k => rfl
def t_Rranged {β : Type} (x : a_Rranged) (dn : g_Rranged → Option β) : Option β :=
 if (x.1 == (4 : Int)) = true then
  if decide (x.2.1 ≥ (1 : Int)) = true then
   dn (decide (x.2.1 ≤ (100 : Int)))
  else
   dn false
 else
  if (x.1 == (9 : Int)) = true then
   if decide (x.2.1 ≥ (0 : Int)) = true then
    dn (decide (x.2.1 ≤ (7 : Int)))
   else
    dn false
  else
   if (x.1 == (10 : Int)) = true then
    if decide (x.2.1 ≥ (0 : Int)) = true then
     dn (decide (x.2.1 ≤ (7 : Int)))
    else
     dn false
   else
    if (x.1 == (12 : Int)) = true then
     if decide (x.2.1 ≥ (0 : Int)) = true then
      dn (decide (x.2.1 ≤ (99 : Int)))
     else
      dn false
    else
     if (x.1 == (13 : Int)) = true then
      if decide (x.2.1 ≥ (0 : Int)) = true then
       dn (decide (x.2.1 ≤ (999 : Int)))
      else
       dn false
     else
      dn true
theorem n_Rranged {β : Type} (x : a_Rranged) (dn : g_Rranged → Option β) : t_Rranged x dn = (t_Rranged x some).bind dn := by
  unfold t_Rranged
  repeat' first | exact free_none | refine free_bind (fun z => ?_) | refine free_ite ?_ ?_ | refine free_sum (fun z => ?_) (fun z => ?_) | rfl
theorem r_Rranged (x : a_Rranged) : callK E5 ca0 lo0 35 (A_Rranged x).1 (A_Rranged x).2 K = t_Rranged x (fun z => some (.c (R_Rranged z))) := by kernel_rfl
theorem s_Rranged (q : Nat) (x : a_Rranged) (z : g_Rranged) (h : t_Rranged x some = some z) : SC E5 35 (A_Rranged x).1 (A_Rranged x).2 (R_Rranged z) := by
  refine SC.of hW5 hX5 ca0_sound lo0_sound ((r_Rranged x).trans ?_)
  rw [n_Rranged, h]; rfl
noncomputable def Rranged (q : Nat) (x : a_Rranged) : Option g_Rranged := t_Rranged x some
theorem sc_Rranged (q : Nat) : ∀ (x : a_Rranged) (z : g_Rranged), Rranged q x = some z → SC E5 35 (A_Rranged x).1 (A_Rranged x).2 (R_Rranged z) := fun x z h => s_Rranged q x z h
abbrev a_Rstmt : Type := Int × Int × ByteArray × Nat × (Nat → List V) × Nat × (Nat → ByteArray) × (Nat → Int) × (Nat → Int) × (Nat → Int) × (Nat → Int) × (Nat → Int)
abbrev g_Rstmt : Type := Nat × (Nat → ByteArray) × (Nat → Int) × (Nat → Int) × (Nat → Int) × (Nat → Int) × (Nat → Int) × Int
def A_Rstmt : a_Rstmt → List V × List (Option Chunk) := (fun x => (fun (nk : Int) (nn : Int) (ns : ByteArray) (nm : Nat) (nf : Nat → List V) (vn : Nat) (vs : Nat → ByteArray) (v0 : Nat → Int) (v1 : Nat → Int) (v2 : Nat → Int) (v3 : Nat → Int) (v4 : Nat → Int) => (([.agg [i64 nk, i64 nn, st ns, .ro 4 nm nf], .ro 6 vn (fun j => [st (vs j), i64 (v0 j), i64 (v1 j), i64 (v2 j), i64 (v3 j), i64 (v4 j)])] : List V), ([] : List (Option Chunk)))) x.1 x.2.1 x.2.2.1 x.2.2.2.1 x.2.2.2.2.1 x.2.2.2.2.2.1 x.2.2.2.2.2.2.1 x.2.2.2.2.2.2.2.1 x.2.2.2.2.2.2.2.2.1 x.2.2.2.2.2.2.2.2.2.1 x.2.2.2.2.2.2.2.2.2.2.1 x.2.2.2.2.2.2.2.2.2.2.2)
def d_Rstmt (t : List V × List (Option Chunk)) : a_Rstmt := ((vI ((vAg (t.1.getD 0 .junk)).getD 0 .junk)), (vI ((vAg (t.1.getD 0 .junk)).getD 1 .junk)), (vS ((vAg (t.1.getD 0 .junk)).getD 2 .junk)), (vRoN ((vAg (t.1.getD 0 .junk)).getD 3 .junk)), (vRoF ((vAg (t.1.getD 0 .junk)).getD 3 .junk)), (vRoN (t.1.getD 1 .junk)), (fun j => vS ((vRoF (t.1.getD 1 .junk) j).getD 0 .junk)), (fun j => vI ((vRoF (t.1.getD 1 .junk) j).getD 1 .junk)), (fun j => vI ((vRoF (t.1.getD 1 .junk) j).getD 2 .junk)), (fun j => vI ((vRoF (t.1.getD 1 .junk) j).getD 3 .junk)), (fun j => vI ((vRoF (t.1.getD 1 .junk) j).getD 4 .junk)), (fun j => vI ((vRoF (t.1.getD 1 .junk) j).getD 5 .junk)))
theorem i_Rstmt : ∀ x y, A_Rstmt x = A_Rstmt y → x = y := fun x y h => (congrArg d_Rstmt h :)
def R_Rstmt : g_Rstmt → CRes := (fun z => (fun (vn : Nat) (vs : Nat → ByteArray) (v0 : Nat → Int) (v1 : Nat → Int) (v2 : Nat → Int) (v3 : Nat → Int) (v4 : Nat → Int) (e : Int) => .ret (.tup [.ro 6 vn (fun j => [st (vs j), i64 (v0 j), i64 (v1 j), i64 (v2 j), i64 (v3 j), i64 (v4 j)]), i64 e]) []) z.1 z.2.1 z.2.2.1 z.2.2.2.1 z.2.2.2.2.1 z.2.2.2.2.2.1 z.2.2.2.2.2.2.1 z.2.2.2.2.2.2.2 : (Nat × (Nat → ByteArray) × (Nat → Int) × (Nat → Int) × (Nat → Int) × (Nat → Int) × (Nat → Int) × Int) → CRes)
def x_Rstmt (z : g_Rstmt) (k : CRes → Option Ans) : Option Ans := k (R_Rstmt z)
theorem xe_Rstmt : ∀ z k, x_Rstmt z k = k (R_Rstmt z) := fun z k => rfl
abbrev a_Rblk : Type := Int × Int × ByteArray × Nat × (Nat → List V) × Int × Nat × (Nat → ByteArray) × (Nat → Int) × (Nat → Int) × (Nat → Int) × (Nat → Int) × (Nat → Int)
abbrev g_Rblk : Type := Nat × (Nat → ByteArray) × (Nat → Int) × (Nat → Int) × (Nat → Int) × (Nat → Int) × (Nat → Int) × Int
def A_Rblk : a_Rblk → List V × List (Option Chunk) := (fun x => (fun (nk : Int) (nn : Int) (ns : ByteArray) (nm : Nat) (nf : Nat → List V) (ff : Int) (vn : Nat) (vs : Nat → ByteArray) (v0 : Nat → Int) (v1 : Nat → Int) (v2 : Nat → Int) (v3 : Nat → Int) (v4 : Nat → Int) => (([.agg [i64 nk, i64 nn, st ns, .ro 4 nm nf], i64 ff, .ro 6 vn (fun j => [st (vs j), i64 (v0 j), i64 (v1 j), i64 (v2 j), i64 (v3 j), i64 (v4 j)])] : List V), ([] : List (Option Chunk)))) x.1 x.2.1 x.2.2.1 x.2.2.2.1 x.2.2.2.2.1 x.2.2.2.2.2.1 x.2.2.2.2.2.2.1 x.2.2.2.2.2.2.2.1 x.2.2.2.2.2.2.2.2.1 x.2.2.2.2.2.2.2.2.2.1 x.2.2.2.2.2.2.2.2.2.2.1 x.2.2.2.2.2.2.2.2.2.2.2.1 x.2.2.2.2.2.2.2.2.2.2.2.2)
def d_Rblk (t : List V × List (Option Chunk)) : a_Rblk := ((vI ((vAg (t.1.getD 0 .junk)).getD 0 .junk)), (vI ((vAg (t.1.getD 0 .junk)).getD 1 .junk)), (vS ((vAg (t.1.getD 0 .junk)).getD 2 .junk)), (vRoN ((vAg (t.1.getD 0 .junk)).getD 3 .junk)), (vRoF ((vAg (t.1.getD 0 .junk)).getD 3 .junk)), (vI (t.1.getD 1 .junk)), (vRoN (t.1.getD 2 .junk)), (fun j => vS ((vRoF (t.1.getD 2 .junk) j).getD 0 .junk)), (fun j => vI ((vRoF (t.1.getD 2 .junk) j).getD 1 .junk)), (fun j => vI ((vRoF (t.1.getD 2 .junk) j).getD 2 .junk)), (fun j => vI ((vRoF (t.1.getD 2 .junk) j).getD 3 .junk)), (fun j => vI ((vRoF (t.1.getD 2 .junk) j).getD 4 .junk)), (fun j => vI ((vRoF (t.1.getD 2 .junk) j).getD 5 .junk)))
theorem i_Rblk : ∀ x y, A_Rblk x = A_Rblk y → x = y := fun x y h => (congrArg d_Rblk h :)
def R_Rblk : g_Rblk → CRes := (fun z => (fun (vn : Nat) (vs : Nat → ByteArray) (v0 : Nat → Int) (v1 : Nat → Int) (v2 : Nat → Int) (v3 : Nat → Int) (v4 : Nat → Int) (e : Int) => .ret (.tup [.ro 6 vn (fun j => [st (vs j), i64 (v0 j), i64 (v1 j), i64 (v2 j), i64 (v3 j), i64 (v4 j)]), i64 e]) []) z.1 z.2.1 z.2.2.1 z.2.2.2.1 z.2.2.2.2.1 z.2.2.2.2.2.1 z.2.2.2.2.2.2.1 z.2.2.2.2.2.2.2 : (Nat × (Nat → ByteArray) × (Nat → Int) × (Nat → Int) × (Nat → Int) × (Nat → Int) × (Nat → Int) × Int) → CRes)
def x_Rblk (z : g_Rblk) (k : CRes → Option Ans) : Option Ans := k (R_Rblk z)
theorem xe_Rblk : ∀ z k, x_Rblk z k = k (R_Rblk z) := fun z k => rfl
abbrev a_RstmtN : Type := Int × Int × ByteArray × Nat × (Nat → Int) × (Nat → Int) × (Nat → ByteArray) × (Nat → Nat) × (Nat → Nat → List V) × Nat × (Nat → ByteArray) × (Nat → Int) × (Nat → Int) × (Nat → Int) × (Nat → Int) × (Nat → Int)
abbrev g_RstmtN : Type := Nat × (Nat → ByteArray) × (Nat → Int) × (Nat → Int) × (Nat → Int) × (Nat → Int) × (Nat → Int) × Int
def A_RstmtN : a_RstmtN → List V × List (Option Chunk) := (fun x => (fun (nk : Int) (nn : Int) (ns : ByteArray) (nm : Nat) (ek : Nat → Int) (en : Nat → Int) (es : Nat → ByteArray) (em : Nat → Nat) (ef : Nat → Nat → List V) (vn : Nat) (vs : Nat → ByteArray) (v0 : Nat → Int) (v1 : Nat → Int) (v2 : Nat → Int) (v3 : Nat → Int) (v4 : Nat → Int) => (([.agg [i64 nk, i64 nn, st ns, .ro 4 nm (fun j => [i64 (ek j), i64 (en j), st (es j), .ro 4 (em j) (ef j)])], .ro 6 vn (fun j => [st (vs j), i64 (v0 j), i64 (v1 j), i64 (v2 j), i64 (v3 j), i64 (v4 j)])] : List V), ([] : List (Option Chunk)))) x.1 x.2.1 x.2.2.1 x.2.2.2.1 x.2.2.2.2.1 x.2.2.2.2.2.1 x.2.2.2.2.2.2.1 x.2.2.2.2.2.2.2.1 x.2.2.2.2.2.2.2.2.1 x.2.2.2.2.2.2.2.2.2.1 x.2.2.2.2.2.2.2.2.2.2.1 x.2.2.2.2.2.2.2.2.2.2.2.1 x.2.2.2.2.2.2.2.2.2.2.2.2.1 x.2.2.2.2.2.2.2.2.2.2.2.2.2.1 x.2.2.2.2.2.2.2.2.2.2.2.2.2.2.1 x.2.2.2.2.2.2.2.2.2.2.2.2.2.2.2)
def R_RstmtN : g_RstmtN → CRes := (fun z => (fun (vn : Nat) (vs : Nat → ByteArray) (v0 : Nat → Int) (v1 : Nat → Int) (v2 : Nat → Int) (v3 : Nat → Int) (v4 : Nat → Int) (e : Int) => .ret (.tup [.ro 6 vn (fun j => [st (vs j), i64 (v0 j), i64 (v1 j), i64 (v2 j), i64 (v3 j), i64 (v4 j)]), i64 e]) []) z.1 z.2.1 z.2.2.1 z.2.2.2.1 z.2.2.2.2.1 z.2.2.2.2.2.1 z.2.2.2.2.2.2.1 z.2.2.2.2.2.2.2 : (Nat × (Nat → ByteArray) × (Nat → Int) × (Nat → Int) × (Nat → Int) × (Nat → Int) × (Nat → Int) × Int) → CRes)
abbrev a_RblkN : Type := Int × Int × ByteArray × Nat × (Nat → Int) × (Nat → Int) × (Nat → ByteArray) × (Nat → Nat) × (Nat → Nat → List V) × Int × Nat × (Nat → ByteArray) × (Nat → Int) × (Nat → Int) × (Nat → Int) × (Nat → Int) × (Nat → Int)
abbrev g_RblkN : Type := Nat × (Nat → ByteArray) × (Nat → Int) × (Nat → Int) × (Nat → Int) × (Nat → Int) × (Nat → Int) × Int
def A_RblkN : a_RblkN → List V × List (Option Chunk) := (fun x => (fun (nk : Int) (nn : Int) (ns : ByteArray) (nm : Nat) (ek : Nat → Int) (en : Nat → Int) (es : Nat → ByteArray) (em : Nat → Nat) (ef : Nat → Nat → List V) (ff : Int) (vn : Nat) (vs : Nat → ByteArray) (v0 : Nat → Int) (v1 : Nat → Int) (v2 : Nat → Int) (v3 : Nat → Int) (v4 : Nat → Int) => (([.agg [i64 nk, i64 nn, st ns, .ro 4 nm (fun j => [i64 (ek j), i64 (en j), st (es j), .ro 4 (em j) (ef j)])], i64 ff, .ro 6 vn (fun j => [st (vs j), i64 (v0 j), i64 (v1 j), i64 (v2 j), i64 (v3 j), i64 (v4 j)])] : List V), ([] : List (Option Chunk)))) x.1 x.2.1 x.2.2.1 x.2.2.2.1 x.2.2.2.2.1 x.2.2.2.2.2.1 x.2.2.2.2.2.2.1 x.2.2.2.2.2.2.2.1 x.2.2.2.2.2.2.2.2.1 x.2.2.2.2.2.2.2.2.2.1 x.2.2.2.2.2.2.2.2.2.2.1 x.2.2.2.2.2.2.2.2.2.2.2.1 x.2.2.2.2.2.2.2.2.2.2.2.2.1 x.2.2.2.2.2.2.2.2.2.2.2.2.2.1 x.2.2.2.2.2.2.2.2.2.2.2.2.2.2.1 x.2.2.2.2.2.2.2.2.2.2.2.2.2.2.2.1 x.2.2.2.2.2.2.2.2.2.2.2.2.2.2.2.2)
def R_RblkN : g_RblkN → CRes := (fun z => (fun (vn : Nat) (vs : Nat → ByteArray) (v0 : Nat → Int) (v1 : Nat → Int) (v2 : Nat → Int) (v3 : Nat → Int) (v4 : Nat → Int) (e : Int) => .ret (.tup [.ro 6 vn (fun j => [st (vs j), i64 (v0 j), i64 (v1 j), i64 (v2 j), i64 (v3 j), i64 (v4 j)]), i64 e]) []) z.1 z.2.1 z.2.2.1 z.2.2.2.1 z.2.2.2.2.1 z.2.2.2.2.2.1 z.2.2.2.2.2.2.1 z.2.2.2.2.2.2.2 : (Nat × (Nat → ByteArray) × (Nat → Int) × (Nat → Int) × (Nat → Int) × (Nat → Int) × (Nat → Int) × Int) → CRes)
def t_RstmtN {β : Type} (c_Rstated : a_Rstated → Option g_Rstated) (c_Rranged : a_Rranged → Option g_Rranged) (c_Rblk : a_Rblk → Option g_Rblk) (c_Rvar : a_Rvar → Option g_Rvar) (c_Rcond : a_Rcond → Option g_Rcond) (c_Rquant : a_Rquant → Option g_Rquant) (x : a_RstmtN) (dn : g_RstmtN → Option β) : Option β :=
 (c_Rstated ((x.1, x.2.1, x.2.2.1, x.2.2.2.1, x.2.2.2.2.1, x.2.2.2.2.2.1, x.2.2.2.2.2.2.1, x.2.2.2.2.2.2.2.1, x.2.2.2.2.2.2.2.2.1))).bind fun z9 =>
  if (!z9) = true then
   dn ((x.2.2.2.2.2.2.2.2.2.1, x.2.2.2.2.2.2.2.2.2.2.1, x.2.2.2.2.2.2.2.2.2.2.2.1, x.2.2.2.2.2.2.2.2.2.2.2.2.1, x.2.2.2.2.2.2.2.2.2.2.2.2.2.1, x.2.2.2.2.2.2.2.2.2.2.2.2.2.2.1, x.2.2.2.2.2.2.2.2.2.2.2.2.2.2.2, (7 : Int)))
  else
   (c_Rranged ((x.1, x.2.1, x.2.2.1, x.2.2.2.1, fun (j : Nat) => [i64 (x.2.2.2.2.1 j), i64 (x.2.2.2.2.2.1 j), st (x.2.2.2.2.2.2.1 j), V.ro 4 (x.2.2.2.2.2.2.2.1 j) (x.2.2.2.2.2.2.2.2.1 j)]))).bind fun z15 =>
    if (!z15) = true then
     dn ((x.2.2.2.2.2.2.2.2.2.1, x.2.2.2.2.2.2.2.2.2.2.1, x.2.2.2.2.2.2.2.2.2.2.2.1, x.2.2.2.2.2.2.2.2.2.2.2.2.1, x.2.2.2.2.2.2.2.2.2.2.2.2.2.1, x.2.2.2.2.2.2.2.2.2.2.2.2.2.2.1, x.2.2.2.2.2.2.2.2.2.2.2.2.2.2.2, (5 : Int)))
    else
     if (x.1 == (14 : Int)) = true then
      (c_Rblk ((x.1, x.2.1, x.2.2.1, x.2.2.2.1, fun (j : Nat) => [i64 (x.2.2.2.2.1 j), i64 (x.2.2.2.2.2.1 j), st (x.2.2.2.2.2.2.1 j), V.ro 4 (x.2.2.2.2.2.2.2.1 j) (x.2.2.2.2.2.2.2.2.1 j)], (0 : Int), x.2.2.2.2.2.2.2.2.2))).bind fun z29 =>
       dn z29
     else
      if (x.1 == (4 : Int)) = true then
       (c_Rblk ((x.1, x.2.1, x.2.2.1, x.2.2.2.1, fun (j : Nat) => [i64 (x.2.2.2.2.1 j), i64 (x.2.2.2.2.2.1 j), st (x.2.2.2.2.2.2.1 j), V.ro 4 (x.2.2.2.2.2.2.2.1 j) (x.2.2.2.2.2.2.2.2.1 j)], (0 : Int), x.2.2.2.2.2.2.2.2.2))).bind fun z43 =>
        dn z43
      else
       if (x.1 == (1 : Int)) = true then
        (c_Rvar x).bind fun z60 =>
         dn z60
       else
        if (x.1 == (2 : Int)) = true then
         (c_Rvar x).bind fun z77 =>
          dn z77
        else
         if (x.1 == (3 : Int)) = true then
          if (0 : Int) ≤ (0 : Int) ∧ (0 : Int) < ((x.2.2.2.1 : Nat) : Int) then
           (c_Rcond ((x.2.2.2.2.1 0, x.2.2.2.2.2.1 0, x.2.2.2.2.2.2.1 0, x.2.2.2.2.2.2.2.1 0, x.2.2.2.2.2.2.2.2.1 0, x.2.2.2.2.2.2.2.2.2))).bind fun z90 =>
            if (z90 != (0 : Int)) = true then
             dn ((x.2.2.2.2.2.2.2.2.2.1, x.2.2.2.2.2.2.2.2.2.2.1, x.2.2.2.2.2.2.2.2.2.2.2.1, x.2.2.2.2.2.2.2.2.2.2.2.2.1, x.2.2.2.2.2.2.2.2.2.2.2.2.2.1, x.2.2.2.2.2.2.2.2.2.2.2.2.2.2.1, x.2.2.2.2.2.2.2.2.2.2.2.2.2.2.2, z90))
            else
             (c_Rblk ((x.1, x.2.1, x.2.2.1, x.2.2.2.1, fun (j : Nat) => [i64 (x.2.2.2.2.1 j), i64 (x.2.2.2.2.2.1 j), st (x.2.2.2.2.2.2.1 j), V.ro 4 (x.2.2.2.2.2.2.2.1 j) (x.2.2.2.2.2.2.2.2.1 j)], (1 : Int), x.2.2.2.2.2.2.2.2.2))).bind fun z104 =>
              dn z104
          else
           none
         else
          if (x.1 == (6 : Int)) = true then
           if (0 : Int) ≤ (0 : Int) ∧ (0 : Int) < ((x.2.2.2.1 : Nat) : Int) then
            (c_Rcond ((x.2.2.2.2.1 0, x.2.2.2.2.2.1 0, x.2.2.2.2.2.2.1 0, x.2.2.2.2.2.2.2.1 0, x.2.2.2.2.2.2.2.2.1 0, x.2.2.2.2.2.2.2.2.2))).bind fun z117 =>
             if (z117 != (0 : Int)) = true then
              dn ((x.2.2.2.2.2.2.2.2.2.1, x.2.2.2.2.2.2.2.2.2.2.1, x.2.2.2.2.2.2.2.2.2.2.2.1, x.2.2.2.2.2.2.2.2.2.2.2.2.1, x.2.2.2.2.2.2.2.2.2.2.2.2.2.1, x.2.2.2.2.2.2.2.2.2.2.2.2.2.2.1, x.2.2.2.2.2.2.2.2.2.2.2.2.2.2.2, z117))
             else
              if (0 : Int) ≤ (1 : Int) ∧ (1 : Int) < ((x.2.2.2.1 : Nat) : Int) then
               (c_Rquant ((x.2.2.2.2.1 1, x.2.2.2.2.2.1 1, x.2.2.2.2.2.2.1 1, x.2.2.2.2.2.2.2.1 1, x.2.2.2.2.2.2.2.2.1 1, x.2.2.2.2.2.2.2.2.2.1, x.2.2.2.2.2.2.2.2.2.2.1, x.2.2.2.2.2.2.2.2.2.2.2.1, x.2.2.2.2.2.2.2.2.2.2.2.2.1, x.2.2.2.2.2.2.2.2.2.2.2.2.2.1, x.2.2.2.2.2.2.2.2.2.2.2.2.2.2.1, x.2.2.2.2.2.2.2.2.2.2.2.2.2.2.2, (0 : Int), (0 : Int), (1 : Int), (0 : Int), (0 : Int)))).bind fun z135 =>
                dn ((x.2.2.2.2.2.2.2.2.2.1, x.2.2.2.2.2.2.2.2.2.2.1, x.2.2.2.2.2.2.2.2.2.2.2.1, x.2.2.2.2.2.2.2.2.2.2.2.2.1, x.2.2.2.2.2.2.2.2.2.2.2.2.2.1, x.2.2.2.2.2.2.2.2.2.2.2.2.2.2.1, x.2.2.2.2.2.2.2.2.2.2.2.2.2.2.2, z135))
              else
               none
           else
            none
          else
           if (x.1 == (7 : Int)) = true then
            if (0 : Int) ≤ (0 : Int) ∧ (0 : Int) < ((x.2.2.2.1 : Nat) : Int) then
             (c_Rcond ((x.2.2.2.2.1 0, x.2.2.2.2.2.1 0, x.2.2.2.2.2.2.1 0, x.2.2.2.2.2.2.2.1 0, x.2.2.2.2.2.2.2.2.1 0, x.2.2.2.2.2.2.2.2.2))).bind fun z148 =>
              dn ((x.2.2.2.2.2.2.2.2.2.1, x.2.2.2.2.2.2.2.2.2.2.1, x.2.2.2.2.2.2.2.2.2.2.2.1, x.2.2.2.2.2.2.2.2.2.2.2.2.1, x.2.2.2.2.2.2.2.2.2.2.2.2.2.1, x.2.2.2.2.2.2.2.2.2.2.2.2.2.2.1, x.2.2.2.2.2.2.2.2.2.2.2.2.2.2.2, z148))
            else
             none
           else
            if (x.1 == (8 : Int)) = true then
             if (0 : Int) ≤ (0 : Int) ∧ (0 : Int) < ((x.2.2.2.1 : Nat) : Int) then
              (c_Rquant ((x.2.2.2.2.1 0, x.2.2.2.2.2.1 0, x.2.2.2.2.2.2.1 0, x.2.2.2.2.2.2.2.1 0, x.2.2.2.2.2.2.2.2.1 0, x.2.2.2.2.2.2.2.2.2.1, x.2.2.2.2.2.2.2.2.2.2.1, x.2.2.2.2.2.2.2.2.2.2.2.1, x.2.2.2.2.2.2.2.2.2.2.2.2.1, x.2.2.2.2.2.2.2.2.2.2.2.2.2.1, x.2.2.2.2.2.2.2.2.2.2.2.2.2.2.1, x.2.2.2.2.2.2.2.2.2.2.2.2.2.2.2, (0 : Int), (0 : Int), (0 : Int), (1 : Int), (0 : Int)))).bind fun z166 =>
               dn ((x.2.2.2.2.2.2.2.2.2.1, x.2.2.2.2.2.2.2.2.2.2.1, x.2.2.2.2.2.2.2.2.2.2.2.1, x.2.2.2.2.2.2.2.2.2.2.2.2.1, x.2.2.2.2.2.2.2.2.2.2.2.2.2.1, x.2.2.2.2.2.2.2.2.2.2.2.2.2.2.1, x.2.2.2.2.2.2.2.2.2.2.2.2.2.2.2, z166))
             else
              none
            else
             if (x.1 == (5 : Int)) = true then
              if (0 : Int) ≤ (0 : Int) ∧ (0 : Int) < ((x.2.2.2.1 : Nat) : Int) then
               (c_Rquant ((x.2.2.2.2.1 0, x.2.2.2.2.2.1 0, x.2.2.2.2.2.2.1 0, x.2.2.2.2.2.2.2.1 0, x.2.2.2.2.2.2.2.2.1 0, x.2.2.2.2.2.2.2.2.2.1, x.2.2.2.2.2.2.2.2.2.2.1, x.2.2.2.2.2.2.2.2.2.2.2.1, x.2.2.2.2.2.2.2.2.2.2.2.2.1, x.2.2.2.2.2.2.2.2.2.2.2.2.2.1, x.2.2.2.2.2.2.2.2.2.2.2.2.2.2.1, x.2.2.2.2.2.2.2.2.2.2.2.2.2.2.2, (0 : Int), (0 : Int), (1 : Int), (0 : Int), (0 : Int)))).bind fun z184 =>
                dn ((x.2.2.2.2.2.2.2.2.2.1, x.2.2.2.2.2.2.2.2.2.2.1, x.2.2.2.2.2.2.2.2.2.2.2.1, x.2.2.2.2.2.2.2.2.2.2.2.2.1, x.2.2.2.2.2.2.2.2.2.2.2.2.2.1, x.2.2.2.2.2.2.2.2.2.2.2.2.2.2.1, x.2.2.2.2.2.2.2.2.2.2.2.2.2.2.2, z184))
              else
               none
             else
              if (x.1 == (9 : Int)) = true then
               if (0 : Int) ≤ (0 : Int) ∧ (0 : Int) < ((x.2.2.2.1 : Nat) : Int) then
                (c_Rquant ((x.2.2.2.2.1 0, x.2.2.2.2.2.1 0, x.2.2.2.2.2.2.1 0, x.2.2.2.2.2.2.2.1 0, x.2.2.2.2.2.2.2.2.1 0, x.2.2.2.2.2.2.2.2.2.1, x.2.2.2.2.2.2.2.2.2.2.1, x.2.2.2.2.2.2.2.2.2.2.2.1, x.2.2.2.2.2.2.2.2.2.2.2.2.1, x.2.2.2.2.2.2.2.2.2.2.2.2.2.1, x.2.2.2.2.2.2.2.2.2.2.2.2.2.2.1, x.2.2.2.2.2.2.2.2.2.2.2.2.2.2.2, (0 : Int), (0 : Int), (1 : Int), (0 : Int), (0 : Int)))).bind fun z202 =>
                 dn ((x.2.2.2.2.2.2.2.2.2.1, x.2.2.2.2.2.2.2.2.2.2.1, x.2.2.2.2.2.2.2.2.2.2.2.1, x.2.2.2.2.2.2.2.2.2.2.2.2.1, x.2.2.2.2.2.2.2.2.2.2.2.2.2.1, x.2.2.2.2.2.2.2.2.2.2.2.2.2.2.1, x.2.2.2.2.2.2.2.2.2.2.2.2.2.2.2, z202))
               else
                none
              else
               if (x.1 == (10 : Int)) = true then
                if (0 : Int) ≤ (0 : Int) ∧ (0 : Int) < ((x.2.2.2.1 : Nat) : Int) then
                 (c_Rquant ((x.2.2.2.2.1 0, x.2.2.2.2.2.1 0, x.2.2.2.2.2.2.1 0, x.2.2.2.2.2.2.2.1 0, x.2.2.2.2.2.2.2.2.1 0, x.2.2.2.2.2.2.2.2.2.1, x.2.2.2.2.2.2.2.2.2.2.1, x.2.2.2.2.2.2.2.2.2.2.2.1, x.2.2.2.2.2.2.2.2.2.2.2.2.1, x.2.2.2.2.2.2.2.2.2.2.2.2.2.1, x.2.2.2.2.2.2.2.2.2.2.2.2.2.2.1, x.2.2.2.2.2.2.2.2.2.2.2.2.2.2.2, (0 : Int), (1 : Int), (0 : Int), (0 : Int), (0 : Int)))).bind fun z220 =>
                  dn ((x.2.2.2.2.2.2.2.2.2.1, x.2.2.2.2.2.2.2.2.2.2.1, x.2.2.2.2.2.2.2.2.2.2.2.1, x.2.2.2.2.2.2.2.2.2.2.2.2.1, x.2.2.2.2.2.2.2.2.2.2.2.2.2.1, x.2.2.2.2.2.2.2.2.2.2.2.2.2.2.1, x.2.2.2.2.2.2.2.2.2.2.2.2.2.2.2, z220))
                else
                 none
               else
                if (x.1 == (11 : Int)) = true then
                 if (0 : Int) ≤ (0 : Int) ∧ (0 : Int) < ((x.2.2.2.1 : Nat) : Int) then
                  (c_Rquant ((x.2.2.2.2.1 0, x.2.2.2.2.2.1 0, x.2.2.2.2.2.2.1 0, x.2.2.2.2.2.2.2.1 0, x.2.2.2.2.2.2.2.2.1 0, x.2.2.2.2.2.2.2.2.2.1, x.2.2.2.2.2.2.2.2.2.2.1, x.2.2.2.2.2.2.2.2.2.2.2.1, x.2.2.2.2.2.2.2.2.2.2.2.2.1, x.2.2.2.2.2.2.2.2.2.2.2.2.2.1, x.2.2.2.2.2.2.2.2.2.2.2.2.2.2.1, x.2.2.2.2.2.2.2.2.2.2.2.2.2.2.2, (0 : Int), (1 : Int), (0 : Int), (0 : Int), (0 : Int)))).bind fun z238 =>
                   dn ((x.2.2.2.2.2.2.2.2.2.1, x.2.2.2.2.2.2.2.2.2.2.1, x.2.2.2.2.2.2.2.2.2.2.2.1, x.2.2.2.2.2.2.2.2.2.2.2.2.1, x.2.2.2.2.2.2.2.2.2.2.2.2.2.1, x.2.2.2.2.2.2.2.2.2.2.2.2.2.2.1, x.2.2.2.2.2.2.2.2.2.2.2.2.2.2.2, z238))
                 else
                  none
                else
                 dn ((x.2.2.2.2.2.2.2.2.2.1, x.2.2.2.2.2.2.2.2.2.2.1, x.2.2.2.2.2.2.2.2.2.2.2.1, x.2.2.2.2.2.2.2.2.2.2.2.2.1, x.2.2.2.2.2.2.2.2.2.2.2.2.2.1, x.2.2.2.2.2.2.2.2.2.2.2.2.2.2.1, x.2.2.2.2.2.2.2.2.2.2.2.2.2.2.2, (0 : Int)))
theorem n_RstmtN {β : Type} (c_Rstated : a_Rstated → Option g_Rstated) (c_Rranged : a_Rranged → Option g_Rranged) (c_Rblk : a_Rblk → Option g_Rblk) (c_Rvar : a_Rvar → Option g_Rvar) (c_Rcond : a_Rcond → Option g_Rcond) (c_Rquant : a_Rquant → Option g_Rquant) (x : a_RstmtN) (dn : g_RstmtN → Option β) : t_RstmtN c_Rstated c_Rranged c_Rblk c_Rvar c_Rcond c_Rquant x dn = (t_RstmtN c_Rstated c_Rranged c_Rblk c_Rvar c_Rcond c_Rquant x some).bind dn := by
  unfold t_RstmtN
  repeat' first | exact free_none | refine free_bind (fun z => ?_) | refine free_ite ?_ ?_ | refine free_sum (fun z => ?_) (fun z => ?_) | rfl
theorem r_RstmtN (c_Rstated : a_Rstated → Option g_Rstated) (c_Rranged : a_Rranged → Option g_Rranged) (c_Rblk : a_Rblk → Option g_Rblk) (c_Rvar : a_Rvar → Option g_Rvar) (c_Rcond : a_Rcond → Option g_Rcond) (c_Rquant : a_Rquant → Option g_Rquant) (x : a_RstmtN) : callK E5 (ftab 34 (fun _ _ => true) A_Rstated x_Rstated c_Rstated (ftab 35 (fun _ _ => true) A_Rranged x_Rranged c_Rranged (ftab 36 (fun _ _ => true) A_Rblk x_Rblk c_Rblk (ftab 37 (fun _ _ => true) A_Rvar x_Rvar c_Rvar (ftab 38 (fun _ _ => true) A_Rcond x_Rcond c_Rcond (ftab 39 (fun _ _ => true) A_Rquant x_Rquant c_Rquant ca0)))))) lo0 20 (A_RstmtN x).1 (A_RstmtN x).2 K = t_RstmtN (fun x => viaF A_Rstated c_Rstated (A_Rstated x)) (fun x => viaF A_Rranged c_Rranged (A_Rranged x)) (fun x => viaF A_Rblk c_Rblk (A_Rblk x)) (fun x => viaF A_Rvar c_Rvar (A_Rvar x)) (fun x => viaF A_Rcond c_Rcond (A_Rcond x)) (fun x => viaF A_Rquant c_Rquant (A_Rquant x)) x (fun z => some (.c (R_RstmtN z))) := by kernel_rfl
theorem s_RstmtN (c_Rstated : a_Rstated → Option g_Rstated) (h_Rstated : ∀ x z, c_Rstated x = some z → SC E5 34 (A_Rstated x).1 (A_Rstated x).2 (R_Rstated z)) (c_Rranged : a_Rranged → Option g_Rranged) (h_Rranged : ∀ x z, c_Rranged x = some z → SC E5 35 (A_Rranged x).1 (A_Rranged x).2 (R_Rranged z)) (c_Rblk : a_Rblk → Option g_Rblk) (h_Rblk : ∀ x z, c_Rblk x = some z → SC E5 36 (A_Rblk x).1 (A_Rblk x).2 (R_Rblk z)) (c_Rvar : a_Rvar → Option g_Rvar) (h_Rvar : ∀ x z, c_Rvar x = some z → SC E5 37 (A_Rvar x).1 (A_Rvar x).2 (R_Rvar z)) (c_Rcond : a_Rcond → Option g_Rcond) (h_Rcond : ∀ x z, c_Rcond x = some z → SC E5 38 (A_Rcond x).1 (A_Rcond x).2 (R_Rcond z)) (c_Rquant : a_Rquant → Option g_Rquant) (h_Rquant : ∀ x z, c_Rquant x = some z → SC E5 39 (A_Rquant x).1 (A_Rquant x).2 (R_Rquant z)) (q : Nat) (x : a_RstmtN) (z : g_RstmtN) (h : t_RstmtN c_Rstated c_Rranged c_Rblk c_Rvar c_Rcond c_Rquant x some = some z) : SC E5 20 (A_RstmtN x).1 (A_RstmtN x).2 (R_RstmtN z) := by
  refine SC.of hW5 hX5 (ftab_cons h_Rstated xe_Rstated (ftab_cons h_Rranged xe_Rranged (ftab_cons h_Rblk xe_Rblk (ftab_cons h_Rvar xe_Rvar (ftab_cons h_Rcond xe_Rcond (ftab_cons h_Rquant xe_Rquant ca0_sound)))))) lo0_sound ((r_RstmtN c_Rstated c_Rranged c_Rblk c_Rvar c_Rcond c_Rquant x).trans ?_)
  rw [via_eq i_Rstated c_Rstated, via_eq i_Rranged c_Rranged, via_eq i_Rblk c_Rblk, via_eq i_Rvar c_Rvar, via_eq i_Rcond c_Rcond, via_eq i_Rquant c_Rquant, n_RstmtN, h]; rfl
abbrev RblkN_l0_a : Type := Nat × (Nat → ByteArray) × (Nat → Int) × (Nat → Int) × (Nat → Int) × (Nat → Int) × (Nat → Int) × Int
abbrev RblkN_l0_g : Type := (Nat × (Nat → ByteArray) × (Nat → Int) × (Nat → Int) × (Nat → Int) × (Nat → Int) × (Nat → Int) × Int) ⊕ (Nat × (Nat → ByteArray) × (Nat → Int) × (Nat → Int) × (Nat → Int) × (Nat → Int) × (Nat → Int))
def RblkN_l0_S (x : a_RblkN) (y : RblkN_l0_a) : St := { fr := [V.junk, V.junk, V.ro 6 (y.1) fun (j : Nat) => [st (y.2.1 j), i64 (y.2.2.1 j), i64 (y.2.2.2.1 j), i64 (y.2.2.2.2.1 j), i64 (y.2.2.2.2.2.1 j), i64 (y.2.2.2.2.2.2.1 j)], V.ptr 0 0] ++ jk 4 ++ [i64 (y.2.2.2.2.2.2.2)] ++ jk 26, H := hp [some (Chunk.blk [i64 (x.1), i64 (x.2.1), st (x.2.2.1), V.ro 4 (x.2.2.2.1) fun (j : Nat) => [i64 (x.2.2.2.2.1 j), i64 (x.2.2.2.2.2.1 j), st (x.2.2.2.2.2.2.1 j), V.ro 4 (x.2.2.2.2.2.2.2.1 j) (x.2.2.2.2.2.2.2.2.1 j)]])], nx := 1, rt := 0, me := 36 }
def RblkN_l0_d (s : St) : RblkN_l0_a := ((vRoN (s.fr.getD 2 .junk)), (fun j => (vS (((vRoF (s.fr.getD 2 .junk)) j).getD 0 .junk))), (fun j => (vI (((vRoF (s.fr.getD 2 .junk)) j).getD 1 .junk))), (fun j => (vI (((vRoF (s.fr.getD 2 .junk)) j).getD 2 .junk))), (fun j => (vI (((vRoF (s.fr.getD 2 .junk)) j).getD 3 .junk))), (fun j => (vI (((vRoF (s.fr.getD 2 .junk)) j).getD 4 .junk))), (fun j => (vI (((vRoF (s.fr.getD 2 .junk)) j).getD 5 .junk))), (vI (s.fr.getD 8 .junk)))
theorem RblkN_l0_i (x : a_RblkN) : ∀ y y', RblkN_l0_S x y = RblkN_l0_S x y' → y = y' := fun y y' h => (congrArg RblkN_l0_d h :)
def RblkN_l0_T (x : a_RblkN) : RblkN_l0_g → Ex × St := (Sum.elim (fun z => (Ex.ret, { fr := jk 6 ++ [V.ro 6 (z.1) fun (j : Nat) => [st (z.2.1 j), i64 (z.2.2.1 j), i64 (z.2.2.2.1 j), i64 (z.2.2.2.2.1 j), i64 (z.2.2.2.2.2.1 j), i64 (z.2.2.2.2.2.2.1 j)], i64 (z.2.2.2.2.2.2.2)] ++ jk 27, H := hp [], nx := 0, rt := 0, me := 36 })) (fun z => (Ex.exit 0, { fr := [V.junk, V.junk, V.ro 6 (z.1) fun (j : Nat) => [st (z.2.1 j), i64 (z.2.2.1 j), i64 (z.2.2.2.1 j), i64 (z.2.2.2.2.1 j), i64 (z.2.2.2.2.2.1 j), i64 (z.2.2.2.2.2.2 j)]] ++ jk 32, H := hp [], nx := 0, rt := 0, me := 36 })))
def RblkN_l0_x (x : a_RblkN) (z : RblkN_l0_g) (k : KX) : Option Ans := Sum.elim (fun za => k (RblkN_l0_T x (.inl za)).1 (RblkN_l0_T x (.inl za)).2) (fun zb => k (RblkN_l0_T x (.inr zb)).1 (RblkN_l0_T x (.inr zb)).2) z
theorem RblkN_l0_xe (x : a_RblkN) : ∀ z k, RblkN_l0_x x z k = k (RblkN_l0_T x z).1 (RblkN_l0_T x z).2 := fun z k => by
  rcases z with z | z <;> rfl
theorem RblkN_l0_k0 (x : a_RblkN) (z : Nat × (Nat → ByteArray) × (Nat → Int) × (Nat → Int) × (Nat → Int) × (Nat → Int) × (Nat → Int) × Int) : KCM [(0, 4)] 192 (RblkN_l0_T x (.inl z)).1 (RblkN_l0_T x (.inl z)).2 = some (.l (RblkN_l0_T x (.inl z)).1 (RblkN_l0_T x (.inl z)).2) := by kernel_rfl
theorem RblkN_l0_k1 (x : a_RblkN) (z : Nat × (Nat → ByteArray) × (Nat → Int) × (Nat → Int) × (Nat → Int) × (Nat → Int) × (Nat → Int)) : KCM [(0, 4)] 192 (RblkN_l0_T x (.inr z)).1 (RblkN_l0_T x (.inr z)).2 = some (.l (RblkN_l0_T x (.inr z)).1 (RblkN_l0_T x (.inr z)).2) := by kernel_rfl
def RblkN_l0_t {β : Type} (c_Rstmt : a_Rstmt → Option g_Rstmt) (x : a_RblkN) (y : RblkN_l0_a) (nx : RblkN_l0_a → Option β) (dn : RblkN_l0_g → Option β) : Option β :=
 if decide (y.2.2.2.2.2.2.2 < ((x.2.2.2.1 : Nat) : Int)) = true then
  if (0 : Int) ≤ y.2.2.2.2.2.2.2 ∧ y.2.2.2.2.2.2.2 < ((x.2.2.2.1 : Nat) : Int) then
   (c_Rstmt ((x.2.2.2.2.1 (Int.toNat (y.2.2.2.2.2.2.2)), x.2.2.2.2.2.1 (Int.toNat (y.2.2.2.2.2.2.2)), x.2.2.2.2.2.2.1 (Int.toNat (y.2.2.2.2.2.2.2)), x.2.2.2.2.2.2.2.1 (Int.toNat (y.2.2.2.2.2.2.2)), x.2.2.2.2.2.2.2.2.1 (Int.toNat (y.2.2.2.2.2.2.2)), y.1, y.2.1, y.2.2.1, y.2.2.2.1, y.2.2.2.2.1, y.2.2.2.2.2.1, y.2.2.2.2.2.2.1))).bind fun z113 =>
    if (z113.2.2.2.2.2.2.2 != (0 : Int)) = true then
     dn (.inl ((y.1, y.2.1, y.2.2.1, y.2.2.2.1, y.2.2.2.2.1, y.2.2.2.2.2.1, y.2.2.2.2.2.2.1, z113.2.2.2.2.2.2.2)))
    else
     nx ((z113.1, z113.2.1, z113.2.2.1, z113.2.2.2.1, z113.2.2.2.2.1, z113.2.2.2.2.2.1, z113.2.2.2.2.2.2.1, w (y.2.2.2.2.2.2.2 + (1 : Int))))
  else
   none
 else
  dn (.inr ((y.1, y.2.1, y.2.2.1, y.2.2.2.1, y.2.2.2.2.1, y.2.2.2.2.2.1, y.2.2.2.2.2.2.1)))
theorem RblkN_l0_n {β : Type} (c_Rstmt : a_Rstmt → Option g_Rstmt) (x : a_RblkN) (y : RblkN_l0_a) (nx : RblkN_l0_a → Option β) (dn : RblkN_l0_g → Option β) : RblkN_l0_t c_Rstmt x y nx dn = (RblkN_l0_t c_Rstmt x y (fun y => some (.inl y)) (fun z => some (.inr z))).bind fun r => Sum.elim nx dn r := by
  unfold RblkN_l0_t
  repeat' first | exact free_none | refine free_bind (fun z => ?_) | refine free_ite ?_ ?_ | refine free_sum (fun z => ?_) (fun z => ?_) | rfl
theorem RblkN_l0_r (c_Rstmt : a_Rstmt → Option g_Rstmt) (x : a_RblkN) (y : RblkN_l0_a) (lo : LoopT) : loopK E5 (ftab 20 (fun _ _ => true) A_Rstmt x_Rstmt c_Rstmt ca0) lo 0 268 (bodyOf E5 36 0) (RblkN_l0_S x y) (KCM [(0, 4)] 192) = RblkN_l0_t (fun x => viaF A_Rstmt c_Rstmt (A_Rstmt x)) x y (fun y => lo 0 268 (bodyOf E5 36 0) (RblkN_l0_S x y) (KCM [(0, 4)] 192)) (fun z => some (.l (RblkN_l0_T x z).1 (RblkN_l0_T x z).2)) := by kernel_rfl
noncomputable def RblkN_l0 (c_Rstmt : a_Rstmt → Option g_Rstmt) (q : Nat) (x : a_RblkN) : RblkN_l0_a → Option RblkN_l0_g := lpG (fun y => RblkN_l0_t c_Rstmt x y (fun y => some (.inl y)) (fun z => some (.inr z))) q
theorem RblkN_l0_s (c_Rstmt : a_Rstmt → Option g_Rstmt) (h_Rstmt : ∀ x z, c_Rstmt x = some z → SC E5 20 (A_Rstmt x).1 (A_Rstmt x).2 (R_Rstmt z)) (q : Nat) (x : a_RblkN) : ∀ y z, RblkN_l0 c_Rstmt q x y = some z → SL E5 (bodyOf E5 36 0) (RblkN_l0_S x y) (RblkN_l0_T x z).1 (RblkN_l0_T x z).2 :=
  SL.lp (LT := fun lo => lo) (T := RblkN_l0_T x) (S := RblkN_l0_S x) (ftab_cons h_Rstmt xe_Rstmt ca0_sound) hX5 (fun lo h => h) (fun lo y => (RblkN_l0_r c_Rstmt x y lo).trans (by rw [via_eq i_Rstmt c_Rstmt]; exact RblkN_l0_n _ _ _ _ _)) (fun z => by rcases z with z | z <;> first | exact RblkN_l0_k0 x z | exact RblkN_l0_k1 x z) q
def t_RblkN {β : Type} (c_Rstmt : a_Rstmt → Option g_Rstmt) (l_RblkN_l0 : RblkN_l0_a → Option RblkN_l0_g) (x : a_RblkN) (dn : g_RblkN → Option β) : Option β :=
 (l_RblkN_l0 ((x.2.2.2.2.2.2.2.2.2.2.1, x.2.2.2.2.2.2.2.2.2.2.2.1, x.2.2.2.2.2.2.2.2.2.2.2.2.1, x.2.2.2.2.2.2.2.2.2.2.2.2.2.1, x.2.2.2.2.2.2.2.2.2.2.2.2.2.2.1, x.2.2.2.2.2.2.2.2.2.2.2.2.2.2.2.1, x.2.2.2.2.2.2.2.2.2.2.2.2.2.2.2.2, x.2.2.2.2.2.2.2.2.2.1))).bind fun z73 =>
  Sum.elim (fun z73a =>
  dn z73a) (fun z73b =>
  dn ((z73b.1, z73b.2.1, z73b.2.2.1, z73b.2.2.2.1, z73b.2.2.2.2.1, z73b.2.2.2.2.2.1, z73b.2.2.2.2.2.2, (0 : Int)))) z73
theorem n_RblkN {β : Type} (c_Rstmt : a_Rstmt → Option g_Rstmt) (l_RblkN_l0 : RblkN_l0_a → Option RblkN_l0_g) (x : a_RblkN) (dn : g_RblkN → Option β) : t_RblkN c_Rstmt l_RblkN_l0 x dn = (t_RblkN c_Rstmt l_RblkN_l0 x some).bind dn := by
  unfold t_RblkN
  repeat' first | exact free_none | refine free_bind (fun z => ?_) | refine free_ite ?_ ?_ | refine free_sum (fun z => ?_) (fun z => ?_) | rfl
theorem r_RblkN (c_Rstmt : a_Rstmt → Option g_Rstmt) (l_RblkN_l0 : RblkN_l0_a → Option RblkN_l0_g) (x : a_RblkN) : callK E5 (ftab 20 (fun _ _ => true) A_Rstmt x_Rstmt c_Rstmt ca0) (ltabF 0 (fun _ => true) (bodyOf E5 36 0) (RblkN_l0_S x) (RblkN_l0_x x) l_RblkN_l0 lo0) 36 (A_RblkN x).1 (A_RblkN x).2 K = t_RblkN (fun x => viaF A_Rstmt c_Rstmt (A_Rstmt x)) (fun y => viaF (fun y => (bodyOf E5 36 0, RblkN_l0_S x y)) l_RblkN_l0 (bodyOf E5 36 0, RblkN_l0_S x y)) x (fun z => some (.c (R_RblkN z))) := by kernel_rfl
theorem s_RblkN (c_Rstmt : a_Rstmt → Option g_Rstmt) (h_Rstmt : ∀ x z, c_Rstmt x = some z → SC E5 20 (A_Rstmt x).1 (A_Rstmt x).2 (R_Rstmt z)) (q : Nat) (x : a_RblkN) (z : g_RblkN) (h : t_RblkN c_Rstmt (RblkN_l0 c_Rstmt q x) x some = some z) : SC E5 36 (A_RblkN x).1 (A_RblkN x).2 (R_RblkN z) := by
  refine SC.of hW5 hX5 (ftab_cons h_Rstmt xe_Rstmt ca0_sound) (ltabF_cons (RblkN_l0_s c_Rstmt h_Rstmt q x) (RblkN_l0_xe x) lo0_sound) ((r_RblkN c_Rstmt (RblkN_l0 c_Rstmt q x) x).trans ?_)
  rw [via_eq i_Rstmt c_Rstmt, via_eq (pair_inj (bodyOf E5 36 0) (RblkN_l0_i x)) (RblkN_l0 c_Rstmt q x), n_RblkN, h]; rfl
open Classical in
noncomputable def rSB : Nat → (a_Rstmt → Option g_Rstmt) × (a_Rblk → Option g_Rblk)
  | 0 => (fun _ => none, fun _ => none)
  | q + 1 => (fun x => if OpenN x.2.2.2.2.1 then t_RstmtN (Rstated q) (Rranged q) (rSB q).2 (Rvar q) (Rcond q) (Rquant q) (x.1, x.2.1, x.2.2.1, x.2.2.2.1, opK x.2.2.2.2.1, opN x.2.2.2.2.1, opS x.2.2.2.2.1, opM x.2.2.2.2.1, opF x.2.2.2.2.1, x.2.2.2.2.2) some else none,
      fun x => if OpenN x.2.2.2.2.1 then t_RblkN (rSB q).1 (RblkN_l0 (rSB q).1 q (x.1, x.2.1, x.2.2.1, x.2.2.2.1, opK x.2.2.2.2.1, opN x.2.2.2.2.1, opS x.2.2.2.2.1, opM x.2.2.2.2.1, opF x.2.2.2.2.1, x.2.2.2.2.2)) (x.1, x.2.1, x.2.2.1, x.2.2.2.1, opK x.2.2.2.2.1, opN x.2.2.2.2.1, opS x.2.2.2.2.1, opM x.2.2.2.2.1, opF x.2.2.2.2.1, x.2.2.2.2.2) some else none)
noncomputable def Rstmt (q : Nat) : a_Rstmt → Option g_Rstmt := (rSB q).1
noncomputable def Rblk (q : Nat) : a_Rblk → Option g_Rblk := (rSB q).2
theorem rSB_sc : ∀ q, (∀ x z, Rstmt q x = some z → SC E5 20 (A_Rstmt x).1 (A_Rstmt x).2 (R_Rstmt z)) ∧ (∀ x z, Rblk q x = some z → SC E5 36 (A_Rblk x).1 (A_Rblk x).2 (R_Rblk z)) := by
  intro q
  induction q with
  | zero => exact ⟨(fun x z h => by cases h), (fun x z h => by cases h)⟩
  | succ q ih =>
    obtain ⟨h1, h2⟩ := ih
    refine ⟨fun x z h => ?_, fun x z h => ?_⟩
    · unfold Rstmt rSB at h
      dsimp only at h
      split at h
      · rename_i hO
        have this := s_RstmtN (Rstated q) (sc_Rstated q) (Rranged q) (sc_Rranged q) (Rblk q) h2 (Rvar q) (sc_Rvar q) (Rcond q) (sc_Rcond q) (Rquant q) (sc_Rquant q) q (x.1, x.2.1, x.2.2.1, x.2.2.2.1, opK x.2.2.2.2.1, opN x.2.2.2.2.1, opS x.2.2.2.2.1, opM x.2.2.2.2.1, opF x.2.2.2.2.1, x.2.2.2.2.2) z h
        unfold A_RstmtN at this
        unfold A_Rstmt
        simp only at this ⊢
        rw [open_eq hO] at this
        exact this
      · cases h
    · unfold Rblk rSB at h
      dsimp only at h
      split at h
      · rename_i hO
        have this := s_RblkN (Rstmt q) h1 q (x.1, x.2.1, x.2.2.1, x.2.2.2.1, opK x.2.2.2.2.1, opN x.2.2.2.2.1, opS x.2.2.2.2.1, opM x.2.2.2.2.1, opF x.2.2.2.2.1, x.2.2.2.2.2) z h
        unfold A_RblkN at this
        unfold A_Rblk
        simp only at this ⊢
        rw [open_eq hO] at this
        exact this
      · cases h
theorem sc_Rstmt (q : Nat) : ∀ (x : a_Rstmt) (z : g_Rstmt), Rstmt q x = some z → SC E5 20 (A_Rstmt x).1 (A_Rstmt x).2 (R_Rstmt z) := (rSB_sc q).1
abbrev a_RCheck : Type := ByteArray × Nat × (Nat → ByteArray) × (Nat → ByteArray) × Int × Int × ByteArray × Nat × (Nat → List V)
abbrev g_RCheck : Type := Int
def A_RCheck : a_RCheck → List V × List (Option Chunk) := (fun x => (fun (pn : ByteArray) (pm : Nat) (pa : Nat → ByteArray) (pu : Nat → ByteArray) (nk : Int) (nn : Int) (ns : ByteArray) (nm : Nat) (nf : Nat → List V) => (([.agg [st pn, .ro 2 pm (fun j => [st (pa j), st (pu j)]), i64 nk, i64 nn, st ns, .ro 4 nm nf]] : List V), ([] : List (Option Chunk)))) x.1 x.2.1 x.2.2.1 x.2.2.2.1 x.2.2.2.2.1 x.2.2.2.2.2.1 x.2.2.2.2.2.2.1 x.2.2.2.2.2.2.2.1 x.2.2.2.2.2.2.2.2)
def d_RCheck (t : List V × List (Option Chunk)) : a_RCheck := ((vS ((vAg (t.1.getD 0 .junk)).getD 0 .junk)), (vRoN ((vAg (t.1.getD 0 .junk)).getD 1 .junk)), (fun j => (vS (((vRoF ((vAg (t.1.getD 0 .junk)).getD 1 .junk)) j).getD 0 .junk))), (fun j => (vS (((vRoF ((vAg (t.1.getD 0 .junk)).getD 1 .junk)) j).getD 1 .junk))), (vI ((vAg (t.1.getD 0 .junk)).getD 2 .junk)), (vI ((vAg (t.1.getD 0 .junk)).getD 3 .junk)), (vS ((vAg (t.1.getD 0 .junk)).getD 4 .junk)), (vRoN ((vAg (t.1.getD 0 .junk)).getD 5 .junk)), (vRoF ((vAg (t.1.getD 0 .junk)).getD 5 .junk)))
theorem i_RCheck : ∀ x y, A_RCheck x = A_RCheck y → x = y := fun x y h => (congrArg d_RCheck h :)
def R_RCheck : g_RCheck → CRes := (fun z => (fun (e : Int) => .ret (i64 e) []) z : (Int) → CRes)
def x_RCheck (z : g_RCheck) (k : CRes → Option Ans) : Option Ans := k (R_RCheck z)
theorem xe_RCheck : ∀ z k, x_RCheck z k = k (R_RCheck z) := fun z k => rfl
def t_RCheck {β : Type} (c_ParamsR : a_ParamsR → Option g_ParamsR) (c_Rstmt : a_Rstmt → Option g_Rstmt) (x : a_RCheck) (dn : g_RCheck → Option β) : Option β :=
 (c_ParamsR ((x.2.1, x.2.2.1, x.2.2.2.1))).bind fun z3 =>
  if (z3.2.2.2.2.2.2.2 != (0 : Int)) = true then
   dn (z3.2.2.2.2.2.2.2)
  else
   if (!x.2.2.2.2.1 == (14 : Int)) = true then
    dn ((7 : Int))
   else
    (c_Rstmt ((x.2.2.2.2.1, x.2.2.2.2.2.1, x.2.2.2.2.2.2.1, x.2.2.2.2.2.2.2.1, x.2.2.2.2.2.2.2.2, z3.1, z3.2.1, z3.2.2.1, z3.2.2.2.1, z3.2.2.2.2.1, z3.2.2.2.2.2.1, z3.2.2.2.2.2.2.1))).bind fun z16 =>
     dn (z16.2.2.2.2.2.2.2)
theorem n_RCheck {β : Type} (c_ParamsR : a_ParamsR → Option g_ParamsR) (c_Rstmt : a_Rstmt → Option g_Rstmt) (x : a_RCheck) (dn : g_RCheck → Option β) : t_RCheck c_ParamsR c_Rstmt x dn = (t_RCheck c_ParamsR c_Rstmt x some).bind dn := by
  unfold t_RCheck
  repeat' first | exact free_none | refine free_bind (fun z => ?_) | refine free_ite ?_ ?_ | refine free_sum (fun z => ?_) (fun z => ?_) | rfl
theorem r_RCheck (c_ParamsR : a_ParamsR → Option g_ParamsR) (c_Rstmt : a_Rstmt → Option g_Rstmt) (x : a_RCheck) : callK E5 (ftab 18 (fun _ _ => true) A_ParamsR x_ParamsR c_ParamsR (ftab 20 (fun _ _ => true) A_Rstmt x_Rstmt c_Rstmt (callG E5 20))) lo0 7 (A_RCheck x).1 (A_RCheck x).2 K = t_RCheck (fun x => viaF A_ParamsR c_ParamsR (A_ParamsR x)) (fun x => viaF A_Rstmt c_Rstmt (A_Rstmt x)) x (fun z => some (.c (R_RCheck z))) := by kernel_rfl
theorem s_RCheck (c_ParamsR : a_ParamsR → Option g_ParamsR) (h_ParamsR : ∀ x z, c_ParamsR x = some z → SC E5 18 (A_ParamsR x).1 (A_ParamsR x).2 (R_ParamsR z)) (c_Rstmt : a_Rstmt → Option g_Rstmt) (h_Rstmt : ∀ x z, c_Rstmt x = some z → SC E5 20 (A_Rstmt x).1 (A_Rstmt x).2 (R_Rstmt z)) (q : Nat) (x : a_RCheck) (z : g_RCheck) (h : t_RCheck c_ParamsR c_Rstmt x some = some z) : SC E5 7 (A_RCheck x).1 (A_RCheck x).2 (R_RCheck z) := by
  refine SC.of hW5 hX5 (ftab_cons h_ParamsR xe_ParamsR (ftab_cons h_Rstmt xe_Rstmt (sound_G hW5 hX5 20).1)) lo0_sound ((r_RCheck c_ParamsR c_Rstmt x).trans ?_)
  rw [via_eq i_ParamsR c_ParamsR, via_eq i_Rstmt c_Rstmt, n_RCheck, h]; rfl
noncomputable def RCheck (q : Nat) (x : a_RCheck) : Option g_RCheck := t_RCheck (ParamsR q) (Rstmt q) x some
theorem sc_RCheck (q : Nat) : ∀ (x : a_RCheck) (z : g_RCheck), RCheck q x = some z → SC E5 7 (A_RCheck x).1 (A_RCheck x).2 (R_RCheck z) := fun x z h => s_RCheck (ParamsR q) (sc_ParamsR q) (Rstmt q) (sc_Rstmt q) q x z h
end Go.Proofs.YtniogljhkjbcgaaGreatDoor
/- TypesCheck, lifted. -/
namespace Go.Proofs.YtniogljhkjbcgaaGreatDoor
open Go Go.Am Go.Proofs
set_option linter.unusedSimpArgs false
set_option linter.unusedVariables false
set_option maxRecDepth 100000
abbrev a_lawC : Type := ByteArray × Nat × (Nat → ByteArray) × (Nat → ByteArray) × Int × Int × ByteArray × Nat × (Nat → List V)
abbrev g_lawC : Type := Bool
def A_lawC : a_lawC → List V × List (Option Chunk) := (fun x => (fun (pn : ByteArray) (pm : Nat) (pa : Nat → ByteArray) (pu : Nat → ByteArray) (nk : Int) (nn : Int) (ns : ByteArray) (nm : Nat) (nf : Nat → List V) => (([.agg [st pn, .ro 2 pm (fun j => [st (pa j), st (pu j)]), i64 nk, i64 nn, st ns, .ro 4 nm nf]] : List V), ([] : List (Option Chunk)))) x.1 x.2.1 x.2.2.1 x.2.2.2.1 x.2.2.2.2.1 x.2.2.2.2.2.1 x.2.2.2.2.2.2.1 x.2.2.2.2.2.2.2.1 x.2.2.2.2.2.2.2.2)
def R_lawC : g_lawC → CRes := (fun z => (fun (b : Bool) => .ret (bo b) []) z : (Bool) → CRes)
def t_lawC {β : Type} (c_Nodes : a_Nodes → Option g_Nodes) (c_lives : a_lives → Option g_lives) (c_Check : a_Check → Option g_Check) (c_RCheck : a_RCheck → Option g_RCheck) (x : a_lawC) (dn : g_lawC → Option β) : Option β :=
 (c_Nodes ((x.2.2.2.2.1, x.2.2.2.2.2.1, x.2.2.2.2.2.2.1, x.2.2.2.2.2.2.2.1, x.2.2.2.2.2.2.2.2, (300 : Int)))).bind fun z6 =>
  if decide (z6 > (300 : Int)) = true then
   (c_lives ()).bind fun z7 =>
    dn z7
  else
   if decide (((x.2.1 : Nat) : Int) > (40 : Int)) = true then
    (c_lives ()).bind fun z8 =>
     dn z8
   else
    (c_Check x).bind fun z18 =>
     (c_RCheck x).bind fun z28 =>
      if (z18 == z28) = true then
       (c_lives ()).bind fun z29 =>
        dn z29
      else
       dn false
theorem n_lawC {β : Type} (c_Nodes : a_Nodes → Option g_Nodes) (c_lives : a_lives → Option g_lives) (c_Check : a_Check → Option g_Check) (c_RCheck : a_RCheck → Option g_RCheck) (x : a_lawC) (dn : g_lawC → Option β) : t_lawC c_Nodes c_lives c_Check c_RCheck x dn = (t_lawC c_Nodes c_lives c_Check c_RCheck x some).bind dn := by
  unfold t_lawC
  repeat' first | exact free_none | refine free_bind (fun z => ?_) | refine free_ite ?_ ?_ | refine free_sum (fun z => ?_) (fun z => ?_) | rfl
theorem r_lawC (c_Nodes : a_Nodes → Option g_Nodes) (c_lives : a_lives → Option g_lives) (c_Check : a_Check → Option g_Check) (c_RCheck : a_RCheck → Option g_RCheck) (x : a_lawC) : callK E5 (ftab 4 (fun _ _ => true) A_Nodes x_Nodes c_Nodes (ftab 5 (fun _ _ => true) A_lives x_lives c_lives (ftab 6 (fun _ _ => true) A_Check x_Check c_Check (ftab 7 (fun _ _ => true) A_RCheck x_RCheck c_RCheck ca0)))) lo0 3 (A_lawC x).1 (A_lawC x).2 K = t_lawC (fun x => viaF A_Nodes c_Nodes (A_Nodes x)) (fun x => viaF A_lives c_lives (A_lives x)) (fun x => viaF A_Check c_Check (A_Check x)) (fun x => viaF A_RCheck c_RCheck (A_RCheck x)) x (fun z => some (.c (R_lawC z))) := by kernel_rfl
theorem s_lawC (c_Nodes : a_Nodes → Option g_Nodes) (h_Nodes : ∀ x z, c_Nodes x = some z → SC E5 4 (A_Nodes x).1 (A_Nodes x).2 (R_Nodes z)) (c_lives : a_lives → Option g_lives) (h_lives : ∀ x z, c_lives x = some z → SC E5 5 (A_lives x).1 (A_lives x).2 (R_lives z)) (c_Check : a_Check → Option g_Check) (h_Check : ∀ x z, c_Check x = some z → SC E5 6 (A_Check x).1 (A_Check x).2 (R_Check z)) (c_RCheck : a_RCheck → Option g_RCheck) (h_RCheck : ∀ x z, c_RCheck x = some z → SC E5 7 (A_RCheck x).1 (A_RCheck x).2 (R_RCheck z)) (q : Nat) (x : a_lawC) (z : g_lawC) (h : t_lawC c_Nodes c_lives c_Check c_RCheck x some = some z) : SC E5 3 (A_lawC x).1 (A_lawC x).2 (R_lawC z) := by
  refine SC.of hW5 hX5 (ftab_cons h_Nodes xe_Nodes (ftab_cons h_lives xe_lives (ftab_cons h_Check xe_Check (ftab_cons h_RCheck xe_RCheck ca0_sound)))) lo0_sound ((r_lawC c_Nodes c_lives c_Check c_RCheck x).trans ?_)
  rw [via_eq i_Nodes c_Nodes, via_eq i_lives c_lives, via_eq i_Check c_Check, via_eq i_RCheck c_RCheck, n_lawC, h]; rfl
noncomputable def lawC (q : Nat) (x : a_lawC) : Option g_lawC := t_lawC (Nodes q) (lives q) (Check q) (RCheck q) x some
theorem sc_lawC (q : Nat) : ∀ (x : a_lawC) (z : g_lawC), lawC q x = some z → SC E5 3 (A_lawC x).1 (A_lawC x).2 (R_lawC z) := fun x z h => s_lawC (Nodes q) (sc_Nodes q) (lives q) (sc_lives q) (Check q) (sc_Check q) (RCheck q) (sc_RCheck q) q x z h
end Go.Proofs.YtniogljhkjbcgaaGreatDoor
/- The specification's Check on trees as data (plain). -/
namespace Go.Proofs.YtniogljhkjbcgaaGreatDoor
open Go Go.Am Go.Proofs
set_option linter.unusedSimpArgs false
set_option linter.unusedVariables false
set_option maxRecDepth 100000
theorem lastV_none {v : VarT} {s : ByteArray} : ∀ (n : Nat), (∀ j, j < n → v.2.1 j ≠ s) → lastV v n s = none
  | 0, _ => rfl
  | n + 1, h => by
    simp only [lastV]
    rw [if_neg (fun e => h n (by omega) e.symm), lastV_none n fun j hj => h j (by omega)]
theorem lastV_at {v : VarT} (hv : VOk v) {i : Nat} : ∀ (n : Nat), n ≤ v.1 → i < n → lastV v n (v.2.1 i) = some (dimAt v i)
  | 0, _, h => absurd h (by omega)
  | n + 1, hn, h => by
    simp only [lastV]
    by_cases hi : i = n
    · subst hi; rw [if_pos rfl]
    · rw [if_neg (fun e => hv.ne i n (by omega) (by omega) e), lastV_at hv n (by omega) (by omega)]
theorem lastV_hit {v : VarT} {n : Nat} {s : ByteArray} (h : s = v.2.1 n) : lastV v (n + 1) s = some (dimAt v n) := by
  simp only [lastV]; rw [if_pos h]
theorem lastV_miss {v : VarT} {n : Nat} {s : ByteArray} (h : ¬ s = v.2.1 n) : lastV v (n + 1) s = lastV v n s := by
  simp only [lastV]; rw [if_neg h]
def absV (v : VarT) : Sg := (v.1, lastV v v.1)
/-- A table of the variables. -/
def tbV (v : VarT) : TabT := (v.1, (fun s => (lastV v v.1 s).isSome), (fun s => ((lastV v v.1 s).getD (0, 0, 0, 0, 0)).1), (fun s => ((lastV v v.1 s).getD (0, 0, 0, 0, 0)).2.1), (fun s => ((lastV v v.1 s).getD (0, 0, 0, 0, 0)).2.2.1), (fun s => ((lastV v v.1 s).getD (0, 0, 0, 0, 0)).2.2.2.1), (fun s => ((lastV v v.1 s).getD (0, 0, 0, 0, 0)).2.2.2.2))
theorem tbV_tab (v : VarT) : tabOf (tbV v) = lastV v v.1 := by
  funext s
  have key : ∀ o : Option DimT, (if o.isSome = true then some ((o.getD (0, 0, 0, 0, 0)).1, (o.getD (0, 0, 0, 0, 0)).2.1, (o.getD (0, 0, 0, 0, 0)).2.2.1, (o.getD (0, 0, 0, 0, 0)).2.2.2.1, (o.getD (0, 0, 0, 0, 0)).2.2.2.2) else none) = o := by
    intro o; cases o <;> rfl
  exact key _
theorem tbV_TR {v : VarT} (hv : VOk v) : TR v v.1 (tbV v) := by
  intro s
  by_cases h : ∃ j, j < v.1 ∧ v.2.1 j = s
  · obtain ⟨i, hi, rfl⟩ := h
    have e := lastV_at hv v.1 (Nat.le_refl _) hi
    refine ⟨⟨fun _ => ⟨i, hi, rfl⟩, fun _ => by unfold tbV; dsimp only; rw [e]; rfl⟩, fun j hj hs => ?_⟩
    have hji : j = i := by
      rcases Nat.lt_trichotomy j i with g | g | g
      · exact absurd hs (hv.ne j i g hi)
      · exact g
      · exact absurd hs.symm (hv.ne i j g hj)
    subst hji
    unfold tbV
    dsimp only
    rw [e]
    exact ⟨rfl, rfl, rfl, rfl, rfl⟩
  · have e := lastV_none (v := v) (s := s) v.1 fun j hj hs => h ⟨j, hj, hs⟩
    refine ⟨⟨fun g => ?_, fun g => absurd g h⟩, fun j hj hs => absurd ⟨j, hj, hs⟩ h⟩
    unfold tbV at g
    dsimp only at g
    rw [e] at g
    cases g
mutual
theorem rep_open : ∀ (t : Tr) (x : NodeT), Rep t x → OpenA x.2.2.2.1 x.2.2.2.2 ∧ Dp (siz t) x.2.2.2.1 x.2.2.2.2
  | .node k n s l, (k', n', s', m', f), hr => by
    simp only [Rep] at hr
    obtain ⟨rfl, rfl, rfl, rfl, hl, ho, hk⟩ := hr
    have h := repL_open l f 0 hk
    refine ⟨OpenA.of ho fun j hj => ?_, ?_⟩
    · have := (h j hj).1
      rwa [Nat.zero_add] at this
    · simp only [siz]
      rw [Nat.add_comm]
      intro j hj
      have := (h j hj).2
      rwa [Nat.zero_add] at this
theorem repL_open : ∀ (l : List Tr) (f : Nat → List V) (i : Nat), RepL l f i → ∀ j, j < l.length → OpenA (opM f (i + j)) (opF f (i + j)) ∧ Dp (sizL l) (opM f (i + j)) (opF f (i + j))
  | [], _, _, _, j, h => by simp at h
  | t :: l, f, i, h, j, hj => by
    simp only [RepL] at h
    simp only [sizL]
    cases j with
    | zero =>
      have := rep_open t _ h.1
      exact ⟨this.1, this.2.le (by omega)⟩
    | succ j =>
      have := repL_open l f (i + 1) h.2 j (by simpa using hj)
      rw [show i + 1 + j = i + (j + 1) by omega] at this
      exact ⟨this.1, this.2.le (by omega)⟩
end
theorem rof_V {v : VarT} (hv : VOk v) {a : Tr} {x : NodeT} {q : Nat} (h : Rep a x) (hq : siz a + 30 < q) :
    Runs (ROf q (x.1, x.2.1, x.2.2.1, x.2.2.2.1, x.2.2.2.2, v)) (fun z => z = ofV (absV v).2 a ∧ R8 (tyD' z)) := by
  obtain ⟨h1, h2⟩ := rep_open a x h
  obtain ⟨z, g1, g2, g3⟩ := of_both hv (tbV_TR hv) (siz a) q q x.1 x.2.1 x.2.2.1 x.2.2.2.1 x.2.2.2.2 h2 h1 (by omega) (by omega)
  have g4 := of_V (tbV v) a x q h (by omega)
  rw [g1] at g4
  refine ⟨z, g2, ?_, g3⟩
  rw [tbV_tab] at g4
  show z = ofV (lastV v v.1) a
  generalize ofV (lastV v v.1) a = w at g4 ⊢
  obtain ⟨z1, z2, z3, z4, z5, z6, z7⟩ := z
  obtain ⟨w1, w2, w3, w4, w5, w6, w7⟩ := w
  simp only [Option.some.injEq, Prod.mk.injEq] at g4
  obtain ⟨rfl, rfl, rfl, rfl, rfl, rfl, rfl, _⟩ := g4
  rfl
abbrev DecT : Type := g_Decl
def decV (z : DecT) : VarT := (z.1, z.2.1, z.2.2.1, z.2.2.2.1, z.2.2.2.2.1, z.2.2.2.2.2.1, z.2.2.2.2.2.2.1)
def decE (z : DecT) : Int := z.2.2.2.2.2.2.2
def mkD (v : VarT) (e : Int) : DecT := (v.1, v.2.1, v.2.2.1, v.2.2.2.1, v.2.2.2.2.1, v.2.2.2.2.2.1, v.2.2.2.2.2.2, e)
def OutR (r : Int × Sg) (z : DecT) : Prop := decE z = r.1 ∧ (decE z = 0 → VOk (decV z) ∧ absV (decV z) = r.2)
theorem OutR.mk {v : VarT} (hv : VOk v) (e : Int) : OutR (e, absV v) (mkD v e) := ⟨rfl, fun _ => ⟨hv, rfl⟩⟩
theorem OutR.bad {v : VarT} {r : Int × Sg} {e : Int} (h : e = r.1) (h0 : e ≠ 0) : OutR r (mkD v e) := ⟨h, fun g => absurd g h0⟩
theorem decl_V {v : VarT} (hv : VOk v) {s : ByteArray} {d : DimT} (hd : R8 d) {q : Nat} (hq : 20 < q) :
    Runs (Decl q (v.1, v.2.1, v.2.2.1, v.2.2.2.1, v.2.2.2.2.1, v.2.2.2.2.2.1, v.2.2.2.2.2.2, s, d.1, d.2.1, d.2.2.1, d.2.2.2.1, d.2.2.2.2)) (OutR (declV s d (absV v))) := by
  have hn := hv.n
  have key : Runs (DeclN q (v.1, v.2.1, v.2.2.1, v.2.2.2.1, v.2.2.2.2.1, v.2.2.2.2.2.1, v.2.2.2.2.2.2, s, d.1, d.2.1, d.2.2.1, d.2.2.2.1, d.2.2.2.2)) (fun z => OutR (declV s d (absV v)) (cv_Decl z)) := by
    unfold DeclN t_DeclN
    dsimp only
    refine Runs.bind (find_runs (by omega) (by omega)) fun (z : Int) hz => ?_
    rcases hz with ⟨rfl, hno⟩ | ⟨i, hi, rfl, his, _⟩
    · have hnone : ((absV v).2 s).isSome = false := by
        show (lastV v v.1 s).isSome = false
        rw [lastV_none v.1 hno]; rfl
      refine Runs.if_neg (by decide) (Runs.ite (fun h => Runs.some ?_) fun h => Runs.if_pos ⟨by simp only [roomBound]; omega, by simp only [maxLen]; omega, Nat.le_refl _⟩ (Runs.if_pos ⟨by simp only [roomBound]; omega, by simp only [maxLen]; omega, Nat.le_refl _⟩ (Runs.some ?_)))
      · have h : (v.1 : Int) ≥ 12 := by simpa using h
        rw [declV_full (by rw [hnone]; decide) (show v.1 ≥ 12 by omega)]
        exact OutR.bad (v := v) rfl (by decide)
      · have h : ¬ (v.1 : Int) ≥ 12 := by simpa using h
        rw [declV_ok (by rw [hnone]; decide) (show ¬ v.1 ≥ 12 by omega)]
        refine ⟨rfl, fun _ => ?_⟩
        have e0 : ∀ j, (j < 0 + v.1) = (j < v.1) := fun j => by rw [Nat.zero_add]
        have ev : decV (cv_Decl (Sum.inr (0 + v.1 + 1, (fun j => if j < 0 + v.1 then v.2.1 j else s), (fun j => if j < 0 + v.1 then v.2.2.1 j else d.1), (fun j => if j < 0 + v.1 then v.2.2.2.1 j else d.2.1), (fun j => if j < 0 + v.1 then v.2.2.2.2.1 j else d.2.2.1), (fun j => if j < 0 + v.1 then v.2.2.2.2.2.1 j else d.2.2.2.1), (fun j => if j < 0 + v.1 then v.2.2.2.2.2.2 j else d.2.2.2.2)))) = (v.1 + 1, (fun j => if j < v.1 then v.2.1 j else s), (fun j => if j < v.1 then v.2.2.1 j else d.1), (fun j => if j < v.1 then v.2.2.2.1 j else d.2.1), (fun j => if j < v.1 then v.2.2.2.2.1 j else d.2.2.1), (fun j => if j < v.1 then v.2.2.2.2.2.1 j else d.2.2.2.1), (fun j => if j < v.1 then v.2.2.2.2.2.2 j else d.2.2.2.2)) := by
          unfold decV cv_Decl
          simp only [Sum.elim_inr, Nat.zero_add]
        rw [ev]
        refine ⟨⟨by show v.1 + 1 ≤ 12; omega, fun a b hab hb => ?_, fun j hj => ?_⟩, ?_⟩
        · simp only at hb ⊢
          by_cases hb' : b < v.1
          · rw [if_pos (by omega), if_pos hb']; exact hv.ne a b hab hb'
          · rw [if_pos (by omega), if_neg hb']; exact hno a (by omega)
        · simp only at hj ⊢
          by_cases hj' : j < v.1
          · simp only [if_pos hj']; exact hv.d j hj'
          · simp only [if_neg hj']; exact hd
        · unfold absV
          refine Prod.ext rfl ?_
          show lastV _ (v.1 + 1) = putT (lastV v v.1) s d
          funext x
          unfold putT
          have es : (if v.1 < v.1 then v.2.1 v.1 else s) = s := if_neg (Nat.lt_irrefl _)
          by_cases hx : x = s
          · rw [if_pos hx, lastV_hit (show x = (if v.1 < v.1 then v.2.1 v.1 else s) by rw [es]; exact hx)]
            unfold dimAt
            simp only [if_neg (Nat.lt_irrefl _)]
          · rw [if_neg hx, lastV_miss (show ¬ x = (if v.1 < v.1 then v.2.1 v.1 else s) by rw [es]; exact hx)]
            refine congrFun (lastV_congr fun j hj => ⟨?_, ?_⟩) x
            · simp only [if_pos hj]
            · unfold dimAt; simp only [if_pos hj]
    · have hsome : ((absV v).2 s).isSome = true := by
        show (lastV v v.1 s).isSome = true
        rw [← his, lastV_at hv v.1 (Nat.le_refl _) hi]; rfl
      refine Runs.if_pos (by simp) (Runs.some ?_)
      rw [declV_dup hsome]
      exact OutR.bad (v := v) rfl (by decide)
  obtain ⟨z, h1, h2⟩ := key
  unfold Decl
  rw [h1]
  exact ⟨_, rfl, h2⟩
theorem declZ_V {s : ByteArray} {d : DimT} (hd : R8 d) {q : Nat} (hq : 20 < q) : Runs (DeclZR q (s, d.1, d.2.1, d.2.2.1, d.2.2.2.1, d.2.2.2.2)) (OutR (declV s d (0, fun _ => none))) := by
  have key : Runs (DeclZ q (s, d.1, d.2.1, d.2.2.1, d.2.2.2.1, d.2.2.2.2)) (fun z => OutR (declV s d (0, fun _ => none)) (cv_DeclZR z)) := by
    unfold DeclZ t_DeclZ
    dsimp only
    refine Runs.bind (P := fun z : Int => z = -1) ?_ fun (z : Int) hz => ?_
    · obtain ⟨q, rfl⟩ : ∃ k, q = k + 1 := ⟨q - 1, by omega⟩
      unfold FindZ t_FindZ
      refine Runs.bind (P := fun _ => True) (lp_step ?_) fun z _ => Runs.some rfl
      unfold FindZ_l0_t
      exact Runs.some trivial
    · subst hz
      refine Runs.if_neg (by decide) (Runs.some ?_)
      rw [declV_ok (s := s) (g := (0, fun _ => none)) (fun h => by cases h) (show ¬ (0 : Nat) ≥ 12 by omega)]
      refine ⟨rfl, fun _ => ⟨⟨by show 1 ≤ 12; omega, fun i j hij hj => by have hj : j < 1 := hj; omega, fun j hj => hd⟩, ?_⟩⟩
      refine Prod.ext rfl ?_
      funext x
      show lastV _ 1 x = _
      simp only [lastV]
      rfl
  obtain ⟨z, h1, h2⟩ := key
  unfold DeclZR
  rw [h1]
  exact ⟨_, rfl, h2⟩
theorem rcond_V {v : VarT} (hv : VOk v) {a : Tr} {x : NodeT} {q : Nat} (h : Rep a x) (hq : siz a + 30 < q) : Runs (Rcond q (x.1, x.2.1, x.2.2.1, x.2.2.2.1, x.2.2.2.2, v)) (fun (e : Int) => e = condV a (absV v)) := by
  unfold Rcond t_Rcond condV errV
  refine Runs.bind (rof_V hv h hq) fun z hz => ?_
  obtain ⟨rfl, _⟩ := hz
  generalize ofV (absV v).2 a = T
  by_cases he : T.2.2.2.2.2.2 = 0
  · rw [if_pos he]
    refine Runs.if_pos (by simpa using he) (Runs.ite (fun hb => Runs.some ?_) fun hb => Runs.some ?_)
    · rw [if_neg (by simpa using hb)]
    · rw [if_pos (by simpa using hb)]; exact he
  · rw [if_neg he]
    exact Runs.if_neg (by simpa using he) (Runs.some rfl)
theorem rquant_V {v : VarT} (hv : VOk v) {a : Tr} {x : NodeT} {d : DimT} {q : Nat} (h : Rep a x) (hq : siz a + 30 < q) :
    Runs (Rquant q (x.1, x.2.1, x.2.2.1, x.2.2.2.1, x.2.2.2.2, v.1, v.2.1, v.2.2.1, v.2.2.2.1, v.2.2.2.2.1, v.2.2.2.2.2.1, v.2.2.2.2.2.2, d)) (fun (e : Int) => e = quantV a d (absV v)) := by
  unfold Rquant t_Rquant quantV errV
  refine Runs.bind (rof_V hv h hq) fun z hz => ?_
  obtain ⟨rfl, _⟩ := hz
  generalize ofV (absV v).2 a = T
  by_cases he : T.2.2.2.2.2.2 = 0
  · rw [if_pos he]
    refine Runs.if_pos (by simpa using he) ?_
    refine Runs.ite (fun hb => Runs.some (if_pos hb).symm) fun hb => Runs.if_pos (by simpa using he) ?_
    by_cases hd : tyD' T = d
    · exact Runs.if_neg (fun g => (dims_ne.1 g) hd) (Runs.some (by rw [if_neg hb, if_pos hd]; exact he))
    · exact Runs.if_pos (dims_ne.2 hd) (Runs.some (by rw [if_neg hb, if_neg hd]))
  · rw [if_neg he]
    exact Runs.if_neg (by simpa using he) (Runs.if_neg (by simpa using he) (Runs.some rfl))
theorem rvar_V {v : VarT} (hv : VOk v) {k n : Int} {s : ByteArray} {l : List Tr} {f : Nat → List V} {q : Nat} (hr : RepL l f 0) (h : 0 < l.length) (hk : k = 1 ∨ k = 2) (hq : sizL l + 30 < q) : Runs (Rvar q (k, n, s, l.length, opK f, opN f, opS f, opM f, opF f, v)) (OutR (letV k s (hdT l) (absV v))) := by
  obtain ⟨h1, h2⟩ := hd_rep hr h
  have hn := hv.n
  unfold Rvar t_Rvar letV
  dsimp only
  refine Runs.if_pos ⟨by omega, by omega⟩ (Runs.bind (rof_V hv h1 (by omega)) fun z hz => Runs.bind (find_runs (by omega) (by omega)) fun (y : Int) hy => ?_)
  obtain ⟨rfl, h8⟩ := hz
  generalize ofV (absV v).2 (hdT l) = T at h8 ⊢
  by_cases he : T.2.2.2.2.2.2 = 0
  · refine Runs.if_neg (by simpa using he) ?_
    have dcl : Runs ((Decl q (v.1, v.2.1, v.2.2.1, v.2.2.2.1, v.2.2.2.2.1, v.2.2.2.2.2.1, v.2.2.2.2.2.2, s, T.2.1, T.2.2.1, T.2.2.2.1, T.2.2.2.2.1, T.2.2.2.2.2.1)).bind fun z => some z) (OutR (declV s (tyD' T) (absV v))) := Runs.bind (decl_V hv (d := tyD' T) h8 (by omega)) fun z hz => Runs.some hz
    rcases hk with rfl | rfl
    · refine Runs.if_neg (by decide) (Runs.ite (fun hb => ?_) fun hb => Runs.if_neg (by decide) ?_)
      · rw [letT_bool1 he hb]; exact Runs.some (OutR.bad (v := v) rfl (by decide))
      · rw [letT_decl he hb]; exact dcl
    · refine Runs.if_pos (by decide) ?_
      rcases hy with ⟨rfl, hno⟩ | ⟨i, hi, rfl, his, _⟩
      · have e : (absV v).2 s = none := lastV_none v.1 hno
        rw [letT_none he e]
        exact Runs.if_pos (by decide) (Runs.some (OutR.bad (v := v) rfl (by decide)))
      · have e : (absV v).2 s = some (dimAt v i) := by
          show lastV v v.1 s = _
          rw [← his, lastV_at hv v.1 (Nat.le_refl _) hi]
        refine Runs.if_neg (by simp) (Runs.ite (fun hb => ?_) fun hb => Runs.if_pos (by decide) (Runs.if_pos ⟨by omega, by show (i : Int) < ((v.1 : Nat) : Int); omega⟩ ?_))
        · rw [letT_bool he e hb]; exact Runs.some (OutR.bad (v := v) rfl (by decide))
        · simp only [Int.toNat_natCast]
          by_cases hd : dimAt v i = tyD' T
          · rw [letT_same he e hb hd]
            exact Runs.if_neg (fun g => (dims_ne.1 g) hd) (Runs.some (OutR.mk hv 0))
          · rw [letT_diff he e hb hd]
            exact Runs.if_pos (dims_ne.2 hd) (Runs.some (OutR.bad (v := v) rfl (by decide)))
  · rw [letT_err he]
    exact Runs.if_pos (by simpa using he) (Runs.some (OutR.bad (v := v) rfl he))
theorem alV_drop : ∀ (l : List Tr) (g : Sg), alV 1 l g = alV 0 (l.drop 1) g
  | [], g => by rw [alV_nil, List.drop_nil, alV_nil]
  | t :: l, g => by rw [alV_one]; rfl
theorem rblk_loop {c : a_Rstmt → Option g_Rstmt} {l : List Tr} {f : Nat → List V} {nk nn ff : Int} {ns : ByteArray} {v0 : VarT} (hl : l.length ≤ 9223372036854775807)
    (hc : ∀ (j : Nat) (tr : Tr) (v : VarT), VOk v → l[j]? = some tr → Runs (c (opK f j, opN f j, opS f j, opM f j, opF f j, v)) (OutR (stV tr (absV v)))) :
    ∀ (r q i : Nat) (v : VarT), i + r = max l.length i → r < q → VOk v → Runs (RblkN_l0 c q (nk, nn, ns, l.length, opK f, opN f, opS f, opM f, opF f, ff, v0) (mkD v (i : Int))) (fun z => OutR (alV 0 (l.drop i) (absV v)) (Sum.elim id (fun v => mkD v 0) z)) := by
  intro r
  induction r with
  | zero =>
    intro q i v hi hq hv
    obtain ⟨q, rfl⟩ : ∃ k, q = k + 1 := ⟨q - 1, by omega⟩
    refine lp_step ?_
    unfold RblkN_l0_t
    rw [List.drop_of_length_le (by omega), alV_nil]
    exact Runs.if_neg (show ¬ decide ((i : Int) < (l.length : Int)) = true by simp only [decide_eq_true_eq]; omega) (Runs.some (OutR.mk hv 0))
  | succ r ih =>
    intro q i v hi hq hv
    obtain ⟨q, rfl⟩ : ∃ k, q = k + 1 := ⟨q - 1, by omega⟩
    refine lp_step ?_
    unfold RblkN_l0_t
    have hil : i < l.length := by omega
    have ht : l[i]? = some l[i] := List.getElem?_eq_getElem hil
    rw [List.drop_eq_getElem_cons hil, alV_cons]
    refine Runs.if_pos (show decide ((i : Int) < (l.length : Int)) = true by simp only [decide_eq_true_eq]; omega) (Runs.if_pos (show (0 : Int) ≤ (i : Int) ∧ (i : Int) < (l.length : Int) from ⟨by omega, by omega⟩) ?_)
    refine Runs.bind (P := OutR (stV l[i] (absV v))) (hc i _ v hv ht) fun z hz => ?_
    have ew : w (((mkD v (i : Int)).2.2.2.2.2.2.2) + 1) = ((i + 1 : Nat) : Int) := w_succ (by omega)
    rw [ew]
    obtain ⟨h1, h2⟩ := hz
    refine Runs.ite (fun h => Runs.some ?_) fun h => Runs.some ?_
    · have h : ¬ z.2.2.2.2.2.2.2 = 0 := by simpa using h
      have h : ¬ decE z = 0 := h
      rw [if_neg (by rw [← h1]; exact h)]
      exact OutR.bad (v := v) (e := decE z) h1 h
    · have h : z.2.2.2.2.2.2.2 = 0 := by simpa using h
      have h : decE z = 0 := h
      obtain ⟨h3, h4⟩ := h2 h
      rw [if_pos (by rw [← h1]; exact h), ← h4]
      exact ih q (i + 1) (decV z) (by omega) (by omega) h3
theorem rSB_V : ∀ q : Nat, (∀ (tr : Tr) (x : NodeT) (v : VarT), VOk v → Rep tr x → 2 * siz tr + 40 < q → siz tr ≤ 1000 → Runs (Rstmt q (x.1, x.2.1, x.2.2.1, x.2.2.2.1, x.2.2.2.2, v)) (OutR (stV tr (absV v)))) ∧
    (∀ (l : List Tr) (f : Nat → List V) (k n : Int) (s : ByteArray) (i : Nat) (v : VarT), VOk v → i ≤ 1 → RepL l f 0 → OpenN f → 2 * sizL l + 41 < q → sizL l ≤ 1000 → Runs (Rblk q (k, n, s, l.length, f, (i : Int), v)) (OutR (alV i l (absV v)))) := by
  intro q
  induction q with
  | zero => exact ⟨fun _ _ _ _ _ h => by omega, fun _ _ _ _ _ _ _ _ _ _ _ h => by omega⟩
  | succ q ih =>
    obtain ⟨ih1, ih2⟩ := ih
    refine ⟨?_, ?_⟩
    · rintro ⟨k, n, s, l⟩ ⟨k', n', s', m', f⟩ v hv hr hq hm
      simp only [Rep] at hr
      obtain ⟨rfl, rfl, rfl, rfl, hl, ho, hk⟩ := hr
      simp only [siz] at hq hm
      unfold Rstmt rSB
      dsimp only
      rw [_root_.if_pos ho]
      unfold t_RstmtN
      dsimp only
      refine Runs.bind (P := fun b => b = wfV k' l) (wellF_V q k' n' s' hk) fun b hb => ?_
      subst hb
      rw [stV_node]
      by_cases hw : wfV k' l = false
      · rw [if_pos hw]
        exact Runs.if_pos (by rw [hw]; rfl) (Runs.some (OutR.mk hv 7))
      rw [if_neg hw]
      have hw' : wfV k' l = true := by simpa using hw
      obtain ⟨w1, w2, w3⟩ := wf_len hw'
      refine Runs.if_neg (by rw [hw']; decide) (Runs.bind (P := fun b => b = rgV k' n') (inRange_V q k' n' s' l.length _) fun b hb => ?_)
      subst hb
      by_cases hg : rgV k' n' = false
      · rw [if_pos hg]
        exact Runs.if_pos (by rw [hg]; rfl) (Runs.some (OutR.mk hv 5))
      rw [if_neg hg]
      have hg' : rgV k' n' = true := by simpa using hg
      refine Runs.if_neg (by rw [hg']; decide) ?_
      have allC : ∀ (i : Nat), i ≤ 1 → Runs (((rSB q).2 (k', n', s', l.length, fun j => [i64 (opK f j), i64 (opN f j), st (opS f j), V.ro 4 (opM f j) (opF f j)], (i : Int), v)).bind fun z => some z) (OutR (alV i l (absV v))) := fun i hi => by
        rw [open_eq ho]
        exact Runs.bind (ih2 l f k' n' s' i v hv hi hk ho (by omega) (by omega)) fun z hz => Runs.some hz
      by_cases h14 : k' = 14
      · rw [if_neg (show ¬ (k' = 1 ∨ k' = 2) by omega), if_neg (show ¬ k' = 7 by omega), if_neg (show ¬ k' = 8 by omega), if_neg (show ¬ (k' = 5 ∨ k' = 9) by omega), if_neg (show ¬ (k' = 10 ∨ k' = 11) by omega), if_neg (show ¬ k' = 6 by omega), if_neg (show ¬ k' = 3 by omega)]
        exact Runs.if_pos (by simpa using h14) (allC 0 (by omega))
      refine Runs.if_neg (by simpa using h14) ?_
      by_cases h4 : k' = 4
      · rw [if_neg (show ¬ (k' = 1 ∨ k' = 2) by omega), if_neg (show ¬ k' = 7 by omega), if_neg (show ¬ k' = 8 by omega), if_neg (show ¬ (k' = 5 ∨ k' = 9) by omega), if_neg (show ¬ (k' = 10 ∨ k' = 11) by omega), if_neg (show ¬ k' = 6 by omega), if_neg (show ¬ k' = 3 by omega)]
        exact Runs.if_pos (by simpa using h4) (allC 0 (by omega))
      refine Runs.if_neg (by simpa using h4) ?_
      by_cases h1 : k' = 1
      · rw [if_pos (show k' = 1 ∨ k' = 2 by omega)]
        exact Runs.if_pos (by simpa using h1) (Runs.bind (rvar_V hv hk (w1 (by omega)) (.inl h1) (by omega)) fun z hz => Runs.some hz)
      refine Runs.if_neg (by simpa using h1) ?_
      by_cases h2 : k' = 2
      · rw [if_pos (show k' = 1 ∨ k' = 2 by omega)]
        exact Runs.if_pos (by simpa using h2) (Runs.bind (rvar_V hv hk (w1 (by omega)) (.inr h2) (by omega)) fun z hz => Runs.some hz)
      rw [if_neg (show ¬ (k' = 1 ∨ k' = 2) by omega)]
      refine Runs.if_neg (by simpa using h2) ?_
      by_cases h3 : k' = 3
      · rw [if_neg (show ¬ k' = 7 by omega), if_neg (show ¬ k' = 8 by omega), if_neg (show ¬ (k' = 5 ∨ k' = 9) by omega), if_neg (show ¬ (k' = 10 ∨ k' = 11) by omega), if_neg (show ¬ k' = 6 by omega), if_pos h3]
        obtain ⟨g1, g2⟩ := hd_rep hk (w1 (by omega))
        have hlen := w3 h3
        refine Runs.if_pos (by simpa using h3) (Runs.if_pos ⟨by omega, by omega⟩ (Runs.bind (rcond_V hv g1 (by omega)) fun (z : Int) hz => ?_))
        subst hz
        refine Runs.ite (fun h => Runs.some ?_) fun h => ?_
        · have h : ¬ condV (hdT l) (absV v) = 0 := by simpa using h
          rw [if_neg h]
          exact OutR.mk hv _
        · have h : condV (hdT l) (absV v) = 0 := by simpa using h
          rw [if_pos h]
          exact allC 1 (by omega)
      refine Runs.if_neg (by simpa using h3) ?_
      by_cases h6 : k' = 6
      · rw [if_neg (show ¬ k' = 7 by omega), if_neg (show ¬ k' = 8 by omega), if_neg (show ¬ (k' = 5 ∨ k' = 9) by omega), if_neg (show ¬ (k' = 10 ∨ k' = 11) by omega), if_pos h6]
        obtain ⟨g1, g2⟩ := hd_rep hk (w1 (by omega))
        obtain ⟨g3, g4⟩ := sd_rep hk (w2 h6)
        refine Runs.if_pos (by simpa using h6) (Runs.if_pos ⟨by omega, by have := w1 (by omega); omega⟩ (Runs.bind (rcond_V hv g1 (by omega)) fun (z : Int) hz => ?_))
        subst hz
        refine Runs.ite (fun h => Runs.some ?_) fun h => Runs.if_pos ⟨by omega, by have := w2 h6; omega⟩ ?_
        · have h : ¬ condV (hdT l) (absV v) = 0 := by simpa using h
          rw [if_neg h]
          exact OutR.mk hv _
        · have h : condV (hdT l) (absV v) = 0 := by simpa using h
          rw [if_pos h]
          exact Runs.bind (rquant_V hv (d := (0, 0, 1, 0, 0)) g3 (by omega)) fun (z : Int) hz => Runs.some (by subst hz; exact OutR.mk hv _)
      refine Runs.if_neg (by simpa using h6) ?_
      by_cases h7 : k' = 7
      · rw [if_pos h7]
        obtain ⟨g1, g2⟩ := hd_rep hk (w1 (by omega))
        exact Runs.if_pos (by simpa using h7) (Runs.if_pos ⟨by omega, by have := w1 (by omega); omega⟩ (Runs.bind (rcond_V hv g1 (by omega)) fun (z : Int) hz => Runs.some (by subst hz; exact OutR.mk hv _)))
      rw [if_neg h7]
      refine Runs.if_neg (by simpa using h7) ?_
      have qq : ∀ {d : DimT}, (k' = 8 ∨ k' = 5 ∨ k' = 9 ∨ k' = 10 ∨ k' = 11) → Runs (if (0 : Int) ≤ (0 : Int) ∧ (0 : Int) < ((l.length : Nat) : Int) then (Rquant q (opK f 0, opN f 0, opS f 0, opM f 0, opF f 0, v.1, v.2.1, v.2.2.1, v.2.2.2.1, v.2.2.2.2.1, v.2.2.2.2.2.1, v.2.2.2.2.2.2, d)).bind fun z => some (mkD v z) else none) (OutR (quantV (hdT l) d (absV v), absV v)) := fun {d} hkk => by
        obtain ⟨g1, g2⟩ := hd_rep hk (w1 (by omega))
        exact Runs.if_pos ⟨by omega, by have := w1 (by omega); omega⟩ (Runs.bind (rquant_V hv (d := d) g1 (by omega)) fun (z : Int) hz => Runs.some (by subst hz; exact OutR.mk hv _))
      by_cases h8 : k' = 8
      · rw [if_pos h8]
        exact Runs.if_pos (by simpa using h8) (qq (d := (0, 0, 0, 1, 0)) (by omega))
      rw [if_neg h8]
      refine Runs.if_neg (by simpa using h8) ?_
      by_cases h5 : k' = 5
      · rw [if_pos (show k' = 5 ∨ k' = 9 by omega)]
        exact Runs.if_pos (by simpa using h5) (qq (d := (0, 0, 1, 0, 0)) (by omega))
      refine Runs.if_neg (by simpa using h5) ?_
      by_cases h9 : k' = 9
      · rw [if_pos (show k' = 5 ∨ k' = 9 by omega)]
        exact Runs.if_pos (by simpa using h9) (qq (d := (0, 0, 1, 0, 0)) (by omega))
      rw [if_neg (show ¬ (k' = 5 ∨ k' = 9) by omega)]
      refine Runs.if_neg (by simpa using h9) ?_
      by_cases h10 : k' = 10
      · rw [if_pos (show k' = 10 ∨ k' = 11 by omega)]
        exact Runs.if_pos (by simpa using h10) (qq (d := (0, 1, 0, 0, 0)) (by omega))
      refine Runs.if_neg (by simpa using h10) ?_
      by_cases h11 : k' = 11
      · rw [if_pos (show k' = 10 ∨ k' = 11 by omega)]
        exact Runs.if_pos (by simpa using h11) (qq (d := (0, 1, 0, 0, 0)) (by omega))
      rw [if_neg (show ¬ (k' = 10 ∨ k' = 11) by omega), if_neg h6, if_neg h3]
      refine Runs.if_neg (by simpa using h11) (Runs.some ?_)
      have hl0 : l = [] := by
        unfold wfV at hw'
        rw [if_neg h14, if_neg (show ¬ (k' = 1 ∨ k' = 2 ∨ k' = 7 ∨ k' = 8) by omega), if_neg (show ¬ (k' = 5 ∨ k' = 11 ∨ k' = 9 ∨ k' = 10) by omega), if_neg h6, if_neg h3, if_neg h4] at hw'
        split at hw'
        · exact List.length_eq_zero_iff.1 (by simpa using hw')
        · cases hw'
      subst hl0
      rw [alV_nil]
      exact OutR.mk hv 0
    · intro l f k n s i v hv hi hk ho hq hm
      unfold Rblk rSB
      dsimp only
      rw [_root_.if_pos ho]
      unfold t_RblkN
      have hlen := sizL_len l
      refine Runs.bind (rblk_loop (v0 := v) (by omega) (fun j tr v' hv' hj => ?_) (max l.length i - i) q i v (by omega) (by omega) hv) fun z hz => ?_
      · have h1 := repL_at l f 0 hk j tr hj
        rw [Nat.zero_add] at h1
        have h2 := sizL_at l j tr hj
        exact ih1 tr (kidAt f j) v' hv' h1 (by omega) (by omega)
      · have e : alV i l (absV v) = alV 0 (l.drop i) (absV v) := by
          rcases (show i = 0 ∨ i = 1 by omega) with rfl | rfl
          · rfl
          · exact alV_drop l _
        rw [e]
        rcases z with z | z
        · exact Runs.some hz
        · exact Runs.some hz
end Go.Proofs.YtniogljhkjbcgaaGreatDoor
