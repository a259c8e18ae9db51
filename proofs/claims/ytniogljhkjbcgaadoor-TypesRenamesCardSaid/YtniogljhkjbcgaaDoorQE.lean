/- Texts joined. -/
import Derived.Test.YtniogljhkjbcgaaDoorQD
import Derived.Test.YtniogljhkjbcgaaDoorQC
/- Check, lifted. -/
namespace Go.Proofs.YtniogljhkjbcgaaDoor
open Go Go.Am Go.Proofs
set_option linter.unusedSimpArgs false
set_option linter.unusedVariables false
set_option maxRecDepth 100000
abbrev a_declare : Type := ByteArray × Int × Int × Int × Int × Int × Nat × (ByteArray → Bool) × (ByteArray → Int) × (ByteArray → Int) × (ByteArray → Int) × (ByteArray → Int) × (ByteArray → Int)
abbrev g_declare : Type := Int × Nat × (ByteArray → Bool) × (ByteArray → Int) × (ByteArray → Int) × (ByteArray → Int) × (ByteArray → Int) × (ByteArray → Int)
def A_declare : a_declare → List V × List (Option Chunk) := (fun x => (fun (s : ByteArray) (d0 : Int) (d1 : Int) (d2 : Int) (d3 : Int) (d4 : Int) (mn : Nat) (mh : ByteArray → Bool) (m0 : ByteArray → Int) (m1 : ByteArray → Int) (m2 : ByteArray → Int) (m3 : ByteArray → Int) (m4 : ByteArray → Int) => (([.ptr 0 0, st s, .agg [i64 d0, i64 d1, i64 d2, i64 d3, i64 d4]] : List V), ([some (.blk [.mp 1]), some (.smap mn mh (fun j => .agg [i64 (m0 j), i64 (m1 j), i64 (m2 j), i64 (m3 j), i64 (m4 j)]))] : List (Option Chunk)))) x.1 x.2.1 x.2.2.1 x.2.2.2.1 x.2.2.2.2.1 x.2.2.2.2.2.1 x.2.2.2.2.2.2.1 x.2.2.2.2.2.2.2.1 x.2.2.2.2.2.2.2.2.1 x.2.2.2.2.2.2.2.2.2.1 x.2.2.2.2.2.2.2.2.2.2.1 x.2.2.2.2.2.2.2.2.2.2.2.1 x.2.2.2.2.2.2.2.2.2.2.2.2)
def d_declare (t : List V × List (Option Chunk)) : a_declare := ((vS (t.1.getD 1 .junk)), (vI ((vAg (t.1.getD 2 .junk)).getD 0 .junk)), (vI ((vAg (t.1.getD 2 .junk)).getD 1 .junk)), (vI ((vAg (t.1.getD 2 .junk)).getD 2 .junk)), (vI ((vAg (t.1.getD 2 .junk)).getD 3 .junk)), (vI ((vAg (t.1.getD 2 .junk)).getD 4 .junk)), (smN (t.2.getD 1 none)), (smH (t.2.getD 1 none)), (fun j => (vI ((vAg ((smF (t.2.getD 1 none)) j)).getD 0 .junk))), (fun j => (vI ((vAg ((smF (t.2.getD 1 none)) j)).getD 1 .junk))), (fun j => (vI ((vAg ((smF (t.2.getD 1 none)) j)).getD 2 .junk))), (fun j => (vI ((vAg ((smF (t.2.getD 1 none)) j)).getD 3 .junk))), (fun j => (vI ((vAg ((smF (t.2.getD 1 none)) j)).getD 4 .junk))))
theorem i_declare : ∀ x y, A_declare x = A_declare y → x = y := fun x y h => (congrArg d_declare h :)
def R_declare : g_declare → CRes := (fun z => (fun (e : Int) (mn : Nat) (mh : ByteArray → Bool) (m0 : ByteArray → Int) (m1 : ByteArray → Int) (m2 : ByteArray → Int) (m3 : ByteArray → Int) (m4 : ByteArray → Int) => .ret (i64 e) [some (.blk [.mp 1]), some (.smap mn mh (fun j => .agg [i64 (m0 j), i64 (m1 j), i64 (m2 j), i64 (m3 j), i64 (m4 j)]))]) z.1 z.2.1 z.2.2.1 z.2.2.2.1 z.2.2.2.2.1 z.2.2.2.2.2.1 z.2.2.2.2.2.2.1 z.2.2.2.2.2.2.2 : (Int × Nat × (ByteArray → Bool) × (ByteArray → Int) × (ByteArray → Int) × (ByteArray → Int) × (ByteArray → Int) × (ByteArray → Int)) → CRes)
def x_declare (z : g_declare) (k : CRes → Option Ans) : Option Ans := k (R_declare z)
theorem xe_declare : ∀ z k, x_declare z k = k (R_declare z) := fun z k => rfl
def t_declare {β : Type} (x : a_declare) (dn : g_declare → Option β) : Option β :=
 if x.2.2.2.2.2.2.2.1 (x.1) = true then
  dn (((4 : Int), x.2.2.2.2.2.2))
 else
  if decide (((x.2.2.2.2.2.2.1 : Nat) : Int) ≥ (12 : Int)) = true then
   dn (((2 : Int), x.2.2.2.2.2.2))
  else
   dn (((0 : Int), if x.2.2.2.2.2.2.2.1 (x.1) = true then x.2.2.2.2.2.2.1 else x.2.2.2.2.2.2.1 + 1, fun (q : ByteArray) => q == x.1 || x.2.2.2.2.2.2.2.1 q, fun (j : ByteArray) => if (j == x.1) = true then x.2.1 else x.2.2.2.2.2.2.2.2.1 j, fun (j : ByteArray) => if (j == x.1) = true then x.2.2.1 else x.2.2.2.2.2.2.2.2.2.1 j, fun (j : ByteArray) => if (j == x.1) = true then x.2.2.2.1 else x.2.2.2.2.2.2.2.2.2.2.1 j, fun (j : ByteArray) => if (j == x.1) = true then x.2.2.2.2.1 else x.2.2.2.2.2.2.2.2.2.2.2.1 j, fun (j : ByteArray) => if (j == x.1) = true then x.2.2.2.2.2.1 else x.2.2.2.2.2.2.2.2.2.2.2.2 j))
theorem n_declare {β : Type} (x : a_declare) (dn : g_declare → Option β) : t_declare x dn = (t_declare x some).bind dn := by
  unfold t_declare
  repeat' first | exact free_none | refine free_bind (fun z => ?_) | refine free_ite ?_ ?_ | refine free_sum (fun z => ?_) (fun z => ?_) | rfl
theorem r_declare (x : a_declare) : callK E5 ca0 lo0 37 (A_declare x).1 (A_declare x).2 K = t_declare x (fun z => some (.c (R_declare z))) := by kernel_rfl
theorem s_declare (q : Nat) (x : a_declare) (z : g_declare) (h : t_declare x some = some z) : SC E5 37 (A_declare x).1 (A_declare x).2 (R_declare z) := by
  refine SC.of hW5 hX5 ca0_sound lo0_sound ((r_declare x).trans ?_)
  rw [n_declare, h]; rfl
noncomputable def declare (q : Nat) (x : a_declare) : Option g_declare := t_declare x some
theorem sc_declare (q : Nat) : ∀ (x : a_declare) (z : g_declare), declare q x = some z → SC E5 37 (A_declare x).1 (A_declare x).2 (R_declare z) := fun x z h => s_declare q x z h
abbrev a_wellF : Type := Int × Int × ByteArray × Nat × (Nat → Int) × (Nat → Int) × (Nat → ByteArray) × (Nat → Nat) × (Nat → Nat → List V)
abbrev g_wellF : Type := Bool
def A_wellF : a_wellF → List V × List (Option Chunk) := (fun x => (fun (nk : Int) (nn : Int) (ns : ByteArray) (nm : Nat) (ek : Nat → Int) (en : Nat → Int) (es : Nat → ByteArray) (em : Nat → Nat) (ef : Nat → Nat → List V) => (([.agg [i64 nk, i64 nn, st ns, .ro 4 nm (fun j => [i64 (ek j), i64 (en j), st (es j), .ro 4 (em j) (ef j)])]] : List V), ([] : List (Option Chunk)))) x.1 x.2.1 x.2.2.1 x.2.2.2.1 x.2.2.2.2.1 x.2.2.2.2.2.1 x.2.2.2.2.2.2.1 x.2.2.2.2.2.2.2.1 x.2.2.2.2.2.2.2.2)
def d_wellF (t : List V × List (Option Chunk)) : a_wellF := ((vI ((vAg (t.1.getD 0 .junk)).getD 0 .junk)), (vI ((vAg (t.1.getD 0 .junk)).getD 1 .junk)), (vS ((vAg (t.1.getD 0 .junk)).getD 2 .junk)), (vRoN ((vAg (t.1.getD 0 .junk)).getD 3 .junk)), (fun j => (vI (((vRoF ((vAg (t.1.getD 0 .junk)).getD 3 .junk)) j).getD 0 .junk))), (fun j => (vI (((vRoF ((vAg (t.1.getD 0 .junk)).getD 3 .junk)) j).getD 1 .junk))), (fun j => (vS (((vRoF ((vAg (t.1.getD 0 .junk)).getD 3 .junk)) j).getD 2 .junk))), (fun j => (vRoN (((vRoF ((vAg (t.1.getD 0 .junk)).getD 3 .junk)) j).getD 3 .junk))), (fun j => (vRoF (((vRoF ((vAg (t.1.getD 0 .junk)).getD 3 .junk)) j).getD 3 .junk))))
theorem i_wellF : ∀ x y, A_wellF x = A_wellF y → x = y := fun x y h => (congrArg d_wellF h :)
def R_wellF : g_wellF → CRes := (fun z => (fun (b : Bool) => .ret (bo b) []) z : (Bool) → CRes)
def x_wellF (z : g_wellF) (k : CRes → Option Ans) : Option Ans := k (R_wellF z)
theorem xe_wellF : ∀ z k, x_wellF z k = k (R_wellF z) := fun z k => rfl
def t_wellF {β : Type} (x : a_wellF) (dn : g_wellF → Option β) : Option β :=
 if (x.1 == (14 : Int)) = true then
  dn true
 else
  if (x.1 == (1 : Int)) = true then
   dn (((x.2.2.2.1 : Nat) : Int) == (1 : Int))
  else
   if (x.1 == (2 : Int)) = true then
    dn (((x.2.2.2.1 : Nat) : Int) == (1 : Int))
   else
    if (x.1 == (7 : Int)) = true then
     dn (((x.2.2.2.1 : Nat) : Int) == (1 : Int))
    else
     if (x.1 == (8 : Int)) = true then
      dn (((x.2.2.2.1 : Nat) : Int) == (1 : Int))
     else
      if (x.1 == (5 : Int)) = true then
       if (((x.2.2.2.1 : Nat) : Int) == (1 : Int)) = true then
        if (0 : Int) ≤ (0 : Int) ∧ (0 : Int) < ((x.2.2.2.1 : Nat) : Int) then
         dn (x.2.2.2.2.1 0 == (15 : Int))
        else
         none
       else
        dn false
      else
       if (x.1 == (11 : Int)) = true then
        if (((x.2.2.2.1 : Nat) : Int) == (1 : Int)) = true then
         if (0 : Int) ≤ (0 : Int) ∧ (0 : Int) < ((x.2.2.2.1 : Nat) : Int) then
          dn (x.2.2.2.2.1 0 == (15 : Int))
         else
          none
        else
         dn false
       else
        if (x.1 == (9 : Int)) = true then
         if (((x.2.2.2.1 : Nat) : Int) == (1 : Int)) = true then
          if (0 : Int) ≤ (0 : Int) ∧ (0 : Int) < ((x.2.2.2.1 : Nat) : Int) then
           dn (x.2.2.2.2.1 0 == (15 : Int))
          else
           none
         else
          dn false
        else
         if (x.1 == (10 : Int)) = true then
          if (((x.2.2.2.1 : Nat) : Int) == (1 : Int)) = true then
           if (0 : Int) ≤ (0 : Int) ∧ (0 : Int) < ((x.2.2.2.1 : Nat) : Int) then
            dn (x.2.2.2.2.1 0 == (15 : Int))
           else
            none
          else
           dn false
         else
          if (x.1 == (6 : Int)) = true then
           if (((x.2.2.2.1 : Nat) : Int) == (2 : Int)) = true then
            if (0 : Int) ≤ (1 : Int) ∧ (1 : Int) < ((x.2.2.2.1 : Nat) : Int) then
             dn (x.2.2.2.2.1 1 == (15 : Int))
            else
             none
           else
            dn false
          else
           if (x.1 == (3 : Int)) = true then
            if (((x.2.2.2.1 : Nat) : Int) == (3 : Int)) = true then
             if (0 : Int) ≤ (1 : Int) ∧ (1 : Int) < ((x.2.2.2.1 : Nat) : Int) then
              if (x.2.2.2.2.1 1 == (14 : Int)) = true then
               if (0 : Int) ≤ (2 : Int) ∧ (2 : Int) < ((x.2.2.2.1 : Nat) : Int) then
                dn (x.2.2.2.2.1 2 == (14 : Int))
               else
                none
              else
               dn false
             else
              none
            else
             dn false
           else
            if (x.1 == (4 : Int)) = true then
             if (((x.2.2.2.1 : Nat) : Int) == (1 : Int)) = true then
              if (0 : Int) ≤ (0 : Int) ∧ (0 : Int) < ((x.2.2.2.1 : Nat) : Int) then
               dn (x.2.2.2.2.1 0 == (14 : Int))
              else
               none
             else
              dn false
            else
             if (x.1 == (12 : Int)) = true then
              dn (((x.2.2.2.1 : Nat) : Int) == (0 : Int))
             else
              if (x.1 == (13 : Int)) = true then
               dn (((x.2.2.2.1 : Nat) : Int) == (0 : Int))
              else
               dn false
theorem n_wellF {β : Type} (x : a_wellF) (dn : g_wellF → Option β) : t_wellF x dn = (t_wellF x some).bind dn := by
  unfold t_wellF
  repeat' first | exact free_none | refine free_bind (fun z => ?_) | refine free_ite ?_ ?_ | refine free_sum (fun z => ?_) (fun z => ?_) | rfl
theorem r_wellF (x : a_wellF) : callK E5 (callG E5 20) lo0 53 (A_wellF x).1 (A_wellF x).2 K = t_wellF x (fun z => some (.c (R_wellF z))) := by kernel_rfl
theorem s_wellF (q : Nat) (x : a_wellF) (z : g_wellF) (h : t_wellF x some = some z) : SC E5 53 (A_wellF x).1 (A_wellF x).2 (R_wellF z) := by
  refine SC.of hW5 hX5 (sound_G hW5 hX5 20).1 lo0_sound ((r_wellF x).trans ?_)
  rw [n_wellF, h]; rfl
noncomputable def wellF (q : Nat) (x : a_wellF) : Option g_wellF := t_wellF x some
theorem sc_wellF (q : Nat) : ∀ (x : a_wellF) (z : g_wellF), wellF q x = some z → SC E5 53 (A_wellF x).1 (A_wellF x).2 (R_wellF z) := fun x z h => s_wellF q x z h
abbrev a_inRange : Type := Int × Int × ByteArray × Nat × (Nat → List V)
abbrev g_inRange : Type := Bool
def A_inRange : a_inRange → List V × List (Option Chunk) := (fun x => (fun (nk : Int) (nn : Int) (ns : ByteArray) (nm : Nat) (nf : Nat → List V) => (([.agg [i64 nk, i64 nn, st ns, .ro 4 nm nf]] : List V), ([] : List (Option Chunk)))) x.1 x.2.1 x.2.2.1 x.2.2.2.1 x.2.2.2.2)
def d_inRange (t : List V × List (Option Chunk)) : a_inRange := ((vI ((vAg (t.1.getD 0 .junk)).getD 0 .junk)), (vI ((vAg (t.1.getD 0 .junk)).getD 1 .junk)), (vS ((vAg (t.1.getD 0 .junk)).getD 2 .junk)), (vRoN ((vAg (t.1.getD 0 .junk)).getD 3 .junk)), (vRoF ((vAg (t.1.getD 0 .junk)).getD 3 .junk)))
theorem i_inRange : ∀ x y, A_inRange x = A_inRange y → x = y := fun x y h => (congrArg d_inRange h :)
def R_inRange : g_inRange → CRes := (fun z => (fun (b : Bool) => .ret (bo b) []) z : (Bool) → CRes)
def x_inRange (z : g_inRange) (k : CRes → Option Ans) : Option Ans := k (R_inRange z)
theorem xe_inRange : ∀ z k, x_inRange z k = k (R_inRange z) := fun z k => rfl
def t_inRange {β : Type} (x : a_inRange) (dn : g_inRange → Option β) : Option β :=
 if (x.1 == (4 : Int)) = true then
  if decide (x.2.1 ≥ (1 : Int)) = true then
   dn (decide (x.2.1 ≤ (100 : Int)))
  else
   dn false
 else
  if (x.1 == (9 : Int)) = true then
   if decide (x.2.1 ≥ (0 : Int)) = true then
    dn (decide (x.2.1 ≤ (7 : Int)))
   else
    dn false
  else
   if (x.1 == (10 : Int)) = true then
    if decide (x.2.1 ≥ (0 : Int)) = true then
     dn (decide (x.2.1 ≤ (7 : Int)))
    else
     dn false
   else
    if (x.1 == (12 : Int)) = true then
     if decide (x.2.1 ≥ (0 : Int)) = true then
      dn (decide (x.2.1 ≤ (99 : Int)))
     else
      dn false
    else
     if (x.1 == (13 : Int)) = true then
      if decide (x.2.1 ≥ (0 : Int)) = true then
       dn (decide (x.2.1 ≤ (999 : Int)))
      else
       dn false
     else
      dn true
theorem n_inRange {β : Type} (x : a_inRange) (dn : g_inRange → Option β) : t_inRange x dn = (t_inRange x some).bind dn := by
  unfold t_inRange
  repeat' first | exact free_none | refine free_bind (fun z => ?_) | refine free_ite ?_ ?_ | refine free_sum (fun z => ?_) (fun z => ?_) | rfl
theorem r_inRange (x : a_inRange) : callK E5 ca0 lo0 54 (A_inRange x).1 (A_inRange x).2 K = t_inRange x (fun z => some (.c (R_inRange z))) := by kernel_rfl
theorem s_inRange (q : Nat) (x : a_inRange) (z : g_inRange) (h : t_inRange x some = some z) : SC E5 54 (A_inRange x).1 (A_inRange x).2 (R_inRange z) := by
  refine SC.of hW5 hX5 ca0_sound lo0_sound ((r_inRange x).trans ?_)
  rw [n_inRange, h]; rfl
noncomputable def inRange (q : Nat) (x : a_inRange) : Option g_inRange := t_inRange x some
theorem sc_inRange (q : Nat) : ∀ (x : a_inRange) (z : g_inRange), inRange q x = some z → SC E5 54 (A_inRange x).1 (A_inRange x).2 (R_inRange z) := fun x z h => s_inRange q x z h
abbrev a_cond : Type := Int × Int × ByteArray × Nat × (Nat → List V) × Nat × (ByteArray → Bool) × (ByteArray → Int) × (ByteArray → Int) × (ByteArray → Int) × (ByteArray → Int) × (ByteArray → Int)
abbrev g_cond : Type := Int × Nat × (ByteArray → Bool) × (ByteArray → Int) × (ByteArray → Int) × (ByteArray → Int) × (ByteArray → Int) × (ByteArray → Int)
def A_cond : a_cond → List V × List (Option Chunk) := (fun x => (fun (nk : Int) (nn : Int) (ns : ByteArray) (nm : Nat) (nf : Nat → List V) (mn : Nat) (mh : ByteArray → Bool) (m0 : ByteArray → Int) (m1 : ByteArray → Int) (m2 : ByteArray → Int) (m3 : ByteArray → Int) (m4 : ByteArray → Int) => (([.ptr 0 0, .agg [i64 nk, i64 nn, st ns, .ro 4 nm nf]] : List V), ([some (.blk [.mp 1]), some (.smap mn mh (fun j => .agg [i64 (m0 j), i64 (m1 j), i64 (m2 j), i64 (m3 j), i64 (m4 j)]))] : List (Option Chunk)))) x.1 x.2.1 x.2.2.1 x.2.2.2.1 x.2.2.2.2.1 x.2.2.2.2.2.1 x.2.2.2.2.2.2.1 x.2.2.2.2.2.2.2.1 x.2.2.2.2.2.2.2.2.1 x.2.2.2.2.2.2.2.2.2.1 x.2.2.2.2.2.2.2.2.2.2.1 x.2.2.2.2.2.2.2.2.2.2.2)
def d_cond (t : List V × List (Option Chunk)) : a_cond := ((vI ((vAg (t.1.getD 1 .junk)).getD 0 .junk)), (vI ((vAg (t.1.getD 1 .junk)).getD 1 .junk)), (vS ((vAg (t.1.getD 1 .junk)).getD 2 .junk)), (vRoN ((vAg (t.1.getD 1 .junk)).getD 3 .junk)), (vRoF ((vAg (t.1.getD 1 .junk)).getD 3 .junk)), (smN (t.2.getD 1 none)), (smH (t.2.getD 1 none)), (fun j => (vI ((vAg ((smF (t.2.getD 1 none)) j)).getD 0 .junk))), (fun j => (vI ((vAg ((smF (t.2.getD 1 none)) j)).getD 1 .junk))), (fun j => (vI ((vAg ((smF (t.2.getD 1 none)) j)).getD 2 .junk))), (fun j => (vI ((vAg ((smF (t.2.getD 1 none)) j)).getD 3 .junk))), (fun j => (vI ((vAg ((smF (t.2.getD 1 none)) j)).getD 4 .junk))))
theorem i_cond : ∀ x y, A_cond x = A_cond y → x = y := fun x y h => (congrArg d_cond h :)
def R_cond : g_cond → CRes := (fun z => (fun (e : Int) (mn : Nat) (mh : ByteArray → Bool) (m0 : ByteArray → Int) (m1 : ByteArray → Int) (m2 : ByteArray → Int) (m3 : ByteArray → Int) (m4 : ByteArray → Int) => .ret (i64 e) [some (.blk [.mp 1]), some (.smap mn mh (fun j => .agg [i64 (m0 j), i64 (m1 j), i64 (m2 j), i64 (m3 j), i64 (m4 j)]))]) z.1 z.2.1 z.2.2.1 z.2.2.2.1 z.2.2.2.2.1 z.2.2.2.2.2.1 z.2.2.2.2.2.2.1 z.2.2.2.2.2.2.2 : (Int × Nat × (ByteArray → Bool) × (ByteArray → Int) × (ByteArray → Int) × (ByteArray → Int) × (ByteArray → Int) × (ByteArray → Int)) → CRes)
def x_cond (z : g_cond) (k : CRes → Option Ans) : Option Ans := k (R_cond z)
theorem xe_cond : ∀ z k, x_cond z k = k (R_cond z) := fun z k => rfl
def t_cond {β : Type} (c_Of : a_Of → Option g_Of) (x : a_cond) (dn : g_cond → Option β) : Option β :=
 (c_Of x).bind fun z12 =>
  if (z12.2.2.2.2.2.2.1 == (0 : Int)) = true then
   if (!z12.1) = true then
    dn (((12 : Int), z12.2.2.2.2.2.2.2))
   else
    dn (z12.2.2.2.2.2.2)
  else
   dn (z12.2.2.2.2.2.2)
theorem n_cond {β : Type} (c_Of : a_Of → Option g_Of) (x : a_cond) (dn : g_cond → Option β) : t_cond c_Of x dn = (t_cond c_Of x some).bind dn := by
  unfold t_cond
  repeat' first | exact free_none | refine free_bind (fun z => ?_) | refine free_ite ?_ ?_ | refine free_sum (fun z => ?_) (fun z => ?_) | rfl
theorem r_cond (c_Of : a_Of → Option g_Of) (x : a_cond) : callK E5 (ftab 12 (fun _ _ => true) A_Of x_Of c_Of ca0) lo0 56 (A_cond x).1 (A_cond x).2 K = t_cond (fun x => viaF A_Of c_Of (A_Of x)) x (fun z => some (.c (R_cond z))) := by kernel_rfl
theorem s_cond (c_Of : a_Of → Option g_Of) (h_Of : ∀ x z, c_Of x = some z → SC E5 12 (A_Of x).1 (A_Of x).2 (R_Of z)) (q : Nat) (x : a_cond) (z : g_cond) (h : t_cond c_Of x some = some z) : SC E5 56 (A_cond x).1 (A_cond x).2 (R_cond z) := by
  refine SC.of hW5 hX5 (ftab_cons h_Of xe_Of ca0_sound) lo0_sound ((r_cond c_Of x).trans ?_)
  rw [via_eq i_Of c_Of, n_cond, h]; rfl
noncomputable def cond (q : Nat) (x : a_cond) : Option g_cond := t_cond (Of q) x some
theorem sc_cond (q : Nat) : ∀ (x : a_cond) (z : g_cond), cond q x = some z → SC E5 56 (A_cond x).1 (A_cond x).2 (R_cond z) := fun x z h => s_cond (Of q) (sc_Of q) q x z h
abbrev a_quant : Type := Int × Int × ByteArray × Nat × (Nat → List V) × Int × Int × Int × Int × Int × Nat × (ByteArray → Bool) × (ByteArray → Int) × (ByteArray → Int) × (ByteArray → Int) × (ByteArray → Int) × (ByteArray → Int)
abbrev g_quant : Type := Int × Nat × (ByteArray → Bool) × (ByteArray → Int) × (ByteArray → Int) × (ByteArray → Int) × (ByteArray → Int) × (ByteArray → Int)
def A_quant : a_quant → List V × List (Option Chunk) := (fun x => (fun (nk : Int) (nn : Int) (ns : ByteArray) (nm : Nat) (nf : Nat → List V) (d0 : Int) (d1 : Int) (d2 : Int) (d3 : Int) (d4 : Int) (mn : Nat) (mh : ByteArray → Bool) (m0 : ByteArray → Int) (m1 : ByteArray → Int) (m2 : ByteArray → Int) (m3 : ByteArray → Int) (m4 : ByteArray → Int) => (([.ptr 0 0, .agg [i64 nk, i64 nn, st ns, .ro 4 nm nf], .agg [i64 d0, i64 d1, i64 d2, i64 d3, i64 d4]] : List V), ([some (.blk [.mp 1]), some (.smap mn mh (fun j => .agg [i64 (m0 j), i64 (m1 j), i64 (m2 j), i64 (m3 j), i64 (m4 j)]))] : List (Option Chunk)))) x.1 x.2.1 x.2.2.1 x.2.2.2.1 x.2.2.2.2.1 x.2.2.2.2.2.1 x.2.2.2.2.2.2.1 x.2.2.2.2.2.2.2.1 x.2.2.2.2.2.2.2.2.1 x.2.2.2.2.2.2.2.2.2.1 x.2.2.2.2.2.2.2.2.2.2.1 x.2.2.2.2.2.2.2.2.2.2.2.1 x.2.2.2.2.2.2.2.2.2.2.2.2.1 x.2.2.2.2.2.2.2.2.2.2.2.2.2.1 x.2.2.2.2.2.2.2.2.2.2.2.2.2.2.1 x.2.2.2.2.2.2.2.2.2.2.2.2.2.2.2.1 x.2.2.2.2.2.2.2.2.2.2.2.2.2.2.2.2)
def d_quant (t : List V × List (Option Chunk)) : a_quant := ((vI ((vAg (t.1.getD 1 .junk)).getD 0 .junk)), (vI ((vAg (t.1.getD 1 .junk)).getD 1 .junk)), (vS ((vAg (t.1.getD 1 .junk)).getD 2 .junk)), (vRoN ((vAg (t.1.getD 1 .junk)).getD 3 .junk)), (vRoF ((vAg (t.1.getD 1 .junk)).getD 3 .junk)), (vI ((vAg (t.1.getD 2 .junk)).getD 0 .junk)), (vI ((vAg (t.1.getD 2 .junk)).getD 1 .junk)), (vI ((vAg (t.1.getD 2 .junk)).getD 2 .junk)), (vI ((vAg (t.1.getD 2 .junk)).getD 3 .junk)), (vI ((vAg (t.1.getD 2 .junk)).getD 4 .junk)), (smN (t.2.getD 1 none)), (smH (t.2.getD 1 none)), (fun j => (vI ((vAg ((smF (t.2.getD 1 none)) j)).getD 0 .junk))), (fun j => (vI ((vAg ((smF (t.2.getD 1 none)) j)).getD 1 .junk))), (fun j => (vI ((vAg ((smF (t.2.getD 1 none)) j)).getD 2 .junk))), (fun j => (vI ((vAg ((smF (t.2.getD 1 none)) j)).getD 3 .junk))), (fun j => (vI ((vAg ((smF (t.2.getD 1 none)) j)).getD 4 .junk))))
theorem i_quant : ∀ x y, A_quant x = A_quant y → x = y := fun x y h => (congrArg d_quant h :)
def R_quant : g_quant → CRes := (fun z => (fun (e : Int) (mn : Nat) (mh : ByteArray → Bool) (m0 : ByteArray → Int) (m1 : ByteArray → Int) (m2 : ByteArray → Int) (m3 : ByteArray → Int) (m4 : ByteArray → Int) => .ret (i64 e) [some (.blk [.mp 1]), some (.smap mn mh (fun j => .agg [i64 (m0 j), i64 (m1 j), i64 (m2 j), i64 (m3 j), i64 (m4 j)]))]) z.1 z.2.1 z.2.2.1 z.2.2.2.1 z.2.2.2.2.1 z.2.2.2.2.2.1 z.2.2.2.2.2.2.1 z.2.2.2.2.2.2.2 : (Int × Nat × (ByteArray → Bool) × (ByteArray → Int) × (ByteArray → Int) × (ByteArray → Int) × (ByteArray → Int) × (ByteArray → Int)) → CRes)
def x_quant (z : g_quant) (k : CRes → Option Ans) : Option Ans := k (R_quant z)
theorem xe_quant : ∀ z k, x_quant z k = k (R_quant z) := fun z k => rfl
def t_quant {β : Type} (c_Of : a_Of → Option g_Of) (x : a_quant) (dn : g_quant → Option β) : Option β :=
 (c_Of ((x.1, x.2.1, x.2.2.1, x.2.2.2.1, x.2.2.2.2.1, x.2.2.2.2.2.2.2.2.2.2))).bind fun z12 =>
  if (z12.2.2.2.2.2.2.1 != (0 : Int)) = true then
   dn (z12.2.2.2.2.2.2)
  else
   if z12.1 = true then
    dn (((12 : Int), z12.2.2.2.2.2.2.2))
   else
    if (if true = true then !(z12.2.1 == x.2.2.2.2.2.1 && (z12.2.2.1 == x.2.2.2.2.2.2.1 && (z12.2.2.2.1 == x.2.2.2.2.2.2.2.1 && (z12.2.2.2.2.1 == x.2.2.2.2.2.2.2.2.1 && (z12.2.2.2.2.2.1 == x.2.2.2.2.2.2.2.2.2.1 && true))))) else z12.2.1 == x.2.2.2.2.2.1 && (z12.2.2.1 == x.2.2.2.2.2.2.1 && (z12.2.2.2.1 == x.2.2.2.2.2.2.2.1 && (z12.2.2.2.2.1 == x.2.2.2.2.2.2.2.2.1 && (z12.2.2.2.2.2.1 == x.2.2.2.2.2.2.2.2.2.1 && true))))) = true then
     dn (((10 : Int), z12.2.2.2.2.2.2.2))
    else
     dn (((0 : Int), z12.2.2.2.2.2.2.2))
theorem n_quant {β : Type} (c_Of : a_Of → Option g_Of) (x : a_quant) (dn : g_quant → Option β) : t_quant c_Of x dn = (t_quant c_Of x some).bind dn := by
  unfold t_quant
  repeat' first | exact free_none | refine free_bind (fun z => ?_) | refine free_ite ?_ ?_ | refine free_sum (fun z => ?_) (fun z => ?_) | rfl
theorem r_quant (c_Of : a_Of → Option g_Of) (x : a_quant) : callK E5 (ftab 12 (fun _ _ => true) A_Of x_Of c_Of ca0) lo0 57 (A_quant x).1 (A_quant x).2 K = t_quant (fun x => viaF A_Of c_Of (A_Of x)) x (fun z => some (.c (R_quant z))) := by kernel_rfl
theorem s_quant (c_Of : a_Of → Option g_Of) (h_Of : ∀ x z, c_Of x = some z → SC E5 12 (A_Of x).1 (A_Of x).2 (R_Of z)) (q : Nat) (x : a_quant) (z : g_quant) (h : t_quant c_Of x some = some z) : SC E5 57 (A_quant x).1 (A_quant x).2 (R_quant z) := by
  refine SC.of hW5 hX5 (ftab_cons h_Of xe_Of ca0_sound) lo0_sound ((r_quant c_Of x).trans ?_)
  rw [via_eq i_Of c_Of, n_quant, h]; rfl
noncomputable def quant (q : Nat) (x : a_quant) : Option g_quant := t_quant (Of q) x some
theorem sc_quant (q : Nat) : ∀ (x : a_quant) (z : g_quant), quant q x = some z → SC E5 57 (A_quant x).1 (A_quant x).2 (R_quant z) := fun x z h => s_quant (Of q) (sc_Of q) q x z h
abbrev a_letS : Type := Int × Int × ByteArray × Nat × (Nat → Int) × (Nat → Int) × (Nat → ByteArray) × (Nat → Nat) × (Nat → Nat → List V) × Nat × (ByteArray → Bool) × (ByteArray → Int) × (ByteArray → Int) × (ByteArray → Int) × (ByteArray → Int) × (ByteArray → Int)
abbrev g_letS : Type := Int × Nat × (ByteArray → Bool) × (ByteArray → Int) × (ByteArray → Int) × (ByteArray → Int) × (ByteArray → Int) × (ByteArray → Int)
def A_letS : a_letS → List V × List (Option Chunk) := (fun x => (fun (nk : Int) (nn : Int) (ns : ByteArray) (nm : Nat) (ek : Nat → Int) (en : Nat → Int) (es : Nat → ByteArray) (em : Nat → Nat) (ef : Nat → Nat → List V) (mn : Nat) (mh : ByteArray → Bool) (m0 : ByteArray → Int) (m1 : ByteArray → Int) (m2 : ByteArray → Int) (m3 : ByteArray → Int) (m4 : ByteArray → Int) => (([.ptr 0 0, .agg [i64 nk, i64 nn, st ns, .ro 4 nm (fun j => [i64 (ek j), i64 (en j), st (es j), .ro 4 (em j) (ef j)])]] : List V), ([some (.blk [.mp 1]), some (.smap mn mh (fun j => .agg [i64 (m0 j), i64 (m1 j), i64 (m2 j), i64 (m3 j), i64 (m4 j)]))] : List (Option Chunk)))) x.1 x.2.1 x.2.2.1 x.2.2.2.1 x.2.2.2.2.1 x.2.2.2.2.2.1 x.2.2.2.2.2.2.1 x.2.2.2.2.2.2.2.1 x.2.2.2.2.2.2.2.2.1 x.2.2.2.2.2.2.2.2.2.1 x.2.2.2.2.2.2.2.2.2.2.1 x.2.2.2.2.2.2.2.2.2.2.2.1 x.2.2.2.2.2.2.2.2.2.2.2.2.1 x.2.2.2.2.2.2.2.2.2.2.2.2.2.1 x.2.2.2.2.2.2.2.2.2.2.2.2.2.2.1 x.2.2.2.2.2.2.2.2.2.2.2.2.2.2.2)
def d_letS (t : List V × List (Option Chunk)) : a_letS := ((vI ((vAg (t.1.getD 1 .junk)).getD 0 .junk)), (vI ((vAg (t.1.getD 1 .junk)).getD 1 .junk)), (vS ((vAg (t.1.getD 1 .junk)).getD 2 .junk)), (vRoN ((vAg (t.1.getD 1 .junk)).getD 3 .junk)), (fun j => (vI (((vRoF ((vAg (t.1.getD 1 .junk)).getD 3 .junk)) j).getD 0 .junk))), (fun j => (vI (((vRoF ((vAg (t.1.getD 1 .junk)).getD 3 .junk)) j).getD 1 .junk))), (fun j => (vS (((vRoF ((vAg (t.1.getD 1 .junk)).getD 3 .junk)) j).getD 2 .junk))), (fun j => (vRoN (((vRoF ((vAg (t.1.getD 1 .junk)).getD 3 .junk)) j).getD 3 .junk))), (fun j => (vRoF (((vRoF ((vAg (t.1.getD 1 .junk)).getD 3 .junk)) j).getD 3 .junk))), (smN (t.2.getD 1 none)), (smH (t.2.getD 1 none)), (fun j => (vI ((vAg ((smF (t.2.getD 1 none)) j)).getD 0 .junk))), (fun j => (vI ((vAg ((smF (t.2.getD 1 none)) j)).getD 1 .junk))), (fun j => (vI ((vAg ((smF (t.2.getD 1 none)) j)).getD 2 .junk))), (fun j => (vI ((vAg ((smF (t.2.getD 1 none)) j)).getD 3 .junk))), (fun j => (vI ((vAg ((smF (t.2.getD 1 none)) j)).getD 4 .junk))))
theorem i_letS : ∀ x y, A_letS x = A_letS y → x = y := fun x y h => (congrArg d_letS h :)
def R_letS : g_letS → CRes := (fun z => (fun (e : Int) (mn : Nat) (mh : ByteArray → Bool) (m0 : ByteArray → Int) (m1 : ByteArray → Int) (m2 : ByteArray → Int) (m3 : ByteArray → Int) (m4 : ByteArray → Int) => .ret (i64 e) [some (.blk [.mp 1]), some (.smap mn mh (fun j => .agg [i64 (m0 j), i64 (m1 j), i64 (m2 j), i64 (m3 j), i64 (m4 j)]))]) z.1 z.2.1 z.2.2.1 z.2.2.2.1 z.2.2.2.2.1 z.2.2.2.2.2.1 z.2.2.2.2.2.2.1 z.2.2.2.2.2.2.2 : (Int × Nat × (ByteArray → Bool) × (ByteArray → Int) × (ByteArray → Int) × (ByteArray → Int) × (ByteArray → Int) × (ByteArray → Int)) → CRes)
def x_letS (z : g_letS) (k : CRes → Option Ans) : Option Ans := k (R_letS z)
theorem xe_letS : ∀ z k, x_letS z k = k (R_letS z) := fun z k => rfl
def t_letS {β : Type} (c_Of : a_Of → Option g_Of) (c_declare : a_declare → Option g_declare) (x : a_letS) (dn : g_letS → Option β) : Option β :=
 if (0 : Int) ≤ (0 : Int) ∧ (0 : Int) < ((x.2.2.2.1 : Nat) : Int) then
  (c_Of ((x.2.2.2.2.1 0, x.2.2.2.2.2.1 0, x.2.2.2.2.2.2.1 0, x.2.2.2.2.2.2.2.1 0, x.2.2.2.2.2.2.2.2.1 0, x.2.2.2.2.2.2.2.2.2))).bind fun z12 =>
   if (z12.2.2.2.2.2.2.1 != (0 : Int)) = true then
    dn (z12.2.2.2.2.2.2)
   else
    if (x.1 == (2 : Int)) = true then
     if (!z12.2.2.2.2.2.2.2.2.1 (x.2.2.1)) = true then
      dn (((3 : Int), z12.2.2.2.2.2.2.2))
     else
      if z12.1 = true then
       dn (((12 : Int), z12.2.2.2.2.2.2.2))
      else
       if (x.1 == (2 : Int)) = true then
        if (if true = true then !((if z12.2.2.2.2.2.2.2.2.1 (x.2.2.1) = true then z12.2.2.2.2.2.2.2.2.2.1 (x.2.2.1) else (0 : Int)) == z12.2.1 && ((if z12.2.2.2.2.2.2.2.2.1 (x.2.2.1) = true then z12.2.2.2.2.2.2.2.2.2.2.1 (x.2.2.1) else (0 : Int)) == z12.2.2.1 && ((if z12.2.2.2.2.2.2.2.2.1 (x.2.2.1) = true then z12.2.2.2.2.2.2.2.2.2.2.2.1 (x.2.2.1) else (0 : Int)) == z12.2.2.2.1 && ((if z12.2.2.2.2.2.2.2.2.1 (x.2.2.1) = true then z12.2.2.2.2.2.2.2.2.2.2.2.2.1 (x.2.2.1) else (0 : Int)) == z12.2.2.2.2.1 && ((if z12.2.2.2.2.2.2.2.2.1 (x.2.2.1) = true then z12.2.2.2.2.2.2.2.2.2.2.2.2.2 (x.2.2.1) else (0 : Int)) == z12.2.2.2.2.2.1 && true))))) else (if z12.2.2.2.2.2.2.2.2.1 (x.2.2.1) = true then z12.2.2.2.2.2.2.2.2.2.1 (x.2.2.1) else (0 : Int)) == z12.2.1 && ((if z12.2.2.2.2.2.2.2.2.1 (x.2.2.1) = true then z12.2.2.2.2.2.2.2.2.2.2.1 (x.2.2.1) else (0 : Int)) == z12.2.2.1 && ((if z12.2.2.2.2.2.2.2.2.1 (x.2.2.1) = true then z12.2.2.2.2.2.2.2.2.2.2.2.1 (x.2.2.1) else (0 : Int)) == z12.2.2.2.1 && ((if z12.2.2.2.2.2.2.2.2.1 (x.2.2.1) = true then z12.2.2.2.2.2.2.2.2.2.2.2.2.1 (x.2.2.1) else (0 : Int)) == z12.2.2.2.2.1 && ((if z12.2.2.2.2.2.2.2.2.1 (x.2.2.1) = true then z12.2.2.2.2.2.2.2.2.2.2.2.2.2 (x.2.2.1) else (0 : Int)) == z12.2.2.2.2.2.1 && true))))) = true then
         dn (((10 : Int), z12.2.2.2.2.2.2.2))
        else
         if (x.1 == (2 : Int)) = true then
          dn (((0 : Int), z12.2.2.2.2.2.2.2))
         else
          (c_declare ((x.2.2.1, z12.2.1, z12.2.2.1, z12.2.2.2.1, z12.2.2.2.2.1, z12.2.2.2.2.2.1, z12.2.2.2.2.2.2.2))).bind fun z26 =>
           dn z26
       else
        if (x.1 == (2 : Int)) = true then
         dn (((0 : Int), z12.2.2.2.2.2.2.2))
        else
         (c_declare ((x.2.2.1, z12.2.1, z12.2.2.1, z12.2.2.2.1, z12.2.2.2.2.1, z12.2.2.2.2.2.1, z12.2.2.2.2.2.2.2))).bind fun z40 =>
          dn z40
    else
     if z12.1 = true then
      dn (((12 : Int), z12.2.2.2.2.2.2.2))
     else
      if (x.1 == (2 : Int)) = true then
       if (if true = true then !((if z12.2.2.2.2.2.2.2.2.1 (x.2.2.1) = true then z12.2.2.2.2.2.2.2.2.2.1 (x.2.2.1) else (0 : Int)) == z12.2.1 && ((if z12.2.2.2.2.2.2.2.2.1 (x.2.2.1) = true then z12.2.2.2.2.2.2.2.2.2.2.1 (x.2.2.1) else (0 : Int)) == z12.2.2.1 && ((if z12.2.2.2.2.2.2.2.2.1 (x.2.2.1) = true then z12.2.2.2.2.2.2.2.2.2.2.2.1 (x.2.2.1) else (0 : Int)) == z12.2.2.2.1 && ((if z12.2.2.2.2.2.2.2.2.1 (x.2.2.1) = true then z12.2.2.2.2.2.2.2.2.2.2.2.2.1 (x.2.2.1) else (0 : Int)) == z12.2.2.2.2.1 && ((if z12.2.2.2.2.2.2.2.2.1 (x.2.2.1) = true then z12.2.2.2.2.2.2.2.2.2.2.2.2.2 (x.2.2.1) else (0 : Int)) == z12.2.2.2.2.2.1 && true))))) else (if z12.2.2.2.2.2.2.2.2.1 (x.2.2.1) = true then z12.2.2.2.2.2.2.2.2.2.1 (x.2.2.1) else (0 : Int)) == z12.2.1 && ((if z12.2.2.2.2.2.2.2.2.1 (x.2.2.1) = true then z12.2.2.2.2.2.2.2.2.2.2.1 (x.2.2.1) else (0 : Int)) == z12.2.2.1 && ((if z12.2.2.2.2.2.2.2.2.1 (x.2.2.1) = true then z12.2.2.2.2.2.2.2.2.2.2.2.1 (x.2.2.1) else (0 : Int)) == z12.2.2.2.1 && ((if z12.2.2.2.2.2.2.2.2.1 (x.2.2.1) = true then z12.2.2.2.2.2.2.2.2.2.2.2.2.1 (x.2.2.1) else (0 : Int)) == z12.2.2.2.2.1 && ((if z12.2.2.2.2.2.2.2.2.1 (x.2.2.1) = true then z12.2.2.2.2.2.2.2.2.2.2.2.2.2 (x.2.2.1) else (0 : Int)) == z12.2.2.2.2.2.1 && true))))) = true then
        dn (((10 : Int), z12.2.2.2.2.2.2.2))
       else
        if (x.1 == (2 : Int)) = true then
         dn (((0 : Int), z12.2.2.2.2.2.2.2))
        else
         (c_declare ((x.2.2.1, z12.2.1, z12.2.2.1, z12.2.2.2.1, z12.2.2.2.2.1, z12.2.2.2.2.2.1, z12.2.2.2.2.2.2.2))).bind fun z54 =>
          dn z54
      else
       if (x.1 == (2 : Int)) = true then
        dn (((0 : Int), z12.2.2.2.2.2.2.2))
       else
        (c_declare ((x.2.2.1, z12.2.1, z12.2.2.1, z12.2.2.2.1, z12.2.2.2.2.1, z12.2.2.2.2.2.1, z12.2.2.2.2.2.2.2))).bind fun z68 =>
         dn z68
 else
  none
theorem n_letS {β : Type} (c_Of : a_Of → Option g_Of) (c_declare : a_declare → Option g_declare) (x : a_letS) (dn : g_letS → Option β) : t_letS c_Of c_declare x dn = (t_letS c_Of c_declare x some).bind dn := by
  unfold t_letS
  repeat' first | exact free_none | refine free_bind (fun z => ?_) | refine free_ite ?_ ?_ | refine free_sum (fun z => ?_) (fun z => ?_) | rfl
theorem r_letS (c_Of : a_Of → Option g_Of) (c_declare : a_declare → Option g_declare) (x : a_letS) : callK E5 (ftab 12 (fun _ _ => true) A_Of x_Of c_Of (ftab 37 (fun _ _ => true) A_declare x_declare c_declare ca0)) lo0 55 (A_letS x).1 (A_letS x).2 K = t_letS (fun x => viaF A_Of c_Of (A_Of x)) (fun x => viaF A_declare c_declare (A_declare x)) x (fun z => some (.c (R_letS z))) := by kernel_rfl
theorem s_letS (c_Of : a_Of → Option g_Of) (h_Of : ∀ x z, c_Of x = some z → SC E5 12 (A_Of x).1 (A_Of x).2 (R_Of z)) (c_declare : a_declare → Option g_declare) (h_declare : ∀ x z, c_declare x = some z → SC E5 37 (A_declare x).1 (A_declare x).2 (R_declare z)) (q : Nat) (x : a_letS) (z : g_letS) (h : t_letS c_Of c_declare x some = some z) : SC E5 55 (A_letS x).1 (A_letS x).2 (R_letS z) := by
  refine SC.of hW5 hX5 (ftab_cons h_Of xe_Of (ftab_cons h_declare xe_declare ca0_sound)) lo0_sound ((r_letS c_Of c_declare x).trans ?_)
  rw [via_eq i_Of c_Of, via_eq i_declare c_declare, n_letS, h]; rfl
noncomputable def letS (q : Nat) (x : a_letS) : Option g_letS := t_letS (Of q) (declare q) x some
theorem sc_letS (q : Nat) : ∀ (x : a_letS) (z : g_letS), letS q x = some z → SC E5 55 (A_letS x).1 (A_letS x).2 (R_letS z) := fun x z h => s_letS (Of q) (sc_Of q) (declare q) (sc_declare q) q x z h
abbrev a_stmt : Type := Int × Int × ByteArray × Nat × (Nat → List V) × Nat × (ByteArray → Bool) × (ByteArray → Int) × (ByteArray → Int) × (ByteArray → Int) × (ByteArray → Int) × (ByteArray → Int)
abbrev g_stmt : Type := Int × Nat × (ByteArray → Bool) × (ByteArray → Int) × (ByteArray → Int) × (ByteArray → Int) × (ByteArray → Int) × (ByteArray → Int)
def A_stmt : a_stmt → List V × List (Option Chunk) := (fun x => (fun (nk : Int) (nn : Int) (ns : ByteArray) (nm : Nat) (nf : Nat → List V) (mn : Nat) (mh : ByteArray → Bool) (m0 : ByteArray → Int) (m1 : ByteArray → Int) (m2 : ByteArray → Int) (m3 : ByteArray → Int) (m4 : ByteArray → Int) => (([.ptr 0 0, .agg [i64 nk, i64 nn, st ns, .ro 4 nm nf]] : List V), ([some (.blk [.mp 1]), some (.smap mn mh (fun j => .agg [i64 (m0 j), i64 (m1 j), i64 (m2 j), i64 (m3 j), i64 (m4 j)]))] : List (Option Chunk)))) x.1 x.2.1 x.2.2.1 x.2.2.2.1 x.2.2.2.2.1 x.2.2.2.2.2.1 x.2.2.2.2.2.2.1 x.2.2.2.2.2.2.2.1 x.2.2.2.2.2.2.2.2.1 x.2.2.2.2.2.2.2.2.2.1 x.2.2.2.2.2.2.2.2.2.2.1 x.2.2.2.2.2.2.2.2.2.2.2)
def d_stmt (t : List V × List (Option Chunk)) : a_stmt := ((vI ((vAg (t.1.getD 1 .junk)).getD 0 .junk)), (vI ((vAg (t.1.getD 1 .junk)).getD 1 .junk)), (vS ((vAg (t.1.getD 1 .junk)).getD 2 .junk)), (vRoN ((vAg (t.1.getD 1 .junk)).getD 3 .junk)), (vRoF ((vAg (t.1.getD 1 .junk)).getD 3 .junk)), (smN (t.2.getD 1 none)), (smH (t.2.getD 1 none)), (fun j => vI ((vAg (smF (t.2.getD 1 none) j)).getD 0 .junk)), (fun j => vI ((vAg (smF (t.2.getD 1 none) j)).getD 1 .junk)), (fun j => vI ((vAg (smF (t.2.getD 1 none) j)).getD 2 .junk)), (fun j => vI ((vAg (smF (t.2.getD 1 none) j)).getD 3 .junk)), (fun j => vI ((vAg (smF (t.2.getD 1 none) j)).getD 4 .junk)))
theorem i_stmt : ∀ x y, A_stmt x = A_stmt y → x = y := fun x y h => (congrArg d_stmt h :)
def R_stmt : g_stmt → CRes := (fun z => (fun (e : Int) (mn : Nat) (mh : ByteArray → Bool) (m0 : ByteArray → Int) (m1 : ByteArray → Int) (m2 : ByteArray → Int) (m3 : ByteArray → Int) (m4 : ByteArray → Int) => .ret (i64 e) [some (.blk [.mp 1]), some (.smap mn mh (fun j => .agg [i64 (m0 j), i64 (m1 j), i64 (m2 j), i64 (m3 j), i64 (m4 j)]))]) z.1 z.2.1 z.2.2.1 z.2.2.2.1 z.2.2.2.2.1 z.2.2.2.2.2.1 z.2.2.2.2.2.2.1 z.2.2.2.2.2.2.2 : (Int × Nat × (ByteArray → Bool) × (ByteArray → Int) × (ByteArray → Int) × (ByteArray → Int) × (ByteArray → Int) × (ByteArray → Int)) → CRes)
def x_stmt (z : g_stmt) (k : CRes → Option Ans) : Option Ans := k (R_stmt z)
theorem xe_stmt : ∀ z k, x_stmt z k = k (R_stmt z) := fun z k => rfl
abbrev a_alls : Type := Nat × (Nat → List V) × Nat × (ByteArray → Bool) × (ByteArray → Int) × (ByteArray → Int) × (ByteArray → Int) × (ByteArray → Int) × (ByteArray → Int)
abbrev g_alls : Type := Int × Nat × (ByteArray → Bool) × (ByteArray → Int) × (ByteArray → Int) × (ByteArray → Int) × (ByteArray → Int) × (ByteArray → Int)
def A_alls : a_alls → List V × List (Option Chunk) := (fun x => (fun (nm : Nat) (nf : Nat → List V) (mn : Nat) (mh : ByteArray → Bool) (m0 : ByteArray → Int) (m1 : ByteArray → Int) (m2 : ByteArray → Int) (m3 : ByteArray → Int) (m4 : ByteArray → Int) => (([.ptr 0 0, .ro 4 nm nf] : List V), ([some (.blk [.mp 1]), some (.smap mn mh (fun j => .agg [i64 (m0 j), i64 (m1 j), i64 (m2 j), i64 (m3 j), i64 (m4 j)]))] : List (Option Chunk)))) x.1 x.2.1 x.2.2.1 x.2.2.2.1 x.2.2.2.2.1 x.2.2.2.2.2.1 x.2.2.2.2.2.2.1 x.2.2.2.2.2.2.2.1 x.2.2.2.2.2.2.2.2)
def d_alls (t : List V × List (Option Chunk)) : a_alls := ((vRoN (t.1.getD 1 .junk)), (vRoF (t.1.getD 1 .junk)), (smN (t.2.getD 1 none)), (smH (t.2.getD 1 none)), (fun j => vI ((vAg (smF (t.2.getD 1 none) j)).getD 0 .junk)), (fun j => vI ((vAg (smF (t.2.getD 1 none) j)).getD 1 .junk)), (fun j => vI ((vAg (smF (t.2.getD 1 none) j)).getD 2 .junk)), (fun j => vI ((vAg (smF (t.2.getD 1 none) j)).getD 3 .junk)), (fun j => vI ((vAg (smF (t.2.getD 1 none) j)).getD 4 .junk)))
theorem i_alls : ∀ x y, A_alls x = A_alls y → x = y := fun x y h => (congrArg d_alls h :)
def R_alls : g_alls → CRes := (fun z => (fun (e : Int) (mn : Nat) (mh : ByteArray → Bool) (m0 : ByteArray → Int) (m1 : ByteArray → Int) (m2 : ByteArray → Int) (m3 : ByteArray → Int) (m4 : ByteArray → Int) => .ret (i64 e) [some (.blk [.mp 1]), some (.smap mn mh (fun j => .agg [i64 (m0 j), i64 (m1 j), i64 (m2 j), i64 (m3 j), i64 (m4 j)]))]) z.1 z.2.1 z.2.2.1 z.2.2.2.1 z.2.2.2.2.1 z.2.2.2.2.2.1 z.2.2.2.2.2.2.1 z.2.2.2.2.2.2.2 : (Int × Nat × (ByteArray → Bool) × (ByteArray → Int) × (ByteArray → Int) × (ByteArray → Int) × (ByteArray → Int) × (ByteArray → Int)) → CRes)
def x_alls (z : g_alls) (k : CRes → Option Ans) : Option Ans := k (R_alls z)
theorem xe_alls : ∀ z k, x_alls z k = k (R_alls z) := fun z k => rfl
abbrev a_stmtN : Type := Int × Int × ByteArray × Nat × (Nat → Int) × (Nat → Int) × (Nat → ByteArray) × (Nat → Nat) × (Nat → Nat → List V) × Nat × (ByteArray → Bool) × (ByteArray → Int) × (ByteArray → Int) × (ByteArray → Int) × (ByteArray → Int) × (ByteArray → Int)
abbrev g_stmtN : Type := Int × Nat × (ByteArray → Bool) × (ByteArray → Int) × (ByteArray → Int) × (ByteArray → Int) × (ByteArray → Int) × (ByteArray → Int)
def A_stmtN : a_stmtN → List V × List (Option Chunk) := (fun x => (fun (nk : Int) (nn : Int) (ns : ByteArray) (nm : Nat) (ek : Nat → Int) (en : Nat → Int) (es : Nat → ByteArray) (em : Nat → Nat) (ef : Nat → Nat → List V) (mn : Nat) (mh : ByteArray → Bool) (m0 : ByteArray → Int) (m1 : ByteArray → Int) (m2 : ByteArray → Int) (m3 : ByteArray → Int) (m4 : ByteArray → Int) => (([.ptr 0 0, .agg [i64 nk, i64 nn, st ns, .ro 4 nm (fun j => [i64 (ek j), i64 (en j), st (es j), .ro 4 (em j) (ef j)])]] : List V), ([some (.blk [.mp 1]), some (.smap mn mh (fun j => .agg [i64 (m0 j), i64 (m1 j), i64 (m2 j), i64 (m3 j), i64 (m4 j)]))] : List (Option Chunk)))) x.1 x.2.1 x.2.2.1 x.2.2.2.1 x.2.2.2.2.1 x.2.2.2.2.2.1 x.2.2.2.2.2.2.1 x.2.2.2.2.2.2.2.1 x.2.2.2.2.2.2.2.2.1 x.2.2.2.2.2.2.2.2.2.1 x.2.2.2.2.2.2.2.2.2.2.1 x.2.2.2.2.2.2.2.2.2.2.2.1 x.2.2.2.2.2.2.2.2.2.2.2.2.1 x.2.2.2.2.2.2.2.2.2.2.2.2.2.1 x.2.2.2.2.2.2.2.2.2.2.2.2.2.2.1 x.2.2.2.2.2.2.2.2.2.2.2.2.2.2.2)
def R_stmtN : g_stmtN → CRes := (fun z => (fun (e : Int) (mn : Nat) (mh : ByteArray → Bool) (m0 : ByteArray → Int) (m1 : ByteArray → Int) (m2 : ByteArray → Int) (m3 : ByteArray → Int) (m4 : ByteArray → Int) => .ret (i64 e) [some (.blk [.mp 1]), some (.smap mn mh (fun j => .agg [i64 (m0 j), i64 (m1 j), i64 (m2 j), i64 (m3 j), i64 (m4 j)]))]) z.1 z.2.1 z.2.2.1 z.2.2.2.1 z.2.2.2.2.1 z.2.2.2.2.2.1 z.2.2.2.2.2.2.1 z.2.2.2.2.2.2.2 : (Int × Nat × (ByteArray → Bool) × (ByteArray → Int) × (ByteArray → Int) × (ByteArray → Int) × (ByteArray → Int) × (ByteArray → Int)) → CRes)
abbrev a_allsN : Type := Nat × (Nat → Int) × (Nat → Int) × (Nat → ByteArray) × (Nat → Nat) × (Nat → Nat → List V) × Nat × (ByteArray → Bool) × (ByteArray → Int) × (ByteArray → Int) × (ByteArray → Int) × (ByteArray → Int) × (ByteArray → Int)
abbrev g_allsN : Type := Int × Nat × (ByteArray → Bool) × (ByteArray → Int) × (ByteArray → Int) × (ByteArray → Int) × (ByteArray → Int) × (ByteArray → Int)
def A_allsN : a_allsN → List V × List (Option Chunk) := (fun x => (fun (nm : Nat) (ek : Nat → Int) (en : Nat → Int) (es : Nat → ByteArray) (em : Nat → Nat) (ef : Nat → Nat → List V) (mn : Nat) (mh : ByteArray → Bool) (m0 : ByteArray → Int) (m1 : ByteArray → Int) (m2 : ByteArray → Int) (m3 : ByteArray → Int) (m4 : ByteArray → Int) => (([.ptr 0 0, .ro 4 nm (fun j => [i64 (ek j), i64 (en j), st (es j), .ro 4 (em j) (ef j)])] : List V), ([some (.blk [.mp 1]), some (.smap mn mh (fun j => .agg [i64 (m0 j), i64 (m1 j), i64 (m2 j), i64 (m3 j), i64 (m4 j)]))] : List (Option Chunk)))) x.1 x.2.1 x.2.2.1 x.2.2.2.1 x.2.2.2.2.1 x.2.2.2.2.2.1 x.2.2.2.2.2.2.1 x.2.2.2.2.2.2.2.1 x.2.2.2.2.2.2.2.2.1 x.2.2.2.2.2.2.2.2.2.1 x.2.2.2.2.2.2.2.2.2.2.1 x.2.2.2.2.2.2.2.2.2.2.2.1 x.2.2.2.2.2.2.2.2.2.2.2.2)
def R_allsN : g_allsN → CRes := (fun z => (fun (e : Int) (mn : Nat) (mh : ByteArray → Bool) (m0 : ByteArray → Int) (m1 : ByteArray → Int) (m2 : ByteArray → Int) (m3 : ByteArray → Int) (m4 : ByteArray → Int) => .ret (i64 e) [some (.blk [.mp 1]), some (.smap mn mh (fun j => .agg [i64 (m0 j), i64 (m1 j), i64 (m2 j), i64 (m3 j), i64 (m4 j)]))]) z.1 z.2.1 z.2.2.1 z.2.2.2.1 z.2.2.2.2.1 z.2.2.2.2.2.1 z.2.2.2.2.2.2.1 z.2.2.2.2.2.2.2 : (Int × Nat × (ByteArray → Bool) × (ByteArray → Int) × (ByteArray → Int) × (ByteArray → Int) × (ByteArray → Int) × (ByteArray → Int)) → CRes)
def t_stmtN {β : Type} (c_wellF : a_wellF → Option g_wellF) (c_inRange : a_inRange → Option g_inRange) (c_letS : a_letS → Option g_letS) (c_cond : a_cond → Option g_cond) (c_quant : a_quant → Option g_quant) (c_alls : a_alls → Option g_alls) (x : a_stmtN) (dn : g_stmtN → Option β) : Option β :=
 (c_wellF ((x.1, x.2.1, x.2.2.1, x.2.2.2.1, x.2.2.2.2.1, x.2.2.2.2.2.1, x.2.2.2.2.2.2.1, x.2.2.2.2.2.2.2.1, x.2.2.2.2.2.2.2.2.1))).bind fun z9 =>
  if (!z9) = true then
   dn (((7 : Int), x.2.2.2.2.2.2.2.2.2))
  else
   (c_inRange ((x.1, x.2.1, x.2.2.1, x.2.2.2.1, fun (j : Nat) => [i64 (x.2.2.2.2.1 j), i64 (x.2.2.2.2.2.1 j), st (x.2.2.2.2.2.2.1 j), V.ro 4 (x.2.2.2.2.2.2.2.1 j) (x.2.2.2.2.2.2.2.2.1 j)]))).bind fun z15 =>
    if (!z15) = true then
     dn (((5 : Int), x.2.2.2.2.2.2.2.2.2))
    else
     if (x.1 == (1 : Int)) = true then
      (c_letS x).bind fun z32 =>
       dn z32
     else
      if (x.1 == (2 : Int)) = true then
       (c_letS x).bind fun z49 =>
        dn z49
      else
       if (x.1 == (7 : Int)) = true then
        if (0 : Int) ≤ (0 : Int) ∧ (0 : Int) < ((x.2.2.2.1 : Nat) : Int) then
         (c_cond ((x.2.2.2.2.1 0, x.2.2.2.2.2.1 0, x.2.2.2.2.2.2.1 0, x.2.2.2.2.2.2.2.1 0, x.2.2.2.2.2.2.2.2.1 0, x.2.2.2.2.2.2.2.2.2))).bind fun z62 =>
          dn z62
        else
         none
       else
        if (x.1 == (8 : Int)) = true then
         if (0 : Int) ≤ (0 : Int) ∧ (0 : Int) < ((x.2.2.2.1 : Nat) : Int) then
          (c_quant ((x.2.2.2.2.1 0, x.2.2.2.2.2.1 0, x.2.2.2.2.2.2.1 0, x.2.2.2.2.2.2.2.1 0, x.2.2.2.2.2.2.2.2.1 0, (0 : Int), (0 : Int), (0 : Int), (1 : Int), (0 : Int), x.2.2.2.2.2.2.2.2.2))).bind fun z80 =>
           dn z80
         else
          none
        else
         if (x.1 == (5 : Int)) = true then
          if (0 : Int) ≤ (0 : Int) ∧ (0 : Int) < ((x.2.2.2.1 : Nat) : Int) then
           (c_quant ((x.2.2.2.2.1 0, x.2.2.2.2.2.1 0, x.2.2.2.2.2.2.1 0, x.2.2.2.2.2.2.2.1 0, x.2.2.2.2.2.2.2.2.1 0, (0 : Int), (0 : Int), (1 : Int), (0 : Int), (0 : Int), x.2.2.2.2.2.2.2.2.2))).bind fun z98 =>
            dn z98
          else
           none
         else
          if (x.1 == (9 : Int)) = true then
           if (0 : Int) ≤ (0 : Int) ∧ (0 : Int) < ((x.2.2.2.1 : Nat) : Int) then
            (c_quant ((x.2.2.2.2.1 0, x.2.2.2.2.2.1 0, x.2.2.2.2.2.2.1 0, x.2.2.2.2.2.2.2.1 0, x.2.2.2.2.2.2.2.2.1 0, (0 : Int), (0 : Int), (1 : Int), (0 : Int), (0 : Int), x.2.2.2.2.2.2.2.2.2))).bind fun z116 =>
             dn z116
           else
            none
          else
           if (x.1 == (10 : Int)) = true then
            if (0 : Int) ≤ (0 : Int) ∧ (0 : Int) < ((x.2.2.2.1 : Nat) : Int) then
             (c_quant ((x.2.2.2.2.1 0, x.2.2.2.2.2.1 0, x.2.2.2.2.2.2.1 0, x.2.2.2.2.2.2.2.1 0, x.2.2.2.2.2.2.2.2.1 0, (0 : Int), (1 : Int), (0 : Int), (0 : Int), (0 : Int), x.2.2.2.2.2.2.2.2.2))).bind fun z134 =>
              dn z134
            else
             none
           else
            if (x.1 == (11 : Int)) = true then
             if (0 : Int) ≤ (0 : Int) ∧ (0 : Int) < ((x.2.2.2.1 : Nat) : Int) then
              (c_quant ((x.2.2.2.2.1 0, x.2.2.2.2.2.1 0, x.2.2.2.2.2.2.1 0, x.2.2.2.2.2.2.2.1 0, x.2.2.2.2.2.2.2.2.1 0, (0 : Int), (1 : Int), (0 : Int), (0 : Int), (0 : Int), x.2.2.2.2.2.2.2.2.2))).bind fun z152 =>
               dn z152
             else
              none
            else
             if (x.1 == (6 : Int)) = true then
              if (0 : Int) ≤ (0 : Int) ∧ (0 : Int) < ((x.2.2.2.1 : Nat) : Int) then
               (c_cond ((x.2.2.2.2.1 0, x.2.2.2.2.2.1 0, x.2.2.2.2.2.2.1 0, x.2.2.2.2.2.2.2.1 0, x.2.2.2.2.2.2.2.2.1 0, x.2.2.2.2.2.2.2.2.2))).bind fun z165 =>
                if (z165.1 != (0 : Int)) = true then
                 dn z165
                else
                 if (0 : Int) ≤ (1 : Int) ∧ (1 : Int) < ((x.2.2.2.1 : Nat) : Int) then
                  (c_quant ((x.2.2.2.2.1 1, x.2.2.2.2.2.1 1, x.2.2.2.2.2.2.1 1, x.2.2.2.2.2.2.2.1 1, x.2.2.2.2.2.2.2.2.1 1, (0 : Int), (0 : Int), (1 : Int), (0 : Int), (0 : Int), z165.2))).bind fun z183 =>
                   dn z183
                 else
                  none
              else
               none
             else
              if (x.1 == (3 : Int)) = true then
               if (0 : Int) ≤ (0 : Int) ∧ (0 : Int) < ((x.2.2.2.1 : Nat) : Int) then
                (c_cond ((x.2.2.2.2.1 0, x.2.2.2.2.2.1 0, x.2.2.2.2.2.2.1 0, x.2.2.2.2.2.2.2.1 0, x.2.2.2.2.2.2.2.2.1 0, x.2.2.2.2.2.2.2.2.2))).bind fun z196 =>
                 if (z196.1 != (0 : Int)) = true then
                  dn z196
                 else
                  if (0 : Int) ≤ (1 : Int) ∧ (1 : Int) ≤ ((x.2.2.2.1 : Nat) : Int) ∧ ((x.2.2.2.1 : Nat) : Int) ≤ ((x.2.2.2.1 : Nat) : Int) then
                   (c_alls ((Int.toNat ((x.2.2.2.1 : Nat) : Int) - 1, fun (j : Nat) => [i64 (x.2.2.2.2.1 (1 + j)), i64 (x.2.2.2.2.2.1 (1 + j)), st (x.2.2.2.2.2.2.1 (1 + j)), V.ro 4 (x.2.2.2.2.2.2.2.1 (1 + j)) (x.2.2.2.2.2.2.2.2.1 (1 + j))], z196.2))).bind fun z206 =>
                    dn z206
                  else
                   none
               else
                none
              else
               (c_alls ((x.2.2.2.1, fun (j : Nat) => [i64 (x.2.2.2.2.1 j), i64 (x.2.2.2.2.2.1 j), st (x.2.2.2.2.2.2.1 j), V.ro 4 (x.2.2.2.2.2.2.2.1 j) (x.2.2.2.2.2.2.2.2.1 j)], x.2.2.2.2.2.2.2.2.2))).bind fun z216 =>
                dn z216
theorem n_stmtN {β : Type} (c_wellF : a_wellF → Option g_wellF) (c_inRange : a_inRange → Option g_inRange) (c_letS : a_letS → Option g_letS) (c_cond : a_cond → Option g_cond) (c_quant : a_quant → Option g_quant) (c_alls : a_alls → Option g_alls) (x : a_stmtN) (dn : g_stmtN → Option β) : t_stmtN c_wellF c_inRange c_letS c_cond c_quant c_alls x dn = (t_stmtN c_wellF c_inRange c_letS c_cond c_quant c_alls x some).bind dn := by
  unfold t_stmtN
  repeat' first | exact free_none | refine free_bind (fun z => ?_) | refine free_ite ?_ ?_ | refine free_sum (fun z => ?_) (fun z => ?_) | rfl
theorem r_stmtN (c_wellF : a_wellF → Option g_wellF) (c_inRange : a_inRange → Option g_inRange) (c_letS : a_letS → Option g_letS) (c_cond : a_cond → Option g_cond) (c_quant : a_quant → Option g_quant) (c_alls : a_alls → Option g_alls) (x : a_stmtN) : callK E5 (ftab 53 (fun _ _ => true) A_wellF x_wellF c_wellF (ftab 54 (fun _ _ => true) A_inRange x_inRange c_inRange (ftab 55 (fun _ _ => true) A_letS x_letS c_letS (ftab 56 (fun _ _ => true) A_cond x_cond c_cond (ftab 57 (fun _ _ => true) A_quant x_quant c_quant (ftab 58 (fun _ _ => true) A_alls x_alls c_alls ca0)))))) lo0 38 (A_stmtN x).1 (A_stmtN x).2 K = t_stmtN (fun x => viaF A_wellF c_wellF (A_wellF x)) (fun x => viaF A_inRange c_inRange (A_inRange x)) (fun x => viaF A_letS c_letS (A_letS x)) (fun x => viaF A_cond c_cond (A_cond x)) (fun x => viaF A_quant c_quant (A_quant x)) (fun x => viaF A_alls c_alls (A_alls x)) x (fun z => some (.c (R_stmtN z))) := by kernel_rfl
theorem s_stmtN (c_wellF : a_wellF → Option g_wellF) (h_wellF : ∀ x z, c_wellF x = some z → SC E5 53 (A_wellF x).1 (A_wellF x).2 (R_wellF z)) (c_inRange : a_inRange → Option g_inRange) (h_inRange : ∀ x z, c_inRange x = some z → SC E5 54 (A_inRange x).1 (A_inRange x).2 (R_inRange z)) (c_letS : a_letS → Option g_letS) (h_letS : ∀ x z, c_letS x = some z → SC E5 55 (A_letS x).1 (A_letS x).2 (R_letS z)) (c_cond : a_cond → Option g_cond) (h_cond : ∀ x z, c_cond x = some z → SC E5 56 (A_cond x).1 (A_cond x).2 (R_cond z)) (c_quant : a_quant → Option g_quant) (h_quant : ∀ x z, c_quant x = some z → SC E5 57 (A_quant x).1 (A_quant x).2 (R_quant z)) (c_alls : a_alls → Option g_alls) (h_alls : ∀ x z, c_alls x = some z → SC E5 58 (A_alls x).1 (A_alls x).2 (R_alls z)) (q : Nat) (x : a_stmtN) (z : g_stmtN) (h : t_stmtN c_wellF c_inRange c_letS c_cond c_quant c_alls x some = some z) : SC E5 38 (A_stmtN x).1 (A_stmtN x).2 (R_stmtN z) := by
  refine SC.of hW5 hX5 (ftab_cons h_wellF xe_wellF (ftab_cons h_inRange xe_inRange (ftab_cons h_letS xe_letS (ftab_cons h_cond xe_cond (ftab_cons h_quant xe_quant (ftab_cons h_alls xe_alls ca0_sound)))))) lo0_sound ((r_stmtN c_wellF c_inRange c_letS c_cond c_quant c_alls x).trans ?_)
  rw [via_eq i_wellF c_wellF, via_eq i_inRange c_inRange, via_eq i_letS c_letS, via_eq i_cond c_cond, via_eq i_quant c_quant, via_eq i_alls c_alls, n_stmtN, h]; rfl
abbrev allsN_l0_a : Type := Int × Nat × (ByteArray → Bool) × (ByteArray → Int) × (ByteArray → Int) × (ByteArray → Int) × (ByteArray → Int) × (ByteArray → Int)
abbrev allsN_l0_g : Type := (Int × Nat × (ByteArray → Bool) × (ByteArray → Int) × (ByteArray → Int) × (ByteArray → Int) × (ByteArray → Int) × (ByteArray → Int)) ⊕ (Nat × (ByteArray → Bool) × (ByteArray → Int) × (ByteArray → Int) × (ByteArray → Int) × (ByteArray → Int) × (ByteArray → Int))
def allsN_l0_S (x : a_allsN) (y : allsN_l0_a) : St := { fr := [V.ptr 0 0] ++ jk 7 ++ [V.ro 4 (x.1) fun (j : Nat) => [i64 (x.2.1 j), i64 (x.2.2.1 j), st (x.2.2.2.1 j), V.ro 4 (x.2.2.2.2.1 j) (x.2.2.2.2.2.1 j)], i64 ((x.1 : Nat) : Int), i64 (y.1)] ++ jk 10, H := hp [some (Chunk.blk [V.mp 1]), some (Chunk.smap (y.2.1) (y.2.2.1) fun (j : ByteArray) => V.agg [i64 (y.2.2.2.1 j), i64 (y.2.2.2.2.1 j), i64 (y.2.2.2.2.2.1 j), i64 (y.2.2.2.2.2.2.1 j), i64 (y.2.2.2.2.2.2.2 j)])], nx := 2, rt := 1, me := 58 }
def allsN_l0_d (s : St) : allsN_l0_a := ((vI (s.fr.getD 10 .junk)), (smN (s.H 1)), (smH (s.H 1)), (fun j => (vI ((vAg ((smF (s.H 1)) j)).getD 0 .junk))), (fun j => (vI ((vAg ((smF (s.H 1)) j)).getD 1 .junk))), (fun j => (vI ((vAg ((smF (s.H 1)) j)).getD 2 .junk))), (fun j => (vI ((vAg ((smF (s.H 1)) j)).getD 3 .junk))), (fun j => (vI ((vAg ((smF (s.H 1)) j)).getD 4 .junk))))
theorem allsN_l0_i (x : a_allsN) : ∀ y y', allsN_l0_S x y = allsN_l0_S x y' → y = y' := fun y y' h => (congrArg allsN_l0_d h :)
def allsN_l0_T (x : a_allsN) : allsN_l0_g → Ex × St := (Sum.elim (fun z => (Ex.ret, { fr := jk 4 ++ [i64 (z.1)] ++ jk 16, H := hp [some (Chunk.blk [V.mp 1]), some (Chunk.smap (z.2.1) (z.2.2.1) fun (j : ByteArray) => V.agg [i64 (z.2.2.2.1 j), i64 (z.2.2.2.2.1 j), i64 (z.2.2.2.2.2.1 j), i64 (z.2.2.2.2.2.2.1 j), i64 (z.2.2.2.2.2.2.2 j)])], nx := 2, rt := 1, me := 58 })) (fun z => (Ex.exit 0, { fr := [V.junk] ++ jk 20, H := hp [some (Chunk.blk [V.mp 1]), some (Chunk.smap (z.1) (z.2.1) fun (j : ByteArray) => V.agg [i64 (z.2.2.1 j), i64 (z.2.2.2.1 j), i64 (z.2.2.2.2.1 j), i64 (z.2.2.2.2.2.1 j), i64 (z.2.2.2.2.2.2 j)])], nx := 2, rt := 1, me := 58 })))
def allsN_l0_x (x : a_allsN) (z : allsN_l0_g) (k : KX) : Option Ans := Sum.elim (fun za => k (allsN_l0_T x (.inl za)).1 (allsN_l0_T x (.inl za)).2) (fun zb => k (allsN_l0_T x (.inr zb)).1 (allsN_l0_T x (.inr zb)).2) z
theorem allsN_l0_xe (x : a_allsN) : ∀ z k, allsN_l0_x x z k = k (allsN_l0_T x z).1 (allsN_l0_T x z).2 := fun z k => by
  rcases z with z | z <;> rfl
theorem allsN_l0_k0 (x : a_allsN) (z : Int × Nat × (ByteArray → Bool) × (ByteArray → Int) × (ByteArray → Int) × (ByteArray → Int) × (ByteArray → Int) × (ByteArray → Int)) : KCM [(0, 0)] 16 (allsN_l0_T x (.inl z)).1 (allsN_l0_T x (.inl z)).2 = some (.l (allsN_l0_T x (.inl z)).1 (allsN_l0_T x (.inl z)).2) := by kernel_rfl
theorem allsN_l0_k1 (x : a_allsN) (z : Nat × (ByteArray → Bool) × (ByteArray → Int) × (ByteArray → Int) × (ByteArray → Int) × (ByteArray → Int) × (ByteArray → Int)) : KCM [(0, 0)] 16 (allsN_l0_T x (.inr z)).1 (allsN_l0_T x (.inr z)).2 = some (.l (allsN_l0_T x (.inr z)).1 (allsN_l0_T x (.inr z)).2) := by kernel_rfl
def allsN_l0_t {β : Type} (c_stmt : a_stmt → Option g_stmt) (x : a_allsN) (y : allsN_l0_a) (nx : allsN_l0_a → Option β) (dn : allsN_l0_g → Option β) : Option β :=
 if decide (y.1 < ((x.1 : Nat) : Int)) = true then
  if (0 : Int) ≤ y.1 ∧ y.1 < ((x.1 : Nat) : Int) then
   (c_stmt ((x.2.1 (Int.toNat (y.1)), x.2.2.1 (Int.toNat (y.1)), x.2.2.2.1 (Int.toNat (y.1)), x.2.2.2.2.1 (Int.toNat (y.1)), x.2.2.2.2.2.1 (Int.toNat (y.1)), y.2))).bind fun z116 =>
    if (z116.1 != (0 : Int)) = true then
     dn (.inl z116)
    else
     nx ((w (y.1 + (1 : Int)), z116.2))
  else
   none
 else
  dn (.inr (y.2))
theorem allsN_l0_n {β : Type} (c_stmt : a_stmt → Option g_stmt) (x : a_allsN) (y : allsN_l0_a) (nx : allsN_l0_a → Option β) (dn : allsN_l0_g → Option β) : allsN_l0_t c_stmt x y nx dn = (allsN_l0_t c_stmt x y (fun y => some (.inl y)) (fun z => some (.inr z))).bind fun r => Sum.elim nx dn r := by
  unfold allsN_l0_t
  repeat' first | exact free_none | refine free_bind (fun z => ?_) | refine free_ite ?_ ?_ | refine free_sum (fun z => ?_) (fun z => ?_) | rfl
theorem allsN_l0_r (c_stmt : a_stmt → Option g_stmt) (x : a_allsN) (y : allsN_l0_a) (lo : LoopT) : loopK E5 (ftab 38 (fun _ _ => true) A_stmt x_stmt c_stmt ca0) lo 0 1793 (bodyOf E5 58 0) (allsN_l0_S x y) (KCM [(0, 0)] 16) = allsN_l0_t (fun x => viaF A_stmt c_stmt (A_stmt x)) x y (fun y => lo 0 1793 (bodyOf E5 58 0) (allsN_l0_S x y) (KCM [(0, 0)] 16)) (fun z => some (.l (allsN_l0_T x z).1 (allsN_l0_T x z).2)) := by kernel_rfl
noncomputable def allsN_l0 (c_stmt : a_stmt → Option g_stmt) (q : Nat) (x : a_allsN) : allsN_l0_a → Option allsN_l0_g := lpG (fun y => allsN_l0_t c_stmt x y (fun y => some (.inl y)) (fun z => some (.inr z))) q
theorem allsN_l0_s (c_stmt : a_stmt → Option g_stmt) (h_stmt : ∀ x z, c_stmt x = some z → SC E5 38 (A_stmt x).1 (A_stmt x).2 (R_stmt z)) (q : Nat) (x : a_allsN) : ∀ y z, allsN_l0 c_stmt q x y = some z → SL E5 (bodyOf E5 58 0) (allsN_l0_S x y) (allsN_l0_T x z).1 (allsN_l0_T x z).2 :=
  SL.lp (LT := fun lo => lo) (T := allsN_l0_T x) (S := allsN_l0_S x) (ftab_cons h_stmt xe_stmt ca0_sound) hX5 (fun lo h => h) (fun lo y => (allsN_l0_r c_stmt x y lo).trans (by rw [via_eq i_stmt c_stmt]; exact allsN_l0_n _ _ _ _ _)) (fun z => by rcases z with z | z <;> first | exact allsN_l0_k0 x z | exact allsN_l0_k1 x z) q
def t_allsN {β : Type} (c_stmt : a_stmt → Option g_stmt) (l_allsN_l0 : allsN_l0_a → Option allsN_l0_g) (x : a_allsN) (dn : g_allsN → Option β) : Option β :=
 (l_allsN_l0 (((0 : Int), x.2.2.2.2.2.2))).bind fun z80 =>
  Sum.elim (fun z80a =>
  dn z80a) (fun z80b =>
  dn (((0 : Int), z80b))) z80
theorem n_allsN {β : Type} (c_stmt : a_stmt → Option g_stmt) (l_allsN_l0 : allsN_l0_a → Option allsN_l0_g) (x : a_allsN) (dn : g_allsN → Option β) : t_allsN c_stmt l_allsN_l0 x dn = (t_allsN c_stmt l_allsN_l0 x some).bind dn := by
  unfold t_allsN
  repeat' first | exact free_none | refine free_bind (fun z => ?_) | refine free_ite ?_ ?_ | refine free_sum (fun z => ?_) (fun z => ?_) | rfl
theorem r_allsN (c_stmt : a_stmt → Option g_stmt) (l_allsN_l0 : allsN_l0_a → Option allsN_l0_g) (x : a_allsN) : callK E5 (ftab 38 (fun _ _ => true) A_stmt x_stmt c_stmt ca0) (ltabF 0 (fun _ => true) (bodyOf E5 58 0) (allsN_l0_S x) (allsN_l0_x x) l_allsN_l0 lo0) 58 (A_allsN x).1 (A_allsN x).2 K = t_allsN (fun x => viaF A_stmt c_stmt (A_stmt x)) (fun y => viaF (fun y => (bodyOf E5 58 0, allsN_l0_S x y)) l_allsN_l0 (bodyOf E5 58 0, allsN_l0_S x y)) x (fun z => some (.c (R_allsN z))) := by kernel_rfl
theorem s_allsN (c_stmt : a_stmt → Option g_stmt) (h_stmt : ∀ x z, c_stmt x = some z → SC E5 38 (A_stmt x).1 (A_stmt x).2 (R_stmt z)) (q : Nat) (x : a_allsN) (z : g_allsN) (h : t_allsN c_stmt (allsN_l0 c_stmt q x) x some = some z) : SC E5 58 (A_allsN x).1 (A_allsN x).2 (R_allsN z) := by
  refine SC.of hW5 hX5 (ftab_cons h_stmt xe_stmt ca0_sound) (ltabF_cons (allsN_l0_s c_stmt h_stmt q x) (allsN_l0_xe x) lo0_sound) ((r_allsN c_stmt (allsN_l0 c_stmt q x) x).trans ?_)
  rw [via_eq i_stmt c_stmt, via_eq (pair_inj (bodyOf E5 58 0) (allsN_l0_i x)) (allsN_l0 c_stmt q x), n_allsN, h]; rfl
open Classical in
noncomputable def stAl : Nat → (a_stmt → Option g_stmt) × (a_alls → Option g_alls)
  | 0 => (fun _ => none, fun _ => none)
  | q + 1 => (fun x => if OpenN x.2.2.2.2.1 then t_stmtN (wellF q) (inRange q) (letS q) (cond q) (quant q) (stAl q).2 (x.1, x.2.1, x.2.2.1, x.2.2.2.1, opK x.2.2.2.2.1, opN x.2.2.2.2.1, opS x.2.2.2.2.1, opM x.2.2.2.2.1, opF x.2.2.2.2.1, x.2.2.2.2.2) some else none,
      fun x => if OpenN x.2.1 then t_allsN (stAl q).1 (allsN_l0 (stAl q).1 q (x.1, opK x.2.1, opN x.2.1, opS x.2.1, opM x.2.1, opF x.2.1, x.2.2)) (x.1, opK x.2.1, opN x.2.1, opS x.2.1, opM x.2.1, opF x.2.1, x.2.2) some else none)
noncomputable def stmt (q : Nat) : a_stmt → Option g_stmt := (stAl q).1
noncomputable def alls (q : Nat) : a_alls → Option g_alls := (stAl q).2
theorem stAl_sc : ∀ q, (∀ x z, stmt q x = some z → SC E5 38 (A_stmt x).1 (A_stmt x).2 (R_stmt z)) ∧ (∀ x z, alls q x = some z → SC E5 58 (A_alls x).1 (A_alls x).2 (R_alls z)) := by
  intro q
  induction q with
  | zero => exact ⟨(fun x z h => by cases h), (fun x z h => by cases h)⟩
  | succ q ih =>
    obtain ⟨h1, h2⟩ := ih
    refine ⟨fun x z h => ?_, fun x z h => ?_⟩
    · unfold stmt stAl at h
      dsimp only at h
      split at h
      · rename_i hO
        have this := s_stmtN (wellF q) (sc_wellF q) (inRange q) (sc_inRange q) (letS q) (sc_letS q) (cond q) (sc_cond q) (quant q) (sc_quant q) (alls q) h2 q (x.1, x.2.1, x.2.2.1, x.2.2.2.1, opK x.2.2.2.2.1, opN x.2.2.2.2.1, opS x.2.2.2.2.1, opM x.2.2.2.2.1, opF x.2.2.2.2.1, x.2.2.2.2.2) z h
        unfold A_stmtN at this
        unfold A_stmt
        simp only at this ⊢
        rw [open_eq hO] at this
        exact this
      · cases h
    · unfold alls stAl at h
      dsimp only at h
      split at h
      · rename_i hO
        have this := s_allsN (stmt q) h1 q (x.1, opK x.2.1, opN x.2.1, opS x.2.1, opM x.2.1, opF x.2.1, x.2.2) z h
        unfold A_allsN at this
        unfold A_alls
        simp only at this ⊢
        rw [open_eq hO] at this
        exact this
      · cases h
theorem sc_stmt (q : Nat) : ∀ (x : a_stmt) (z : g_stmt), stmt q x = some z → SC E5 38 (A_stmt x).1 (A_stmt x).2 (R_stmt z) := (stAl_sc q).1
abbrev a_Check : Type := ByteArray × Nat × (Nat → ByteArray) × (Nat → ByteArray) × Int × Int × ByteArray × Nat × (Nat → List V)
abbrev g_Check : Type := Int
def A_Check : a_Check → List V × List (Option Chunk) := (fun x => (fun (pn : ByteArray) (pm : Nat) (pa : Nat → ByteArray) (pu : Nat → ByteArray) (nk : Int) (nn : Int) (ns : ByteArray) (nm : Nat) (nf : Nat → List V) => (([.agg [st pn, .ro 2 pm (fun j => [st (pa j), st (pu j)]), i64 nk, i64 nn, st ns, .ro 4 nm nf]] : List V), ([] : List (Option Chunk)))) x.1 x.2.1 x.2.2.1 x.2.2.2.1 x.2.2.2.2.1 x.2.2.2.2.2.1 x.2.2.2.2.2.2.1 x.2.2.2.2.2.2.2.1 x.2.2.2.2.2.2.2.2)
def d_Check (t : List V × List (Option Chunk)) : a_Check := ((vS ((vAg (t.1.getD 0 .junk)).getD 0 .junk)), (vRoN ((vAg (t.1.getD 0 .junk)).getD 1 .junk)), (fun j => (vS (((vRoF ((vAg (t.1.getD 0 .junk)).getD 1 .junk)) j).getD 0 .junk))), (fun j => (vS (((vRoF ((vAg (t.1.getD 0 .junk)).getD 1 .junk)) j).getD 1 .junk))), (vI ((vAg (t.1.getD 0 .junk)).getD 2 .junk)), (vI ((vAg (t.1.getD 0 .junk)).getD 3 .junk)), (vS ((vAg (t.1.getD 0 .junk)).getD 4 .junk)), (vRoN ((vAg (t.1.getD 0 .junk)).getD 5 .junk)), (vRoF ((vAg (t.1.getD 0 .junk)).getD 5 .junk)))
theorem i_Check : ∀ x y, A_Check x = A_Check y → x = y := fun x y h => (congrArg d_Check h :)
def R_Check : g_Check → CRes := (fun z => (fun (e : Int) => .ret (i64 e) []) z : (Int) → CRes)
def x_Check (z : g_Check) (k : CRes → Option Ans) : Option Ans := k (R_Check z)
theorem xe_Check : ∀ z k, x_Check z k = k (R_Check z) := fun z k => rfl
abbrev Check_l0_a : Type := Int × Nat × (ByteArray → Bool) × (ByteArray → Int) × (ByteArray → Int) × (ByteArray → Int) × (ByteArray → Int) × (ByteArray → Int)
abbrev Check_l0_g : Type := (Int) ⊕ (Nat × (ByteArray → Bool) × (ByteArray → Int) × (ByteArray → Int) × (ByteArray → Int) × (ByteArray → Int) × (ByteArray → Int))
def Check_l0_S (x : a_Check) (y : Check_l0_a) : St := { fr := [V.junk, V.ptr 0 0, V.junk, V.ptr 1 0] ++ jk 9 ++ [V.ro 2 (x.2.1) fun (j : Nat) => [st (x.2.2.1 j), st (x.2.2.2.1 j)], i64 ((x.2.1 : Nat) : Int), i64 (y.1)] ++ jk 32, H := hp [some (Chunk.blk [st (x.1), V.ro 2 (x.2.1) fun (j : Nat) => [st (x.2.2.1 j), st (x.2.2.2.1 j)], i64 (x.2.2.2.2.1), i64 (x.2.2.2.2.2.1), st (x.2.2.2.2.2.2.1), V.ro 4 (x.2.2.2.2.2.2.2.1) (x.2.2.2.2.2.2.2.2)]), some (Chunk.blk [V.mp 2]), some (Chunk.smap (y.2.1) (y.2.2.1) fun (j : ByteArray) => V.agg [i64 (y.2.2.2.1 j), i64 (y.2.2.2.2.1 j), i64 (y.2.2.2.2.2.1 j), i64 (y.2.2.2.2.2.2.1 j), i64 (y.2.2.2.2.2.2.2 j)])], nx := 3, rt := 0, me := 20 }
def Check_l0_d (s : St) : Check_l0_a := ((vI (s.fr.getD 15 .junk)), (smN (s.H 2)), (smH (s.H 2)), (fun j => (vI ((vAg ((smF (s.H 2)) j)).getD 0 .junk))), (fun j => (vI ((vAg ((smF (s.H 2)) j)).getD 1 .junk))), (fun j => (vI ((vAg ((smF (s.H 2)) j)).getD 2 .junk))), (fun j => (vI ((vAg ((smF (s.H 2)) j)).getD 3 .junk))), (fun j => (vI ((vAg ((smF (s.H 2)) j)).getD 4 .junk))))
theorem Check_l0_i (x : a_Check) : ∀ y y', Check_l0_S x y = Check_l0_S x y' → y = y' := fun y y' h => (congrArg Check_l0_d h :)
def Check_l0_T (x : a_Check) : Check_l0_g → Ex × St := (Sum.elim (fun z => (Ex.ret, { fr := [V.junk, V.junk, i64 z] ++ jk 45, H := hp [], nx := 0, rt := 0, me := 20 })) (fun z => (Ex.exit 0, { fr := [V.junk, V.ptr 0 0, V.junk, V.ptr 1 0] ++ jk 44, H := hp [some (Chunk.blk [st (x.1), V.ro 2 (x.2.1) fun (j : Nat) => [st (x.2.2.1 j), st (x.2.2.2.1 j)], i64 (x.2.2.2.2.1), i64 (x.2.2.2.2.2.1), st (x.2.2.2.2.2.2.1), V.ro 4 (x.2.2.2.2.2.2.2.1) (x.2.2.2.2.2.2.2.2)]), some (Chunk.blk [V.mp 2]), some (Chunk.smap (z.1) (z.2.1) fun (j : ByteArray) => V.agg [i64 (z.2.2.1 j), i64 (z.2.2.2.1 j), i64 (z.2.2.2.2.1 j), i64 (z.2.2.2.2.2.1 j), i64 (z.2.2.2.2.2.2 j)])], nx := 3, rt := 0, me := 20 })))
def Check_l0_x (x : a_Check) (z : Check_l0_g) (k : KX) : Option Ans := Sum.elim (fun za => k (Check_l0_T x (.inl za)).1 (Check_l0_T x (.inl za)).2) (fun zb => k (Check_l0_T x (.inr zb)).1 (Check_l0_T x (.inr zb)).2) z
theorem Check_l0_xe (x : a_Check) : ∀ z k, Check_l0_x x z k = k (Check_l0_T x z).1 (Check_l0_T x z).2 := fun z k => by
  rcases z with z | z <;> rfl
theorem Check_l0_k0 (x : a_Check) (z : Int) : KCM [(0, 10)] 4 (Check_l0_T x (.inl z)).1 (Check_l0_T x (.inl z)).2 = some (.l (Check_l0_T x (.inl z)).1 (Check_l0_T x (.inl z)).2) := by kernel_rfl
theorem Check_l0_k1 (x : a_Check) (z : Nat × (ByteArray → Bool) × (ByteArray → Int) × (ByteArray → Int) × (ByteArray → Int) × (ByteArray → Int) × (ByteArray → Int)) : KCM [(0, 10)] 4 (Check_l0_T x (.inr z)).1 (Check_l0_T x (.inr z)).2 = some (.l (Check_l0_T x (.inr z)).1 (Check_l0_T x (.inr z)).2) := by kernel_rfl
def Check_l0_t {β : Type} (c_Lookup : a_Lookup → Option g_Lookup) (c_declare : a_declare → Option g_declare) (c_stmt : a_stmt → Option g_stmt) (x : a_Check) (y : Check_l0_a) (nx : Check_l0_a → Option β) (dn : Check_l0_g → Option β) : Option β :=
 if decide (y.1 < ((x.2.1 : Nat) : Int)) = true then
  if (0 : Int) ≤ y.1 ∧ y.1 < ((x.2.1 : Nat) : Int) then
   if (!ByteArray.toList (x.2.2.2.1 (Int.toNat (y.1))) == ByteArray.toList { data := #[] }) = true then
    (c_Lookup (x.2.2.2.1 (Int.toNat (y.1)))).bind fun z146 =>
     if (!z146.2.2.2.2.2.2) = true then
      dn (.inl ((10 : Int)))
     else
      (c_declare ((x.2.2.1 (Int.toNat (y.1)), z146.1, z146.2.1, z146.2.2.1, z146.2.2.2.1, z146.2.2.2.2.1, y.2))).bind fun z160 =>
       if (z160.1 != (0 : Int)) = true then
        dn (.inl (z160.1))
       else
        nx ((w (y.1 + (1 : Int)), z160.2))
   else
    (c_declare ((x.2.2.1 (Int.toNat (y.1)), (0 : Int), (0 : Int), (0 : Int), (0 : Int), (0 : Int), y.2))).bind fun z174 =>
     if (z174.1 != (0 : Int)) = true then
      dn (.inl (z174.1))
     else
      nx ((w (y.1 + (1 : Int)), z174.2))
  else
   none
 else
  dn (.inr (y.2))
theorem Check_l0_n {β : Type} (c_Lookup : a_Lookup → Option g_Lookup) (c_declare : a_declare → Option g_declare) (c_stmt : a_stmt → Option g_stmt) (x : a_Check) (y : Check_l0_a) (nx : Check_l0_a → Option β) (dn : Check_l0_g → Option β) : Check_l0_t c_Lookup c_declare c_stmt x y nx dn = (Check_l0_t c_Lookup c_declare c_stmt x y (fun y => some (.inl y)) (fun z => some (.inr z))).bind fun r => Sum.elim nx dn r := by
  unfold Check_l0_t
  repeat' first | exact free_none | refine free_bind (fun z => ?_) | refine free_ite ?_ ?_ | refine free_sum (fun z => ?_) (fun z => ?_) | rfl
theorem Check_l0_r (c_Lookup : a_Lookup → Option g_Lookup) (c_declare : a_declare → Option g_declare) (c_stmt : a_stmt → Option g_stmt) (x : a_Check) (y : Check_l0_a) (lo : LoopT) : loopK E5 (ftab 36 (fun _ _ => true) A_Lookup x_Lookup c_Lookup (ftab 37 (fun _ _ => true) A_declare x_declare c_declare (ftab 38 (fun _ _ => true) A_stmt x_stmt c_stmt ca0))) lo 0 57354 (bodyOf E5 20 0) (Check_l0_S x y) (KCM [(0, 10)] 4) = Check_l0_t (fun x => viaF A_Lookup c_Lookup (A_Lookup x)) (fun x => viaF A_declare c_declare (A_declare x)) (fun x => viaF A_stmt c_stmt (A_stmt x)) x y (fun y => lo 0 57354 (bodyOf E5 20 0) (Check_l0_S x y) (KCM [(0, 10)] 4)) (fun z => some (.l (Check_l0_T x z).1 (Check_l0_T x z).2)) := by kernel_rfl
noncomputable def Check_l0 (c_Lookup : a_Lookup → Option g_Lookup) (c_declare : a_declare → Option g_declare) (c_stmt : a_stmt → Option g_stmt) (q : Nat) (x : a_Check) : Check_l0_a → Option Check_l0_g := lpG (fun y => Check_l0_t c_Lookup c_declare c_stmt x y (fun y => some (.inl y)) (fun z => some (.inr z))) q
theorem Check_l0_s (c_Lookup : a_Lookup → Option g_Lookup) (h_Lookup : ∀ x z, c_Lookup x = some z → SC E5 36 (A_Lookup x).1 (A_Lookup x).2 (R_Lookup z)) (c_declare : a_declare → Option g_declare) (h_declare : ∀ x z, c_declare x = some z → SC E5 37 (A_declare x).1 (A_declare x).2 (R_declare z)) (c_stmt : a_stmt → Option g_stmt) (h_stmt : ∀ x z, c_stmt x = some z → SC E5 38 (A_stmt x).1 (A_stmt x).2 (R_stmt z)) (q : Nat) (x : a_Check) : ∀ y z, Check_l0 c_Lookup c_declare c_stmt q x y = some z → SL E5 (bodyOf E5 20 0) (Check_l0_S x y) (Check_l0_T x z).1 (Check_l0_T x z).2 :=
  SL.lp (LT := fun lo => lo) (T := Check_l0_T x) (S := Check_l0_S x) (ftab_cons h_Lookup xe_Lookup (ftab_cons h_declare xe_declare (ftab_cons h_stmt xe_stmt ca0_sound))) hX5 (fun lo h => h) (fun lo y => (Check_l0_r c_Lookup c_declare c_stmt x y lo).trans (by rw [via_eq i_Lookup c_Lookup, via_eq i_declare c_declare, via_eq i_stmt c_stmt]; exact Check_l0_n _ _ _ _ _ _ _)) (fun z => by rcases z with z | z <;> first | exact Check_l0_k0 x z | exact Check_l0_k1 x z) q
def t_Check {β : Type} (c_Lookup : a_Lookup → Option g_Lookup) (c_declare : a_declare → Option g_declare) (c_stmt : a_stmt → Option g_stmt) (l_Check_l0 : Check_l0_a → Option Check_l0_g) (x : a_Check) (dn : g_Check → Option β) : Option β :=
 (l_Check_l0 (((0 : Int), 0, fun (x : ByteArray) => false, fun (j : ByteArray) => (0 : Int), fun (j : ByteArray) => (0 : Int), fun (j : ByteArray) => (0 : Int), fun (j : ByteArray) => (0 : Int), fun (j : ByteArray) => (0 : Int)))).bind fun z119 =>
  Sum.elim (fun z119a =>
  dn z119a) (fun z119b =>
  if (x.2.2.2.2.1 != (14 : Int)) = true then
   dn ((7 : Int))
  else
   (c_stmt ((x.2.2.2.2.1, x.2.2.2.2.2.1, x.2.2.2.2.2.2.1, x.2.2.2.2.2.2.2.1, x.2.2.2.2.2.2.2.2, z119b))).bind fun z133 =>
    dn (z133.1)) z119
theorem n_Check {β : Type} (c_Lookup : a_Lookup → Option g_Lookup) (c_declare : a_declare → Option g_declare) (c_stmt : a_stmt → Option g_stmt) (l_Check_l0 : Check_l0_a → Option Check_l0_g) (x : a_Check) (dn : g_Check → Option β) : t_Check c_Lookup c_declare c_stmt l_Check_l0 x dn = (t_Check c_Lookup c_declare c_stmt l_Check_l0 x some).bind dn := by
  unfold t_Check
  repeat' first | exact free_none | refine free_bind (fun z => ?_) | refine free_ite ?_ ?_ | refine free_sum (fun z => ?_) (fun z => ?_) | rfl
theorem r_Check (c_Lookup : a_Lookup → Option g_Lookup) (c_declare : a_declare → Option g_declare) (c_stmt : a_stmt → Option g_stmt) (l_Check_l0 : Check_l0_a → Option Check_l0_g) (x : a_Check) : callK E5 (ftab 36 (fun _ _ => true) A_Lookup x_Lookup c_Lookup (ftab 37 (fun _ _ => true) A_declare x_declare c_declare (ftab 38 (fun _ _ => true) A_stmt x_stmt c_stmt ca0))) (ltabF 0 (fun _ => true) (bodyOf E5 20 0) (Check_l0_S x) (Check_l0_x x) l_Check_l0 lo0) 20 (A_Check x).1 (A_Check x).2 K = t_Check (fun x => viaF A_Lookup c_Lookup (A_Lookup x)) (fun x => viaF A_declare c_declare (A_declare x)) (fun x => viaF A_stmt c_stmt (A_stmt x)) (fun y => viaF (fun y => (bodyOf E5 20 0, Check_l0_S x y)) l_Check_l0 (bodyOf E5 20 0, Check_l0_S x y)) x (fun z => some (.c (R_Check z))) := by kernel_rfl
theorem s_Check (c_Lookup : a_Lookup → Option g_Lookup) (h_Lookup : ∀ x z, c_Lookup x = some z → SC E5 36 (A_Lookup x).1 (A_Lookup x).2 (R_Lookup z)) (c_declare : a_declare → Option g_declare) (h_declare : ∀ x z, c_declare x = some z → SC E5 37 (A_declare x).1 (A_declare x).2 (R_declare z)) (c_stmt : a_stmt → Option g_stmt) (h_stmt : ∀ x z, c_stmt x = some z → SC E5 38 (A_stmt x).1 (A_stmt x).2 (R_stmt z)) (q : Nat) (x : a_Check) (z : g_Check) (h : t_Check c_Lookup c_declare c_stmt (Check_l0 c_Lookup c_declare c_stmt q x) x some = some z) : SC E5 20 (A_Check x).1 (A_Check x).2 (R_Check z) := by
  refine SC.of hW5 hX5 (ftab_cons h_Lookup xe_Lookup (ftab_cons h_declare xe_declare (ftab_cons h_stmt xe_stmt ca0_sound))) (ltabF_cons (Check_l0_s c_Lookup h_Lookup c_declare h_declare c_stmt h_stmt q x) (Check_l0_xe x) lo0_sound) ((r_Check c_Lookup c_declare c_stmt (Check_l0 c_Lookup c_declare c_stmt q x) x).trans ?_)
  rw [via_eq i_Lookup c_Lookup, via_eq i_declare c_declare, via_eq i_stmt c_stmt, via_eq (pair_inj (bodyOf E5 20 0) (Check_l0_i x)) (Check_l0 c_Lookup c_declare c_stmt q x), n_Check, h]; rfl
noncomputable def Check (q : Nat) (x : a_Check) : Option g_Check := t_Check (Lookup q) (declare q) (stmt q) (Check_l0 (Lookup q) (declare q) (stmt q) q x) x some
theorem sc_Check (q : Nat) : ∀ (x : a_Check) (z : g_Check), Check q x = some z → SC E5 20 (A_Check x).1 (A_Check x).2 (R_Check z) := fun x z h => s_Check (Lookup q) (sc_Lookup q) (declare q) (sc_declare q) (stmt q) (sc_stmt q) q x z h
end Go.Proofs.YtniogljhkjbcgaaDoor
/- Types: statements on trees as data (plain). -/
namespace Go.Proofs.YtniogljhkjbcgaaDoor
open Go Go.Am Go.Proofs
set_option linter.unusedSimpArgs false
set_option linter.unusedVariables false
set_option maxRecDepth 100000
/-- Variables: how many, and of which dimension. -/
abbrev Sg : Type := Nat × (ByteArray → Option DimT)
def absS (t : TabT) : Sg := (t.1, tabOf t)
def putT (T : ByteArray → Option DimT) (s : ByteArray) (d : DimT) : ByteArray → Option DimT := fun x => if x = s then some d else T x
def declV (s : ByteArray) (d : DimT) (g : Sg) : Int × Sg := if (g.2 s).isSome then (4, g) else if g.1 ≥ 12 then (2, g) else (0, g.1 + 1, putT g.2 s d)
def tyD' (z : Ty) : DimT := (z.2.1, z.2.2.1, z.2.2.2.1, z.2.2.2.2.1, z.2.2.2.2.2.1)
noncomputable def condV (a : Tr) (g : Sg) : Int := if errV (ofV g.2 a) = 0 then (if (ofV g.2 a).1 = true then 0 else 12) else errV (ofV g.2 a)
noncomputable def quantV (a : Tr) (d : DimT) (g : Sg) : Int := if errV (ofV g.2 a) = 0 then (if (ofV g.2 a).1 = true then 12 else if tyD' (ofV g.2 a) = d then 0 else 10) else errV (ofV g.2 a)
noncomputable def letT (T : Ty) (k : Int) (s : ByteArray) (g : Sg) : Int × Sg :=
  if errV T = 0 then
    if k = 2 then (match g.2 s with | none => (3, g) | some d => if T.1 = true then (12, g) else if d = tyD' T then (0, g) else (10, g))
    else if T.1 = true then (12, g) else declV s (tyD' T) g
  else (errV T, g)
noncomputable def letV (k : Int) (s : ByteArray) (a : Tr) (g : Sg) : Int × Sg := letT (ofV g.2 a) k s g
def kdT : Tr → Int | .node k _ _ _ => k
def kdAt (l : List Tr) (i : Nat) : Int := match l[i]? with | some t => kdT t | none => 0
/-- Statements that are well-formed. -/
def wfV (k : Int) (l : List Tr) : Bool :=
  if k = 14 then true else
  if k = 1 ∨ k = 2 ∨ k = 7 ∨ k = 8 then l.length == 1 else
  if k = 5 ∨ k = 11 ∨ k = 9 ∨ k = 10 then l.length == 1 && kdAt l 0 == 15 else
  if k = 6 then l.length == 2 && kdAt l 1 == 15 else
  if k = 3 then l.length == 3 && (kdAt l 1 == 14 && kdAt l 2 == 14) else
  if k = 4 then l.length == 1 && kdAt l 0 == 14 else
  if k = 12 ∨ k = 13 then l.length == 0 else false
def rgV (k n : Int) : Bool :=
  if k = 4 then decide (1 ≤ n ∧ n ≤ 100) else
  if k = 9 ∨ k = 10 then decide (0 ≤ n ∧ n ≤ 7) else
  if k = 12 then decide (0 ≤ n ∧ n ≤ 99) else
  if k = 13 then decide (0 ≤ n ∧ n ≤ 999) else true
def hdT (l : List Tr) : Tr := l.headD (.node 0 0 ByteArray.empty [])
def sdT (l : List Tr) : Tr := l.tail.headD (.node 0 0 ByteArray.empty [])
mutual
noncomputable def stV : Tr → Sg → Int × Sg
  | .node k n s l, g =>
    if wfV k l = false then (7, g) else
    if rgV k n = false then (5, g) else
    if k = 1 ∨ k = 2 then letV k s (hdT l) g else
    if k = 7 then (condV (hdT l) g, g) else
    if k = 8 then (quantV (hdT l) (0, 0, 0, 1, 0) g, g) else
    if k = 5 ∨ k = 9 then (quantV (hdT l) (0, 0, 1, 0, 0) g, g) else
    if k = 10 ∨ k = 11 then (quantV (hdT l) (0, 1, 0, 0, 0) g, g) else
    if k = 6 then (if condV (hdT l) g = 0 then (quantV (sdT l) (0, 0, 1, 0, 0) g, g) else (condV (hdT l) g, g)) else
    if k = 3 then (if condV (hdT l) g = 0 then alV 1 l g else (condV (hdT l) g, g)) else
    alV 0 l g
/-- Statements one after the other, the first ones passed over. -/
noncomputable def alV : Nat → List Tr → Sg → Int × Sg
  | _, [], g => (0, g)
  | i + 1, _ :: l, g => alV i l g
  | 0, t :: l, g => if (stV t g).1 = 0 then alV 0 l (stV t g).2 else stV t g
end
theorem stV_node (k n : Int) (s : ByteArray) (l : List Tr) (g : Sg) : stV (.node k n s l) g =
    if wfV k l = false then (7, g) else
    if rgV k n = false then (5, g) else
    if k = 1 ∨ k = 2 then letV k s (hdT l) g else
    if k = 7 then (condV (hdT l) g, g) else
    if k = 8 then (quantV (hdT l) (0, 0, 0, 1, 0) g, g) else
    if k = 5 ∨ k = 9 then (quantV (hdT l) (0, 0, 1, 0, 0) g, g) else
    if k = 10 ∨ k = 11 then (quantV (hdT l) (0, 1, 0, 0, 0) g, g) else
    if k = 6 then (if condV (hdT l) g = 0 then (quantV (sdT l) (0, 0, 1, 0, 0) g, g) else (condV (hdT l) g, g)) else
    if k = 3 then (if condV (hdT l) g = 0 then alV 1 l g else (condV (hdT l) g, g)) else
    alV 0 l g := by rw [stV]
theorem alV_nil (i : Nat) (g : Sg) : alV i [] g = (0, g) := by cases i <;> rw [alV]
theorem alV_cons (t : Tr) (l : List Tr) (g : Sg) : alV 0 (t :: l) g = if (stV t g).1 = 0 then alV 0 l (stV t g).2 else stV t g := by rw [alV]
theorem alV_one (t : Tr) (l : List Tr) (g : Sg) : alV 1 (t :: l) g = alV 0 l g := by rw [alV]
abbrev Out (r : Int × Sg) (z : g_declare) : Prop := (z.1, absS z.2) = r
theorem has_eq (t : TabT) (s : ByteArray) : (tabOf t s).isSome = t.2.1 s := by
  unfold tabOf; cases t.2.1 s <;> simp
theorem declV_dup {s : ByteArray} {d : DimT} {g : Sg} (h : (g.2 s).isSome = true) : declV s d g = (4, g) := by unfold declV; rw [if_pos h]
theorem declV_full {s : ByteArray} {d : DimT} {g : Sg} (h : ¬ (g.2 s).isSome = true) (h2 : g.1 ≥ 12) : declV s d g = (2, g) := by unfold declV; rw [if_neg h, if_pos h2]
theorem declV_ok {s : ByteArray} {d : DimT} {g : Sg} (h : ¬ (g.2 s).isSome = true) (h2 : ¬ g.1 ≥ 12) : declV s d g = (0, g.1 + 1, putT g.2 s d) := by unfold declV; rw [if_neg h, if_neg h2]
theorem declare_V (q : Nat) (s : ByteArray) (d : DimT) (t : TabT) : Runs (declare q (s, d.1, d.2.1, d.2.2.1, d.2.2.2.1, d.2.2.2.2, t)) (Out (declV s d (absS t))) := by
  have hs : ((absS t).2 s).isSome = t.2.1 s := has_eq t s
  unfold declare t_declare
  dsimp only
  refine Runs.ite (fun h => Runs.some ?_) fun h => Runs.ite (fun h2 => Runs.some ?_) fun h2 => Runs.some ?_
  · rw [declV_dup (by rw [hs]; exact h)]
  · rw [declV_full (by rw [hs]; exact h) (show t.1 ≥ 12 by simp only [decide_eq_true_eq] at h2; omega)]
  · rw [declV_ok (by rw [hs]; exact h) (show ¬ t.1 ≥ 12 by simp only [decide_eq_true_eq] at h2; omega)]
    show ((0 : Int), absS _) = _
    rw [if_neg h]
    unfold absS
    rw [tabOf_put t s d]
    rfl
theorem of_R {t : TabT} {a : Tr} {x : NodeT} {q : Nat} (h : Rep a x) (hq : siz a < q) : Runs (Of q (x.1, x.2.1, x.2.2.1, x.2.2.2.1, x.2.2.2.2, t)) (fun z => z = ((ofV (tabOf t) a).1, (ofV (tabOf t) a).2.1, (ofV (tabOf t) a).2.2.1, (ofV (tabOf t) a).2.2.2.1, (ofV (tabOf t) a).2.2.2.2.1, (ofV (tabOf t) a).2.2.2.2.2.1, (ofV (tabOf t) a).2.2.2.2.2.2, t)) := ⟨_, of_V t a x q h hq, rfl⟩
theorem cond_V {t : TabT} {a : Tr} {x : NodeT} {q : Nat} (h : Rep a x) (hq : siz a < q) : Runs (cond q (x.1, x.2.1, x.2.2.1, x.2.2.2.1, x.2.2.2.2, t)) (Out (condV a (absS t), absS t)) := by
  unfold cond t_cond condV errV
  refine Runs.bind (of_R h hq) fun z hz => ?_
  subst hz
  dsimp only
  show Runs _ (Out ((if (ofV (tabOf t) a).2.2.2.2.2.2 = 0 then (if (ofV (tabOf t) a).1 = true then 0 else 12) else (ofV (tabOf t) a).2.2.2.2.2.2), absS t))
  generalize ofV (tabOf t) a = T
  by_cases he : T.2.2.2.2.2.2 = 0
  · rw [if_pos (by simpa using he), if_pos he]
    cases hb : T.1
    · exact Runs.if_pos rfl (Runs.some rfl)
    · exact Runs.if_neg (by simp) (Runs.some (by rw [he]; rfl))
  · rw [if_neg (by simpa using he), if_neg he]
    exact Runs.some rfl
theorem quant_V {t : TabT} {a : Tr} {x : NodeT} {d : DimT} {q : Nat} (h : Rep a x) (hq : siz a < q) : Runs (quant q (x.1, x.2.1, x.2.2.1, x.2.2.2.1, x.2.2.2.2, d.1, d.2.1, d.2.2.1, d.2.2.2.1, d.2.2.2.2, t)) (Out (quantV a d (absS t), absS t)) := by
  unfold quant t_quant quantV errV
  refine Runs.bind (of_R h hq) fun z hz => ?_
  subst hz
  dsimp only
  show Runs _ (Out ((if (ofV (tabOf t) a).2.2.2.2.2.2 = 0 then (if (ofV (tabOf t) a).1 = true then 12 else if tyD' (ofV (tabOf t) a) = d then 0 else 10) else (ofV (tabOf t) a).2.2.2.2.2.2), absS t))
  generalize ofV (tabOf t) a = T
  by_cases he : T.2.2.2.2.2.2 = 0
  · rw [if_neg (by simpa using he), if_pos he]
    by_cases hb : T.1 = true
    · rw [if_pos hb, if_pos hb]
      exact Runs.some rfl
    · rw [if_neg hb, if_neg hb]
      by_cases hd : tyD' T = d
      · rw [if_pos hd, if_neg (by rw [dims_ne]; exact fun h => h hd)]
        exact Runs.some rfl
      · rw [if_neg hd, if_pos (by rw [dims_ne]; exact hd)]
        exact Runs.some rfl
  · rw [if_pos (by simpa using he), if_neg he]
    exact Runs.some rfl
theorem inRange_V (q : Nat) (k n : Int) (s : ByteArray) (m : Nat) (f : Nat → List V) : Runs (inRange q (k, n, s, m, f)) (fun b => b = rgV k n) := by
  unfold inRange t_inRange rgV
  dsimp only
  have key : ∀ (lo hi : Int), Runs (if decide (n ≥ lo) = true then (some (decide (n ≤ hi)) : Option g_inRange) else some false) (fun b => b = decide (lo ≤ n ∧ n ≤ hi)) := fun lo hi => by
    refine Runs.ite (fun h => Runs.some ?_) fun h => Runs.some ?_
    · have h : lo ≤ n := by simpa using h
      simp [h]
    · have h : ¬ lo ≤ n := by simpa using h
      simp [h]
  by_cases h4 : k = 4
  · rw [if_pos (show k = 4 by omega)]; exact Runs.if_pos (by simpa using h4) (key 1 100)
  rw [if_neg (show ¬ (k = 4) by omega)]; refine Runs.if_neg (by simpa using h4) ?_
  by_cases h9 : k = 9
  · rw [if_pos (show k = 9 ∨ k = 10 by omega)]; exact Runs.if_pos (by simpa using h9) (key 0 7)
  refine Runs.if_neg (by simpa using h9) ?_
  by_cases h10 : k = 10
  · rw [if_pos (show k = 9 ∨ k = 10 by omega)]; exact Runs.if_pos (by simpa using h10) (key 0 7)
  rw [if_neg (show ¬ (k = 9 ∨ k = 10) by omega)]; refine Runs.if_neg (by simpa using h10) ?_
  by_cases h12 : k = 12
  · rw [if_pos (show k = 12 by omega)]; exact Runs.if_pos (by simpa using h12) (key 0 99)
  rw [if_neg (show ¬ (k = 12) by omega)]; refine Runs.if_neg (by simpa using h12) ?_
  by_cases h13 : k = 13
  · rw [if_pos (show k = 13 by omega)]; exact Runs.if_pos (by simpa using h13) (key 0 999)
  rw [if_neg (show ¬ (k = 13) by omega)]; refine Runs.if_neg (by simpa using h13) ?_
  exact Runs.some rfl
theorem rep_kd {t : Tr} {x : NodeT} (h : Rep t x) : x.1 = kdT t := by
  obtain ⟨k, n, s, l⟩ := t
  unfold Rep at h
  exact h.1
theorem kdAt_rep {l : List Tr} {f : Nat → List V} (hr : RepL l f 0) {i : Nat} (hi : i < l.length) : kdAt l i = opK f i := by
  unfold kdAt
  rw [List.getElem?_eq_getElem hi]
  have := repL_at l f 0 hr i _ (List.getElem?_eq_getElem hi)
  rw [Nat.zero_add] at this
  exact (rep_kd this).symm
theorem wellF_V (q : Nat) (k n : Int) (s : ByteArray) {l : List Tr} {f : Nat → List V} (hr : RepL l f 0) : Runs (wellF q (k, n, s, l.length, opK f, opN f, opS f, opM f, opF f)) (fun b => b = wfV k l) := by
  unfold wellF t_wellF wfV
  dsimp only
  have e1 : ∀ m : Nat, ((l.length : Int) == (m : Int)) = (l.length == m) := fun m => by
    by_cases h : l.length = m
    · simp [h]
    · have h2 : ¬ ((l.length : Int) = (m : Int)) := by omega
      rw [beq_eq_false_iff_ne.2 h2, beq_eq_false_iff_ne.2 h]
  have lit : ∀ (c : Int), Runs (if ((l.length : Int) == (1 : Int)) = true then (if (0 : Int) ≤ (0 : Int) ∧ (0 : Int) < (l.length : Int) then (some (opK f 0 == c) : Option g_wellF) else none) else some false) (fun b => b = (l.length == 1 && kdAt l 0 == c)) := fun c => by
    refine Runs.ite (fun h => ?_) fun h => Runs.some ?_
    · have h : (l.length : Int) = 1 := by simpa using h
      have h' : l.length = 1 := by omega
      refine Runs.if_pos ⟨by omega, by omega⟩ (Runs.some ?_)
      rw [kdAt_rep hr (by omega)]
      simp [h']
    · have h : ¬ (l.length : Int) = 1 := by simpa using h
      have h' : ¬ l.length = 1 := by omega
      simp [h']
  have cnt : ∀ (m : Nat), ((l.length : Int) == ((m : Nat) : Int)) = (l.length == m) := e1
  by_cases h14 : k = 14
  · rw [if_pos (show k = 14 by omega)]; exact Runs.if_pos (by simpa using h14) (Runs.some rfl)
  rw [if_neg (show ¬ (k = 14) by omega)]; refine Runs.if_neg (by simpa using h14) ?_
  by_cases h1 : k = 1
  · rw [if_pos (show k = 1 ∨ k = 2 ∨ k = 7 ∨ k = 8 by omega)]; exact Runs.if_pos (by simpa using h1) (Runs.some (cnt 1))
  refine Runs.if_neg (by simpa using h1) ?_
  by_cases h2 : k = 2
  · rw [if_pos (show k = 1 ∨ k = 2 ∨ k = 7 ∨ k = 8 by omega)]; exact Runs.if_pos (by simpa using h2) (Runs.some (cnt 1))
  refine Runs.if_neg (by simpa using h2) ?_
  by_cases h7 : k = 7
  · rw [if_pos (show k = 1 ∨ k = 2 ∨ k = 7 ∨ k = 8 by omega)]; exact Runs.if_pos (by simpa using h7) (Runs.some (cnt 1))
  refine Runs.if_neg (by simpa using h7) ?_
  by_cases h8 : k = 8
  · rw [if_pos (show k = 1 ∨ k = 2 ∨ k = 7 ∨ k = 8 by omega)]; exact Runs.if_pos (by simpa using h8) (Runs.some (cnt 1))
  rw [if_neg (show ¬ (k = 1 ∨ k = 2 ∨ k = 7 ∨ k = 8) by omega)]; refine Runs.if_neg (by simpa using h8) ?_
  by_cases h5 : k = 5
  · rw [if_pos (show k = 5 ∨ k = 11 ∨ k = 9 ∨ k = 10 by omega)]; exact Runs.if_pos (by simpa using h5) (lit 15)
  refine Runs.if_neg (by simpa using h5) ?_
  by_cases h11 : k = 11
  · rw [if_pos (show k = 5 ∨ k = 11 ∨ k = 9 ∨ k = 10 by omega)]; exact Runs.if_pos (by simpa using h11) (lit 15)
  refine Runs.if_neg (by simpa using h11) ?_
  by_cases h9 : k = 9
  · rw [if_pos (show k = 5 ∨ k = 11 ∨ k = 9 ∨ k = 10 by omega)]; exact Runs.if_pos (by simpa using h9) (lit 15)
  refine Runs.if_neg (by simpa using h9) ?_
  by_cases h10 : k = 10
  · rw [if_pos (show k = 5 ∨ k = 11 ∨ k = 9 ∨ k = 10 by omega)]; exact Runs.if_pos (by simpa using h10) (lit 15)
  rw [if_neg (show ¬ (k = 5 ∨ k = 11 ∨ k = 9 ∨ k = 10) by omega)]; refine Runs.if_neg (by simpa using h10) ?_
  by_cases h6 : k = 6
  · rw [if_pos (show k = 6 by omega)]; refine Runs.if_pos (by simpa using h6) ?_
    refine Runs.ite (fun h => ?_) fun h => Runs.some ?_
    · have h : (l.length : Int) = 2 := by simpa using h
      have h' : l.length = 2 := by omega
      refine Runs.if_pos ⟨by omega, by omega⟩ (Runs.some ?_)
      rw [kdAt_rep hr (by omega)]
      simp [h']
    · have h : ¬ (l.length : Int) = 2 := by simpa using h
      have h' : ¬ l.length = 2 := by omega
      simp [h']
  rw [if_neg (show ¬ (k = 6) by omega)]; refine Runs.if_neg (by simpa using h6) ?_
  by_cases h3 : k = 3
  · rw [if_pos (show k = 3 by omega)]; refine Runs.if_pos (by simpa using h3) ?_
    refine Runs.ite (fun h => ?_) fun h => Runs.some ?_
    · have h : (l.length : Int) = 3 := by simpa using h
      have h' : l.length = 3 := by omega
      refine Runs.if_pos ⟨by omega, by omega⟩ ?_
      rw [kdAt_rep hr (by omega), kdAt_rep hr (by omega)]
      refine Runs.ite (fun g => Runs.if_pos ⟨by omega, by omega⟩ (Runs.some ?_)) fun g => Runs.some ?_
      · simp [h', g]
      · have g : (opK f 1 == 14) = false := by simpa using g
        simp [g]
    · have h : ¬ (l.length : Int) = 3 := by simpa using h
      have h' : ¬ l.length = 3 := by omega
      simp [h']
  rw [if_neg (show ¬ (k = 3) by omega)]; refine Runs.if_neg (by simpa using h3) ?_
  by_cases h4 : k = 4
  · rw [if_pos (show k = 4 by omega)]; exact Runs.if_pos (by simpa using h4) (lit 14)
  rw [if_neg (show ¬ (k = 4) by omega)]; refine Runs.if_neg (by simpa using h4) ?_
  by_cases h12 : k = 12
  · rw [if_pos (show k = 12 ∨ k = 13 by omega)]; exact Runs.if_pos (by simpa using h12) (Runs.some (cnt 0))
  refine Runs.if_neg (by simpa using h12) ?_
  by_cases h13 : k = 13
  · rw [if_pos (show k = 12 ∨ k = 13 by omega)]; exact Runs.if_pos (by simpa using h13) (Runs.some (cnt 0))
  rw [if_neg (show ¬ (k = 12 ∨ k = 13) by omega)]; refine Runs.if_neg (by simpa using h13) ?_
  exact Runs.some rfl
theorem hd_rep {l : List Tr} {f : Nat → List V} (hr : RepL l f 0) (h : 0 < l.length) : Rep (hdT l) (kidAt f 0) ∧ siz (hdT l) ≤ sizL l := by
  cases l with
  | nil => simp at h
  | cons a l =>
    simp only [RepL] at hr
    refine ⟨hr.1, ?_⟩
    show siz a ≤ _
    simp only [sizL]; omega
theorem sd_rep {l : List Tr} {f : Nat → List V} (hr : RepL l f 0) (h : 1 < l.length) : Rep (sdT l) (kidAt f 1) ∧ siz (sdT l) ≤ sizL l := by
  cases l with
  | nil => simp at h
  | cons a l =>
    cases l with
    | nil => simp at h
    | cons b l =>
      simp only [RepL] at hr
      refine ⟨hr.2.1, ?_⟩
      show siz b ≤ _
      simp only [sizL]; omega
theorem letT_err {T : Ty} {k : Int} {s : ByteArray} {g : Sg} (h : ¬ T.2.2.2.2.2.2 = 0) : letT T k s g = (T.2.2.2.2.2.2, g) := by
  unfold letT errV; rw [if_neg h]
theorem letT_none {T : Ty} {s : ByteArray} {g : Sg} (h : T.2.2.2.2.2.2 = 0) (hs : g.2 s = none) : letT T 2 s g = (3, g) := by
  unfold letT errV; rw [if_pos h, if_pos rfl, hs]
theorem letT_bool {T : Ty} {s : ByteArray} {g : Sg} {d : DimT} (h : T.2.2.2.2.2.2 = 0) (hs : g.2 s = some d) (hb : T.1 = true) : letT T 2 s g = (12, g) := by
  unfold letT errV; rw [if_pos h, if_pos rfl, hs]; dsimp only; rw [if_pos hb]
theorem letT_same {T : Ty} {s : ByteArray} {g : Sg} {d : DimT} (h : T.2.2.2.2.2.2 = 0) (hs : g.2 s = some d) (hb : ¬ T.1 = true) (hd : d = tyD' T) : letT T 2 s g = (0, g) := by
  unfold letT errV; rw [if_pos h, if_pos rfl, hs]; dsimp only; rw [if_neg hb, if_pos hd]
theorem letT_diff {T : Ty} {s : ByteArray} {g : Sg} {d : DimT} (h : T.2.2.2.2.2.2 = 0) (hs : g.2 s = some d) (hb : ¬ T.1 = true) (hd : ¬ d = tyD' T) : letT T 2 s g = (10, g) := by
  unfold letT errV; rw [if_pos h, if_pos rfl, hs]; dsimp only; rw [if_neg hb, if_neg hd]
theorem letT_bool1 {T : Ty} {s : ByteArray} {g : Sg} (h : T.2.2.2.2.2.2 = 0) (hb : T.1 = true) : letT T 1 s g = (12, g) := by
  unfold letT errV; rw [if_pos h, if_neg (by decide), if_pos hb]
theorem letT_decl {T : Ty} {s : ByteArray} {g : Sg} (h : T.2.2.2.2.2.2 = 0) (hb : ¬ T.1 = true) : letT T 1 s g = declV s (tyD' T) g := by
  unfold letT errV; rw [if_pos h, if_neg (by decide), if_neg hb]
theorem letS_V {t : TabT} {k n : Int} {s : ByteArray} {l : List Tr} {f : Nat → List V} {q : Nat} (hr : RepL l f 0) (h : 0 < l.length) (hk : k = 1 ∨ k = 2) (hq : sizL l < q) : Runs (letS q (k, n, s, l.length, opK f, opN f, opS f, opM f, opF f, t)) (Out (letV k s (hdT l) (absS t))) := by
  obtain ⟨h1, h2⟩ := hd_rep hr h
  unfold letS t_letS letV
  dsimp only
  refine Runs.if_pos ⟨by omega, by omega⟩ (Runs.bind (of_R h1 (by omega)) fun z hz => ?_)
  subst hz
  dsimp only
  show Runs _ (Out (letT (ofV (tabOf t) (hdT l)) k s (absS t)))
  generalize ofV (tabOf t) (hdT l) = T
  by_cases he : T.2.2.2.2.2.2 = 0
  · refine Runs.if_neg (by simpa using he) ?_
    have dcl : Runs ((declare q (s, T.2.1, T.2.2.1, T.2.2.2.1, T.2.2.2.2.1, T.2.2.2.2.2.1, t)).bind fun z => some z) (Out (declV s (tyD' T) (absS t))) := Runs.bind (declare_V q s (tyD' T) t) fun z hz => Runs.some hz
    rcases hk with rfl | rfl
    · refine Runs.if_neg (by decide) (Runs.ite (fun hb => ?_) fun hb => Runs.if_neg (by decide) (Runs.if_neg (by decide) ?_))
      · rw [letT_bool1 he hb]; exact Runs.some rfl
      · rw [letT_decl he hb]; exact dcl
    · refine Runs.if_pos (by decide) ?_
      by_cases hs : t.2.1 s = true
      · have e : (absS t).2 s = some (t.2.2.1 s, t.2.2.2.1 s, t.2.2.2.2.1 s, t.2.2.2.2.2.1 s, t.2.2.2.2.2.2 s) := by show tabOf t s = _; unfold tabOf; rw [if_pos hs]
        refine Runs.if_neg (by rw [hs]; decide) (Runs.ite (fun hb => ?_) fun hb => Runs.if_pos (by decide) ?_)
        · rw [letT_bool he e hb]; exact Runs.some rfl
        · rw [if_pos hs, if_pos hs, if_pos hs, if_pos hs, if_pos hs]
          by_cases hd : (t.2.2.1 s, t.2.2.2.1 s, t.2.2.2.2.1 s, t.2.2.2.2.2.1 s, t.2.2.2.2.2.2 s) = tyD' T
          · rw [letT_same he e hb hd]
            exact Runs.if_neg (fun g => (dims_ne.1 g) hd) (Runs.if_pos (by decide) (Runs.some rfl))
          · rw [letT_diff he e hb hd]
            exact Runs.if_pos (dims_ne.2 hd) (Runs.some rfl)
      · have e : (absS t).2 s = none := by show tabOf t s = _; unfold tabOf; rw [if_neg hs]
        rw [letT_none he e]
        exact Runs.if_pos (by simpa using hs) (Runs.some rfl)
  · rw [letT_err he]
    exact Runs.if_pos (by simpa using he) (Runs.some rfl)
end Go.Proofs.YtniogljhkjbcgaaDoor
/- Types: Check on trees as data; TypesPrefixes (plain). -/
namespace Go.Proofs.YtniogljhkjbcgaaDoor
open Go Go.Am Go.Proofs
set_option linter.unusedSimpArgs false
set_option linter.unusedVariables false
set_option maxRecDepth 100000
theorem wf_len {k : Int} {l : List Tr} (h : wfV k l = true) : (k = 1 ∨ k = 2 ∨ k = 7 ∨ k = 8 ∨ k = 5 ∨ k = 9 ∨ k = 10 ∨ k = 11 ∨ k = 6 ∨ k = 3 → 0 < l.length) ∧ (k = 6 → 1 < l.length) ∧ (k = 3 → 1 < l.length) := by
  refine ⟨fun g => ?_, fun g => ?_, fun g => ?_⟩
  · rcases g with rfl | rfl | rfl | rfl | rfl | rfl | rfl | rfl | rfl | rfl <;> simp [wfV] at h <;> omega
  · subst g; simp [wfV] at h; omega
  · subst g; simp [wfV] at h; omega
theorem alls_loop {c : a_stmt → Option g_stmt} {l : List Tr} {f : Nat → List V} {t0 : TabT} (hl : l.length ≤ 9223372036854775807)
    (hc : ∀ (j : Nat) (tr : Tr) (t : TabT), l[j]? = some tr → Runs (c (opK f j, opN f j, opS f j, opM f j, opF f j, t)) (Out (stV tr (absS t)))) :
    ∀ (r q i : Nat) (t : TabT), i + r = l.length → r < q → Runs (allsN_l0 c q (l.length, opK f, opN f, opS f, opM f, opF f, t0) ((i : Int), t)) (fun z => Out (alV 0 (l.drop i) (absS t)) (Sum.elim id (fun t => (0, t)) z)) := by
  intro r
  induction r with
  | zero =>
    intro q i t hi hq
    obtain ⟨q, rfl⟩ : ∃ k, q = k + 1 := ⟨q - 1, by omega⟩
    refine lp_step ?_
    unfold allsN_l0_t
    dsimp only
    rw [List.drop_of_length_le (by omega), alV_nil]
    exact Runs.if_neg (by simp only [decide_eq_true_eq]; omega) (Runs.some rfl)
  | succ r ih =>
    intro q i t hi hq
    obtain ⟨q, rfl⟩ : ∃ k, q = k + 1 := ⟨q - 1, by omega⟩
    refine lp_step ?_
    unfold allsN_l0_t
    dsimp only
    have hil : i < l.length := by omega
    have ht : l[i]? = some l[i] := List.getElem?_eq_getElem hil
    rw [List.drop_eq_getElem_cons hil, alV_cons]
    refine Runs.if_pos (by simp only [decide_eq_true_eq]; omega) (Runs.if_pos ⟨by omega, by omega⟩ ?_)
    rw [Int.toNat_natCast, w_succ (by omega)]
    refine Runs.bind (hc i _ t ht) fun z hz => ?_
    have h1 : z.1 = (stV l[i] (absS t)).1 := congrArg Prod.fst hz
    have h2 : absS z.2 = (stV l[i] (absS t)).2 := congrArg Prod.snd hz
    refine Runs.ite (fun h => Runs.some ?_) fun h => Runs.some ?_
    · have h : ¬ z.1 = 0 := by simpa using h
      rw [if_neg (by rw [← h1]; exact h)]
      exact hz
    · have h : z.1 = 0 := by simpa using h
      rw [if_pos (by rw [← h1]; exact h), ← h2]
      exact ih q (i + 1) z.2 (by omega) (by omega)
theorem repL_tail {a : Tr} {l : List Tr} {f : Nat → List V} (h : RepL (a :: l) f 0) : RepL l (fun j => f (1 + j)) 0 := by
  simp only [RepL] at h
  refine repL_mk l _ 0 fun j t e => ?_
  have := repL_at l f (0 + 1) h.2 j t e
  rw [Nat.zero_add] at this ⊢
  exact this
theorem stAl_V : ∀ q : Nat, (∀ (tr : Tr) (x : NodeT) (t : TabT), Rep tr x → 2 * siz tr < q → siz tr ≤ 9223372036854775807 → Runs (stmt q (x.1, x.2.1, x.2.2.1, x.2.2.2.1, x.2.2.2.2, t)) (Out (stV tr (absS t)))) ∧
    (∀ (l : List Tr) (f : Nat → List V) (t : TabT), RepL l f 0 → OpenN f → 2 * sizL l + 1 < q → sizL l ≤ 9223372036854775807 → Runs (alls q (l.length, f, t)) (Out (alV 0 l (absS t)))) := by
  intro q
  induction q with
  | zero => exact ⟨fun _ _ _ _ h => by omega, fun _ _ _ _ _ h => by omega⟩
  | succ q ih =>
    obtain ⟨ih1, ih2⟩ := ih
    refine ⟨?_, ?_⟩
    · rintro ⟨k, n, s, l⟩ ⟨k', n', s', m', f⟩ t hr hq hm
      simp only [Rep] at hr
      obtain ⟨rfl, rfl, rfl, rfl, hl, ho, hk⟩ := hr
      simp only [siz] at hq hm
      unfold stmt stAl
      dsimp only
      rw [_root_.if_pos ho]
      unfold t_stmtN
      dsimp only
      refine Runs.bind (wellF_V q k' n' s' hk) fun b hb => ?_
      subst hb
      rw [stV_node]
      by_cases hw : wfV k' l = false
      · rw [if_pos hw]
        exact Runs.if_pos (by rw [hw]; rfl) (Runs.some rfl)
      rw [if_neg hw]
      have hw' : wfV k' l = true := by simpa using hw
      obtain ⟨w1, w2, w3⟩ := wf_len hw'
      refine Runs.if_neg (by rw [hw']; decide) (Runs.bind (inRange_V q k' n' s' l.length _) fun b hb => ?_)
      subst hb
      by_cases hg : rgV k' n' = false
      · rw [if_pos hg]
        exact Runs.if_pos (by rw [hg]; rfl) (Runs.some rfl)
      rw [if_neg hg]
      have hg' : rgV k' n' = true := by simpa using hg
      refine Runs.if_neg (by rw [hg']; decide) ?_
      have allC : ∀ t', Runs (((stAl q).2 (l.length, fun j => [i64 (opK f j), i64 (opN f j), st (opS f j), V.ro 4 (opM f j) (opF f j)], t')).bind fun z => some z) (Out (alV 0 l (absS t'))) := fun t' => by
        rw [open_eq ho]
        exact Runs.bind (ih2 l f t' hk ho (by omega) (by omega)) fun z hz => Runs.some hz
      by_cases h1 : k' = 1
      · rw [if_pos (show k' = 1 ∨ k' = 2 by omega)]
        exact Runs.if_pos (by simpa using h1) (Runs.bind (letS_V hk (w1 (by omega)) (.inl h1) (by omega)) fun z hz => Runs.some hz)
      refine Runs.if_neg (by simpa using h1) ?_
      by_cases h2 : k' = 2
      · rw [if_pos (show k' = 1 ∨ k' = 2 by omega)]
        exact Runs.if_pos (by simpa using h2) (Runs.bind (letS_V hk (w1 (by omega)) (.inr h2) (by omega)) fun z hz => Runs.some hz)
      rw [if_neg (show ¬ (k' = 1 ∨ k' = 2) by omega)]
      refine Runs.if_neg (by simpa using h2) ?_
      by_cases h7 : k' = 7
      · rw [if_pos h7]
        obtain ⟨g1, g2⟩ := hd_rep hk (w1 (by omega))
        exact Runs.if_pos (by simpa using h7) (Runs.if_pos ⟨by omega, by have := w1 (by omega); omega⟩ (Runs.bind (cond_V g1 (by omega)) fun z hz => Runs.some hz))
      rw [if_neg h7]
      refine Runs.if_neg (by simpa using h7) ?_
      by_cases h8 : k' = 8
      · rw [if_pos h8]
        obtain ⟨g1, g2⟩ := hd_rep hk (w1 (by omega))
        exact Runs.if_pos (by simpa using h8) (Runs.if_pos ⟨by omega, by have := w1 (by omega); omega⟩ (Runs.bind (quant_V (d := (0, 0, 0, 1, 0)) g1 (by omega)) fun z hz => Runs.some hz))
      rw [if_neg h8]
      refine Runs.if_neg (by simpa using h8) ?_
      by_cases h5 : k' = 5
      · rw [if_pos (show k' = 5 ∨ k' = 9 by omega)]
        obtain ⟨g1, g2⟩ := hd_rep hk (w1 (by omega))
        exact Runs.if_pos (by simpa using h5) (Runs.if_pos ⟨by omega, by have := w1 (by omega); omega⟩ (Runs.bind (quant_V (d := (0, 0, 1, 0, 0)) g1 (by omega)) fun z hz => Runs.some hz))
      refine Runs.if_neg (by simpa using h5) ?_
      by_cases h9 : k' = 9
      · rw [if_pos (show k' = 5 ∨ k' = 9 by omega)]
        obtain ⟨g1, g2⟩ := hd_rep hk (w1 (by omega))
        exact Runs.if_pos (by simpa using h9) (Runs.if_pos ⟨by omega, by have := w1 (by omega); omega⟩ (Runs.bind (quant_V (d := (0, 0, 1, 0, 0)) g1 (by omega)) fun z hz => Runs.some hz))
      rw [if_neg (show ¬ (k' = 5 ∨ k' = 9) by omega)]
      refine Runs.if_neg (by simpa using h9) ?_
      by_cases h10 : k' = 10
      · rw [if_pos (show k' = 10 ∨ k' = 11 by omega)]
        obtain ⟨g1, g2⟩ := hd_rep hk (w1 (by omega))
        exact Runs.if_pos (by simpa using h10) (Runs.if_pos ⟨by omega, by have := w1 (by omega); omega⟩ (Runs.bind (quant_V (d := (0, 1, 0, 0, 0)) g1 (by omega)) fun z hz => Runs.some hz))
      refine Runs.if_neg (by simpa using h10) ?_
      by_cases h11 : k' = 11
      · rw [if_pos (show k' = 10 ∨ k' = 11 by omega)]
        obtain ⟨g1, g2⟩ := hd_rep hk (w1 (by omega))
        exact Runs.if_pos (by simpa using h11) (Runs.if_pos ⟨by omega, by have := w1 (by omega); omega⟩ (Runs.bind (quant_V (d := (0, 1, 0, 0, 0)) g1 (by omega)) fun z hz => Runs.some hz))
      rw [if_neg (show ¬ (k' = 10 ∨ k' = 11) by omega)]
      refine Runs.if_neg (by simpa using h11) ?_
      by_cases h6 : k' = 6
      · rw [if_pos h6]
        obtain ⟨g1, g2⟩ := hd_rep hk (w1 (by omega))
        obtain ⟨g3, g4⟩ := sd_rep hk (w2 h6)
        refine Runs.if_pos (by simpa using h6) (Runs.if_pos ⟨by omega, by have := w1 (by omega); omega⟩ (Runs.bind (cond_V g1 (by omega)) fun z hz => ?_))
        have e1 : z.1 = condV (hdT l) (absS t) := congrArg Prod.fst hz
        have e2 : absS z.2 = absS t := congrArg Prod.snd hz
        refine Runs.ite (fun h => Runs.some ?_) fun h => Runs.if_pos ⟨by omega, by have := w2 h6; omega⟩ ?_
        · have h : ¬ z.1 = 0 := by simpa using h
          rw [if_neg (by rw [← e1]; exact h)]
          exact hz
        · have h : z.1 = 0 := by simpa using h
          rw [if_pos (by rw [← e1]; exact h), ← e2]
          exact Runs.bind (quant_V (d := (0, 0, 1, 0, 0)) g3 (by omega)) fun z hz => Runs.some hz
      rw [if_neg h6]
      refine Runs.if_neg (by simpa using h6) ?_
      by_cases h3 : k' = 3
      · rw [if_pos h3]
        obtain ⟨g1, g2⟩ := hd_rep hk (w1 (by omega))
        have hlen := w3 h3
        refine Runs.if_pos (by simpa using h3) (Runs.if_pos ⟨by omega, by omega⟩ (Runs.bind (cond_V g1 (by omega)) fun z hz => ?_))
        have e1 : z.1 = condV (hdT l) (absS t) := congrArg Prod.fst hz
        have e2 : absS z.2 = absS t := congrArg Prod.snd hz
        refine Runs.ite (fun h => Runs.some ?_) fun h => Runs.if_pos ⟨by omega, by omega, by omega⟩ ?_
        · have h : ¬ z.1 = 0 := by simpa using h
          rw [if_neg (by rw [← e1]; exact h)]
          exact hz
        · have h : z.1 = 0 := by simpa using h
          rw [if_pos (by rw [← e1]; exact h), ← e2]
          cases l with
          | nil => simp at hlen
          | cons a l =>
            rw [alV_one]
            have ef : (fun j : Nat => [i64 (opK f (1 + j)), i64 (opN f (1 + j)), st (opS f (1 + j)), V.ro 4 (opM f (1 + j)) (opF f (1 + j))]) = fun j => f (1 + j) := funext fun j => (ho (1 + j)).symm
            have en : Int.toNat ((List.length (a :: l) : Nat) : Int) - 1 = l.length := by simp
            rw [ef, en]
            simp only [sizL] at hq hm
            exact Runs.bind (ih2 l (fun j => f (1 + j)) z.2 (repL_tail hk) (fun j => ho (1 + j)) (by have := siz_pos a; omega) (by omega)) fun z hz => Runs.some hz
      rw [if_neg h3]
      exact Runs.if_neg (by simpa using h3) (allC t)
    · intro l f t hk ho hq hm
      unfold alls stAl
      dsimp only
      rw [_root_.if_pos ho]
      unfold t_allsN
      have hlen := sizL_len l
      refine Runs.bind (alls_loop (by omega) (fun j tr t' hj => ?_) l.length q 0 t (by omega) (by omega)) fun z hz => ?_
      · have h1 := repL_at l f 0 hk j tr hj
        rw [Nat.zero_add] at h1
        have h2 := sizL_at l j tr hj
        exact ih1 tr (kidAt f j) t' h1 (by omega) (by omega)
      · rw [List.drop_zero] at hz
        rcases z with z | z
        · exact Runs.some hz
        · exact Runs.some hz
noncomputable def lookV (u : ByteArray) : g_Lookup := (Lookup 0 u).getD (0, 0, 0, 0, 0, 0, false)
theorem look_eq (q : Nat) (u : ByteArray) : Lookup q u = some (lookV u) := by
  obtain ⟨z, h, _⟩ := lookup_both 0 0 u
  exact (show Lookup q u = Lookup 0 u from rfl).trans (some_getD ⟨z, h⟩)
noncomputable def unitV (u : ByteArray) : Option DimT := if u = { data := #[] } then some (0, 0, 0, 0, 0) else if (lookV u).2.2.2.2.2.2 = true then some ((lookV u).1, (lookV u).2.1, (lookV u).2.2.1, (lookV u).2.2.2.1, (lookV u).2.2.2.2.1) else none
noncomputable def parV (pa pu : Nat → ByteArray) : Nat → Nat → Sg → Int × Sg
  | 0, _, g => (0, g)
  | r + 1, i, g => match unitV (pu i) with
    | none => (10, g)
    | some d => if (declV (pa i) d g).1 = 0 then parV pa pu r (i + 1) (declV (pa i) d g).2 else declV (pa i) d g
def ParP (r : Int × Sg) (z : Check_l0_g) : Prop := Sum.elim (fun e => e ≠ 0 ∧ r.1 = e) (fun t => r = (0, absS t)) z
theorem par_loop {pn : ByteArray} {pm : Nat} {pa pu : Nat → ByteArray} {nd : NodeT} {q' : Nat} {c : a_stmt → Option g_stmt} (hm : pm ≤ 9223372036854775807) :
    ∀ (r q i : Nat) (t : TabT), i + r = pm → r < q → Runs (Check_l0 (Lookup q') (declare q') c q (pn, pm, pa, pu, nd) ((i : Int), t)) (ParP (parV pa pu r i (absS t))) := by
  intro r
  induction r with
  | zero =>
    intro q i t hi hq
    obtain ⟨q, rfl⟩ : ∃ k, q = k + 1 := ⟨q - 1, by omega⟩
    refine lp_step ?_
    unfold Check_l0_t
    dsimp only
    exact Runs.if_neg (by simp only [decide_eq_true_eq]; omega) (Runs.some rfl)
  | succ r ih =>
    intro q i t hi hq
    obtain ⟨q, rfl⟩ : ∃ k, q = k + 1 := ⟨q - 1, by omega⟩
    refine lp_step ?_
    unfold Check_l0_t
    dsimp only
    refine Runs.if_pos (by simp only [decide_eq_true_eq]; omega) (Runs.if_pos ⟨by omega, by omega⟩ ?_)
    rw [Int.toNat_natCast, w_succ (by omega)]
    have dcl : ∀ d : DimT, unitV (pu i) = some d → Runs ((declare q' (pa i, d.1, d.2.1, d.2.2.1, d.2.2.2.1, d.2.2.2.2, t)).bind fun z => if (z.1 != (0 : Int)) = true then (some (.inr (.inl z.1)) : Option (Check_l0_a ⊕ Check_l0_g)) else some (.inl (((i + 1 : Nat) : Int), z.2)))
        (fun r' => Sum.elim (fun y' => Runs (Check_l0 (Lookup q') (declare q') c q (pn, pm, pa, pu, nd) y') (ParP (parV pa pu (r + 1) i (absS t)))) (ParP (parV pa pu (r + 1) i (absS t))) r') := fun d hd => by
      refine Runs.bind (declare_V q' (pa i) d t) fun z hz => ?_
      have e1 : z.1 = (declV (pa i) d (absS t)).1 := congrArg Prod.fst hz
      have e2 : absS z.2 = (declV (pa i) d (absS t)).2 := congrArg Prod.snd hz
      have ep : parV pa pu (r + 1) i (absS t) = if (declV (pa i) d (absS t)).1 = 0 then parV pa pu r (i + 1) (declV (pa i) d (absS t)).2 else declV (pa i) d (absS t) := by
        rw [parV, hd]
      rw [ep]
      refine Runs.ite (fun h => Runs.some ?_) fun h => Runs.some ?_
      · have h : ¬ z.1 = 0 := by simpa using h
        rw [if_neg (by rw [← e1]; exact h)]
        exact ⟨h, e1.symm⟩
      · have h : z.1 = 0 := by simpa using h
        rw [if_pos (by rw [← e1]; exact h), ← e2]
        exact ih q (i + 1) z.2 (by omega) (by omega)
    refine Runs.ite (fun h => ?_) fun h => ?_
    · have h : ¬ pu i = { data := #[] } := fun e => by rw [e] at h; simp at h
      refine Runs.bind (P := fun z => z = lookV (pu i)) ⟨_, look_eq _ _, rfl⟩ fun z hz => ?_
      subst hz
      by_cases hf : (lookV (pu i)).2.2.2.2.2.2 = true
      · exact Runs.if_neg (by rw [hf]; decide) (dcl ((lookV (pu i)).1, (lookV (pu i)).2.1, (lookV (pu i)).2.2.1, (lookV (pu i)).2.2.2.1, (lookV (pu i)).2.2.2.2.1) (by unfold unitV; rw [if_neg h, if_pos hf]))
      · refine Runs.if_pos (by simpa using hf) (Runs.some ?_)
        rw [parV, show unitV (pu i) = none by unfold unitV; rw [if_neg h, if_neg hf]]
        exact ⟨by decide, rfl⟩
    · have h : pu i = { data := #[] } := tl_eq.1 (by simpa using h)
      exact dcl (0, 0, 0, 0, 0) (by unfold unitV; rw [if_pos h])
noncomputable def checkV (pm : Nat) (pa pu : Nat → ByteArray) (b : Tr) : Int :=
  if (parV pa pu pm 0 (0, fun _ => none)).1 = 0 then (if kdT b = 14 then (stV b (parV pa pu pm 0 (0, fun _ => none)).2).1 else 7) else (parV pa pu pm 0 (0, fun _ => none)).1
theorem check_V {pn : ByteArray} {pm : Nat} {pa pu : Nat → ByteArray} {b : Tr} {nd : NodeT} {q : Nat} (hr : Rep b nd) (hm : pm ≤ 9223372036854775807) (hq : pm + 2 * siz b < q) (hs : siz b ≤ 9223372036854775807) :
    Runs (Check q (pn, pm, pa, pu, nd)) (fun (e : Int) => e = checkV pm pa pu b) := by
  unfold Check t_Check checkV
  have e0 : absS (0, (fun _ => false), (fun _ => 0), (fun _ => 0), (fun _ => 0), (fun _ => 0), (fun _ => 0)) = (0, fun _ => none) := by
    unfold absS tabOf; simp
  refine Runs.bind (par_loop (nd := nd) (pn := pn) hm pm q 0 (0, (fun _ => false), (fun _ => 0), (fun _ => 0), (fun _ => 0), (fun _ => 0), (fun _ => 0)) (by omega) (by omega)) fun z hz => ?_
  rw [e0] at hz
  generalize parV pa pu pm 0 (0, fun _ => none) = o at hz ⊢
  have hkd : nd.1 = kdT b := rep_kd hr
  rcases z with z | t
  · obtain ⟨h1, h2⟩ := hz
    rw [if_neg (by rw [h2]; exact h1)]
    exact Runs.some h2.symm
  · have hz : o = (0, absS t) := hz
    subst hz
    rw [if_pos rfl]
    by_cases hk : kdT b = 14
    · rw [if_pos hk]
      exact Runs.if_neg (by show ¬ (nd.1 != (14 : Int)) = true; rw [hkd, hk]; decide) (Runs.bind ((stAl_V q).1 b nd t hr (by omega) hs) fun y hy => Runs.some (congrArg Prod.fst hy))
    · rw [if_neg hk]
      exact Runs.if_pos (by show (nd.1 != (14 : Int)) = true; rw [hkd]; simpa using hk) (Runs.some rfl)
end Go.Proofs.YtniogljhkjbcgaaDoor
/- TypesSound, TypesPrefixes: what comes in. -/
namespace Go.Proofs.YtniogljhkjbcgaaDoor
open Go Go.Am Go.Proofs
set_option linter.unusedSimpArgs false
set_option linter.unusedVariables false
set_option maxRecDepth 100000
theorem param_in {d : Nat} {l : List V} (h : WT E.P d 51 l) : ∃ a u, l = [st a, st u] ∧ a.size ≤ Go.maxLen ∧ u.size ≤ Go.maxLen := by
  obtain ⟨d, _, a0, rfl, ha, _, b0, rfl, hb, rfl⟩ := h.struct (l := [9, 9]) (by kernel_rfl)
  obtain ⟨a, rfl, h1⟩ := ha.str (by kernel_rfl)
  obtain ⟨u, rfl, h2⟩ := hb.str (by kernel_rfl)
  exact ⟨a, u, rfl, h1, h2⟩
theorem denL_split {β : Bt} {S D : Pr} {w : World} : ∀ {xs1 bs : List V} {us : List Value}, denL β S w D (xs1 ++ bs) us → ∃ u1 u2, us = u1 ++ u2 ∧ denL β S w D xs1 u1 ∧ denL β S w D bs u2
  | [], bs, us, h => ⟨[], us, rfl, by simp [denL], h⟩
  | a :: xs1, bs, us, h => by
    simp only [List.cons_append, denL] at h
    obtain ⟨x, xs, rfl, h1, h2⟩ := h
    obtain ⟨u1, u2, rfl, g1, g2⟩ := denL_split h2
    exact ⟨x :: u1, u2, rfl, by simp only [denL]; exact ⟨x, u1, rfl, h1, g1⟩, g2⟩
theorem leL_app {a a' b b' : List V} (h : LeL a a') (g : LeL b b') : LeL (a ++ b) (a' ++ b') := by
  intro β S w D us hd
  obtain ⟨u1, u2, rfl, h1, h2⟩ := denL_split hd
  exact denL_app (h _ _ _ _ _ h1) (g _ _ _ _ _ h2)
end Go.Proofs.YtniogljhkjbcgaaDoor
/- TypesRenames, lifted. -/
namespace Go.Proofs.YtniogljhkjbcgaaDoor
open Go Go.Am Go.Proofs
set_option linter.unusedSimpArgs false
set_option linter.unusedVariables false
set_option maxRecDepth 100000
def parNil : List V → Bool | [.agg (_ :: .sc (.slice none 0 0) :: _)] => true | _ => false
abbrev a_renamed : Type := Int × Int × ByteArray × Nat × (Nat → List V) × ByteArray
abbrev g_renamed : Type := Int × Int × ByteArray × Nat × (Nat → List V)
def A_renamed : a_renamed → List V × List (Option Chunk) := (fun x => (fun (nk : Int) (nn : Int) (ns : ByteArray) (nm : Nat) (nf : Nat → List V) (s : ByteArray) => (([.agg [i64 nk, i64 nn, st ns, .ro 4 nm nf], st s] : List V), ([] : List (Option Chunk)))) x.1 x.2.1 x.2.2.1 x.2.2.2.1 x.2.2.2.2.1 x.2.2.2.2.2)
def d_renamed (t : List V × List (Option Chunk)) : a_renamed := ((vI ((vAg (t.1.getD 0 .junk)).getD 0 .junk)), (vI ((vAg (t.1.getD 0 .junk)).getD 1 .junk)), (vS ((vAg (t.1.getD 0 .junk)).getD 2 .junk)), (vRoN ((vAg (t.1.getD 0 .junk)).getD 3 .junk)), (vRoF ((vAg (t.1.getD 0 .junk)).getD 3 .junk)), (vS (t.1.getD 1 .junk)))
theorem i_renamed : ∀ x y, A_renamed x = A_renamed y → x = y := fun x y h => (congrArg d_renamed h :)
def R_renamed : g_renamed → CRes := (fun z => (fun (nk : Int) (nn : Int) (ns : ByteArray) (nm : Nat) (nf : Nat → List V) => .ret (.agg [i64 nk, i64 nn, st ns, .ro 4 nm nf]) []) z.1 z.2.1 z.2.2.1 z.2.2.2.1 z.2.2.2.2 : (Int × Int × ByteArray × Nat × (Nat → List V)) → CRes)
def x_renamed (z : g_renamed) (k : CRes → Option Ans) : Option Ans := k (R_renamed z)
theorem xe_renamed : ∀ z k, x_renamed z k = k (R_renamed z) := fun z k => rfl
abbrev a_renamedN : Type := Int × Int × ByteArray × Nat × (Nat → Int) × (Nat → Int) × (Nat → ByteArray) × (Nat → Nat) × (Nat → Nat → List V) × ByteArray
abbrev g_renamedN : Type := (Int × Int × ByteArray) ⊕ (Int × Int × ByteArray × Nat × (Nat → Int) × (Nat → Int) × (Nat → ByteArray) × (Nat → Nat) × (Nat → Nat → List V))
def A_renamedN : a_renamedN → List V × List (Option Chunk) := (fun x => (fun (nk : Int) (nn : Int) (ns : ByteArray) (nm : Nat) (ek : Nat → Int) (en : Nat → Int) (es : Nat → ByteArray) (em : Nat → Nat) (ef : Nat → Nat → List V) (s : ByteArray) => (([.agg [i64 nk, i64 nn, st ns, .ro 4 nm (fun j => [i64 (ek j), i64 (en j), st (es j), .ro 4 (em j) (ef j)])], st s] : List V), ([] : List (Option Chunk)))) x.1 x.2.1 x.2.2.1 x.2.2.2.1 x.2.2.2.2.1 x.2.2.2.2.2.1 x.2.2.2.2.2.2.1 x.2.2.2.2.2.2.2.1 x.2.2.2.2.2.2.2.2.1 x.2.2.2.2.2.2.2.2.2)
def R_renamedN : g_renamedN → CRes := Sum.elim ((fun z => CRes.ret (V.agg [i64 (z.1), i64 (z.2.1), st (z.2.2), nilS]) [] : (Int × Int × ByteArray) → CRes)) ((fun z => CRes.ret (V.agg [i64 (z.1), i64 (z.2.1), st (z.2.2.1), V.sl 0 4 0 (z.2.2.2.1)]) [some (Chunk.row 24 4 (z.2.2.2.1) fun (j : Nat) => [i64 (z.2.2.2.2.1 j), i64 (z.2.2.2.2.2.1 j), st (z.2.2.2.2.2.2.1 j), V.ro 4 (z.2.2.2.2.2.2.2.1 j) (z.2.2.2.2.2.2.2.2 j)])] : (Int × Int × ByteArray × Nat × (Nat → Int) × (Nat → Int) × (Nat → ByteArray) × (Nat → Nat) × (Nat → Nat → List V)) → CRes))
abbrev renamedN_l0_a : Type := ((Nat → Int) × (Nat → Int) × (Nat → ByteArray) × (Nat → Nat) × (Nat → Nat → List V) × ByteArray) ⊕ ((Nat → Int) × (Nat → Int) × (Nat → ByteArray) × (Nat → Nat) × (Nat → Nat → List V) × ByteArray × (Nat → Int) × (Nat → Int) × (Nat → ByteArray) × (Nat → Nat) × (Nat → Nat → List V) × Int × Nat)
abbrev renamedN_l0_g : Type := (ByteArray) ⊕ (ByteArray × Nat × (Nat → Int) × (Nat → Int) × (Nat → ByteArray) × (Nat → Nat) × (Nat → Nat → List V))
def renamedN_l0_S0 (x : a_renamedN) (y : (Nat → Int) × (Nat → Int) × (Nat → ByteArray) × (Nat → Nat) × (Nat → Nat → List V) × ByteArray) : St := { fr := [V.junk, st (x.2.2.2.2.2.2.2.2.2), V.ptr 0 0, V.junk, V.ptr 1 0, V.ptr 2 0, i64 (0 : Int)] ++ jk 45, H := hp [some (Chunk.blk [i64 (x.1), i64 (x.2.1), st (x.2.2.1), V.ro 4 (x.2.2.2.1) fun (j : Nat) => [i64 (y.1 j), i64 (y.2.1 j), st (y.2.2.1 j), V.ro 4 (y.2.2.2.1 j) (y.2.2.2.2.1 j)]]), some (Chunk.blk [i64 (0 : Int), i64 (0 : Int), st { data := #[] }, nilS]), some (Chunk.blk [i64 (x.1), i64 (x.2.1), st (y.2.2.2.2.2), nilS])], nx := 3, rt := 0, me := 19 }
def renamedN_l0_d0 (s : St) : (Nat → Int) × (Nat → Int) × (Nat → ByteArray) × (Nat → Nat) × (Nat → Nat → List V) × ByteArray := ((fun j => (vI (((vRoF ((chB (s.H 0)).getD 3 .junk)) j).getD 0 .junk))), (fun j => (vI (((vRoF ((chB (s.H 0)).getD 3 .junk)) j).getD 1 .junk))), (fun j => (vS (((vRoF ((chB (s.H 0)).getD 3 .junk)) j).getD 2 .junk))), (fun j => (vRoN (((vRoF ((chB (s.H 0)).getD 3 .junk)) j).getD 3 .junk))), (fun j => (vRoF (((vRoF ((chB (s.H 0)).getD 3 .junk)) j).getD 3 .junk))), (vS ((chB (s.H 2)).getD 2 .junk)))
def renamedN_l0_S1 (x : a_renamedN) (y : (Nat → Int) × (Nat → Int) × (Nat → ByteArray) × (Nat → Nat) × (Nat → Nat → List V) × ByteArray × (Nat → Int) × (Nat → Int) × (Nat → ByteArray) × (Nat → Nat) × (Nat → Nat → List V) × Int × Nat) : St := { fr := [V.junk, st (x.2.2.2.2.2.2.2.2.2), V.ptr 0 0, V.junk, V.ptr 1 0, V.ptr 2 0, i64 (y.2.2.2.2.2.2.2.2.2.2.2.1)] ++ jk 45, H := hp [some (Chunk.blk [i64 (x.1), i64 (x.2.1), st (x.2.2.1), V.ro 4 (x.2.2.2.1) fun (j : Nat) => [i64 (y.1 j), i64 (y.2.1 j), st (y.2.2.1 j), V.ro 4 (y.2.2.2.1 j) (y.2.2.2.2.1 j)]]), some (Chunk.blk [i64 (0 : Int), i64 (0 : Int), st { data := #[] }, nilS]), some (Chunk.blk [i64 (x.1), i64 (x.2.1), st (y.2.2.2.2.2.1), V.sl 3 4 0 (y.2.2.2.2.2.2.2.2.2.2.2.2)]), some (Chunk.row 24 4 (y.2.2.2.2.2.2.2.2.2.2.2.2) fun (j : Nat) => [i64 (y.2.2.2.2.2.2.1 j), i64 (y.2.2.2.2.2.2.2.1 j), st (y.2.2.2.2.2.2.2.2.1 j), V.ro 4 (y.2.2.2.2.2.2.2.2.2.1 j) (y.2.2.2.2.2.2.2.2.2.2.1 j)])], nx := 4, rt := 0, me := 19 }
def renamedN_l0_d1 (s : St) : (Nat → Int) × (Nat → Int) × (Nat → ByteArray) × (Nat → Nat) × (Nat → Nat → List V) × ByteArray × (Nat → Int) × (Nat → Int) × (Nat → ByteArray) × (Nat → Nat) × (Nat → Nat → List V) × Int × Nat := ((fun j => (vI (((vRoF ((chB (s.H 0)).getD 3 .junk)) j).getD 0 .junk))), (fun j => (vI (((vRoF ((chB (s.H 0)).getD 3 .junk)) j).getD 1 .junk))), (fun j => (vS (((vRoF ((chB (s.H 0)).getD 3 .junk)) j).getD 2 .junk))), (fun j => (vRoN (((vRoF ((chB (s.H 0)).getD 3 .junk)) j).getD 3 .junk))), (fun j => (vRoF (((vRoF ((chB (s.H 0)).getD 3 .junk)) j).getD 3 .junk))), (vS ((chB (s.H 2)).getD 2 .junk)), (fun j => (vI (((chF (s.H 3)) j).getD 0 .junk))), (fun j => (vI (((chF (s.H 3)) j).getD 1 .junk))), (fun j => (vS (((chF (s.H 3)) j).getD 2 .junk))), (fun j => (vRoN (((chF (s.H 3)) j).getD 3 .junk))), (fun j => (vRoF (((chF (s.H 3)) j).getD 3 .junk))), (vI (s.fr.getD 6 .junk)), (vSlN ((chB (s.H 2)).getD 3 .junk)))
def renamedN_l0_S (x : a_renamedN) : renamedN_l0_a → St := (Sum.elim (renamedN_l0_S0 x) (renamedN_l0_S1 x))
def renamedN_l0_d (s : St) : renamedN_l0_a := (match s.nx == 3 with | true => (.inl (renamedN_l0_d0 s)) | false => (.inr (renamedN_l0_d1 s)))
theorem renamedN_l0_i (x : a_renamedN) : ∀ y y', renamedN_l0_S x y = renamedN_l0_S x y' → y = y' := fun y y' h => by rcases y with y | y <;> rcases y' with y | y <;> exact (congrArg renamedN_l0_d h :)
def renamedN_l0_T (x : a_renamedN) : renamedN_l0_g → Ex × St := (Sum.elim (fun z => (Ex.exit 0, { fr := jk 4 ++ [V.ptr 0 0, V.ptr 1 0] ++ jk 46, H := hp [some (Chunk.blk [i64 (0 : Int), i64 (0 : Int), st { data := #[] }, nilS]), some (Chunk.blk [i64 (x.1), i64 (x.2.1), st z, nilS])], nx := 2, rt := 0, me := 19 })) (fun z => (Ex.exit 0, { fr := jk 4 ++ [V.ptr 0 0, V.ptr 1 0] ++ jk 46, H := hp [some (Chunk.blk [i64 (0 : Int), i64 (0 : Int), st { data := #[] }, nilS]), some (Chunk.blk [i64 (x.1), i64 (x.2.1), st (z.1), V.sl 2 4 0 (z.2.1)]), some (Chunk.row 24 4 (z.2.1) fun (j : Nat) => [i64 (z.2.2.1 j), i64 (z.2.2.2.1 j), st (z.2.2.2.2.1 j), V.ro 4 (z.2.2.2.2.2.1 j) (z.2.2.2.2.2.2 j)])], nx := 3, rt := 0, me := 19 })))
def renamedN_l0_x (x : a_renamedN) (z : renamedN_l0_g) (k : KX) : Option Ans := Sum.elim (fun za => k (renamedN_l0_T x (.inl za)).1 (renamedN_l0_T x (.inl za)).2) (fun zb => k (renamedN_l0_T x (.inr zb)).1 (renamedN_l0_T x (.inr zb)).2) z
theorem renamedN_l0_xe (x : a_renamedN) : ∀ z k, renamedN_l0_x x z k = k (renamedN_l0_T x z).1 (renamedN_l0_T x z).2 := fun z k => by
  rcases z with z | z <;> rfl
theorem renamedN_l0_k0 (x : a_renamedN) (z : ByteArray) : KCM [(0, 48)] 16 (renamedN_l0_T x (.inl z)).1 (renamedN_l0_T x (.inl z)).2 = some (.l (renamedN_l0_T x (.inl z)).1 (renamedN_l0_T x (.inl z)).2) := by kernel_rfl
theorem renamedN_l0_k1 (x : a_renamedN) (z : ByteArray × Nat × (Nat → Int) × (Nat → Int) × (Nat → ByteArray) × (Nat → Nat) × (Nat → Nat → List V)) : KCM [(0, 48)] 16 (renamedN_l0_T x (.inr z)).1 (renamedN_l0_T x (.inr z)).2 = some (.l (renamedN_l0_T x (.inr z)).1 (renamedN_l0_T x (.inr z)).2) := by kernel_rfl
def renamedN_l0_t0 {β : Type} (c_renamed : a_renamed → Option g_renamed) (x : a_renamedN) (y : (Nat → Int) × (Nat → Int) × (Nat → ByteArray) × (Nat → Nat) × (Nat → Nat → List V) × ByteArray) (nx : renamedN_l0_a → Option β) (dn : renamedN_l0_g → Option β) : Option β :=
 if decide ((0 : Int) < ((x.2.2.2.1 : Nat) : Int)) = true then
  if (0 : Int) ≤ (0 : Int) ∧ (0 : Int) < ((x.2.2.2.1 : Nat) : Int) then
   (c_renamed ((y.1 0, y.2.1 0, y.2.2.1 0, y.2.2.2.1 0, y.2.2.2.2.1 0, x.2.2.2.2.2.2.2.2.2))).bind fun z253 =>
    nx (.inr ((y.1, y.2.1, y.2.2.1, y.2.2.2.1, y.2.2.2.2.1, y.2.2.2.2.2, fun (j : Nat) => z253.1, fun (j : Nat) => z253.2.1, fun (j : Nat) => z253.2.2.1, fun (j : Nat) => z253.2.2.2.1, fun (j : Nat) => z253.2.2.2.2, (1 : Int), 1)))
  else
   none
 else
  dn (.inl (y.2.2.2.2.2))
theorem renamedN_l0_n0 {β : Type} (c_renamed : a_renamed → Option g_renamed) (x : a_renamedN) (y : (Nat → Int) × (Nat → Int) × (Nat → ByteArray) × (Nat → Nat) × (Nat → Nat → List V) × ByteArray) (nx : renamedN_l0_a → Option β) (dn : renamedN_l0_g → Option β) : renamedN_l0_t0 c_renamed x y nx dn = (renamedN_l0_t0 c_renamed x y (fun y => some (.inl y)) (fun z => some (.inr z))).bind fun r => Sum.elim nx dn r := by
  unfold renamedN_l0_t0
  repeat' first | exact free_none | refine free_bind (fun z => ?_) | refine free_ite ?_ ?_ | refine free_sum (fun z => ?_) (fun z => ?_) | rfl
theorem renamedN_l0_r0 (c_renamed : a_renamed → Option g_renamed) (x : a_renamedN) (y : (Nat → Int) × (Nat → Int) × (Nat → ByteArray) × (Nat → Nat) × (Nat → Nat → List V) × ByteArray) (lo : LoopT) : loopK E5 (ftab 19 (fun _ _ => true) A_renamed x_renamed c_renamed ca0) lo 0 118 (bodyOf E5 19 0) (renamedN_l0_S x (.inl y)) (KCM [(0, 48)] 16) = renamedN_l0_t0 (fun x => viaF A_renamed c_renamed (A_renamed x)) x y (fun y => lo 0 118 (bodyOf E5 19 0) (renamedN_l0_S x y) (KCM [(0, 48)] 16)) (fun z => some (.l (renamedN_l0_T x z).1 (renamedN_l0_T x z).2)) := by kernel_rfl
def renamedN_l0_t1 {β : Type} (c_renamed : a_renamed → Option g_renamed) (x : a_renamedN) (y : (Nat → Int) × (Nat → Int) × (Nat → ByteArray) × (Nat → Nat) × (Nat → Nat → List V) × ByteArray × (Nat → Int) × (Nat → Int) × (Nat → ByteArray) × (Nat → Nat) × (Nat → Nat → List V) × Int × Nat) (nx : renamedN_l0_a → Option β) (dn : renamedN_l0_g → Option β) : Option β :=
 if decide (y.2.2.2.2.2.2.2.2.2.2.2.1 < ((x.2.2.2.1 : Nat) : Int)) = true then
  if (0 : Int) ≤ y.2.2.2.2.2.2.2.2.2.2.2.1 ∧ y.2.2.2.2.2.2.2.2.2.2.2.1 < ((x.2.2.2.1 : Nat) : Int) then
   (c_renamed ((y.1 (Int.toNat (y.2.2.2.2.2.2.2.2.2.2.2.1)), y.2.1 (Int.toNat (y.2.2.2.2.2.2.2.2.2.2.2.1)), y.2.2.1 (Int.toNat (y.2.2.2.2.2.2.2.2.2.2.2.1)), y.2.2.2.1 (Int.toNat (y.2.2.2.2.2.2.2.2.2.2.2.1)), y.2.2.2.2.1 (Int.toNat (y.2.2.2.2.2.2.2.2.2.2.2.1)), x.2.2.2.2.2.2.2.2.2))).bind fun z261 =>
    if (y.2.2.2.2.2.2.2.2.2.2.2.2 + 1) * 56 ≤ roomBound ∧ y.2.2.2.2.2.2.2.2.2.2.2.2 + 1 ≤ maxLen ∧ y.2.2.2.2.2.2.2.2.2.2.2.2 ≤ y.2.2.2.2.2.2.2.2.2.2.2.2 then
     nx (.inr ((y.1, y.2.1, y.2.2.1, y.2.2.2.1, y.2.2.2.2.1, y.2.2.2.2.2.1, fun (j : Nat) => if j < y.2.2.2.2.2.2.2.2.2.2.2.2 then y.2.2.2.2.2.2.1 j else z261.1, fun (j : Nat) => if j < y.2.2.2.2.2.2.2.2.2.2.2.2 then y.2.2.2.2.2.2.2.1 j else z261.2.1, fun (j : Nat) => if j < y.2.2.2.2.2.2.2.2.2.2.2.2 then y.2.2.2.2.2.2.2.2.1 j else z261.2.2.1, fun (j : Nat) => if j < y.2.2.2.2.2.2.2.2.2.2.2.2 then y.2.2.2.2.2.2.2.2.2.1 j else z261.2.2.2.1, fun (j j_1 : Nat) => if j < y.2.2.2.2.2.2.2.2.2.2.2.2 then y.2.2.2.2.2.2.2.2.2.2.1 j j_1 else z261.2.2.2.2 j_1, w (y.2.2.2.2.2.2.2.2.2.2.2.1 + (1 : Int)), y.2.2.2.2.2.2.2.2.2.2.2.2 + 1)))
    else
     none
  else
   none
 else
  dn (.inr ((y.2.2.2.2.2.1, y.2.2.2.2.2.2.2.2.2.2.2.2, y.2.2.2.2.2.2.1, y.2.2.2.2.2.2.2.1, y.2.2.2.2.2.2.2.2.1, y.2.2.2.2.2.2.2.2.2.1, y.2.2.2.2.2.2.2.2.2.2.1)))
theorem renamedN_l0_n1 {β : Type} (c_renamed : a_renamed → Option g_renamed) (x : a_renamedN) (y : (Nat → Int) × (Nat → Int) × (Nat → ByteArray) × (Nat → Nat) × (Nat → Nat → List V) × ByteArray × (Nat → Int) × (Nat → Int) × (Nat → ByteArray) × (Nat → Nat) × (Nat → Nat → List V) × Int × Nat) (nx : renamedN_l0_a → Option β) (dn : renamedN_l0_g → Option β) : renamedN_l0_t1 c_renamed x y nx dn = (renamedN_l0_t1 c_renamed x y (fun y => some (.inl y)) (fun z => some (.inr z))).bind fun r => Sum.elim nx dn r := by
  unfold renamedN_l0_t1
  repeat' first | exact free_none | refine free_bind (fun z => ?_) | refine free_ite ?_ ?_ | refine free_sum (fun z => ?_) (fun z => ?_) | rfl
theorem renamedN_l0_r1 (c_renamed : a_renamed → Option g_renamed) (x : a_renamedN) (y : (Nat → Int) × (Nat → Int) × (Nat → ByteArray) × (Nat → Nat) × (Nat → Nat → List V) × ByteArray × (Nat → Int) × (Nat → Int) × (Nat → ByteArray) × (Nat → Nat) × (Nat → Nat → List V) × Int × Nat) (lo : LoopT) : loopK E5 (ftab 19 (fun _ _ => true) A_renamed x_renamed c_renamed ca0) lo 0 118 (bodyOf E5 19 0) (renamedN_l0_S x (.inr y)) (KCM [(0, 48)] 16) = renamedN_l0_t1 (fun x => viaF A_renamed c_renamed (A_renamed x)) x y (fun y => lo 0 118 (bodyOf E5 19 0) (renamedN_l0_S x y) (KCM [(0, 48)] 16)) (fun z => some (.l (renamedN_l0_T x z).1 (renamedN_l0_T x z).2)) := by kernel_rfl
noncomputable def renamedN_l0 (c_renamed : a_renamed → Option g_renamed) (q : Nat) (x : a_renamedN) : renamedN_l0_a → Option renamedN_l0_g := lpG (Sum.elim (fun y => renamedN_l0_t0 c_renamed x y (fun y => some (.inl y)) (fun z => some (.inr z))) (fun y => renamedN_l0_t1 c_renamed x y (fun y => some (.inl y)) (fun z => some (.inr z)))) q
theorem renamedN_l0_s (c_renamed : a_renamed → Option g_renamed) (h_renamed : ∀ x z, c_renamed x = some z → SC E5 19 (A_renamed x).1 (A_renamed x).2 (R_renamed z)) (q : Nat) (x : a_renamedN) : ∀ y z, renamedN_l0 c_renamed q x y = some z → SL E5 (bodyOf E5 19 0) (renamedN_l0_S x y) (renamedN_l0_T x z).1 (renamedN_l0_T x z).2 :=
  SL.lp (LT := fun lo => lo) (T := renamedN_l0_T x) (S := renamedN_l0_S x) (ftab_cons h_renamed xe_renamed ca0_sound) hX5 (fun lo h => h) (fun lo y => by
      rcases y with y | y
      · exact (renamedN_l0_r0 c_renamed x y lo).trans (by rw [via_eq i_renamed c_renamed]; exact renamedN_l0_n0 _ _ _ _ _)
      · exact (renamedN_l0_r1 c_renamed x y lo).trans (by rw [via_eq i_renamed c_renamed]; exact renamedN_l0_n1 _ _ _ _ _)) (fun z => by rcases z with z | z <;> first | exact renamedN_l0_k0 x z | exact renamedN_l0_k1 x z) q
def t_renamedN {β : Type} (c_renamed : a_renamed → Option g_renamed) (l_renamedN_l0 : renamedN_l0_a → Option renamedN_l0_g) (x : a_renamedN) (dn : g_renamedN → Option β) : Option β :=
 if (x.1 == (17 : Int)) = true then
  if ByteArray.size (x.2.2.2.2.2.2.2.2.2) + ByteArray.size (x.2.2.1) ≤ maxLen then
   (l_renamedN_l0 (.inl ((x.2.2.2.2.1, x.2.2.2.2.2.1, x.2.2.2.2.2.2.1, x.2.2.2.2.2.2.2.1, x.2.2.2.2.2.2.2.2.1, x.2.2.2.2.2.2.2.2.2 ++ x.2.2.1)))).bind fun z180 =>
    Sum.elim (fun z180a =>
    dn (.inl ((x.1, x.2.1, z180a)))) (fun z180b =>
    dn (.inr ((x.1, x.2.1, z180b)))) z180
  else
   none
 else
  if (x.1 == (1 : Int)) = true then
   if ByteArray.size (x.2.2.2.2.2.2.2.2.2) + ByteArray.size (x.2.2.1) ≤ maxLen then
    (l_renamedN_l0 (.inl ((x.2.2.2.2.1, x.2.2.2.2.2.1, x.2.2.2.2.2.2.1, x.2.2.2.2.2.2.2.1, x.2.2.2.2.2.2.2.2.1, x.2.2.2.2.2.2.2.2.2 ++ x.2.2.1)))).bind fun z182 =>
     Sum.elim (fun z182a =>
     dn (.inl ((x.1, x.2.1, z182a)))) (fun z182b =>
     dn (.inr ((x.1, x.2.1, z182b)))) z182
   else
    none
  else
   if (x.1 == (2 : Int)) = true then
    if ByteArray.size (x.2.2.2.2.2.2.2.2.2) + ByteArray.size (x.2.2.1) ≤ maxLen then
     (l_renamedN_l0 (.inl ((x.2.2.2.2.1, x.2.2.2.2.2.1, x.2.2.2.2.2.2.1, x.2.2.2.2.2.2.2.1, x.2.2.2.2.2.2.2.2.1, x.2.2.2.2.2.2.2.2.2 ++ x.2.2.1)))).bind fun z184 =>
      Sum.elim (fun z184a =>
      dn (.inl ((x.1, x.2.1, z184a)))) (fun z184b =>
      dn (.inr ((x.1, x.2.1, z184b)))) z184
    else
     none
   else
    (l_renamedN_l0 (.inl ((x.2.2.2.2.1, x.2.2.2.2.2.1, x.2.2.2.2.2.2.1, x.2.2.2.2.2.2.2.1, x.2.2.2.2.2.2.2.2.1, x.2.2.1)))).bind fun z186 =>
     Sum.elim (fun z186a =>
     dn (.inl ((x.1, x.2.1, z186a)))) (fun z186b =>
     dn (.inr ((x.1, x.2.1, z186b)))) z186
theorem n_renamedN {β : Type} (c_renamed : a_renamed → Option g_renamed) (l_renamedN_l0 : renamedN_l0_a → Option renamedN_l0_g) (x : a_renamedN) (dn : g_renamedN → Option β) : t_renamedN c_renamed l_renamedN_l0 x dn = (t_renamedN c_renamed l_renamedN_l0 x some).bind dn := by
  unfold t_renamedN
  repeat' first | exact free_none | refine free_bind (fun z => ?_) | refine free_ite ?_ ?_ | refine free_sum (fun z => ?_) (fun z => ?_) | rfl
theorem r_renamedN (c_renamed : a_renamed → Option g_renamed) (l_renamedN_l0 : renamedN_l0_a → Option renamedN_l0_g) (x : a_renamedN) : callK E5 (ftab 19 (fun _ _ => true) A_renamed x_renamed c_renamed ca0) (ltabF 0 (fun _ => true) (bodyOf E5 19 0) (renamedN_l0_S x) (renamedN_l0_x x) l_renamedN_l0 lo0) 19 (A_renamedN x).1 (A_renamedN x).2 K = t_renamedN (fun x => viaF A_renamed c_renamed (A_renamed x)) (fun y => viaF (fun y => (bodyOf E5 19 0, renamedN_l0_S x y)) l_renamedN_l0 (bodyOf E5 19 0, renamedN_l0_S x y)) x (fun z => some (.c (R_renamedN z))) := by kernel_rfl
theorem s_renamedN (c_renamed : a_renamed → Option g_renamed) (h_renamed : ∀ x z, c_renamed x = some z → SC E5 19 (A_renamed x).1 (A_renamed x).2 (R_renamed z)) (q : Nat) (x : a_renamedN) (z : g_renamedN) (h : t_renamedN c_renamed (renamedN_l0 c_renamed q x) x some = some z) : SC E5 19 (A_renamedN x).1 (A_renamedN x).2 (R_renamedN z) := by
  refine SC.of hW5 hX5 (ftab_cons h_renamed xe_renamed ca0_sound) (ltabF_cons (renamedN_l0_s c_renamed h_renamed q x) (renamedN_l0_xe x) lo0_sound) ((r_renamedN c_renamed (renamedN_l0 c_renamed q x) x).trans ?_)
  rw [via_eq i_renamed c_renamed, via_eq (pair_inj (bodyOf E5 19 0) (renamedN_l0_i x)) (renamedN_l0 c_renamed q x), n_renamedN, h]; rfl
def cv_renamed : g_renamedN → g_renamed := Sum.elim (fun z => (z.1, z.2.1, z.2.2, 0, fun _ => [i64 0, i64 0, st ByteArray.empty, .ro 4 0 (fun _ => [])])) (fun z => (z.1, z.2.1, z.2.2.1, z.2.2.2.1, fun j => [i64 (z.2.2.2.2.1 j), i64 (z.2.2.2.2.2.1 j), st (z.2.2.2.2.2.2.1 j), .ro 4 (z.2.2.2.2.2.2.2.1 j) (z.2.2.2.2.2.2.2.2 j)]))
theorem cvs_renamed (a : List V) (L : List (Option Chunk)) (z : g_renamedN) (h : SC E5 19 a L (R_renamedN z)) : SC E5 19 a L (R_renamed (cv_renamed z)) := by
  rcases z with z | z
  · exact h.le (Le.agg (LeL.cons (Le.refl _) (LeL.cons (Le.refl _) (LeL.cons (Le.refl _) (LeL.cons Le.nil_ro LeL.nil)))))
  · exact (SC.give h (by simp [V.bw, V.bw2, V.bw1, hp, V.pure, pureL])).le (Le.of_eq (by simp [V.bw, V.bw2, V.bw1, hp] <;> exact ⟨rfl, rfl, rfl, rfl, rfl⟩))
open Classical in
noncomputable def renamed : Nat → a_renamed → Option g_renamed
  | 0, _ => none
  | q + 1, x => if OpenN x.2.2.2.2.1 then ((t_renamedN (renamed q) (renamedN_l0 (renamed q) q (x.1, x.2.1, x.2.2.1, x.2.2.2.1, opK x.2.2.2.2.1, opN x.2.2.2.2.1, opS x.2.2.2.2.1, opM x.2.2.2.2.1, opF x.2.2.2.2.1, x.2.2.2.2.2)) (x.1, x.2.1, x.2.2.1, x.2.2.2.1, opK x.2.2.2.2.1, opN x.2.2.2.2.1, opS x.2.2.2.2.1, opM x.2.2.2.2.1, opF x.2.2.2.2.1, x.2.2.2.2.2) some).map cv_renamed) else none
theorem sc_renamed : ∀ (q : Nat) (x : a_renamed) (z : g_renamed), renamed q x = some z → SC E5 19 (A_renamed x).1 (A_renamed x).2 (R_renamed z) := by
  intro q
  induction q with
  | zero => intro x z h; cases h
  | succ q ih =>
    intro x z h
    unfold renamed at h
    split at h
    · rename_i hO
      obtain ⟨z2, h2, rfl⟩ := Option.map_eq_some_iff.1 h
      have this := s_renamedN (renamed q) ih q (x.1, x.2.1, x.2.2.1, x.2.2.2.1, opK x.2.2.2.2.1, opN x.2.2.2.2.1, opS x.2.2.2.2.1, opM x.2.2.2.2.1, opF x.2.2.2.2.1, x.2.2.2.2.2) z2 h2
      unfold A_renamedN at this
      unfold A_renamed
      simp only at this ⊢
      rw [open_eq hO] at this
      exact cvs_renamed _ _ _ this
    · cases h
abbrev a_CheckZ : Type := ByteArray × Int × Int × ByteArray × Nat × (Nat → List V)
abbrev g_CheckZ : Type := Int
def A_CheckZ : a_CheckZ → List V × List (Option Chunk) := (fun x => (fun (pn : ByteArray) (nk : Int) (nn : Int) (ns : ByteArray) (nm : Nat) (nf : Nat → List V) => (([.agg [st pn, nilS, i64 nk, i64 nn, st ns, .ro 4 nm nf]] : List V), ([] : List (Option Chunk)))) x.1 x.2.1 x.2.2.1 x.2.2.2.1 x.2.2.2.2.1 x.2.2.2.2.2)
def d_CheckZ (t : List V × List (Option Chunk)) : a_CheckZ := ((vS ((vAg (t.1.getD 0 .junk)).getD 0 .junk)), (vI ((vAg (t.1.getD 0 .junk)).getD 2 .junk)), (vI ((vAg (t.1.getD 0 .junk)).getD 3 .junk)), (vS ((vAg (t.1.getD 0 .junk)).getD 4 .junk)), (vRoN ((vAg (t.1.getD 0 .junk)).getD 5 .junk)), (vRoF ((vAg (t.1.getD 0 .junk)).getD 5 .junk)))
theorem i_CheckZ : ∀ x y, A_CheckZ x = A_CheckZ y → x = y := fun x y h => (congrArg d_CheckZ h :)
def R_CheckZ : g_CheckZ → CRes := (fun z => (fun (e : Int) => .ret (i64 e) []) z : (Int) → CRes)
def x_CheckZ (z : g_CheckZ) (k : CRes → Option Ans) : Option Ans := k (R_CheckZ z)
theorem xe_CheckZ : ∀ z k, x_CheckZ z k = k (R_CheckZ z) := fun z k => rfl
noncomputable def CheckZ (q : Nat) (x : a_CheckZ) : Option g_CheckZ := Check q (x.1, 0, (fun _ => ByteArray.empty), (fun _ => ByteArray.empty), x.2)
theorem sc_CheckZ (q : Nat) : ∀ (x : a_CheckZ) (z : g_CheckZ), CheckZ q x = some z → SC E5 20 (A_CheckZ x).1 (A_CheckZ x).2 (R_CheckZ z) := by
  intro x z h
  exact SC.arg (sc_Check q _ z h) (LeL.cons (Le.agg (LeL.cons (Le.refl _) (LeL.cons Le.nil_ro (LeL.refl _)))) LeL.nil) rfl rfl
abbrev a_renames : Type := ByteArray × Nat × (Nat → ByteArray) × (Nat → ByteArray) × Int × Int × ByteArray × Nat × (Nat → List V) × ByteArray
abbrev g_renames : Type := Bool
def A_renames : a_renames → List V × List (Option Chunk) := (fun x => (fun (pn : ByteArray) (pm : Nat) (pa : Nat → ByteArray) (pu : Nat → ByteArray) (nk : Int) (nn : Int) (ns : ByteArray) (nm : Nat) (nf : Nat → List V) (s : ByteArray) => (([.agg [st pn, .ro 2 pm (fun j => [st (pa j), st (pu j)]), i64 nk, i64 nn, st ns, .ro 4 nm nf], st s] : List V), ([] : List (Option Chunk)))) x.1 x.2.1 x.2.2.1 x.2.2.2.1 x.2.2.2.2.1 x.2.2.2.2.2.1 x.2.2.2.2.2.2.1 x.2.2.2.2.2.2.2.1 x.2.2.2.2.2.2.2.2.1 x.2.2.2.2.2.2.2.2.2)
def R_renames : g_renames → CRes := (fun z => CRes.ret (bo z) [] : (Bool) → CRes)
abbrev renames_l0_a : Type := (Int × Int × ByteArray × Nat × (Nat → List V)) ⊕ (Int × Int × ByteArray × Nat × (Nat → List V) × Int × Nat × (Nat → ByteArray) × (Nat → ByteArray))
abbrev renames_l0_g : Type := (Int × Int × ByteArray × Nat × (Nat → List V)) ⊕ (Nat × Int × Int × ByteArray × Nat × (Nat → List V) × (Nat → ByteArray) × (Nat → ByteArray))
def renames_l0_S0 (x : a_renames) (y : Int × Int × ByteArray × Nat × (Nat → List V)) : St := { fr := [V.junk, st (x.2.2.2.2.2.2.2.2.2), V.ptr 0 0, V.junk, V.junk, V.ptr 1 0, i64 (0 : Int)] ++ jk 53, H := hp [some (Chunk.blk [st (x.1), V.ro 2 (x.2.1) fun (j : Nat) => [st (x.2.2.1 j), st (x.2.2.2.1 j)], i64 (x.2.2.2.2.1), i64 (x.2.2.2.2.2.1), st (x.2.2.2.2.2.2.1), V.ro 4 (x.2.2.2.2.2.2.2.1) (x.2.2.2.2.2.2.2.2.1)]), some (Chunk.blk [st (x.1), nilS, i64 (y.1), i64 (y.2.1), st (y.2.2.1), V.ro 4 (y.2.2.2.1) (y.2.2.2.2)])], nx := 2, rt := 0, me := 6 }
def renames_l0_d0 (s : St) : Int × Int × ByteArray × Nat × (Nat → List V) := ((vI ((chB (s.H 1)).getD 2 .junk)), (vI ((chB (s.H 1)).getD 3 .junk)), (vS ((chB (s.H 1)).getD 4 .junk)), (vRoN ((chB (s.H 1)).getD 5 .junk)), (vRoF ((chB (s.H 1)).getD 5 .junk)))
def renames_l0_S1 (x : a_renames) (y : Int × Int × ByteArray × Nat × (Nat → List V) × Int × Nat × (Nat → ByteArray) × (Nat → ByteArray)) : St := { fr := [V.junk, st (x.2.2.2.2.2.2.2.2.2), V.ptr 0 0, V.junk, V.junk, V.ptr 1 0, i64 (y.2.2.2.2.2.1)] ++ jk 53, H := hp [some (Chunk.blk [st (x.1), V.ro 2 (x.2.1) fun (j : Nat) => [st (x.2.2.1 j), st (x.2.2.2.1 j)], i64 (x.2.2.2.2.1), i64 (x.2.2.2.2.2.1), st (x.2.2.2.2.2.2.1), V.ro 4 (x.2.2.2.2.2.2.2.1) (x.2.2.2.2.2.2.2.2.1)]), some (Chunk.blk [st (x.1), V.sl 2 2 0 (y.2.2.2.2.2.2.1), i64 (y.1), i64 (y.2.1), st (y.2.2.1), V.ro 4 (y.2.2.2.1) (y.2.2.2.2.1)]), some (Chunk.row 51 2 (y.2.2.2.2.2.2.1) fun (j : Nat) => [st (y.2.2.2.2.2.2.2.1 j), st (y.2.2.2.2.2.2.2.2 j)])], nx := 3, rt := 0, me := 6 }
def renames_l0_d1 (s : St) : Int × Int × ByteArray × Nat × (Nat → List V) × Int × Nat × (Nat → ByteArray) × (Nat → ByteArray) := ((vI ((chB (s.H 1)).getD 2 .junk)), (vI ((chB (s.H 1)).getD 3 .junk)), (vS ((chB (s.H 1)).getD 4 .junk)), (vRoN ((chB (s.H 1)).getD 5 .junk)), (vRoF ((chB (s.H 1)).getD 5 .junk)), (vI (s.fr.getD 6 .junk)), (vSlN ((chB (s.H 1)).getD 1 .junk)), (fun j => (vS (((chF (s.H 2)) j).getD 0 .junk))), (fun j => (vS (((chF (s.H 2)) j).getD 1 .junk))))
def renames_l0_S (x : a_renames) : renames_l0_a → St := (Sum.elim (renames_l0_S0 x) (renames_l0_S1 x))
def renames_l0_d (s : St) : renames_l0_a := (match s.nx == 2 with | true => (.inl (renames_l0_d0 s)) | false => (.inr (renames_l0_d1 s)))
theorem renames_l0_i (x : a_renames) : ∀ y y', renames_l0_S x y = renames_l0_S x y' → y = y' := fun y y' h => by rcases y with y | y <;> rcases y' with y | y <;> exact (congrArg renames_l0_d h :)
def renames_l0_T (x : a_renames) : renames_l0_g → Ex × St := (Sum.elim (fun z => (Ex.exit 0, { fr := [V.junk, V.junk, V.ptr 0 0, V.junk, V.junk, V.ptr 1 0] ++ jk 54, H := hp [some (Chunk.blk [st (x.1), V.ro 2 (x.2.1) fun (j : Nat) => [st (x.2.2.1 j), st (x.2.2.2.1 j)], i64 (x.2.2.2.2.1), i64 (x.2.2.2.2.2.1), st (x.2.2.2.2.2.2.1), V.ro 4 (x.2.2.2.2.2.2.2.1) (x.2.2.2.2.2.2.2.2.1)]), some (Chunk.blk [st (x.1), nilS, i64 (z.1), i64 (z.2.1), st (z.2.2.1), V.ro 4 (z.2.2.2.1) (z.2.2.2.2)])], nx := 2, rt := 0, me := 6 })) (fun z => (Ex.exit 0, { fr := [V.junk, V.junk, V.ptr 0 0, V.junk, V.junk, V.ptr 1 0] ++ jk 54, H := hp [some (Chunk.blk [st (x.1), V.ro 2 (x.2.1) fun (j : Nat) => [st (x.2.2.1 j), st (x.2.2.2.1 j)], i64 (x.2.2.2.2.1), i64 (x.2.2.2.2.2.1), st (x.2.2.2.2.2.2.1), V.ro 4 (x.2.2.2.2.2.2.2.1) (x.2.2.2.2.2.2.2.2.1)]), some (Chunk.blk [st (x.1), V.sl 2 2 0 (z.1), i64 (z.2.1), i64 (z.2.2.1), st (z.2.2.2.1), V.ro 4 (z.2.2.2.2.1) (z.2.2.2.2.2.1)]), some (Chunk.row 51 2 (z.1) fun (j : Nat) => [st (z.2.2.2.2.2.2.1 j), st (z.2.2.2.2.2.2.2 j)])], nx := 3, rt := 0, me := 6 })))
def renames_l0_x (x : a_renames) (z : renames_l0_g) (k : KX) : Option Ans := Sum.elim (fun za => k (renames_l0_T x (.inl za)).1 (renames_l0_T x (.inl za)).2) (fun zb => k (renames_l0_T x (.inr zb)).1 (renames_l0_T x (.inr zb)).2) z
theorem renames_l0_xe (x : a_renames) : ∀ z k, renames_l0_x x z k = k (renames_l0_T x z).1 (renames_l0_T x z).2 := fun z k => by
  rcases z with z | z <;> rfl
theorem renames_l0_k0 (x : a_renames) (z : Int × Int × ByteArray × Nat × (Nat → List V)) : KCM [(0, 36)] 16 (renames_l0_T x (.inl z)).1 (renames_l0_T x (.inl z)).2 = some (.l (renames_l0_T x (.inl z)).1 (renames_l0_T x (.inl z)).2) := by kernel_rfl
theorem renames_l0_k1 (x : a_renames) (z : Nat × Int × Int × ByteArray × Nat × (Nat → List V) × (Nat → ByteArray) × (Nat → ByteArray)) : KCM [(0, 36)] 16 (renames_l0_T x (.inr z)).1 (renames_l0_T x (.inr z)).2 = some (.l (renames_l0_T x (.inr z)).1 (renames_l0_T x (.inr z)).2) := by kernel_rfl
def renames_l0_t0 {β : Type} (c_Nodes : a_Nodes → Option g_Nodes) (c_lives : a_lives → Option g_lives) (c_renamed : a_renamed → Option g_renamed) (c_CheckZ : a_CheckZ → Option g_CheckZ) (c_Check : a_Check → Option g_Check) (x : a_renames) (y : Int × Int × ByteArray × Nat × (Nat → List V)) (nx : renames_l0_a → Option β) (dn : renames_l0_g → Option β) : Option β :=
 if decide ((0 : Int) < ((x.2.1 : Nat) : Int)) = true then
  if (0 : Int) ≤ (0 : Int) ∧ (0 : Int) < ((x.2.1 : Nat) : Int) then
   if ByteArray.size (x.2.2.2.2.2.2.2.2.2) + ByteArray.size (x.2.2.1 0) ≤ maxLen then
    if (0 : Int) ≤ (0 : Int) ∧ (0 : Int) < ((x.2.1 : Nat) : Int) then
     nx (.inr ((y.1, y.2.1, y.2.2.1, y.2.2.2.1, y.2.2.2.2, (1 : Int), 1, fun (j : Nat) => x.2.2.2.2.2.2.2.2.2 ++ x.2.2.1 0, fun (j : Nat) => x.2.2.2.1 0)))
    else
     none
   else
    none
  else
   none
 else
  dn (.inl y)
theorem renames_l0_n0 {β : Type} (c_Nodes : a_Nodes → Option g_Nodes) (c_lives : a_lives → Option g_lives) (c_renamed : a_renamed → Option g_renamed) (c_CheckZ : a_CheckZ → Option g_CheckZ) (c_Check : a_Check → Option g_Check) (x : a_renames) (y : Int × Int × ByteArray × Nat × (Nat → List V)) (nx : renames_l0_a → Option β) (dn : renames_l0_g → Option β) : renames_l0_t0 c_Nodes c_lives c_renamed c_CheckZ c_Check x y nx dn = (renames_l0_t0 c_Nodes c_lives c_renamed c_CheckZ c_Check x y (fun y => some (.inl y)) (fun z => some (.inr z))).bind fun r => Sum.elim nx dn r := by
  unfold renames_l0_t0
  repeat' first | exact free_none | refine free_bind (fun z => ?_) | refine free_ite ?_ ?_ | refine free_sum (fun z => ?_) (fun z => ?_) | rfl
theorem renames_l0_r0 (c_Nodes : a_Nodes → Option g_Nodes) (c_lives : a_lives → Option g_lives) (c_renamed : a_renamed → Option g_renamed) (c_CheckZ : a_CheckZ → Option g_CheckZ) (c_Check : a_Check → Option g_Check) (x : a_renames) (y : Int × Int × ByteArray × Nat × (Nat → List V)) (lo : LoopT) : loopK E5 (ftab 9 (fun _ _ => true) A_Nodes x_Nodes c_Nodes (ftab 10 (fun _ _ => true) A_lives x_lives c_lives (ftab 19 (fun _ _ => true) A_renamed x_renamed c_renamed (ftab 20 (fun a _ => parNil a) A_CheckZ x_CheckZ c_CheckZ (ftab 20 (fun _ _ => true) A_Check x_Check c_Check ca0))))) lo 0 102 (bodyOf E5 6 0) (renames_l0_S x (.inl y)) (KCM [(0, 36)] 16) = renames_l0_t0 (fun x => viaF A_Nodes c_Nodes (A_Nodes x)) (fun x => viaF A_lives c_lives (A_lives x)) (fun x => viaF A_renamed c_renamed (A_renamed x)) (fun x => viaF A_CheckZ c_CheckZ (A_CheckZ x)) (fun x => viaF A_Check c_Check (A_Check x)) x y (fun y => lo 0 102 (bodyOf E5 6 0) (renames_l0_S x y) (KCM [(0, 36)] 16)) (fun z => some (.l (renames_l0_T x z).1 (renames_l0_T x z).2)) := by kernel_rfl
def renames_l0_t1 {β : Type} (c_Nodes : a_Nodes → Option g_Nodes) (c_lives : a_lives → Option g_lives) (c_renamed : a_renamed → Option g_renamed) (c_CheckZ : a_CheckZ → Option g_CheckZ) (c_Check : a_Check → Option g_Check) (x : a_renames) (y : Int × Int × ByteArray × Nat × (Nat → List V) × Int × Nat × (Nat → ByteArray) × (Nat → ByteArray)) (nx : renames_l0_a → Option β) (dn : renames_l0_g → Option β) : Option β :=
 if decide (y.2.2.2.2.2.1 < ((x.2.1 : Nat) : Int)) = true then
  if (0 : Int) ≤ y.2.2.2.2.2.1 ∧ y.2.2.2.2.2.1 < ((x.2.1 : Nat) : Int) then
   if ByteArray.size (x.2.2.2.2.2.2.2.2.2) + ByteArray.size (x.2.2.1 (Int.toNat (y.2.2.2.2.2.1))) ≤ maxLen then
    if (0 : Int) ≤ y.2.2.2.2.2.1 ∧ y.2.2.2.2.2.1 < ((x.2.1 : Nat) : Int) then
     if (y.2.2.2.2.2.2.1 + 1) * 32 ≤ roomBound ∧ y.2.2.2.2.2.2.1 + 1 ≤ maxLen ∧ y.2.2.2.2.2.2.1 ≤ y.2.2.2.2.2.2.1 then
      nx (.inr ((y.1, y.2.1, y.2.2.1, y.2.2.2.1, y.2.2.2.2.1, w (y.2.2.2.2.2.1 + (1 : Int)), y.2.2.2.2.2.2.1 + 1, fun (j : Nat) => if j < y.2.2.2.2.2.2.1 then y.2.2.2.2.2.2.2.1 j else x.2.2.2.2.2.2.2.2.2 ++ x.2.2.1 (Int.toNat (y.2.2.2.2.2.1)), fun (j : Nat) => if j < y.2.2.2.2.2.2.1 then y.2.2.2.2.2.2.2.2 j else x.2.2.2.1 (Int.toNat (y.2.2.2.2.2.1)))))
     else
      none
    else
     none
   else
    none
  else
   none
 else
  dn (.inr ((y.2.2.2.2.2.2.1, y.1, y.2.1, y.2.2.1, y.2.2.2.1, y.2.2.2.2.1, y.2.2.2.2.2.2.2)))
theorem renames_l0_n1 {β : Type} (c_Nodes : a_Nodes → Option g_Nodes) (c_lives : a_lives → Option g_lives) (c_renamed : a_renamed → Option g_renamed) (c_CheckZ : a_CheckZ → Option g_CheckZ) (c_Check : a_Check → Option g_Check) (x : a_renames) (y : Int × Int × ByteArray × Nat × (Nat → List V) × Int × Nat × (Nat → ByteArray) × (Nat → ByteArray)) (nx : renames_l0_a → Option β) (dn : renames_l0_g → Option β) : renames_l0_t1 c_Nodes c_lives c_renamed c_CheckZ c_Check x y nx dn = (renames_l0_t1 c_Nodes c_lives c_renamed c_CheckZ c_Check x y (fun y => some (.inl y)) (fun z => some (.inr z))).bind fun r => Sum.elim nx dn r := by
  unfold renames_l0_t1
  repeat' first | exact free_none | refine free_bind (fun z => ?_) | refine free_ite ?_ ?_ | refine free_sum (fun z => ?_) (fun z => ?_) | rfl
theorem renames_l0_r1 (c_Nodes : a_Nodes → Option g_Nodes) (c_lives : a_lives → Option g_lives) (c_renamed : a_renamed → Option g_renamed) (c_CheckZ : a_CheckZ → Option g_CheckZ) (c_Check : a_Check → Option g_Check) (x : a_renames) (y : Int × Int × ByteArray × Nat × (Nat → List V) × Int × Nat × (Nat → ByteArray) × (Nat → ByteArray)) (lo : LoopT) : loopK E5 (ftab 9 (fun _ _ => true) A_Nodes x_Nodes c_Nodes (ftab 10 (fun _ _ => true) A_lives x_lives c_lives (ftab 19 (fun _ _ => true) A_renamed x_renamed c_renamed (ftab 20 (fun a _ => parNil a) A_CheckZ x_CheckZ c_CheckZ (ftab 20 (fun _ _ => true) A_Check x_Check c_Check ca0))))) lo 0 102 (bodyOf E5 6 0) (renames_l0_S x (.inr y)) (KCM [(0, 36)] 16) = renames_l0_t1 (fun x => viaF A_Nodes c_Nodes (A_Nodes x)) (fun x => viaF A_lives c_lives (A_lives x)) (fun x => viaF A_renamed c_renamed (A_renamed x)) (fun x => viaF A_CheckZ c_CheckZ (A_CheckZ x)) (fun x => viaF A_Check c_Check (A_Check x)) x y (fun y => lo 0 102 (bodyOf E5 6 0) (renames_l0_S x y) (KCM [(0, 36)] 16)) (fun z => some (.l (renames_l0_T x z).1 (renames_l0_T x z).2)) := by kernel_rfl
noncomputable def renames_l0 (c_Nodes : a_Nodes → Option g_Nodes) (c_lives : a_lives → Option g_lives) (c_renamed : a_renamed → Option g_renamed) (c_CheckZ : a_CheckZ → Option g_CheckZ) (c_Check : a_Check → Option g_Check) (q : Nat) (x : a_renames) : renames_l0_a → Option renames_l0_g := lpG (Sum.elim (fun y => renames_l0_t0 c_Nodes c_lives c_renamed c_CheckZ c_Check x y (fun y => some (.inl y)) (fun z => some (.inr z))) (fun y => renames_l0_t1 c_Nodes c_lives c_renamed c_CheckZ c_Check x y (fun y => some (.inl y)) (fun z => some (.inr z)))) q
theorem renames_l0_s (c_Nodes : a_Nodes → Option g_Nodes) (h_Nodes : ∀ x z, c_Nodes x = some z → SC E5 9 (A_Nodes x).1 (A_Nodes x).2 (R_Nodes z)) (c_lives : a_lives → Option g_lives) (h_lives : ∀ x z, c_lives x = some z → SC E5 10 (A_lives x).1 (A_lives x).2 (R_lives z)) (c_renamed : a_renamed → Option g_renamed) (h_renamed : ∀ x z, c_renamed x = some z → SC E5 19 (A_renamed x).1 (A_renamed x).2 (R_renamed z)) (c_CheckZ : a_CheckZ → Option g_CheckZ) (h_CheckZ : ∀ x z, c_CheckZ x = some z → SC E5 20 (A_CheckZ x).1 (A_CheckZ x).2 (R_CheckZ z)) (c_Check : a_Check → Option g_Check) (h_Check : ∀ x z, c_Check x = some z → SC E5 20 (A_Check x).1 (A_Check x).2 (R_Check z)) (q : Nat) (x : a_renames) : ∀ y z, renames_l0 c_Nodes c_lives c_renamed c_CheckZ c_Check q x y = some z → SL E5 (bodyOf E5 6 0) (renames_l0_S x y) (renames_l0_T x z).1 (renames_l0_T x z).2 :=
  SL.lp (LT := fun lo => lo) (T := renames_l0_T x) (S := renames_l0_S x) (ftab_cons h_Nodes xe_Nodes (ftab_cons h_lives xe_lives (ftab_cons h_renamed xe_renamed (ftab_cons h_CheckZ xe_CheckZ (ftab_cons h_Check xe_Check ca0_sound))))) hX5 (fun lo h => h) (fun lo y => by
      rcases y with y | y
      · exact (renames_l0_r0 c_Nodes c_lives c_renamed c_CheckZ c_Check x y lo).trans (by rw [via_eq i_Nodes c_Nodes, via_eq i_lives c_lives, via_eq i_renamed c_renamed, via_eq i_CheckZ c_CheckZ, via_eq i_Check c_Check]; exact renames_l0_n0 _ _ _ _ _ _ _ _ _)
      · exact (renames_l0_r1 c_Nodes c_lives c_renamed c_CheckZ c_Check x y lo).trans (by rw [via_eq i_Nodes c_Nodes, via_eq i_lives c_lives, via_eq i_renamed c_renamed, via_eq i_CheckZ c_CheckZ, via_eq i_Check c_Check]; exact renames_l0_n1 _ _ _ _ _ _ _ _ _)) (fun z => by rcases z with z | z <;> first | exact renames_l0_k0 x z | exact renames_l0_k1 x z) q
def t_renames {β : Type} (c_Nodes : a_Nodes → Option g_Nodes) (c_lives : a_lives → Option g_lives) (c_renamed : a_renamed → Option g_renamed) (c_CheckZ : a_CheckZ → Option g_CheckZ) (c_Check : a_Check → Option g_Check) (l_renames_l0 : renames_l0_a → Option renames_l0_g) (x : a_renames) (dn : g_renames → Option β) : Option β :=
 (c_Nodes ((x.2.2.2.2.1, x.2.2.2.2.2.1, x.2.2.2.2.2.2.1, x.2.2.2.2.2.2.2.1, x.2.2.2.2.2.2.2.2.1, (300 : Int)))).bind fun z6 =>
  if decide (z6 > (300 : Int)) = true then
   (c_lives ()).bind fun z7 =>
    dn z7
  else
   if decide (((x.2.1 : Nat) : Int) > (40 : Int)) = true then
    (c_lives ()).bind fun z8 =>
     dn z8
   else
    (c_renamed (x.2.2.2.2)).bind fun z15 =>
     (l_renames_l0 (.inl z15)).bind fun z120 =>
      Sum.elim (fun z120a =>
      (c_Check ((x.1, x.2.1, x.2.2.1, x.2.2.2.1, x.2.2.2.2.1, x.2.2.2.2.2.1, x.2.2.2.2.2.2.1, x.2.2.2.2.2.2.2.1, x.2.2.2.2.2.2.2.2.1))).bind fun z130 =>
       (c_CheckZ ((x.1, z120a))).bind fun z137 =>
        if (z130 == z137) = true then
         (c_lives ()).bind fun z138 =>
          dn z138
        else
         dn false) (fun z120b =>
      (c_Check ((x.1, x.2.1, x.2.2.1, x.2.2.2.1, x.2.2.2.2.1, x.2.2.2.2.2.1, x.2.2.2.2.2.2.1, x.2.2.2.2.2.2.2.1, x.2.2.2.2.2.2.2.2.1))).bind fun z149 =>
       if 0 + z120b.1 ≤ z120b.1 ∧ 2 = 2 then
        (c_Check ((x.1, z120b.1, fun (j : Nat) => z120b.2.2.2.2.2.2.1 (0 + j), fun (j : Nat) => z120b.2.2.2.2.2.2.2 (0 + j), z120b.2.1, z120b.2.2.1, z120b.2.2.2.1, z120b.2.2.2.2.1, z120b.2.2.2.2.2.1))).bind fun z159 =>
         if (z149 == z159) = true then
          (c_lives ()).bind fun z160 =>
           dn z160
         else
          dn false
       else
        none) z120
theorem n_renames {β : Type} (c_Nodes : a_Nodes → Option g_Nodes) (c_lives : a_lives → Option g_lives) (c_renamed : a_renamed → Option g_renamed) (c_CheckZ : a_CheckZ → Option g_CheckZ) (c_Check : a_Check → Option g_Check) (l_renames_l0 : renames_l0_a → Option renames_l0_g) (x : a_renames) (dn : g_renames → Option β) : t_renames c_Nodes c_lives c_renamed c_CheckZ c_Check l_renames_l0 x dn = (t_renames c_Nodes c_lives c_renamed c_CheckZ c_Check l_renames_l0 x some).bind dn := by
  unfold t_renames
  repeat' first | exact free_none | refine free_bind (fun z => ?_) | refine free_ite ?_ ?_ | refine free_sum (fun z => ?_) (fun z => ?_) | rfl
theorem r_renames (c_Nodes : a_Nodes → Option g_Nodes) (c_lives : a_lives → Option g_lives) (c_renamed : a_renamed → Option g_renamed) (c_CheckZ : a_CheckZ → Option g_CheckZ) (c_Check : a_Check → Option g_Check) (l_renames_l0 : renames_l0_a → Option renames_l0_g) (x : a_renames) : callK E5 (ftab 9 (fun _ _ => true) A_Nodes x_Nodes c_Nodes (ftab 10 (fun _ _ => true) A_lives x_lives c_lives (ftab 19 (fun _ _ => true) A_renamed x_renamed c_renamed (ftab 20 (fun a _ => parNil a) A_CheckZ x_CheckZ c_CheckZ (ftab 20 (fun _ _ => true) A_Check x_Check c_Check ca0))))) (ltabF 0 (fun _ => true) (bodyOf E5 6 0) (renames_l0_S x) (renames_l0_x x) l_renames_l0 lo0) 6 (A_renames x).1 (A_renames x).2 K = t_renames (fun x => viaF A_Nodes c_Nodes (A_Nodes x)) (fun x => viaF A_lives c_lives (A_lives x)) (fun x => viaF A_renamed c_renamed (A_renamed x)) (fun x => viaF A_CheckZ c_CheckZ (A_CheckZ x)) (fun x => viaF A_Check c_Check (A_Check x)) (fun y => viaF (fun y => (bodyOf E5 6 0, renames_l0_S x y)) l_renames_l0 (bodyOf E5 6 0, renames_l0_S x y)) x (fun z => some (.c (R_renames z))) := by kernel_rfl
theorem s_renames (c_Nodes : a_Nodes → Option g_Nodes) (h_Nodes : ∀ x z, c_Nodes x = some z → SC E5 9 (A_Nodes x).1 (A_Nodes x).2 (R_Nodes z)) (c_lives : a_lives → Option g_lives) (h_lives : ∀ x z, c_lives x = some z → SC E5 10 (A_lives x).1 (A_lives x).2 (R_lives z)) (c_renamed : a_renamed → Option g_renamed) (h_renamed : ∀ x z, c_renamed x = some z → SC E5 19 (A_renamed x).1 (A_renamed x).2 (R_renamed z)) (c_CheckZ : a_CheckZ → Option g_CheckZ) (h_CheckZ : ∀ x z, c_CheckZ x = some z → SC E5 20 (A_CheckZ x).1 (A_CheckZ x).2 (R_CheckZ z)) (c_Check : a_Check → Option g_Check) (h_Check : ∀ x z, c_Check x = some z → SC E5 20 (A_Check x).1 (A_Check x).2 (R_Check z)) (q : Nat) (x : a_renames) (z : g_renames) (h : t_renames c_Nodes c_lives c_renamed c_CheckZ c_Check (renames_l0 c_Nodes c_lives c_renamed c_CheckZ c_Check q x) x some = some z) : SC E5 6 (A_renames x).1 (A_renames x).2 (R_renames z) := by
  refine SC.of hW5 hX5 (ftab_cons h_Nodes xe_Nodes (ftab_cons h_lives xe_lives (ftab_cons h_renamed xe_renamed (ftab_cons h_CheckZ xe_CheckZ (ftab_cons h_Check xe_Check ca0_sound))))) (ltabF_cons (renames_l0_s c_Nodes h_Nodes c_lives h_lives c_renamed h_renamed c_CheckZ h_CheckZ c_Check h_Check q x) (renames_l0_xe x) lo0_sound) ((r_renames c_Nodes c_lives c_renamed c_CheckZ c_Check (renames_l0 c_Nodes c_lives c_renamed c_CheckZ c_Check q x) x).trans ?_)
  rw [via_eq i_Nodes c_Nodes, via_eq i_lives c_lives, via_eq i_renamed c_renamed, via_eq i_CheckZ c_CheckZ, via_eq i_Check c_Check, via_eq (pair_inj (bodyOf E5 6 0) (renames_l0_i x)) (renames_l0 c_Nodes c_lives c_renamed c_CheckZ c_Check q x), n_renames, h]; rfl
noncomputable def renames (q : Nat) (x : a_renames) : Option g_renames := t_renames (Nodes q) (lives q) (renamed q) (CheckZ q) (Check q) (renames_l0 (Nodes q) (lives q) (renamed q) (CheckZ q) (Check q) q x) x some
theorem sc_renames (q : Nat) : ∀ (x : a_renames) (z : g_renames), renames q x = some z → SC E5 6 (A_renames x).1 (A_renames x).2 (R_renames z) := fun x z h => s_renames (Nodes q) (sc_Nodes q) (lives q) (sc_lives q) (renamed q) (sc_renamed q) (CheckZ q) (sc_CheckZ q) (Check q) (sc_Check q) q x z h
end Go.Proofs.YtniogljhkjbcgaaDoor
/- TypesRenames (plain). -/
namespace Go.Proofs.YtniogljhkjbcgaaDoor
open Go Go.Am Go.Proofs
set_option linter.unusedSimpArgs false
set_option linter.unusedVariables false
set_option maxRecDepth 100000
def rnS (p : ByteArray) (k : Int) (s : ByteArray) : ByteArray := if k = 17 ∨ k = 1 ∨ k = 2 then p ++ s else s
mutual
def renV (p : ByteArray) : Tr → Tr
  | .node k n s l => .node k n (rnS p k s) (renL p l)
def renL (p : ByteArray) : List Tr → List Tr
  | [] => []
  | t :: l => renV p t :: renL p l
end
theorem renL_len {p : ByteArray} : ∀ l : List Tr, (renL p l).length = l.length
  | [] => rfl
  | t :: l => by simp only [renL, List.length_cons, renL_len l]
theorem renL_at {p : ByteArray} : ∀ (l : List Tr) (j : Nat), (renL p l)[j]? = (l[j]?).map (renV p)
  | [], j => by simp [renL]
  | t :: l, 0 => by simp [renL]
  | t :: l, j + 1 => by simpa [renL] using renL_at l j
mutual
theorem siz_ren {p : ByteArray} : ∀ t : Tr, siz (renV p t) = siz t
  | .node k n s l => by simp only [renV, siz, sizL_ren l]
theorem sizL_ren {p : ByteArray} : ∀ l : List Tr, sizL (renL p l) = sizL l
  | [] => rfl
  | t :: l => by simp only [renL, sizL, siz_ren t, sizL_ren l]
end
mutual
/-- All names are short enough. -/
def SzT (B : Nat) : Tr → Prop
  | .node _ _ s l => s.size ≤ B ∧ SzL B l
def SzL (B : Nat) : List Tr → Prop
  | [] => True
  | t :: l => SzT B t ∧ SzL B l
end
theorem szL_at {B : Nat} : ∀ (l : List Tr) (j : Nat) (t : Tr), SzL B l → l[j]? = some t → SzT B t
  | [], j, t, _, h => by simp at h
  | t :: l, 0, t', h, e => by
    simp only [SzL] at h
    simp only [List.getElem?_cons_zero, Option.some.injEq] at e
    subst e; exact h.1
  | t :: l, j + 1, t', h, e => by
    simp only [SzL] at h
    exact szL_at l j t' h.2 (by simpa using e)
theorem ren_t1 {c : a_renamed → Option g_renamed} {p : ByteArray} {l : List Tr} {f : Nat → List V} {nk nn : Int} {ns S : ByteArray} (hl : l.length ≤ 1000)
    (hc : ∀ (j : Nat) (t : Tr), l[j]? = some t → Runs (c (opK f j, opN f j, opS f j, opM f j, opF f j, p)) (fun z => Rep (renV p t) z)) :
    ∀ (r q i : Nat) (y : RowT), i + r = l.length → r < q → RowR (renL p l) i y →
      Runs (renamedN_l0 c q (nk, nn, ns, l.length, opK f, opN f, opS f, opM f, opF f, p) (.inr (opK f, opN f, opS f, opM f, opF f, S, y.1, y.2.1, y.2.2.1, y.2.2.2.1, y.2.2.2.2, (i : Int), i))) (fun z => ∃ y' : RowT, z = .inr (S, l.length, y') ∧ RowR (renL p l) l.length y') := by
  intro r
  induction r with
  | zero =>
    intro q i y hi hq hy
    obtain ⟨q, rfl⟩ : ∃ k, q = k + 1 := ⟨q - 1, by omega⟩
    refine lp_step ?_
    dsimp only [Sum.elim_inr]
    unfold renamedN_l0_t1
    dsimp only
    have hil : i = l.length := by omega
    subst hil
    exact Runs.if_neg (show ¬ decide ((l.length : Int) < (l.length : Int)) = true by simp only [decide_eq_true_eq]; omega) (Runs.some ⟨y, rfl, hy⟩)
  | succ r ih =>
    intro q i y hi hq hy
    obtain ⟨q, rfl⟩ : ∃ k, q = k + 1 := ⟨q - 1, by omega⟩
    refine lp_step ?_
    dsimp only [Sum.elim_inr]
    unfold renamedN_l0_t1
    dsimp only
    have hil : i < l.length := by omega
    obtain ⟨t, ht⟩ : ∃ t, l[i]? = some t := ⟨l[i], List.getElem?_eq_getElem hil⟩
    refine Runs.if_pos (show decide ((i : Int) < (l.length : Int)) = true by simp only [decide_eq_true_eq]; omega) (Runs.if_pos ⟨by omega, by omega⟩ ?_)
    rw [w_succ (by omega), Int.toNat_natCast]
    refine Runs.bind (hc i t ht) fun z hz => Runs.if_pos ⟨by simp only [roomBound]; omega, by simp only [maxLen]; omega, Nat.le_refl _⟩ (Runs.some ?_)
    exact ih q (i + 1) _ (by omega) (by omega) (hy.put (by rw [renL_at, ht]; rfl) hz)
theorem ren_t0 {c : a_renamed → Option g_renamed} {p : ByteArray} {l : List Tr} {f : Nat → List V} {nk nn : Int} {ns S : ByteArray} (hl : l.length ≤ 1000)
    (hc : ∀ (j : Nat) (t : Tr), l[j]? = some t → Runs (c (opK f j, opN f j, opS f j, opM f j, opF f j, p)) (fun z => Rep (renV p t) z)) {q : Nat} (hq : l.length < q) :
      Runs (renamedN_l0 c q (nk, nn, ns, l.length, opK f, opN f, opS f, opM f, opF f, p) (.inl (opK f, opN f, opS f, opM f, opF f, S))) (fun z => (z = .inl S ∧ l = []) ∨ ∃ y' : RowT, z = .inr (S, l.length, y') ∧ RowR (renL p l) l.length y') := by
  obtain ⟨q, rfl⟩ : ∃ k, q = k + 1 := ⟨q - 1, by omega⟩
  refine lp_step ?_
  dsimp only [Sum.elim_inl]
  unfold renamedN_l0_t0
  dsimp only
  refine Runs.ite (fun h => Runs.if_pos ⟨by omega, of_decide_eq_true h⟩ ?_) fun h => Runs.some (.inl ⟨rfl, ?_⟩)
  · have h : (0 : Int) < (l.length : Int) := of_decide_eq_true h
    obtain ⟨t, ht⟩ : ∃ t, l[0]? = some t := ⟨l[0], List.getElem?_eq_getElem (by omega)⟩
    refine Runs.bind (hc 0 t ht) fun z hz => Runs.some ?_
    have hrow : RowR (renL p l) 1 ((fun j => z.1), (fun j => z.2.1), (fun j => z.2.2.1), (fun j => z.2.2.2.1), (fun j => z.2.2.2.2)) := by
      intro j t' hj ht'
      have : j = 0 := by omega
      subst this
      rw [renL_at, ht] at ht'; cases ht'
      exact hz
    exact (ren_t1 hl hc (l.length - 1) q 1 _ (by omega) (by omega) hrow).mono fun z hz => .inr hz
  · simp only [decide_eq_true_eq] at h
    exact List.length_eq_zero_iff.1 (by omega)
theorem ren_V {p : ByteArray} {B : Nat} (hB : p.size + B ≤ Go.maxLen) : ∀ (q : Nat) (t : Tr) (x : NodeT), Rep t x → siz t < q → siz t ≤ 1000 → SzT B t → Runs (renamed q (x.1, x.2.1, x.2.2.1, x.2.2.2.1, x.2.2.2.2, p)) (fun z => Rep (renV p t) z) := by
  intro q
  induction q with
  | zero => intro t x _ h; omega
  | succ q ih =>
    rintro ⟨k, n, s, l⟩ ⟨k', n', s', m', f⟩ hr hq hm hz
    simp only [Rep] at hr
    obtain ⟨rfl, rfl, rfl, rfl, hl, ho, hk⟩ := hr
    simp only [SzT] at hz
    unfold renamed
    dsimp only
    rw [_root_.if_pos ho]
    unfold t_renamedN
    dsimp only
    simp only [siz] at hq hm ⊢
    have hsl := sizL_len l
    have loop := fun S => ren_t0 (p := p) (nk := k') (nn := n') (ns := s') (f := f) (l := l) (S := S) (by omega) (c := renamed q) (fun j t ht => by
      have h1 := repL_at l f 0 hk j t ht
      rw [Nat.zero_add] at h1
      have h2 := sizL_at l j t ht
      exact ih t (kidAt f j) h1 (by omega) (by omega) (szL_at l j t hz.2 ht)) (q := q) (by omega)
    have fin : ∀ S, S = rnS p k' s' → Runs (Option.map cv_renamed ((renamedN_l0 (renamed q) q (k', n', s', l.length, opK f, opN f, opS f, opM f, opF f, p) (.inl (opK f, opN f, opS f, opM f, opF f, S))).bind fun z => Sum.elim (fun za => some (.inl (k', n', za))) (fun zb => some (.inr (k', n', zb))) z)) (fun z => Rep (renV p (.node k' n' s' l)) z) := by
      intro S hS
      obtain ⟨z, h1, h2⟩ := loop S
      rw [h1]
      simp only [renV]
      rw [← hS]
      rcases h2 with ⟨rfl, rfl⟩ | ⟨y, rfl, hy⟩
      · exact ⟨_, rfl, rep_none⟩
      · refine ⟨_, rfl, ?_⟩
        rw [← renL_len (p := p) l] at hy ⊢
        exact rep_row (by rw [renL_len]; exact hl) hy
    have hle : ByteArray.size p + ByteArray.size s' ≤ Go.maxLen := by have := hz.1; omega
    have hle' : ByteArray.size p + ByteArray.size s' ≤ maxLen := hle
    by_cases h17 : (k' == (17 : Int)) = true
    · rw [if_pos h17, if_pos hle']
      exact fin _ (by unfold rnS; rw [if_pos (.inl (by simpa using h17))])
    · rw [if_neg h17]
      by_cases h1 : (k' == (1 : Int)) = true
      · rw [if_pos h1, if_pos hle']
        exact fin _ (by unfold rnS; rw [if_pos (.inr (.inl (by simpa using h1)))])
      · rw [if_neg h1]
        by_cases h2 : (k' == (2 : Int)) = true
        · rw [if_pos h2, if_pos hle']
          exact fin _ (by unfold rnS; rw [if_pos (.inr (.inr (by simpa using h2)))])
        · rw [if_neg h2]
          refine fin _ ?_
          unfold rnS
          rw [if_neg]
          simp only [beq_iff_eq] at h17 h1 h2
          omega
theorem ba_app {p a b : ByteArray} (h : p ++ a = p ++ b) : a = b := by
  have h1 := congrArg ByteArray.data h
  rw [ByteArray.data_append, ByteArray.data_append] at h1
  have h2 := congrArg Array.toList h1
  rw [Array.toList_append, Array.toList_append] at h2
  obtain ⟨⟨x⟩⟩ := a
  obtain ⟨⟨y⟩⟩ := b
  have h3 : x = y := List.append_cancel_left h2
  rw [h3]
theorem kids_name {k n : Int} (s s' : ByteArray) (h : k = 17 ∨ k = 1 ∨ k = 2) : kidsV k n s = kidsV k n s' := by
  unfold kidsV kids t_kids
  rcases h with rfl | rfl | rfl <;> simp
theorem kids_ren (p : ByteArray) (k n : Int) (s : ByteArray) : kidsV k n (rnS p k s) = kidsV k n s := by
  unfold rnS
  split
  · rename_i h; exact kids_name _ _ h
  · rfl
theorem ofV_ren {T T' : ByteArray → Option DimT} {p : ByteArray} (hT : ∀ s, T' (p ++ s) = T s) : ∀ t : Tr, ofV T' (renV p t) = ofV T t
  | .node k n s [] => by
    simp only [renV, renL]
    rw [ofV_nil, ofV_nil, kids_ren]
    by_cases h : kidsV k n s = 0
    · rw [if_pos h, if_pos h]
      rcases (kidsV_range k n s).1 h with rfl | rfl | rfl | rfl
      · rw [leaf15, leaf15]; rfl
      · rw [leaf16, leaf16]
      · rw [leaf17, leaf17, show rnS p 17 s = p ++ s from rfl, hT]
      · rw [leaf18, leaf18]; rfl
    · rw [if_neg h, if_neg h]
  | .node k n s [a] => by
    simp only [renV, renL]
    rw [ofV_one, ofV_one, kids_ren]
    by_cases h : kidsV k n s = 1
    · rw [if_pos h, if_pos h, ofV_ren hT a]
      obtain rfl := (kidsV_range k n s).2.1 h
      rfl
    · rw [if_neg h, if_neg h]
  | .node k n s [a, b] => by
    simp only [renV, renL]
    rw [ofV_two, ofV_two, kids_ren]
    by_cases h : kidsV k n s = 2
    · rw [if_pos h, if_pos h, ofV_ren hT a, ofV_ren hT b]
      obtain rfl := (kidsV_range k n s).2.2.1 h
      rfl
    · rw [if_neg h, if_neg h]
  | .node k n s (a :: b :: c :: l) => by
    simp only [renV, renL]
    rw [ofV_more, ofV_more]
def Rn (p : ByteArray) (g g' : Sg) : Prop := g'.1 = g.1 ∧ ∀ s, g'.2 (p ++ s) = g.2 s
def RnO (p : ByteArray) (r r' : Int × Sg) : Prop := r'.1 = r.1 ∧ Rn p r.2 r'.2
theorem Rn.decl {p : ByteArray} {g g' : Sg} (h : Rn p g g') (s : ByteArray) (d : DimT) : RnO p (declV s d g) (declV (p ++ s) d g') := by
  unfold declV
  rw [h.1, h.2]
  split
  · exact ⟨rfl, h⟩
  split
  · exact ⟨rfl, h⟩
  refine ⟨rfl, rfl, fun x => ?_⟩
  unfold putT
  dsimp only
  by_cases hx : x = s
  · subst hx; rw [if_pos rfl, if_pos rfl]
  · rw [if_neg hx, if_neg (fun e => hx (ba_app e)), h.2]
theorem Rn.cond {p : ByteArray} {g g' : Sg} (h : Rn p g g') (a : Tr) : condV (renV p a) g' = condV a g := by
  unfold condV; rw [ofV_ren h.2]
theorem Rn.quant {p : ByteArray} {g g' : Sg} (h : Rn p g g') (a : Tr) (d : DimT) : quantV (renV p a) d g' = quantV a d g := by
  unfold quantV; rw [ofV_ren h.2]
theorem Rn.letV {p : ByteArray} {g g' : Sg} (h : Rn p g g') (k : Int) (s : ByteArray) (a : Tr) : RnO p (letV k s a g) (letV k (p ++ s) (renV p a) g') := by
  unfold Go.Proofs.YtniogljhkjbcgaaDoor.letV letT
  rw [ofV_ren h.2, h.2]
  split
  · split
    · split
      · exact ⟨rfl, h⟩
      · split
        · exact ⟨rfl, h⟩
        · split
          · exact ⟨rfl, h⟩
          · exact ⟨rfl, h⟩
    · split
      · exact ⟨rfl, h⟩
      · exact h.decl _ _
  · exact ⟨rfl, h⟩
theorem kdT_ren (p : ByteArray) (t : Tr) : kdT (renV p t) = kdT t := by cases t; simp only [renV, kdT]
theorem kdAt_ren (p : ByteArray) (l : List Tr) (i : Nat) : kdAt (renL p l) i = kdAt l i := by
  unfold kdAt
  rw [renL_at]
  cases l[i]? with
  | none => rfl
  | some t => exact kdT_ren p t
theorem wf_ren (p : ByteArray) (k : Int) (l : List Tr) : wfV k (renL p l) = wfV k l := by
  unfold wfV
  rw [renL_len, kdAt_ren, kdAt_ren, kdAt_ren]
theorem dflt_ren (p : ByteArray) : renV p (.node 0 0 ByteArray.empty []) = .node 0 0 ByteArray.empty [] := by simp [renV, renL, rnS]
theorem hd_ren (p : ByteArray) (l : List Tr) : hdT (renL p l) = renV p (hdT l) := by
  cases l with
  | nil => exact (dflt_ren p).symm
  | cons a l => simp only [renL]; rfl
theorem sd_ren (p : ByteArray) (l : List Tr) : sdT (renL p l) = renV p (sdT l) := by
  cases l with
  | nil => exact (dflt_ren p).symm
  | cons a l =>
    cases l with
    | nil => exact (dflt_ren p).symm
    | cons b l => simp only [renL]; rfl
mutual
theorem stV_ren {p : ByteArray} : ∀ (t : Tr) (g g' : Sg), Rn p g g' → RnO p (stV t g) (stV (renV p t) g')
  | .node k n s l, g, g', h => by
    simp only [renV]
    rw [stV_node, stV_node, wf_ren, hd_ren, sd_ren, h.cond, h.quant, h.quant, h.quant, h.quant]
    have h1 := fun i => alV_ren l i g g' h
    by_cases c1 : wfV k l = false
    · rw [if_pos c1, if_pos c1]; exact ⟨rfl, h⟩
    rw [if_neg c1, if_neg c1]
    by_cases c2 : rgV k n = false
    · rw [if_pos c2, if_pos c2]; exact ⟨rfl, h⟩
    rw [if_neg c2, if_neg c2]
    by_cases c3 : k = 1 ∨ k = 2
    · rw [if_pos c3, if_pos c3, show rnS p k s = p ++ s by unfold rnS; rw [if_pos (.inr c3)]]
      exact h.letV _ _ _
    rw [if_neg c3, if_neg c3]
    split
    · exact ⟨rfl, h⟩
    split
    · exact ⟨rfl, h⟩
    split
    · exact ⟨rfl, h⟩
    split
    · exact ⟨rfl, h⟩
    split
    · split
      · exact ⟨rfl, h⟩
      · exact ⟨rfl, h⟩
    split
    · split
      · exact h1 1
      · exact ⟨rfl, h⟩
    exact h1 0
theorem alV_ren {p : ByteArray} : ∀ (l : List Tr) (i : Nat) (g g' : Sg), Rn p g g' → RnO p (alV i l g) (alV i (renL p l) g')
  | [], i, g, g', h => by
    simp only [renL]
    rw [alV_nil, alV_nil]; exact ⟨rfl, h⟩
  | t :: l, 0, g, g', h => by
    simp only [renL]
    rw [alV_cons, alV_cons]
    have h1 := stV_ren t g g' h
    rw [h1.1]
    split
    · exact alV_ren l 0 _ _ h1.2
    · exact h1
  | t :: l, i + 1, g, g', h => by
    simp only [renL]
    rw [alV, alV]
    exact alV_ren l i g g' h
end
theorem parV_ren {p : ByteArray} {pa pa' pu pu' : Nat → ByteArray} : ∀ (r i : Nat) (g g' : Sg), Rn p g g' → (∀ j, i ≤ j → j < i + r → pa' j = p ++ pa j ∧ pu' j = pu j) → RnO p (parV pa pu r i g) (parV pa' pu' r i g')
  | 0, i, g, g', h, _ => ⟨rfl, h⟩
  | r + 1, i, g, g', h, hp => by
    rw [parV, parV]
    obtain ⟨e1, e2⟩ := hp i (Nat.le_refl _) (by omega)
    rw [e1, e2]
    cases unitV (pu i) with
    | none => exact ⟨rfl, h⟩
    | some d =>
      dsimp only
      have h1 := h.decl (pa i) d
      rw [h1.1]
      split
      · exact parV_ren r (i + 1) _ _ h1.2 fun j h2 h3 => hp j (by omega) (by omega)
      · exact h1
theorem checkV_ren {p : ByteArray} {pm : Nat} {pa pa' pu pu' : Nat → ByteArray} {b : Tr} (hp : ∀ j, j < pm → pa' j = p ++ pa j ∧ pu' j = pu j) : checkV pm pa' pu' (renV p b) = checkV pm pa pu b := by
  unfold checkV
  have h := parV_ren (p := p) (pa := pa) (pa' := pa') (pu := pu) (pu' := pu') pm 0 (0, fun _ => none) (0, fun _ => none) ⟨rfl, fun _ => rfl⟩ (fun j _ hj => hp j (by omega))
  rw [h.1, kdT_ren, (stV_ren b _ _ h.2).1]
theorem checkZ_V {pn : ByteArray} {b : Tr} {nd : NodeT} {q : Nat} (hr : Rep b nd) (hq : 2 * siz b < q) (hs : siz b ≤ 9223372036854775807) :
    Runs (CheckZ q (pn, nd)) (fun (e : Int) => e = checkV 0 (fun _ => ByteArray.empty) (fun _ => ByteArray.empty) b) := by
  unfold CheckZ
  exact check_V hr (by omega) (by omega) hs
theorem rens_t1 {pn : ByteArray} {pm : Nat} {pa pu : Nat → ByteArray} {nd nd' : NodeT} {p : ByteArray} {B : Nat} (hm : pm ≤ 40) (hB : p.size + B ≤ Go.maxLen) (hz : ∀ j, j < pm → (pa j).size ≤ B) {c1 : a_Nodes → Option g_Nodes} {c2 : a_lives → Option g_lives} {c3 : a_renamed → Option g_renamed} {c4 : a_CheckZ → Option g_CheckZ} {c5 : a_Check → Option g_Check} :
    ∀ (r q i : Nat) (qa qu : Nat → ByteArray), i + r = pm → r < q → (∀ j, j < i → qa j = p ++ pa j ∧ qu j = pu j) →
      Runs (renames_l0 c1 c2 c3 c4 c5 q (pn, pm, pa, pu, nd.1, nd.2.1, nd.2.2.1, nd.2.2.2.1, nd.2.2.2.2, p) (.inr (nd'.1, nd'.2.1, nd'.2.2.1, nd'.2.2.2.1, nd'.2.2.2.2, (i : Int), i, qa, qu)))
        (fun z => ∃ qa qu, z = .inr (pm, nd'.1, nd'.2.1, nd'.2.2.1, nd'.2.2.2.1, nd'.2.2.2.2, qa, qu) ∧ ∀ j, j < pm → qa j = p ++ pa j ∧ qu j = pu j) := by
  have hml : Go.maxLen = 9223372036854775807 := by decide
  intro r
  induction r with
  | zero =>
    intro q i qa qu hi hq hp
    obtain ⟨q, rfl⟩ : ∃ k, q = k + 1 := ⟨q - 1, by omega⟩
    refine lp_step ?_
    dsimp only [Sum.elim_inr]
    unfold renames_l0_t1
    dsimp only
    have him : i = pm := by omega
    subst him
    exact Runs.if_neg (show ¬ decide ((i : Int) < (i : Int)) = true by simp only [decide_eq_true_eq]; omega) (Runs.some ⟨qa, qu, rfl, hp⟩)
  | succ r ih =>
    intro q i qa qu hi hq hp
    obtain ⟨q, rfl⟩ : ∃ k, q = k + 1 := ⟨q - 1, by omega⟩
    refine lp_step ?_
    dsimp only [Sum.elim_inr]
    unfold renames_l0_t1
    dsimp only
    have hI : (0 : Int) ≤ (i : Int) ∧ (i : Int) < (pm : Int) := ⟨by omega, by omega⟩
    have hle : ByteArray.size p + ByteArray.size (pa i) ≤ Go.maxLen := by have := hz i (by omega); omega
    have hle' : ByteArray.size p + ByteArray.size (pa (Int.toNat (i : Int))) ≤ maxLen := hle
    refine Runs.if_pos (show decide ((i : Int) < (pm : Int)) = true by simp only [decide_eq_true_eq]; omega) (Runs.if_pos hI (Runs.if_pos hle' (Runs.if_pos hI (Runs.if_pos ⟨by simp only [roomBound]; omega, by simp only [maxLen]; omega, Nat.le_refl _⟩ (Runs.some ?_)))))
    show Runs (lpG _ q (Sum.inr (_, _, _, _, _, w ((i : Int) + 1), _, _))) _
    rw [w_succ (by omega), Int.toNat_natCast]
    refine ih q (i + 1) _ _ (by omega) (by omega) fun j hj => ?_
    by_cases hji : j < i
    · simp only [if_pos hji]; exact hp j hji
    · have : j = i := by omega
      subst this
      simp only [if_neg hji, and_self]
theorem rens_t0 {pn : ByteArray} {pm : Nat} {pa pu : Nat → ByteArray} {nd nd' : NodeT} {p : ByteArray} {B : Nat} (hm : pm ≤ 40) (hB : p.size + B ≤ Go.maxLen) (hz : ∀ j, j < pm → (pa j).size ≤ B) {c1 : a_Nodes → Option g_Nodes} {c2 : a_lives → Option g_lives} {c3 : a_renamed → Option g_renamed} {c4 : a_CheckZ → Option g_CheckZ} {c5 : a_Check → Option g_Check} {q : Nat} (hq : pm < q) :
      Runs (renames_l0 c1 c2 c3 c4 c5 q (pn, pm, pa, pu, nd.1, nd.2.1, nd.2.2.1, nd.2.2.2.1, nd.2.2.2.2, p) (.inl nd'))
        (fun z => (z = .inl nd' ∧ pm = 0) ∨ ∃ qa qu, z = .inr (pm, nd'.1, nd'.2.1, nd'.2.2.1, nd'.2.2.2.1, nd'.2.2.2.2, qa, qu) ∧ ∀ j, j < pm → qa j = p ++ pa j ∧ qu j = pu j) := by
  have hml : Go.maxLen = 9223372036854775807 := by decide
  obtain ⟨q, rfl⟩ : ∃ k, q = k + 1 := ⟨q - 1, by omega⟩
  refine lp_step ?_
  dsimp only [Sum.elim_inl]
  unfold renames_l0_t0
  dsimp only
  refine Runs.ite (fun h => ?_) fun h => Runs.some (.inl ⟨rfl, ?_⟩)
  · have h : (0 : Int) < (pm : Int) := of_decide_eq_true h
    have hle : ByteArray.size p + ByteArray.size (pa 0) ≤ Go.maxLen := by have := hz 0 (by omega); omega
    have hle' : ByteArray.size p + ByteArray.size (pa 0) ≤ maxLen := hle
    refine Runs.if_pos ⟨by omega, h⟩ (Runs.if_pos hle' (Runs.if_pos ⟨by omega, h⟩ (Runs.some ?_)))
    exact (rens_t1 (nd := nd) hm hB hz (pm - 1) q 1 _ _ (by omega) (by omega) (fun j hj => by
      have : j = 0 := by omega
      subst this
      exact ⟨rfl, rfl⟩)).mono fun z hz => .inr hz
  · simp only [decide_eq_true_eq] at h; omega
theorem renames_true {pn : ByteArray} {pm : Nat} {pa pu : Nat → ByteArray} {tr : Tr} {nd : NodeT} {p : ByteArray} {B : Nat} (hr : Rep tr nd) (hm : pm ≤ Go.maxLen) (hB : p.size + B ≤ Go.maxLen) (hz : ∀ j, j < pm → (pa j).size ≤ B) (hzt : SzT B tr) :
    ∃ q, Runs (renames q (pn, pm, pa, pu, nd.1, nd.2.1, nd.2.2.1, nd.2.2.2.1, nd.2.2.2.2, p)) (fun z => z = true) := by
  obtain ⟨q, hq⟩ : ∃ q, q = 400 + 3 * siz tr + pm := ⟨_, rfl⟩
  refine ⟨q, ?_⟩
  have hml : Go.maxLen = 9223372036854775807 := by decide
  unfold renames t_renames
  dsimp only
  have liv : ∀ {β : Type} {k : g_lives → Option β} {P : β → Prop}, Runs (k true) P → Runs ((lives q ()).bind k) P := fun h => h
  refine Runs.bind (nodes_V q tr _ 300 hr (by omega) (by omega)) fun (z : Int) hz => ?_
  refine Runs.ite (fun _ => liv (Runs.some rfl)) fun g1 => Runs.ite (fun _ => liv (Runs.some rfl)) fun g2 => ?_
  have g1 : ¬ ((z : Int) > 300) := by simpa using g1
  have g2 : ¬ ((pm : Int) > 40) := by simpa using g2
  have hs : siz tr ≤ 300 := by omega
  refine Runs.bind (ren_V hB q tr nd hr (by omega) (by omega) hzt) fun nd' hnd => ?_
  refine Runs.bind (rens_t0 (nd := nd) (by omega) hB (by assumption) (by omega)) fun y hy => ?_
  have hsr := siz_ren (p := p) tr
  rcases hy with ⟨rfl, h0⟩ | ⟨qa, qu, rfl, hy⟩
  · subst h0
    dsimp only [Sum.elim_inl]
    refine Runs.bind (check_V (nd := nd) hr (by omega) (by omega) (by omega)) fun (e : Int) he => ?_
    refine Runs.bind (checkZ_V hnd (by omega) (by omega)) fun (e' : Int) he' => ?_
    have : e = e' := by rw [he, he']; exact (checkV_ren fun j hj => by omega).symm
    exact Runs.if_pos (by simpa using this) (liv (Runs.some rfl))
  · dsimp only [Sum.elim_inr]
    refine Runs.bind (check_V (nd := nd) hr (by omega) (by omega) (by omega)) fun (e : Int) he => Runs.if_pos ⟨by omega, rfl⟩ ?_
    have ea : (fun j : Nat => qa (0 + j)) = qa := funext fun j => by rw [Nat.zero_add]
    have eu : (fun j : Nat => qu (0 + j)) = qu := funext fun j => by rw [Nat.zero_add]
    rw [ea, eu]
    refine Runs.bind (check_V (nd := nd') hnd (by omega) (by omega) (by omega)) fun (e' : Int) he' => ?_
    have : e = e' := by rw [he, he']; exact (checkV_ren hy).symm
    exact Runs.if_pos (by simpa using this) (liv (Runs.some rfl))
end Go.Proofs.YtniogljhkjbcgaaDoor
/- TypesRenames: what comes in, bounded. -/
namespace Go.Proofs.YtniogljhkjbcgaaDoor
open Go Go.Am Go.Proofs
set_option linter.unusedSimpArgs false
set_option linter.unusedVariables false
set_option maxRecDepth 100000
theorem repB {B : Nat} : ∀ (d : Nat) (l : List V), WT E.P d 24 l → (∃ e, SmV B e l) → ∃ (k n : Int) (s : ByteArray) (m : Nat) (f : Nat → List V) (t : Tr), LeL l [i64 k, i64 n, st s, .ro 4 m f] ∧ OpenA m f ∧ Rep t (k, n, s, m, f) ∧ SzT B t := by
  intro d
  induction d using Nat.strongRecOn with
  | ind d ih =>
    intro l h hs
    obtain ⟨d, rfl⟩ : ∃ k, d = k + 1 := by cases d with
      | zero => cases h
      | succ k => exact ⟨k, rfl⟩
    obtain ⟨a, b, rfl, ha, b1, b2, rfl, hb, c1, c2, rfl, hc, e1, e2, rfl, he, rfl⟩ := wt_struct h (l := [3, 3, 9, 22]) (by kernel_rfl)
    obtain ⟨k, rfl, hk⟩ := ha.i64 (by kernel_rfl)
    obtain ⟨n, rfl, hn⟩ := hb.i64 (by kernel_rfl)
    obtain ⟨s, rfl, _⟩ := hc.str (by kernel_rfl)
    obtain ⟨d', rfl⟩ : ∃ k, d = k + 1 := by cases d with
      | zero => cases he
      | succ k => exact ⟨k, rfl⟩
    obtain ⟨m, f, rfl, hm, hf⟩ := wt_slice he (e := 24) (c := 4) (by kernel_rfl) (by kernel_rfl) (by omega)
    obtain ⟨e, hs⟩ := hs
    have hsz : s.size ≤ B := hs.str (by simp)
    obtain ⟨_, e', hrow⟩ := hs.row' (c := 4) (n := m) (f := f) (by simp)
    have key : ∀ j, ∃ (x : NodeT × Tr), j < m → LeL (f j) [i64 x.1.1, i64 x.1.2.1, st x.1.2.2.1, .ro 4 x.1.2.2.2.1 x.1.2.2.2.2] ∧ OpenA x.1.2.2.2.1 x.1.2.2.2.2 ∧ Rep x.2 x.1 ∧ SzT B x.2 := fun j => by
      by_cases hj : j < m
      · obtain ⟨k, n, s, m, f, t, g⟩ := ih d' (by omega) (f j) (hf j hj) ⟨e', hrow j hj⟩
        exact ⟨((k, n, s, m, f), t), fun _ => g⟩
      · exact ⟨((0, 0, ByteArray.empty, 0, fun _ => []), .node 0 0 s []), fun h => absurd h hj⟩
    obtain ⟨g, hg⟩ := Classical.axiomOfChoice key
    let F : Nat → List V := fun j => if j < m then [i64 (g j).1.1, i64 (g j).1.2.1, st (g j).1.2.2.1, .ro 4 (g j).1.2.2.2.1 (g j).1.2.2.2.2] else leafV
    have hF : ∀ j, j < m → F j = [i64 (g j).1.1, i64 (g j).1.2.1, st (g j).1.2.2.1, .ro 4 (g j).1.2.2.2.1 (g j).1.2.2.2.2] := fun j hj => by simp only [F, if_pos hj]
    have hF2 : ∀ j, ¬ j < m → F j = leafV := fun j hj => by simp only [F, if_neg hj]
    have ho : OpenA m F := openA_of (fun j hj => ⟨_, _, _, _, _, hF j hj, (hg j hj).2.1⟩) hF2
    have hml : m ≤ Go.maxLen := hm
    refine ⟨k, n, s, m, F, .node k n s ((List.range m).map fun j => (g j).2), ?_, ho, ?_, ?_⟩
    · exact LeL.cons (Le.refl _) (LeL.cons (Le.refl _) (LeL.cons (Le.refl _) (LeL.cons (Le.ro fun j hj => ⟨by rw [hF j hj]; exact (hg j hj).1, by rw [hF j hj]; rfl⟩) LeL.nil)))
    · simp only [Rep]
      refine ⟨trivial, trivial, trivial, by simp, by simpa using hml, ho.here, repL_mk _ _ _ fun j t e => ?_⟩
      rw [List.getElem?_map] at e
      by_cases hj : j < m
      · rw [List.getElem?_range hj] at e
        simp only [Option.map_some, Option.some.injEq] at e
        subst e
        rw [Nat.zero_add]
        have := (hg j hj).2.2.1
        unfold kidAt opK opN opS opM opF
        rw [hF j hj]
        exact this
      · rw [List.getElem?_eq_none (by simp; omega)] at e; cases e
    · simp only [SzT]
      refine ⟨hsz, ?_⟩
      have all : ∀ (l : List Nat), (∀ j ∈ l, j < m) → SzL B (l.map fun j => (g j).2) := by
        intro l
        induction l with
        | nil => intro _; simp [SzL]
        | cons a l ih => intro h; simp only [List.map_cons, SzL]; exact ⟨(hg a (h a (.head _))).2.2.2, ih fun j hj => h j (.tail _ hj)⟩
      exact all _ fun j hj => by simpa using hj
theorem typesRenames (v0 v1 : V) (h0 : WTV E.P 48 v0) (h1 : WTV E.P 9 v1) (m0 : SmP reachBytes v0) (m1 : SmP reachBytes v1) : ∃ l', LeL [v0, v1] l' ∧ SC E 6 l' [] (.ret (bo true) []) := by
  obtain ⟨p, rfl, _⟩ := h1.str (by kernel_rfl) (by kernel_rfl)
  have hp := m1.str
  obtain ⟨d, vs, rfl, g⟩ := h0.struct (l := [9, 46, 24]) (by kernel_rfl)
  obtain ⟨e, hs⟩ := m0.agg
  obtain ⟨d, _, a0, rfl, ha, _, b0, rfl, hb, l, c0, rfl, hc, rfl⟩ := g.struct (l := [9, 46, 24]) (by kernel_rfl)
  obtain ⟨pn, rfl, _⟩ := ha.str (by kernel_rfl)
  obtain ⟨d2, rfl⟩ : ∃ k, d = k + 1 := by cases d with
    | zero => cases hb
    | succ k => exact ⟨k, rfl⟩
  obtain ⟨pm, f, rfl, hn, hf⟩ := wt_slice hb (e := 51) (c := 2) (by kernel_rfl) (by kernel_rfl) (by omega)
  obtain ⟨_, e', hrow⟩ := hs.row' (c := 2) (n := pm) (f := f) (by simp)
  have key : ∀ j, ∃ (x : ByteArray × ByteArray), j < pm → f j = [st x.1, st x.2] ∧ x.1.size ≤ reachBytes := fun j => by
    by_cases hj : j < pm
    · obtain ⟨a, u, e2, h2⟩ := param_in (hf j hj)
      have := hrow j hj
      rw [e2] at this
      exact ⟨(a, u), fun _ => ⟨e2, this.str (.head _)⟩⟩
    · exact ⟨(ByteArray.empty, ByteArray.empty), fun h => absurd h hj⟩
  obtain ⟨w, hw⟩ := Classical.axiomOfChoice key
  have hl : SmV reachBytes e l := by
    have h1 := hs.right
    have h2 := h1.right
    exact h2.left
  obtain ⟨k, n, s, m, f', tr, h3, _, hr, hz⟩ := repB (B := reachBytes) _ l hc ⟨e, hl⟩
  have e1 : ∀ (x : V) (y z : List V), [x] ++ (y ++ (z ++ [])) = x :: (y ++ z) := by intros; simp
  have hle : LeL ([st pn] ++ ([V.ro 2 pm f] ++ (l ++ []))) [st pn, .ro 2 pm (fun j => [st (w j).1, st (w j).2]), i64 k, i64 n, st s, .ro 4 m f'] := by
    rw [e1]
    exact LeL.cons (Le.refl _) (leL_app (LeL.cons (Le.ro_eq fun j hj => ⟨(hw j hj).1, rfl⟩) LeL.nil) h3)
  refine ⟨_, LeL.cons (Le.agg hle) (LeL.cons (Le.refl _) LeL.nil), ?_⟩
  have hB : p.size + reachBytes ≤ Go.maxLen := by
    have e1 : reachBytes = 140737488351232 := by decide
    have e2 : Go.maxLen = 9223372036854775807 := by decide
    rw [e1] at hp; rw [e1, e2]; omega
  obtain ⟨q, z, hz', rfl⟩ := renames_true (pn := pn) (pa := fun j => (w j).1) (pu := fun j => (w j).2) hr hn hB (fun j hj => (hw j hj).2) hz
  exact toE (sc_renames q _ true hz')
end Go.Proofs.YtniogljhkjbcgaaDoor
