/- TypesOf, lifted. -/
import Derived.Test.YtniogljhkjbcgaaDoorB1
namespace Go.Proofs.YtniogljhkjbcgaaDoor
open Go Go.Am Go.Proofs
set_option linter.unusedSimpArgs false
set_option linter.unusedVariables false
set_option maxRecDepth 100000
/-! ### lives (10) -/
abbrev a_lives : Type := Unit
abbrev g_lives : Type := Bool
def A_lives : a_lives → List V × List (Option Chunk) := (fun _ => (([] : List V), ([] : List (Option Chunk))))
def d_lives (t : List V × List (Option Chunk)) : a_lives := ()
theorem i_lives : ∀ x y, A_lives x = A_lives y → x = y := fun x y h => (congrArg d_lives h :)
def R_lives : g_lives → CRes := (fun z => (fun (b : Bool) => .ret (bo b) []) z : (Bool) → CRes)
def x_lives (z : g_lives) (k : CRes → Option Ans) : Option Ans := k (R_lives z)
theorem xe_lives : ∀ z k, x_lives z k = k (R_lives z) := fun z k => rfl
noncomputable def lives (q : Nat) (x : a_lives) : Option g_lives := some true
theorem sc_lives (q : Nat) : ∀ (x : a_lives) (z : g_lives), lives q x = some z → SC E5 10 (A_lives x).1 (A_lives x).2 (R_lives z) := by
  intro x z h
  cases h
  exact sc5.2 lives_true
/-! ### VarsR (11) -/
abbrev a_VarsR : Type := Nat × (Nat → ByteArray) × (Nat → Int) × (Nat → Int) × (Nat → Int) × (Nat → Int) × (Nat → Int)
abbrev g_VarsR : Type := Nat × (Nat → ByteArray) × (Nat → Int) × (Nat → Int) × (Nat → Int) × (Nat → Int) × (Nat → Int)
def A_VarsR : a_VarsR → List V × List (Option Chunk) := (fun x => (fun (vn : Nat) (vs : Nat → ByteArray) (v0 : Nat → Int) (v1 : Nat → Int) (v2 : Nat → Int) (v3 : Nat → Int) (v4 : Nat → Int) => (([.ro 6 vn (fun j => [st (vs j), i64 (v0 j), i64 (v1 j), i64 (v2 j), i64 (v3 j), i64 (v4 j)])] : List V), ([] : List (Option Chunk)))) x.1 x.2.1 x.2.2.1 x.2.2.2.1 x.2.2.2.2.1 x.2.2.2.2.2.1 x.2.2.2.2.2.2)
def d_VarsR (t : List V × List (Option Chunk)) : a_VarsR := ((vRoN (t.1.getD 0 .junk)), (fun j => vS ((vRoF (t.1.getD 0 .junk) j).getD 0 .junk)), (fun j => vI ((vRoF (t.1.getD 0 .junk) j).getD 1 .junk)), (fun j => vI ((vRoF (t.1.getD 0 .junk) j).getD 2 .junk)), (fun j => vI ((vRoF (t.1.getD 0 .junk) j).getD 3 .junk)), (fun j => vI ((vRoF (t.1.getD 0 .junk) j).getD 4 .junk)), (fun j => vI ((vRoF (t.1.getD 0 .junk) j).getD 5 .junk)))
theorem i_VarsR : ∀ x y, A_VarsR x = A_VarsR y → x = y := fun x y h => (congrArg d_VarsR h :)
def R_VarsR : g_VarsR → CRes := (fun z => (fun (vn : Nat) (vs : Nat → ByteArray) (v0 : Nat → Int) (v1 : Nat → Int) (v2 : Nat → Int) (v3 : Nat → Int) (v4 : Nat → Int) => .ret (.ro 6 vn (fun j => [st (vs j), i64 (v0 j), i64 (v1 j), i64 (v2 j), i64 (v3 j), i64 (v4 j)])) []) z.1 z.2.1 z.2.2.1 z.2.2.2.1 z.2.2.2.2.1 z.2.2.2.2.2.1 z.2.2.2.2.2.2 : (Nat × (Nat → ByteArray) × (Nat → Int) × (Nat → Int) × (Nat → Int) × (Nat → Int) × (Nat → Int)) → CRes)
def x_VarsR (z : g_VarsR) (k : CRes → Option Ans) : Option Ans := k (R_VarsR z)
theorem xe_VarsR : ∀ z k, x_VarsR z k = k (R_VarsR z) := fun z k => rfl
noncomputable def VarsR (q : Nat) (x : a_VarsR) : Option g_VarsR := (Vars q x).map fun z => Sum.elim (fun _ => (0, x.2)) id z
theorem sc_VarsR (q : Nat) : ∀ (x : a_VarsR) (z : g_VarsR), VarsR q x = some z → SC E5 11 (A_VarsR x).1 (A_VarsR x).2 (R_VarsR z) := by
  intro x z h
  unfold VarsR at h
  cases hI : Vars q x with
  | none => rw [hI] at h; cases h
  | some r =>
    rw [hI] at h
    simp only [Option.map_some, Option.some.injEq] at h
    have g := sc_Vars q _ _ hI
    subst h
    cases r with
    | inl _ => exact g.le Le.nil_ro
    | inr r => exact (SC.give g (by simp [V.bw, V.bw2, V.bw1, hp, V.pure, pureL])).le (Le.of_eq (by simp [V.bw, V.bw2, V.bw1, hp]))
/-! ### lawOf (3) -/
abbrev a_lawOf : Type := Int × Int × ByteArray × Nat × (Nat → List V) × Nat × (Nat → ByteArray) × (Nat → Int) × (Nat → Int) × (Nat → Int) × (Nat → Int) × (Nat → Int) × ByteArray
abbrev g_lawOf : Type := Bool
def A_lawOf : a_lawOf → List V × List (Option Chunk) := (fun x => (fun (nk : Int) (nn : Int) (ns : ByteArray) (nm : Nat) (nf : Nat → List V) (vn : Nat) (vs : Nat → ByteArray) (v0 : Nat → Int) (v1 : Nat → Int) (v2 : Nat → Int) (v3 : Nat → Int) (v4 : Nat → Int) (name : ByteArray) => (([.agg [i64 nk, i64 nn, st ns, .ro 4 nm nf], .ro 6 vn (fun j => [st (vs j), i64 (v0 j), i64 (v1 j), i64 (v2 j), i64 (v3 j), i64 (v4 j)]), st name] : List V), ([] : List (Option Chunk)))) x.1 x.2.1 x.2.2.1 x.2.2.2.1 x.2.2.2.2.1 x.2.2.2.2.2.1 x.2.2.2.2.2.2.1 x.2.2.2.2.2.2.2.1 x.2.2.2.2.2.2.2.2.1 x.2.2.2.2.2.2.2.2.2.1 x.2.2.2.2.2.2.2.2.2.2.1 x.2.2.2.2.2.2.2.2.2.2.2.1 x.2.2.2.2.2.2.2.2.2.2.2.2)
def d_lawOf (t : List V × List (Option Chunk)) : a_lawOf := ((vI ((vAg (t.1.getD 0 .junk)).getD 0 .junk)), (vI ((vAg (t.1.getD 0 .junk)).getD 1 .junk)), (vS ((vAg (t.1.getD 0 .junk)).getD 2 .junk)), (vRoN ((vAg (t.1.getD 0 .junk)).getD 3 .junk)), (vRoF ((vAg (t.1.getD 0 .junk)).getD 3 .junk)), (vRoN (t.1.getD 1 .junk)), (fun j => (vS (((vRoF (t.1.getD 1 .junk)) j).getD 0 .junk))), (fun j => (vI (((vRoF (t.1.getD 1 .junk)) j).getD 1 .junk))), (fun j => (vI (((vRoF (t.1.getD 1 .junk)) j).getD 2 .junk))), (fun j => (vI (((vRoF (t.1.getD 1 .junk)) j).getD 3 .junk))), (fun j => (vI (((vRoF (t.1.getD 1 .junk)) j).getD 4 .junk))), (fun j => (vI (((vRoF (t.1.getD 1 .junk)) j).getD 5 .junk))), (vS (t.1.getD 2 .junk)))
theorem i_lawOf : ∀ x y, A_lawOf x = A_lawOf y → x = y := fun x y h => (congrArg d_lawOf h :)
def R_lawOf : g_lawOf → CRes := (fun z => CRes.ret (bo z) [] : (Bool) → CRes)
def x_lawOf (z : g_lawOf) (k : CRes → Option Ans) : Option Ans := k (R_lawOf z)
theorem xe_lawOf : ∀ z k, x_lawOf z k = k (R_lawOf z) := fun z k => rfl
def t_lawOf {β : Type} (c_Nodes : a_Nodes → Option g_Nodes) (c_lives : a_lives → Option g_lives) (c_VarsR : a_VarsR → Option g_VarsR) (c_table : a_table → Option g_table) (c_Of : a_Of → Option g_Of) (c_ROf : a_ROf → Option g_ROf) (c_Tele : a_Tele → Option g_Tele) (c_RTele : a_RTele → Option g_RTele) (x : a_lawOf) (dn : g_lawOf → Option β) : Option β :=
 (c_Nodes ((x.1, x.2.1, x.2.2.1, x.2.2.2.1, x.2.2.2.2.1, (300 : Int)))).bind fun z6 =>
  if decide (z6 > (300 : Int)) = true then
   (c_lives ()).bind fun z7 =>
    dn z7
  else
   if decide (((x.2.2.2.2.2.1 : Nat) : Int) > (40 : Int)) = true then
    (c_lives ()).bind fun z8 =>
     dn z8
   else
    (c_VarsR ((x.2.2.2.2.2.1, x.2.2.2.2.2.2.1, x.2.2.2.2.2.2.2.1, x.2.2.2.2.2.2.2.2.1, x.2.2.2.2.2.2.2.2.2.1, x.2.2.2.2.2.2.2.2.2.2.1, x.2.2.2.2.2.2.2.2.2.2.2.1))).bind fun z16 =>
     (c_table z16).bind fun z24 =>
      (c_Of ((x.1, x.2.1, x.2.2.1, x.2.2.2.1, x.2.2.2.2.1, z24))).bind fun z37 =>
       (c_ROf ((x.1, x.2.1, x.2.2.1, x.2.2.2.1, x.2.2.2.2.1, z16))).bind fun z50 =>
        (c_Tele (x.2.2.2.2.2.2.2.2.2.2.2.2)).bind fun z52 =>
         (c_RTele (x.2.2.2.2.2.2.2.2.2.2.2.2)).bind fun z54 =>
          if (z37.1 == z50.1) = true then
           if (if false = true then !(z37.2.1 == z50.2.1 && (z37.2.2.1 == z50.2.2.1 && (z37.2.2.2.1 == z50.2.2.2.1 && (z37.2.2.2.2.1 == z50.2.2.2.2.1 && (z37.2.2.2.2.2.1 == z50.2.2.2.2.2.1 && true))))) else z37.2.1 == z50.2.1 && (z37.2.2.1 == z50.2.2.1 && (z37.2.2.2.1 == z50.2.2.2.1 && (z37.2.2.2.2.1 == z50.2.2.2.2.1 && (z37.2.2.2.2.2.1 == z50.2.2.2.2.2.1 && true))))) = true then
            if (z37.2.2.2.2.2.2.1 == z50.2.2.2.2.2.2) = true then
             if (z52.1 == z54.1) = true then
              if (if false = true then !(z52.2.1 == z54.2.1 && (z52.2.2.1 == z54.2.2.1 && (z52.2.2.2.1 == z54.2.2.2.1 && (z52.2.2.2.2.1 == z54.2.2.2.2.1 && (z52.2.2.2.2.2.1 == z54.2.2.2.2.2.1 && true))))) else z52.2.1 == z54.2.1 && (z52.2.2.1 == z54.2.2.1 && (z52.2.2.2.1 == z54.2.2.2.1 && (z52.2.2.2.2.1 == z54.2.2.2.2.1 && (z52.2.2.2.2.2.1 == z54.2.2.2.2.2.1 && true))))) = true then
               if (z52.2.2.2.2.2.2 == z54.2.2.2.2.2.2) = true then
                (c_lives ()).bind fun z55 =>
                 dn z55
               else
                dn false
              else
               dn false
             else
              dn false
            else
             dn false
           else
            dn false
          else
           dn false
theorem n_lawOf {β : Type} (c_Nodes : a_Nodes → Option g_Nodes) (c_lives : a_lives → Option g_lives) (c_VarsR : a_VarsR → Option g_VarsR) (c_table : a_table → Option g_table) (c_Of : a_Of → Option g_Of) (c_ROf : a_ROf → Option g_ROf) (c_Tele : a_Tele → Option g_Tele) (c_RTele : a_RTele → Option g_RTele) (x : a_lawOf) (dn : g_lawOf → Option β) : t_lawOf c_Nodes c_lives c_VarsR c_table c_Of c_ROf c_Tele c_RTele x dn = (t_lawOf c_Nodes c_lives c_VarsR c_table c_Of c_ROf c_Tele c_RTele x some).bind dn := by
  unfold t_lawOf
  repeat' first | exact free_none | refine free_bind (fun z => ?_) | refine free_ite ?_ ?_ | refine free_sum (fun z => ?_) (fun z => ?_) | rfl
theorem r_lawOf (c_Nodes : a_Nodes → Option g_Nodes) (c_lives : a_lives → Option g_lives) (c_VarsR : a_VarsR → Option g_VarsR) (c_table : a_table → Option g_table) (c_Of : a_Of → Option g_Of) (c_ROf : a_ROf → Option g_ROf) (c_Tele : a_Tele → Option g_Tele) (c_RTele : a_RTele → Option g_RTele) (x : a_lawOf) : callK E5 (ftab 9 (fun _ _ => true) A_Nodes x_Nodes c_Nodes (ftab 10 (fun _ _ => true) A_lives x_lives c_lives (ftab 11 (fun _ _ => true) A_VarsR x_VarsR c_VarsR (ftab 13 (fun _ _ => true) A_table x_table c_table (ftab 12 (fun _ _ => true) A_Of x_Of c_Of (ftab 14 (fun _ _ => true) A_ROf x_ROf c_ROf (ftab 15 (fun _ _ => true) A_Tele x_Tele c_Tele (ftab 16 (fun _ _ => true) A_RTele x_RTele c_RTele ca0)))))))) lo0 3 (A_lawOf x).1 (A_lawOf x).2 K = t_lawOf (fun x => viaF A_Nodes c_Nodes (A_Nodes x)) (fun x => viaF A_lives c_lives (A_lives x)) (fun x => viaF A_VarsR c_VarsR (A_VarsR x)) (fun x => viaF A_table c_table (A_table x)) (fun x => viaF A_Of c_Of (A_Of x)) (fun x => viaF A_ROf c_ROf (A_ROf x)) (fun x => viaF A_Tele c_Tele (A_Tele x)) (fun x => viaF A_RTele c_RTele (A_RTele x)) x (fun z => some (.c (R_lawOf z))) := by kernel_rfl
theorem s_lawOf (c_Nodes : a_Nodes → Option g_Nodes) (h_Nodes : ∀ x z, c_Nodes x = some z → SC E5 9 (A_Nodes x).1 (A_Nodes x).2 (R_Nodes z)) (c_lives : a_lives → Option g_lives) (h_lives : ∀ x z, c_lives x = some z → SC E5 10 (A_lives x).1 (A_lives x).2 (R_lives z)) (c_VarsR : a_VarsR → Option g_VarsR) (h_VarsR : ∀ x z, c_VarsR x = some z → SC E5 11 (A_VarsR x).1 (A_VarsR x).2 (R_VarsR z)) (c_table : a_table → Option g_table) (h_table : ∀ x z, c_table x = some z → SC E5 13 (A_table x).1 (A_table x).2 (R_table z)) (c_Of : a_Of → Option g_Of) (h_Of : ∀ x z, c_Of x = some z → SC E5 12 (A_Of x).1 (A_Of x).2 (R_Of z)) (c_ROf : a_ROf → Option g_ROf) (h_ROf : ∀ x z, c_ROf x = some z → SC E5 14 (A_ROf x).1 (A_ROf x).2 (R_ROf z)) (c_Tele : a_Tele → Option g_Tele) (h_Tele : ∀ x z, c_Tele x = some z → SC E5 15 (A_Tele x).1 (A_Tele x).2 (R_Tele z)) (c_RTele : a_RTele → Option g_RTele) (h_RTele : ∀ x z, c_RTele x = some z → SC E5 16 (A_RTele x).1 (A_RTele x).2 (R_RTele z)) (q : Nat) (x : a_lawOf) (z : g_lawOf) (h : t_lawOf c_Nodes c_lives c_VarsR c_table c_Of c_ROf c_Tele c_RTele x some = some z) : SC E5 3 (A_lawOf x).1 (A_lawOf x).2 (R_lawOf z) := by
  refine SC.of hW5 hX5 (ftab_cons h_Nodes xe_Nodes (ftab_cons h_lives xe_lives (ftab_cons h_VarsR xe_VarsR (ftab_cons h_table xe_table (ftab_cons h_Of xe_Of (ftab_cons h_ROf xe_ROf (ftab_cons h_Tele xe_Tele (ftab_cons h_RTele xe_RTele ca0_sound)))))))) lo0_sound ((r_lawOf c_Nodes c_lives c_VarsR c_table c_Of c_ROf c_Tele c_RTele x).trans ?_)
  rw [via_eq i_Nodes c_Nodes, via_eq i_lives c_lives, via_eq i_VarsR c_VarsR, via_eq i_table c_table, via_eq i_Of c_Of, via_eq i_ROf c_ROf, via_eq i_Tele c_Tele, via_eq i_RTele c_RTele, n_lawOf, h]; rfl
noncomputable def lawOf (q : Nat) (x : a_lawOf) : Option g_lawOf := t_lawOf (Nodes q) (lives q) (VarsR q) (table q) (Of q) (ROf q) (Tele q) (RTele q) x some
theorem sc_lawOf (q : Nat) : ∀ (x : a_lawOf) (z : g_lawOf), lawOf q x = some z → SC E5 3 (A_lawOf x).1 (A_lawOf x).2 (R_lawOf z) := fun x z h => s_lawOf (Nodes q) (sc_Nodes q) (lives q) (sc_lives q) (VarsR q) (sc_VarsR q) (table q) (sc_table q) (Of q) (sc_Of q) (ROf q) (sc_ROf q) (Tele q) (sc_Tele q) (RTele q) (sc_RTele q) q x z h
end Go.Proofs.YtniogljhkjbcgaaDoor
