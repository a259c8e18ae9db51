/- Texts joined. -/
import Derived.Test.YthegipdgillngaaQD
import Derived.Test.YthegipdgillngaaQB
/- The maker of code, walked. -/
namespace Go.Proofs.Ythegipdgillngaa
open Go Go.Am Go.Proofs
set_option linter.unusedSimpArgs false
set_option linter.unusedVariables false
set_option maxRecDepth 100000
abbrev nilS : V := .sc (.slice none 0 0)
noncomputable def E3 : Env := { P := Try.prog, glob := fun _ => none, ext := fun _ _ => none, way := way, lit := fun f => f == 17, code := fun f => (Try.prog.funcs[f]?).bind annF, sett := fun _ => true, rows := true }
theorem hW3 : WF E3 := WF.of E3 (fun _ => rfl) (by kernel_rfl)
theorem hX3 : SoundX E3 := SoundX.none fun _ _ => rfl
theorem sc3 {f : FuncId} {args : List V} {L : List (Option Chunk)} {cr : CRes} : SC E3 f args L cr ↔ SC E2 f args L cr :=
  ⟨fun h => ⟨h.1, fun β S w us h1 h2 h3 => h.2 β S w us h1 h2 ⟨h3.rd, h3.inv⟩⟩, fun h => ⟨h.1, fun β S w us h1 h2 h3 => h.2 β S w us h1 h2 ⟨h3.rd, h3.inv⟩⟩⟩
abbrev a_Pick : Type := Nat × (Nat → Int) × Int × Int
abbrev g_Pick : Type := Int
def A_Pick : a_Pick → List V × List (Option Chunk) := (fun x => (fun (n : Nat) (y : Nat → Int) (i : Int) (m : Int) => (([.ro 1 n (fun j => [i64 (y j)]), i64 i, i64 m] : List V), ([] : List (Option Chunk)))) x.1 x.2.1 x.2.2.1 x.2.2.2)
def d_Pick (t : List V × List (Option Chunk)) : a_Pick := ((vRoN (t.1.getD 0 .junk)), (fun j => (vI (((vRoF (t.1.getD 0 .junk)) j).getD 0 .junk))), (vI (t.1.getD 1 .junk)), (vI (t.1.getD 2 .junk)))
theorem i_Pick : ∀ x y, A_Pick x = A_Pick y → x = y := fun x y h => (congrArg d_Pick h :)
def R_Pick : g_Pick → CRes := (fun z => CRes.ret (i64 z) [] : (Int) → CRes)
def x_Pick (z : g_Pick) (k : CRes → Option Ans) : Option Ans := k (R_Pick z)
theorem xe_Pick : ∀ z k, x_Pick z k = k (R_Pick z) := fun z k => rfl
def t_Pick {β : Type} (x : a_Pick) (dn : g_Pick → Option β) : Option β :=
 if decide (x.2.2.1 < (0 : Int)) = true then
  dn ((0 : Int))
 else
  if decide (x.2.2.1 ≥ ((x.1 : Nat) : Int)) = true then
   dn ((0 : Int))
  else
   if (0 : Int) ≤ x.2.2.1 ∧ x.2.2.1 < ((x.1 : Nat) : Int) then
    if decide (x.2.1 (Int.toNat (x.2.2.1)) < (0 : Int)) = true then
     if x.2.2.2 = (0 : Int) then
      none
     else
      dn (Int.tmod (w ((0 : Int) - w (x.2.1 (Int.toNat (x.2.2.1)) + (1 : Int)))) (x.2.2.2))
    else
     if x.2.2.2 = (0 : Int) then
      none
     else
      dn (Int.tmod (x.2.1 (Int.toNat (x.2.2.1))) (x.2.2.2))
   else
    none
theorem n_Pick {β : Type} (x : a_Pick) (dn : g_Pick → Option β) : t_Pick x dn = (t_Pick x some).bind dn := by
  unfold t_Pick
  repeat' first | exact free_none | refine free_bind (fun z => ?_) | refine free_ite ?_ ?_ | refine free_sum (fun z => ?_) (fun z => ?_) | rfl
theorem r_Pick (x : a_Pick) : callK E3 (callG E3 20) lo0 27 (A_Pick x).1 (A_Pick x).2 K = t_Pick x (fun z => some (.c (R_Pick z))) := by kernel_rfl
theorem s_Pick (q : Nat) (x : a_Pick) (z : g_Pick) (h : t_Pick x some = some z) : SC E3 27 (A_Pick x).1 (A_Pick x).2 (R_Pick z) := by
  refine SC.of hW3 hX3 (sound_G hW3 hX3 20).1 lo0_sound ((r_Pick x).trans ?_)
  rw [n_Pick, h]; rfl
noncomputable def Pick (q : Nat) (x : a_Pick) : Option g_Pick := t_Pick x some
theorem sc_Pick (q : Nat) : ∀ (x : a_Pick) (z : g_Pick), Pick q x = some z → SC E3 27 (A_Pick x).1 (A_Pick x).2 (R_Pick z) := fun x z h => s_Pick q x z h
abbrev a_nextA : Type := Int × Nat × (Nat → Int) × Int × Bool × Nat × (Nat → Int) × (Nat → Int)
abbrev g_nextA : Type := Int × Nat × (Nat → Int) × Int × Bool × Nat × (Nat → Int) × (Nat → Int)
def A_nextA : a_nextA → List V × List (Option Chunk) := (fun x => (fun (k : Int) (m : Nat) (y : Nat → Int) (a : Int) (tl : Bool) (n : Nat) (op : Nat → Int) (ar : Nat → Int) => (([.ptr 0 0, i64 k] : List V), ([some (.blk [.ro 1 m (fun j => [i64 (y j)]), i64 a, bo tl, .sl 1 2 0 n]), some (.row 74 2 n (fun j => [i64 (op j), i64 (ar j)]))] : List (Option Chunk)))) x.1 x.2.1 x.2.2.1 x.2.2.2.1 x.2.2.2.2.1 x.2.2.2.2.2.1 x.2.2.2.2.2.2.1 x.2.2.2.2.2.2.2)
def d_nextA (t : List V × List (Option Chunk)) : a_nextA := ((vI (t.1.getD 1 .junk)), (vRoN ((chB (t.2.getD 0 none)).getD 0 .junk)), (fun j => (vI (((vRoF ((chB (t.2.getD 0 none)).getD 0 .junk)) j).getD 0 .junk))), (vI ((chB (t.2.getD 0 none)).getD 1 .junk)), (vB ((chB (t.2.getD 0 none)).getD 2 .junk)), (vSlN ((chB (t.2.getD 0 none)).getD 3 .junk)), (fun j => (vI (((chF (t.2.getD 1 none)) j).getD 0 .junk))), (fun j => (vI (((chF (t.2.getD 1 none)) j).getD 1 .junk))))
theorem i_nextA : ∀ x y, A_nextA x = A_nextA y → x = y := fun x y h => (congrArg d_nextA h :)
def R_nextA : g_nextA → CRes := (fun z => CRes.ret (i64 (z.1)) [some (Chunk.blk [V.ro 1 (z.2.1) fun (j : Nat) => [i64 (z.2.2.1 j)], i64 (z.2.2.2.1), bo (z.2.2.2.2.1), V.sl 1 2 0 (z.2.2.2.2.2.1)]), some (Chunk.row 74 2 (z.2.2.2.2.2.1) fun (j : Nat) => [i64 (z.2.2.2.2.2.2.1 j), i64 (z.2.2.2.2.2.2.2 j)])] : (Int × Nat × (Nat → Int) × Int × Bool × Nat × (Nat → Int) × (Nat → Int)) → CRes)
def x_nextA (z : g_nextA) (k : CRes → Option Ans) : Option Ans := k (R_nextA z)
theorem xe_nextA : ∀ z k, x_nextA z k = k (R_nextA z) := fun z k => rfl
def t_nextA {β : Type} (c_Pick : a_Pick → Option g_Pick) (x : a_nextA) (dn : g_nextA → Option β) : Option β :=
 (c_Pick ((x.2.1, x.2.2.1, w (w (x.2.2.2.1 + (1 : Int)) - (1 : Int)), x.1))).bind fun z4 =>
  dn ((z4, x.2.1, x.2.2.1, w (x.2.2.2.1 + (1 : Int)), x.2.2.2.2))
theorem n_nextA {β : Type} (c_Pick : a_Pick → Option g_Pick) (x : a_nextA) (dn : g_nextA → Option β) : t_nextA c_Pick x dn = (t_nextA c_Pick x some).bind dn := by
  unfold t_nextA
  repeat' first | exact free_none | refine free_bind (fun z => ?_) | refine free_ite ?_ ?_ | refine free_sum (fun z => ?_) (fun z => ?_) | rfl
theorem r_nextA (c_Pick : a_Pick → Option g_Pick) (x : a_nextA) : callK E3 (ftab 27 (fun _ _ => true) A_Pick x_Pick c_Pick ca0) lo0 54 (A_nextA x).1 (A_nextA x).2 K = t_nextA (fun x => viaF A_Pick c_Pick (A_Pick x)) x (fun z => some (.c (R_nextA z))) := by kernel_rfl
theorem s_nextA (c_Pick : a_Pick → Option g_Pick) (h_Pick : ∀ x z, c_Pick x = some z → SC E3 27 (A_Pick x).1 (A_Pick x).2 (R_Pick z)) (q : Nat) (x : a_nextA) (z : g_nextA) (h : t_nextA c_Pick x some = some z) : SC E3 54 (A_nextA x).1 (A_nextA x).2 (R_nextA z) := by
  refine SC.of hW3 hX3 (ftab_cons h_Pick xe_Pick ca0_sound) lo0_sound ((r_nextA c_Pick x).trans ?_)
  rw [via_eq i_Pick c_Pick, n_nextA, h]; rfl
noncomputable def nextA (q : Nat) (x : a_nextA) : Option g_nextA := t_nextA (Pick q) x some
theorem sc_nextA (q : Nat) : ∀ (x : a_nextA) (z : g_nextA), nextA q x = some z → SC E3 54 (A_nextA x).1 (A_nextA x).2 (R_nextA z) := fun x z h => s_nextA (Pick q) (sc_Pick q) q x z h
abbrev a_nextZ : Type := Int × Nat × (Nat → Int) × Int × Bool
abbrev g_nextZ : Type := Int × Nat × (Nat → Int) × Int × Bool
def A_nextZ : a_nextZ → List V × List (Option Chunk) := (fun x => (fun (k : Int) (m : Nat) (y : Nat → Int) (a : Int) (tl : Bool) => (([.ptr 0 0, i64 k] : List V), ([some (.blk [.ro 1 m (fun j => [i64 (y j)]), i64 a, bo tl, nilS])] : List (Option Chunk)))) x.1 x.2.1 x.2.2.1 x.2.2.2.1 x.2.2.2.2)
def d_nextZ (t : List V × List (Option Chunk)) : a_nextZ := ((vI (t.1.getD 1 .junk)), (vRoN ((chB (t.2.getD 0 none)).getD 0 .junk)), (fun j => (vI (((vRoF ((chB (t.2.getD 0 none)).getD 0 .junk)) j).getD 0 .junk))), (vI ((chB (t.2.getD 0 none)).getD 1 .junk)), (vB ((chB (t.2.getD 0 none)).getD 2 .junk)))
theorem i_nextZ : ∀ x y, A_nextZ x = A_nextZ y → x = y := fun x y h => (congrArg d_nextZ h :)
def R_nextZ : g_nextZ → CRes := (fun z => CRes.ret (i64 (z.1)) [some (Chunk.blk [V.ro 1 (z.2.1) fun (j : Nat) => [i64 (z.2.2.1 j)], i64 (z.2.2.2.1), bo (z.2.2.2.2), nilS])] : (Int × Nat × (Nat → Int) × Int × Bool) → CRes)
def x_nextZ (z : g_nextZ) (k : CRes → Option Ans) : Option Ans := k (R_nextZ z)
theorem xe_nextZ : ∀ z k, x_nextZ z k = k (R_nextZ z) := fun z k => rfl
def t_nextZ {β : Type} (c_Pick : a_Pick → Option g_Pick) (x : a_nextZ) (dn : g_nextZ → Option β) : Option β :=
 (c_Pick ((x.2.1, x.2.2.1, w (w (x.2.2.2.1 + (1 : Int)) - (1 : Int)), x.1))).bind fun z4 =>
  dn ((z4, x.2.1, x.2.2.1, w (x.2.2.2.1 + (1 : Int)), x.2.2.2.2))
theorem n_nextZ {β : Type} (c_Pick : a_Pick → Option g_Pick) (x : a_nextZ) (dn : g_nextZ → Option β) : t_nextZ c_Pick x dn = (t_nextZ c_Pick x some).bind dn := by
  unfold t_nextZ
  repeat' first | exact free_none | refine free_bind (fun z => ?_) | refine free_ite ?_ ?_ | refine free_sum (fun z => ?_) (fun z => ?_) | rfl
theorem r_nextZ (c_Pick : a_Pick → Option g_Pick) (x : a_nextZ) : callK E3 (ftab 27 (fun _ _ => true) A_Pick x_Pick c_Pick ca0) lo0 54 (A_nextZ x).1 (A_nextZ x).2 K = t_nextZ (fun x => viaF A_Pick c_Pick (A_Pick x)) x (fun z => some (.c (R_nextZ z))) := by kernel_rfl
theorem s_nextZ (c_Pick : a_Pick → Option g_Pick) (h_Pick : ∀ x z, c_Pick x = some z → SC E3 27 (A_Pick x).1 (A_Pick x).2 (R_Pick z)) (q : Nat) (x : a_nextZ) (z : g_nextZ) (h : t_nextZ c_Pick x some = some z) : SC E3 54 (A_nextZ x).1 (A_nextZ x).2 (R_nextZ z) := by
  refine SC.of hW3 hX3 (ftab_cons h_Pick xe_Pick ca0_sound) lo0_sound ((r_nextZ c_Pick x).trans ?_)
  rw [via_eq i_Pick c_Pick, n_nextZ, h]; rfl
noncomputable def nextZ (q : Nat) (x : a_nextZ) : Option g_nextZ := t_nextZ (Pick q) x some
theorem sc_nextZ (q : Nat) : ∀ (x : a_nextZ) (z : g_nextZ), nextZ q x = some z → SC E3 54 (A_nextZ x).1 (A_nextZ x).2 (R_nextZ z) := fun x z h => s_nextZ (Pick q) (sc_Pick q) q x z h
abbrev a_putA : Type := Int × Int × Nat × (Nat → Int) × Int × Bool × Nat × (Nat → Int) × (Nat → Int)
abbrev g_putA : Type := Int × Nat × (Nat → Int) × Int × Bool × Nat × (Nat → Int) × (Nat → Int)
def A_putA : a_putA → List V × List (Option Chunk) := (fun x => (fun (o : Int) (t : Int) (m : Nat) (y : Nat → Int) (a : Int) (tl : Bool) (n : Nat) (op : Nat → Int) (ar : Nat → Int) => (([.ptr 0 0, i64 o, i64 t] : List V), ([some (.blk [.ro 1 m (fun j => [i64 (y j)]), i64 a, bo tl, .sl 1 2 0 n]), some (.row 74 2 n (fun j => [i64 (op j), i64 (ar j)]))] : List (Option Chunk)))) x.1 x.2.1 x.2.2.1 x.2.2.2.1 x.2.2.2.2.1 x.2.2.2.2.2.1 x.2.2.2.2.2.2.1 x.2.2.2.2.2.2.2.1 x.2.2.2.2.2.2.2.2)
def d_putA (t : List V × List (Option Chunk)) : a_putA := ((vI (t.1.getD 1 .junk)), (vI (t.1.getD 2 .junk)), (vRoN ((chB (t.2.getD 0 none)).getD 0 .junk)), (fun j => (vI (((vRoF ((chB (t.2.getD 0 none)).getD 0 .junk)) j).getD 0 .junk))), (vI ((chB (t.2.getD 0 none)).getD 1 .junk)), (vB ((chB (t.2.getD 0 none)).getD 2 .junk)), (vSlN ((chB (t.2.getD 0 none)).getD 3 .junk)), (fun j => (vI (((chF (t.2.getD 1 none)) j).getD 0 .junk))), (fun j => (vI (((chF (t.2.getD 1 none)) j).getD 1 .junk))))
theorem i_putA : ∀ x y, A_putA x = A_putA y → x = y := fun x y h => (congrArg d_putA h :)
def R_putA : g_putA → CRes := (fun z => CRes.ret (i64 (z.1)) [some (Chunk.blk [V.ro 1 (z.2.1) fun (j : Nat) => [i64 (z.2.2.1 j)], i64 (z.2.2.2.1), bo (z.2.2.2.2.1), V.sl 1 2 0 (z.2.2.2.2.2.1)]), some (Chunk.row 74 2 (z.2.2.2.2.2.1) fun (j : Nat) => [i64 (z.2.2.2.2.2.2.1 j), i64 (z.2.2.2.2.2.2.2 j)])] : (Int × Nat × (Nat → Int) × Int × Bool × Nat × (Nat → Int) × (Nat → Int)) → CRes)
def x_putA (z : g_putA) (k : CRes → Option Ans) : Option Ans := k (R_putA z)
theorem xe_putA : ∀ z k, x_putA z k = k (R_putA z) := fun z k => rfl
def t_putA {β : Type} (x : a_putA) (dn : g_putA → Option β) : Option β :=
 if (x.2.2.2.2.2.2.1 + 1) * 16 ≤ roomBound ∧ x.2.2.2.2.2.2.1 + 1 ≤ maxLen ∧ x.2.2.2.2.2.2.1 ≤ x.2.2.2.2.2.2.1 then
  dn ((w (((x.2.2.2.2.2.2.1 + 1 : Nat) : Int) - (1 : Int)), x.2.2.1, x.2.2.2.1, x.2.2.2.2.1, x.2.2.2.2.2.1, x.2.2.2.2.2.2.1 + 1, fun (j : Nat) => if j < x.2.2.2.2.2.2.1 then x.2.2.2.2.2.2.2.1 j else x.1, fun (j : Nat) => if j < x.2.2.2.2.2.2.1 then x.2.2.2.2.2.2.2.2 j else x.2.1))
 else
  none
theorem n_putA {β : Type} (x : a_putA) (dn : g_putA → Option β) : t_putA x dn = (t_putA x some).bind dn := by
  unfold t_putA
  repeat' first | exact free_none | refine free_bind (fun z => ?_) | refine free_ite ?_ ?_ | refine free_sum (fun z => ?_) (fun z => ?_) | rfl
theorem r_putA (x : a_putA) : callK E3 ca0 lo0 37 (A_putA x).1 (A_putA x).2 K = t_putA x (fun z => some (.c (R_putA z))) := by kernel_rfl
theorem s_putA (q : Nat) (x : a_putA) (z : g_putA) (h : t_putA x some = some z) : SC E3 37 (A_putA x).1 (A_putA x).2 (R_putA z) := by
  refine SC.of hW3 hX3 ca0_sound lo0_sound ((r_putA x).trans ?_)
  rw [n_putA, h]; rfl
noncomputable def putA (q : Nat) (x : a_putA) : Option g_putA := t_putA x some
theorem sc_putA (q : Nat) : ∀ (x : a_putA) (z : g_putA), putA q x = some z → SC E3 37 (A_putA x).1 (A_putA x).2 (R_putA z) := fun x z h => s_putA q x z h
abbrev a_putZ : Type := Int × Int × Nat × (Nat → Int) × Int × Bool
abbrev g_putZ : Type := Nat × (Nat → Int) × Int × Bool × (Nat → Int) × (Nat → Int)
def A_putZ : a_putZ → List V × List (Option Chunk) := (fun x => (fun (o : Int) (t : Int) (m : Nat) (y : Nat → Int) (a : Int) (tl : Bool) => (([.ptr 0 0, i64 o, i64 t] : List V), ([some (.blk [.ro 1 m (fun j => [i64 (y j)]), i64 a, bo tl, nilS])] : List (Option Chunk)))) x.1 x.2.1 x.2.2.1 x.2.2.2.1 x.2.2.2.2.1 x.2.2.2.2.2)
def d_putZ (t : List V × List (Option Chunk)) : a_putZ := ((vI (t.1.getD 1 .junk)), (vI (t.1.getD 2 .junk)), (vRoN ((chB (t.2.getD 0 none)).getD 0 .junk)), (fun j => (vI (((vRoF ((chB (t.2.getD 0 none)).getD 0 .junk)) j).getD 0 .junk))), (vI ((chB (t.2.getD 0 none)).getD 1 .junk)), (vB ((chB (t.2.getD 0 none)).getD 2 .junk)))
theorem i_putZ : ∀ x y, A_putZ x = A_putZ y → x = y := fun x y h => (congrArg d_putZ h :)
def R_putZ : g_putZ → CRes := (fun z => CRes.ret (i64 (0 : Int)) [some (Chunk.blk [V.ro 1 (z.1) fun (j : Nat) => [i64 (z.2.1 j)], i64 (z.2.2.1), bo (z.2.2.2.1), V.sl 1 2 0 1]), some (Chunk.row 74 2 1 fun (j : Nat) => [i64 (z.2.2.2.2.1 j), i64 (z.2.2.2.2.2 j)])] : (Nat × (Nat → Int) × Int × Bool × (Nat → Int) × (Nat → Int)) → CRes)
def x_putZ (z : g_putZ) (k : CRes → Option Ans) : Option Ans := k (R_putZ z)
theorem xe_putZ : ∀ z k, x_putZ z k = k (R_putZ z) := fun z k => rfl
def t_putZ {β : Type} (x : a_putZ) (dn : g_putZ → Option β) : Option β :=
 dn ((x.2.2.1, x.2.2.2.1, x.2.2.2.2.1, x.2.2.2.2.2, fun (j : Nat) => x.1, fun (j : Nat) => x.2.1))
theorem n_putZ {β : Type} (x : a_putZ) (dn : g_putZ → Option β) : t_putZ x dn = (t_putZ x some).bind dn := by
  unfold t_putZ
  repeat' first | exact free_none | refine free_bind (fun z => ?_) | refine free_ite ?_ ?_ | refine free_sum (fun z => ?_) (fun z => ?_) | rfl
theorem r_putZ (x : a_putZ) : callK E3 ca0 lo0 37 (A_putZ x).1 (A_putZ x).2 K = t_putZ x (fun z => some (.c (R_putZ z))) := by kernel_rfl
theorem s_putZ (q : Nat) (x : a_putZ) (z : g_putZ) (h : t_putZ x some = some z) : SC E3 37 (A_putZ x).1 (A_putZ x).2 (R_putZ z) := by
  refine SC.of hW3 hX3 ca0_sound lo0_sound ((r_putZ x).trans ?_)
  rw [n_putZ, h]; rfl
noncomputable def putZ (q : Nat) (x : a_putZ) : Option g_putZ := t_putZ x some
theorem sc_putZ (q : Nat) : ∀ (x : a_putZ) (z : g_putZ), putZ q x = some z → SC E3 37 (A_putZ x).1 (A_putZ x).2 (R_putZ z) := fun x z h => s_putZ q x z h
abbrev a_condA : Type := Nat × (Nat → Int) × Int × Bool × Nat × (Nat → Int) × (Nat → Int)
abbrev g_condA : Type := Nat × (Nat → Int) × Int × Bool × Nat × (Nat → Int) × (Nat → Int)
def A_condA : a_condA → List V × List (Option Chunk) := (fun x => (fun (m : Nat) (y : Nat → Int) (a : Int) (tl : Bool) (n : Nat) (op : Nat → Int) (ar : Nat → Int) => (([.ptr 0 0] : List V), ([some (.blk [.ro 1 m (fun j => [i64 (y j)]), i64 a, bo tl, .sl 1 2 0 n]), some (.row 74 2 n (fun j => [i64 (op j), i64 (ar j)]))] : List (Option Chunk)))) x.1 x.2.1 x.2.2.1 x.2.2.2.1 x.2.2.2.2.1 x.2.2.2.2.2.1 x.2.2.2.2.2.2)
def d_condA (t : List V × List (Option Chunk)) : a_condA := ((vRoN ((chB (t.2.getD 0 none)).getD 0 .junk)), (fun j => (vI (((vRoF ((chB (t.2.getD 0 none)).getD 0 .junk)) j).getD 0 .junk))), (vI ((chB (t.2.getD 0 none)).getD 1 .junk)), (vB ((chB (t.2.getD 0 none)).getD 2 .junk)), (vSlN ((chB (t.2.getD 0 none)).getD 3 .junk)), (fun j => (vI (((chF (t.2.getD 1 none)) j).getD 0 .junk))), (fun j => (vI (((chF (t.2.getD 1 none)) j).getD 1 .junk))))
theorem i_condA : ∀ x y, A_condA x = A_condA y → x = y := fun x y h => (congrArg d_condA h :)
def R_condA : g_condA → CRes := (fun z => CRes.ret (V.tup []) [some (Chunk.blk [V.ro 1 (z.1) fun (j : Nat) => [i64 (z.2.1 j)], i64 (z.2.2.1), bo (z.2.2.2.1), V.sl 1 2 0 (z.2.2.2.2.1)]), some (Chunk.row 74 2 (z.2.2.2.2.1) fun (j : Nat) => [i64 (z.2.2.2.2.2.1 j), i64 (z.2.2.2.2.2.2 j)])] : (Nat × (Nat → Int) × Int × Bool × Nat × (Nat → Int) × (Nat → Int)) → CRes)
def x_condA (z : g_condA) (k : CRes → Option Ans) : Option Ans := k (R_condA z)
theorem xe_condA : ∀ z k, x_condA z k = k (R_condA z) := fun z k => rfl
def t_condA {β : Type} (c_nextA : a_nextA → Option g_nextA) (c_putA : a_putA → Option g_putA) (x : a_condA) (dn : g_condA → Option β) : Option β :=
 (c_nextA (((6 : Int), x))).bind fun z8 =>
  (c_putA (((4 : Int), z8))).bind fun z18 =>
   (c_nextA (((1000 : Int), z18.2))).bind fun z27 =>
    (c_putA (((1 : Int), w (z27.1 - (500 : Int)), z27.2))).bind fun z37 =>
     (c_nextA (((3 : Int), z37.2))).bind fun z46 =>
      if (0 : Int) ≤ z46.1 ∧ z46.1 < (3 : Int) then
       if 0 + Int.toNat (z46.1) < 3 ∧ 1 = 1 then
        (c_putA ((if 0 + Int.toNat (z46.1) = 0 then (10 : Int) else if 0 + Int.toNat (z46.1) - 1 = 0 then (11 : Int) else (12 : Int), (0 : Int), z46.2))).bind fun z56 =>
         (c_nextA (((2 : Int), z56.2))).bind fun z65 =>
          if (z65.1 == (1 : Int)) = true then
           (c_putA (((13 : Int), (0 : Int), z65.2))).bind fun z75 =>
            dn (z75.2)
          else
           dn (z65.2)
       else
        none
      else
       none
theorem n_condA {β : Type} (c_nextA : a_nextA → Option g_nextA) (c_putA : a_putA → Option g_putA) (x : a_condA) (dn : g_condA → Option β) : t_condA c_nextA c_putA x dn = (t_condA c_nextA c_putA x some).bind dn := by
  unfold t_condA
  repeat' first | exact free_none | refine free_bind (fun z => ?_) | refine free_ite ?_ ?_ | refine free_sum (fun z => ?_) (fun z => ?_) | rfl
theorem r_condA (c_nextA : a_nextA → Option g_nextA) (c_putA : a_putA → Option g_putA) (x : a_condA) : callK E3 (ftab 54 (fun _ L => L.length == 2) A_nextA x_nextA c_nextA (ftab 37 (fun _ L => L.length == 2) A_putA x_putA c_putA ca0)) lo0 68 (A_condA x).1 (A_condA x).2 K = t_condA (fun x => viaF A_nextA c_nextA (A_nextA x)) (fun x => viaF A_putA c_putA (A_putA x)) x (fun z => some (.c (R_condA z))) := by kernel_rfl
theorem s_condA (c_nextA : a_nextA → Option g_nextA) (h_nextA : ∀ x z, c_nextA x = some z → SC E3 54 (A_nextA x).1 (A_nextA x).2 (R_nextA z)) (c_putA : a_putA → Option g_putA) (h_putA : ∀ x z, c_putA x = some z → SC E3 37 (A_putA x).1 (A_putA x).2 (R_putA z)) (q : Nat) (x : a_condA) (z : g_condA) (h : t_condA c_nextA c_putA x some = some z) : SC E3 68 (A_condA x).1 (A_condA x).2 (R_condA z) := by
  refine SC.of hW3 hX3 (ftab_cons h_nextA xe_nextA (ftab_cons h_putA xe_putA ca0_sound)) lo0_sound ((r_condA c_nextA c_putA x).trans ?_)
  rw [via_eq i_nextA c_nextA, via_eq i_putA c_putA, n_condA, h]; rfl
noncomputable def condA (q : Nat) (x : a_condA) : Option g_condA := t_condA (nextA q) (putA q) x some
theorem sc_condA (q : Nat) : ∀ (x : a_condA) (z : g_condA), condA q x = some z → SC E3 68 (A_condA x).1 (A_condA x).2 (R_condA z) := fun x z h => s_condA (nextA q) (sc_nextA q) (putA q) (sc_putA q) q x z h
abbrev a_condZ : Type := Nat × (Nat → Int) × Int × Bool
abbrev g_condZ : Type := Nat × (Nat → Int) × Int × Bool × Nat × (Nat → Int) × (Nat → Int)
def A_condZ : a_condZ → List V × List (Option Chunk) := (fun x => (fun (m : Nat) (y : Nat → Int) (a : Int) (tl : Bool) => (([.ptr 0 0] : List V), ([some (.blk [.ro 1 m (fun j => [i64 (y j)]), i64 a, bo tl, nilS])] : List (Option Chunk)))) x.1 x.2.1 x.2.2.1 x.2.2.2)
def d_condZ (t : List V × List (Option Chunk)) : a_condZ := ((vRoN ((chB (t.2.getD 0 none)).getD 0 .junk)), (fun j => (vI (((vRoF ((chB (t.2.getD 0 none)).getD 0 .junk)) j).getD 0 .junk))), (vI ((chB (t.2.getD 0 none)).getD 1 .junk)), (vB ((chB (t.2.getD 0 none)).getD 2 .junk)))
theorem i_condZ : ∀ x y, A_condZ x = A_condZ y → x = y := fun x y h => (congrArg d_condZ h :)
def R_condZ : g_condZ → CRes := (fun z => CRes.ret (V.tup []) [some (Chunk.blk [V.ro 1 (z.1) fun (j : Nat) => [i64 (z.2.1 j)], i64 (z.2.2.1), bo (z.2.2.2.1), V.sl 1 2 0 (z.2.2.2.2.1)]), some (Chunk.row 74 2 (z.2.2.2.2.1) fun (j : Nat) => [i64 (z.2.2.2.2.2.1 j), i64 (z.2.2.2.2.2.2 j)])] : (Nat × (Nat → Int) × Int × Bool × Nat × (Nat → Int) × (Nat → Int)) → CRes)
def x_condZ (z : g_condZ) (k : CRes → Option Ans) : Option Ans := k (R_condZ z)
theorem xe_condZ : ∀ z k, x_condZ z k = k (R_condZ z) := fun z k => rfl
def t_condZ {β : Type} (c_nextA : a_nextA → Option g_nextA) (c_nextZ : a_nextZ → Option g_nextZ) (c_putA : a_putA → Option g_putA) (c_putZ : a_putZ → Option g_putZ) (x : a_condZ) (dn : g_condZ → Option β) : Option β :=
 (c_nextZ (((6 : Int), x))).bind fun z5 =>
  (c_putZ (((4 : Int), z5))).bind fun z12 =>
   (c_nextA (((1000 : Int), z12.1, z12.2.1, z12.2.2.1, z12.2.2.2.1, 1, z12.2.2.2.2))).bind fun z21 =>
    (c_putA (((1 : Int), w (z21.1 - (500 : Int)), z21.2))).bind fun z31 =>
     (c_nextA (((3 : Int), z31.2))).bind fun z40 =>
      if (0 : Int) ≤ z40.1 ∧ z40.1 < (3 : Int) then
       if 0 + Int.toNat (z40.1) < 3 ∧ 1 = 1 then
        (c_putA ((if 0 + Int.toNat (z40.1) = 0 then (10 : Int) else if 0 + Int.toNat (z40.1) - 1 = 0 then (11 : Int) else (12 : Int), (0 : Int), z40.2))).bind fun z50 =>
         (c_nextA (((2 : Int), z50.2))).bind fun z59 =>
          if (z59.1 == (1 : Int)) = true then
           (c_putA (((13 : Int), (0 : Int), z59.2))).bind fun z69 =>
            dn (z69.2)
          else
           dn (z59.2)
       else
        none
      else
       none
theorem n_condZ {β : Type} (c_nextA : a_nextA → Option g_nextA) (c_nextZ : a_nextZ → Option g_nextZ) (c_putA : a_putA → Option g_putA) (c_putZ : a_putZ → Option g_putZ) (x : a_condZ) (dn : g_condZ → Option β) : t_condZ c_nextA c_nextZ c_putA c_putZ x dn = (t_condZ c_nextA c_nextZ c_putA c_putZ x some).bind dn := by
  unfold t_condZ
  repeat' first | exact free_none | refine free_bind (fun z => ?_) | refine free_ite ?_ ?_ | refine free_sum (fun z => ?_) (fun z => ?_) | rfl
theorem r_condZ (c_nextA : a_nextA → Option g_nextA) (c_nextZ : a_nextZ → Option g_nextZ) (c_putA : a_putA → Option g_putA) (c_putZ : a_putZ → Option g_putZ) (x : a_condZ) : callK E3 (ftab 54 (fun _ L => L.length == 2) A_nextA x_nextA c_nextA (ftab 54 (fun _ L => L.length == 1) A_nextZ x_nextZ c_nextZ (ftab 37 (fun _ L => L.length == 2) A_putA x_putA c_putA (ftab 37 (fun _ L => L.length == 1) A_putZ x_putZ c_putZ ca0)))) lo0 68 (A_condZ x).1 (A_condZ x).2 K = t_condZ (fun x => viaF A_nextA c_nextA (A_nextA x)) (fun x => viaF A_nextZ c_nextZ (A_nextZ x)) (fun x => viaF A_putA c_putA (A_putA x)) (fun x => viaF A_putZ c_putZ (A_putZ x)) x (fun z => some (.c (R_condZ z))) := by kernel_rfl
theorem s_condZ (c_nextA : a_nextA → Option g_nextA) (h_nextA : ∀ x z, c_nextA x = some z → SC E3 54 (A_nextA x).1 (A_nextA x).2 (R_nextA z)) (c_nextZ : a_nextZ → Option g_nextZ) (h_nextZ : ∀ x z, c_nextZ x = some z → SC E3 54 (A_nextZ x).1 (A_nextZ x).2 (R_nextZ z)) (c_putA : a_putA → Option g_putA) (h_putA : ∀ x z, c_putA x = some z → SC E3 37 (A_putA x).1 (A_putA x).2 (R_putA z)) (c_putZ : a_putZ → Option g_putZ) (h_putZ : ∀ x z, c_putZ x = some z → SC E3 37 (A_putZ x).1 (A_putZ x).2 (R_putZ z)) (q : Nat) (x : a_condZ) (z : g_condZ) (h : t_condZ c_nextA c_nextZ c_putA c_putZ x some = some z) : SC E3 68 (A_condZ x).1 (A_condZ x).2 (R_condZ z) := by
  refine SC.of hW3 hX3 (ftab_cons h_nextA xe_nextA (ftab_cons h_nextZ xe_nextZ (ftab_cons h_putA xe_putA (ftab_cons h_putZ xe_putZ ca0_sound)))) lo0_sound ((r_condZ c_nextA c_nextZ c_putA c_putZ x).trans ?_)
  rw [via_eq i_nextA c_nextA, via_eq i_nextZ c_nextZ, via_eq i_putA c_putA, via_eq i_putZ c_putZ, n_condZ, h]; rfl
noncomputable def condZ (q : Nat) (x : a_condZ) : Option g_condZ := t_condZ (nextA q) (nextZ q) (putA q) (putZ q) x some
theorem sc_condZ (q : Nat) : ∀ (x : a_condZ) (z : g_condZ), condZ q x = some z → SC E3 68 (A_condZ x).1 (A_condZ x).2 (R_condZ z) := fun x z h => s_condZ (nextA q) (sc_nextA q) (nextZ q) (sc_nextZ q) (putA q) (sc_putA q) (putZ q) (sc_putZ q) q x z h
abbrev a_stmtA : Type := Int × Nat × (Nat → Int) × Int × Bool × Nat × (Nat → Int) × (Nat → Int)
abbrev g_stmtA : Type := Nat × (Nat → Int) × Int × Bool × Nat × (Nat → Int) × (Nat → Int)
def A_stmtA : a_stmtA → List V × List (Option Chunk) := (fun x => (fun (e : Int) (m : Nat) (y : Nat → Int) (a : Int) (tl : Bool) (n : Nat) (op : Nat → Int) (ar : Nat → Int) => (([.ptr 0 0, i64 e] : List V), ([some (.blk [.ro 1 m (fun j => [i64 (y j)]), i64 a, bo tl, .sl 1 2 0 n]), some (.row 74 2 n (fun j => [i64 (op j), i64 (ar j)]))] : List (Option Chunk)))) x.1 x.2.1 x.2.2.1 x.2.2.2.1 x.2.2.2.2.1 x.2.2.2.2.2.1 x.2.2.2.2.2.2.1 x.2.2.2.2.2.2.2)
def d_stmtA (t : List V × List (Option Chunk)) : a_stmtA := ((vI (t.1.getD 1 .junk)), (vRoN ((chB (t.2.getD 0 none)).getD 0 .junk)), (fun j => (vI (((vRoF ((chB (t.2.getD 0 none)).getD 0 .junk)) j).getD 0 .junk))), (vI ((chB (t.2.getD 0 none)).getD 1 .junk)), (vB ((chB (t.2.getD 0 none)).getD 2 .junk)), (vSlN ((chB (t.2.getD 0 none)).getD 3 .junk)), (fun j => (vI (((chF (t.2.getD 1 none)) j).getD 0 .junk))), (fun j => (vI (((chF (t.2.getD 1 none)) j).getD 1 .junk))))
theorem i_stmtA : ∀ x y, A_stmtA x = A_stmtA y → x = y := fun x y h => (congrArg d_stmtA h :)
def R_stmtA : g_stmtA → CRes := (fun z => (fun (m : Nat) (y : Nat → Int) (a : Int) (tl : Bool) (n : Nat) (op : Nat → Int) (ar : Nat → Int) => .ret (.tup []) [some (.blk [.ro 1 m (fun j => [i64 (y j)]), i64 a, bo tl, .sl 1 2 0 n]), some (.row 74 2 n (fun j => [i64 (op j), i64 (ar j)]))]) z.1 z.2.1 z.2.2.1 z.2.2.2.1 z.2.2.2.2.1 z.2.2.2.2.2.1 z.2.2.2.2.2.2 : (Nat × (Nat → Int) × Int × Bool × Nat × (Nat → Int) × (Nat → Int)) → CRes)
def x_stmtA (z : g_stmtA) (k : CRes → Option Ans) : Option Ans := k (R_stmtA z)
theorem xe_stmtA : ∀ z k, x_stmtA z k = k (R_stmtA z) := fun z k => rfl
abbrev a_blockA : Type := Int × Int × Nat × (Nat → Int) × Int × Bool × Nat × (Nat → Int) × (Nat → Int)
abbrev g_blockA : Type := Nat × (Nat → Int) × Int × Bool × Nat × (Nat → Int) × (Nat → Int)
def A_blockA : a_blockA → List V × List (Option Chunk) := (fun x => (fun (d : Int) (e : Int) (m : Nat) (y : Nat → Int) (a : Int) (tl : Bool) (n : Nat) (op : Nat → Int) (ar : Nat → Int) => (([.ptr 0 0, i64 d, i64 e] : List V), ([some (.blk [.ro 1 m (fun j => [i64 (y j)]), i64 a, bo tl, .sl 1 2 0 n]), some (.row 74 2 n (fun j => [i64 (op j), i64 (ar j)]))] : List (Option Chunk)))) x.1 x.2.1 x.2.2.1 x.2.2.2.1 x.2.2.2.2.1 x.2.2.2.2.2.1 x.2.2.2.2.2.2.1 x.2.2.2.2.2.2.2.1 x.2.2.2.2.2.2.2.2)
def d_blockA (t : List V × List (Option Chunk)) : a_blockA := ((vI (t.1.getD 1 .junk)), (vI (t.1.getD 2 .junk)), (vRoN ((chB (t.2.getD 0 none)).getD 0 .junk)), (fun j => (vI (((vRoF ((chB (t.2.getD 0 none)).getD 0 .junk)) j).getD 0 .junk))), (vI ((chB (t.2.getD 0 none)).getD 1 .junk)), (vB ((chB (t.2.getD 0 none)).getD 2 .junk)), (vSlN ((chB (t.2.getD 0 none)).getD 3 .junk)), (fun j => (vI (((chF (t.2.getD 1 none)) j).getD 0 .junk))), (fun j => (vI (((chF (t.2.getD 1 none)) j).getD 1 .junk))))
theorem i_blockA : ∀ x y, A_blockA x = A_blockA y → x = y := fun x y h => (congrArg d_blockA h :)
def R_blockA : g_blockA → CRes := (fun z => (fun (m : Nat) (y : Nat → Int) (a : Int) (tl : Bool) (n : Nat) (op : Nat → Int) (ar : Nat → Int) => .ret (.tup []) [some (.blk [.ro 1 m (fun j => [i64 (y j)]), i64 a, bo tl, .sl 1 2 0 n]), some (.row 74 2 n (fun j => [i64 (op j), i64 (ar j)]))]) z.1 z.2.1 z.2.2.1 z.2.2.2.1 z.2.2.2.2.1 z.2.2.2.2.2.1 z.2.2.2.2.2.2 : (Nat × (Nat → Int) × Int × Bool × Nat × (Nat → Int) × (Nat → Int)) → CRes)
def x_blockA (z : g_blockA) (k : CRes → Option Ans) : Option Ans := k (R_blockA z)
theorem xe_blockA : ∀ z k, x_blockA z k = k (R_blockA z) := fun z k => rfl
def t_stmtA {β : Type} (c_nextA : a_nextA → Option g_nextA) (c_putA : a_putA → Option g_putA) (c_condA : a_condA → Option g_condA) (c_blockA : a_blockA → Option g_blockA) (x : a_stmtA) (dn : g_stmtA → Option β) : Option β :=
 (c_nextA (((12 : Int), x.2))).bind fun z8 =>
  if z8.2.2.2.2.1 = true then
   if decide (z8.1 ≥ (8 : Int)) = true then
    if (Int.tmod (z8.1) (7 : Int) == (0 : Int)) = true then
     (c_nextA (((8 : Int), z8.2))).bind fun z17 =>
      (c_nextA (((50 : Int), z17.2))).bind fun z26 =>
       (c_putA (((23 : Int), w (w (z17.1 * (1000000 : Int)) + z26.1), z26.2))).bind fun z36 =>
        dn (z36.2)
    else
     if (Int.tmod (z8.1) (7 : Int) == (1 : Int)) = true then
      (c_nextA (((4000 : Int), z8.2))).bind fun z45 =>
       (c_putA (((24 : Int), z45))).bind fun z55 =>
        dn (z55.2)
     else
      if (Int.tmod (z8.1) (7 : Int) == (2 : Int)) = true then
       (c_nextA (((4000 : Int), z8.2))).bind fun z64 =>
        (c_putA (((25 : Int), z64))).bind fun z74 =>
         dn (z74.2)
      else
       if (Int.tmod (z8.1) (7 : Int) == (3 : Int)) = true then
        (c_nextA (((50 : Int), z8.2))).bind fun z83 =>
         (c_putA (((18 : Int), z83))).bind fun z93 =>
          dn (z93.2)
       else
        if (Int.tmod (z8.1) (7 : Int) == (4 : Int)) = true then
         (c_nextA (((720 : Int), z8.2))).bind fun z102 =>
          (c_putA (((1 : Int), w (z102.1 - (360 : Int)), z102.2))).bind fun z112 =>
           (c_putA (((22 : Int), (0 : Int), z112.2))).bind fun z122 =>
            dn (z122.2)
        else
         if (Int.tmod (z8.1) (7 : Int) == (5 : Int)) = true then
          (c_nextA (((100 : Int), z8.2))).bind fun z131 =>
           (c_putA (((26 : Int), z131))).bind fun z141 =>
            dn (z141.2)
         else
          if (Int.tmod (z8.1) (7 : Int) == (6 : Int)) = true then
           (c_condA (z8.2)).bind fun z149 =>
            (c_putA (((21 : Int), (0 : Int), z149))).bind fun z159 =>
             dn (z159.2)
          else
           if (Int.tmod (z8.1) (7 : Int) == (7 : Int)) = true then
            (c_nextA (((4 : Int), z8.2))).bind fun z168 =>
             (c_putA (((16 : Int), w ((1 : Int) + z168.1), z168.2))).bind fun z178 =>
              (c_blockA (((2 : Int), w (x.1 - (1 : Int)), z178.2))).bind fun z188 =>
               (c_putA (((17 : Int), w (z178.1 + (1 : Int)), z188))).bind fun z198 =>
                dn (z198.2)
           else
            if (Int.tmod (z8.1) (7 : Int) == (8 : Int)) = true then
             (c_nextA (((30 : Int), z8.2))).bind fun z207 =>
              (c_putA (((19 : Int), z207))).bind fun z217 =>
               (c_condA (z217.2)).bind fun z225 =>
                (c_putA (((20 : Int), w (z217.1 + (1 : Int)), z225))).bind fun z235 =>
                 dn (z235.2)
            else
             if (Int.tmod (z8.1) (7 : Int) == (9 : Int)) = true then
              (c_nextA (((1000 : Int), z8.2))).bind fun z244 =>
               (c_putA (((27 : Int), z244))).bind fun z254 =>
                dn (z254.2)
             else
              (c_condA (z8.2)).bind fun z262 =>
               (c_putA (((15 : Int), (0 : Int), z262))).bind fun z272 =>
                (c_blockA (((2 : Int), w (x.1 - (1 : Int)), z272.2))).bind fun z282 =>
                 if (Int.tmod (z8.1) (7 : Int) == (11 : Int)) = true then
                  (c_putA (((14 : Int), (0 : Int), z282))).bind fun z292 =>
                   if (0 : Int) ≤ z272.1 ∧ z272.1 < ((z292.2.2.2.2.2.1 : Nat) : Int) then
                    if 0 + Int.toNat (z272.1) < z292.2.2.2.2.2.1 ∧ 2 = 2 then
                     (c_blockA (((2 : Int), w (x.1 - (1 : Int)), z292.2.1, z292.2.2.1, z292.2.2.2.1, z292.2.2.2.2.1, z292.2.2.2.2.2.1, z292.2.2.2.2.2.2.1, fun (j : Nat) => if j = 0 + Int.toNat (z272.1) then ((z292.2.2.2.2.2.1 : Nat) : Int) else z292.2.2.2.2.2.2.2 j))).bind fun z302 =>
                      if (0 : Int) ≤ z292.1 ∧ z292.1 < ((z302.2.2.2.2.1 : Nat) : Int) then
                       if 0 + Int.toNat (z292.1) < z302.2.2.2.2.1 ∧ 2 = 2 then
                        dn ((z302.1, z302.2.1, z302.2.2.1, z302.2.2.2.1, z302.2.2.2.2.1, z302.2.2.2.2.2.1, fun (j : Nat) => if j = 0 + Int.toNat (z292.1) then ((z302.2.2.2.2.1 : Nat) : Int) else z302.2.2.2.2.2.2 j))
                       else
                        none
                      else
                       none
                    else
                     none
                   else
                    none
                 else
                  if (0 : Int) ≤ z272.1 ∧ z272.1 < ((z282.2.2.2.2.1 : Nat) : Int) then
                   if 0 + Int.toNat (z272.1) < z282.2.2.2.2.1 ∧ 2 = 2 then
                    dn ((z282.1, z282.2.1, z282.2.2.1, z282.2.2.2.1, z282.2.2.2.2.1, z282.2.2.2.2.2.1, fun (j : Nat) => if j = 0 + Int.toNat (z272.1) then ((z282.2.2.2.2.1 : Nat) : Int) else z282.2.2.2.2.2.2 j))
                   else
                    none
                  else
                   none
   else
    if decide (z8.1 ≥ (10 : Int)) = true then
     if decide (x.1 ≤ (0 : Int)) = true then
      if (Int.tmod (z8.1) (7 : Int) == (0 : Int)) = true then
       (c_nextA (((8 : Int), z8.2))).bind fun z311 =>
        (c_nextA (((50 : Int), z311.2))).bind fun z320 =>
         (c_putA (((23 : Int), w (w (z311.1 * (1000000 : Int)) + z320.1), z320.2))).bind fun z330 =>
          dn (z330.2)
      else
       if (Int.tmod (z8.1) (7 : Int) == (1 : Int)) = true then
        (c_nextA (((4000 : Int), z8.2))).bind fun z339 =>
         (c_putA (((24 : Int), z339))).bind fun z349 =>
          dn (z349.2)
       else
        if (Int.tmod (z8.1) (7 : Int) == (2 : Int)) = true then
         (c_nextA (((4000 : Int), z8.2))).bind fun z358 =>
          (c_putA (((25 : Int), z358))).bind fun z368 =>
           dn (z368.2)
        else
         if (Int.tmod (z8.1) (7 : Int) == (3 : Int)) = true then
          (c_nextA (((50 : Int), z8.2))).bind fun z377 =>
           (c_putA (((18 : Int), z377))).bind fun z387 =>
            dn (z387.2)
         else
          if (Int.tmod (z8.1) (7 : Int) == (4 : Int)) = true then
           (c_nextA (((720 : Int), z8.2))).bind fun z396 =>
            (c_putA (((1 : Int), w (z396.1 - (360 : Int)), z396.2))).bind fun z406 =>
             (c_putA (((22 : Int), (0 : Int), z406.2))).bind fun z416 =>
              dn (z416.2)
          else
           if (Int.tmod (z8.1) (7 : Int) == (5 : Int)) = true then
            (c_nextA (((100 : Int), z8.2))).bind fun z425 =>
             (c_putA (((26 : Int), z425))).bind fun z435 =>
              dn (z435.2)
           else
            if (Int.tmod (z8.1) (7 : Int) == (6 : Int)) = true then
             (c_condA (z8.2)).bind fun z443 =>
              (c_putA (((21 : Int), (0 : Int), z443))).bind fun z453 =>
               dn (z453.2)
            else
             if (Int.tmod (z8.1) (7 : Int) == (7 : Int)) = true then
              (c_nextA (((4 : Int), z8.2))).bind fun z462 =>
               (c_putA (((16 : Int), w ((1 : Int) + z462.1), z462.2))).bind fun z472 =>
                (c_blockA (((2 : Int), w (x.1 - (1 : Int)), z472.2))).bind fun z482 =>
                 (c_putA (((17 : Int), w (z472.1 + (1 : Int)), z482))).bind fun z492 =>
                  dn (z492.2)
             else
              if (Int.tmod (z8.1) (7 : Int) == (8 : Int)) = true then
               (c_nextA (((30 : Int), z8.2))).bind fun z501 =>
                (c_putA (((19 : Int), z501))).bind fun z511 =>
                 (c_condA (z511.2)).bind fun z519 =>
                  (c_putA (((20 : Int), w (z511.1 + (1 : Int)), z519))).bind fun z529 =>
                   dn (z529.2)
              else
               if (Int.tmod (z8.1) (7 : Int) == (9 : Int)) = true then
                (c_nextA (((1000 : Int), z8.2))).bind fun z538 =>
                 (c_putA (((27 : Int), z538))).bind fun z548 =>
                  dn (z548.2)
               else
                (c_condA (z8.2)).bind fun z556 =>
                 (c_putA (((15 : Int), (0 : Int), z556))).bind fun z566 =>
                  (c_blockA (((2 : Int), w (x.1 - (1 : Int)), z566.2))).bind fun z576 =>
                   if (Int.tmod (z8.1) (7 : Int) == (11 : Int)) = true then
                    (c_putA (((14 : Int), (0 : Int), z576))).bind fun z586 =>
                     if (0 : Int) ≤ z566.1 ∧ z566.1 < ((z586.2.2.2.2.2.1 : Nat) : Int) then
                      if 0 + Int.toNat (z566.1) < z586.2.2.2.2.2.1 ∧ 2 = 2 then
                       (c_blockA (((2 : Int), w (x.1 - (1 : Int)), z586.2.1, z586.2.2.1, z586.2.2.2.1, z586.2.2.2.2.1, z586.2.2.2.2.2.1, z586.2.2.2.2.2.2.1, fun (j : Nat) => if j = 0 + Int.toNat (z566.1) then ((z586.2.2.2.2.2.1 : Nat) : Int) else z586.2.2.2.2.2.2.2 j))).bind fun z596 =>
                        if (0 : Int) ≤ z586.1 ∧ z586.1 < ((z596.2.2.2.2.1 : Nat) : Int) then
                         if 0 + Int.toNat (z586.1) < z596.2.2.2.2.1 ∧ 2 = 2 then
                          dn ((z596.1, z596.2.1, z596.2.2.1, z596.2.2.2.1, z596.2.2.2.2.1, z596.2.2.2.2.2.1, fun (j : Nat) => if j = 0 + Int.toNat (z586.1) then ((z596.2.2.2.2.1 : Nat) : Int) else z596.2.2.2.2.2.2 j))
                         else
                          none
                        else
                         none
                      else
                       none
                     else
                      none
                   else
                    if (0 : Int) ≤ z566.1 ∧ z566.1 < ((z576.2.2.2.2.1 : Nat) : Int) then
                     if 0 + Int.toNat (z566.1) < z576.2.2.2.2.1 ∧ 2 = 2 then
                      dn ((z576.1, z576.2.1, z576.2.2.1, z576.2.2.2.1, z576.2.2.2.2.1, z576.2.2.2.2.2.1, fun (j : Nat) => if j = 0 + Int.toNat (z566.1) then ((z576.2.2.2.2.1 : Nat) : Int) else z576.2.2.2.2.2.2 j))
                     else
                      none
                    else
                     none
     else
      if (z8.1 == (7 : Int)) = true then
       if decide (x.1 ≤ (0 : Int)) = true then
        if (Int.tmod (z8.1) (7 : Int) == (0 : Int)) = true then
         (c_nextA (((8 : Int), z8.2))).bind fun z605 =>
          (c_nextA (((50 : Int), z605.2))).bind fun z614 =>
           (c_putA (((23 : Int), w (w (z605.1 * (1000000 : Int)) + z614.1), z614.2))).bind fun z624 =>
            dn (z624.2)
        else
         if (Int.tmod (z8.1) (7 : Int) == (1 : Int)) = true then
          (c_nextA (((4000 : Int), z8.2))).bind fun z633 =>
           (c_putA (((24 : Int), z633))).bind fun z643 =>
            dn (z643.2)
         else
          if (Int.tmod (z8.1) (7 : Int) == (2 : Int)) = true then
           (c_nextA (((4000 : Int), z8.2))).bind fun z652 =>
            (c_putA (((25 : Int), z652))).bind fun z662 =>
             dn (z662.2)
          else
           if (Int.tmod (z8.1) (7 : Int) == (3 : Int)) = true then
            (c_nextA (((50 : Int), z8.2))).bind fun z671 =>
             (c_putA (((18 : Int), z671))).bind fun z681 =>
              dn (z681.2)
           else
            if (Int.tmod (z8.1) (7 : Int) == (4 : Int)) = true then
             (c_nextA (((720 : Int), z8.2))).bind fun z690 =>
              (c_putA (((1 : Int), w (z690.1 - (360 : Int)), z690.2))).bind fun z700 =>
               (c_putA (((22 : Int), (0 : Int), z700.2))).bind fun z710 =>
                dn (z710.2)
            else
             if (Int.tmod (z8.1) (7 : Int) == (5 : Int)) = true then
              (c_nextA (((100 : Int), z8.2))).bind fun z719 =>
               (c_putA (((26 : Int), z719))).bind fun z729 =>
                dn (z729.2)
             else
              if (Int.tmod (z8.1) (7 : Int) == (6 : Int)) = true then
               (c_condA (z8.2)).bind fun z737 =>
                (c_putA (((21 : Int), (0 : Int), z737))).bind fun z747 =>
                 dn (z747.2)
              else
               if (Int.tmod (z8.1) (7 : Int) == (7 : Int)) = true then
                (c_nextA (((4 : Int), z8.2))).bind fun z756 =>
                 (c_putA (((16 : Int), w ((1 : Int) + z756.1), z756.2))).bind fun z766 =>
                  (c_blockA (((2 : Int), w (x.1 - (1 : Int)), z766.2))).bind fun z776 =>
                   (c_putA (((17 : Int), w (z766.1 + (1 : Int)), z776))).bind fun z786 =>
                    dn (z786.2)
               else
                if (Int.tmod (z8.1) (7 : Int) == (8 : Int)) = true then
                 (c_nextA (((30 : Int), z8.2))).bind fun z795 =>
                  (c_putA (((19 : Int), z795))).bind fun z805 =>
                   (c_condA (z805.2)).bind fun z813 =>
                    (c_putA (((20 : Int), w (z805.1 + (1 : Int)), z813))).bind fun z823 =>
                     dn (z823.2)
                else
                 if (Int.tmod (z8.1) (7 : Int) == (9 : Int)) = true then
                  (c_nextA (((1000 : Int), z8.2))).bind fun z832 =>
                   (c_putA (((27 : Int), z832))).bind fun z842 =>
                    dn (z842.2)
                 else
                  (c_condA (z8.2)).bind fun z850 =>
                   (c_putA (((15 : Int), (0 : Int), z850))).bind fun z860 =>
                    (c_blockA (((2 : Int), w (x.1 - (1 : Int)), z860.2))).bind fun z870 =>
                     if (Int.tmod (z8.1) (7 : Int) == (11 : Int)) = true then
                      (c_putA (((14 : Int), (0 : Int), z870))).bind fun z880 =>
                       if (0 : Int) ≤ z860.1 ∧ z860.1 < ((z880.2.2.2.2.2.1 : Nat) : Int) then
                        if 0 + Int.toNat (z860.1) < z880.2.2.2.2.2.1 ∧ 2 = 2 then
                         (c_blockA (((2 : Int), w (x.1 - (1 : Int)), z880.2.1, z880.2.2.1, z880.2.2.2.1, z880.2.2.2.2.1, z880.2.2.2.2.2.1, z880.2.2.2.2.2.2.1, fun (j : Nat) => if j = 0 + Int.toNat (z860.1) then ((z880.2.2.2.2.2.1 : Nat) : Int) else z880.2.2.2.2.2.2.2 j))).bind fun z890 =>
                          if (0 : Int) ≤ z880.1 ∧ z880.1 < ((z890.2.2.2.2.1 : Nat) : Int) then
                           if 0 + Int.toNat (z880.1) < z890.2.2.2.2.1 ∧ 2 = 2 then
                            dn ((z890.1, z890.2.1, z890.2.2.1, z890.2.2.2.1, z890.2.2.2.2.1, z890.2.2.2.2.2.1, fun (j : Nat) => if j = 0 + Int.toNat (z880.1) then ((z890.2.2.2.2.1 : Nat) : Int) else z890.2.2.2.2.2.2 j))
                           else
                            none
                          else
                           none
                        else
                         none
                       else
                        none
                     else
                      if (0 : Int) ≤ z860.1 ∧ z860.1 < ((z870.2.2.2.2.1 : Nat) : Int) then
                       if 0 + Int.toNat (z860.1) < z870.2.2.2.2.1 ∧ 2 = 2 then
                        dn ((z870.1, z870.2.1, z870.2.2.1, z870.2.2.2.1, z870.2.2.2.2.1, z870.2.2.2.2.2.1, fun (j : Nat) => if j = 0 + Int.toNat (z860.1) then ((z870.2.2.2.2.1 : Nat) : Int) else z870.2.2.2.2.2.2 j))
                       else
                        none
                      else
                       none
       else
        if (z8.1 == (0 : Int)) = true then
         (c_nextA (((8 : Int), z8.2))).bind fun z899 =>
          (c_nextA (((50 : Int), z899.2))).bind fun z908 =>
           (c_putA (((23 : Int), w (w (z899.1 * (1000000 : Int)) + z908.1), z908.2))).bind fun z918 =>
            dn (z918.2)
        else
         if (z8.1 == (1 : Int)) = true then
          (c_nextA (((4000 : Int), z8.2))).bind fun z927 =>
           (c_putA (((24 : Int), z927))).bind fun z937 =>
            dn (z937.2)
         else
          if (z8.1 == (2 : Int)) = true then
           (c_nextA (((4000 : Int), z8.2))).bind fun z946 =>
            (c_putA (((25 : Int), z946))).bind fun z956 =>
             dn (z956.2)
          else
           if (z8.1 == (3 : Int)) = true then
            (c_nextA (((50 : Int), z8.2))).bind fun z965 =>
             (c_putA (((18 : Int), z965))).bind fun z975 =>
              dn (z975.2)
           else
            if (z8.1 == (4 : Int)) = true then
             (c_nextA (((720 : Int), z8.2))).bind fun z984 =>
              (c_putA (((1 : Int), w (z984.1 - (360 : Int)), z984.2))).bind fun z994 =>
               (c_putA (((22 : Int), (0 : Int), z994.2))).bind fun z1004 =>
                dn (z1004.2)
            else
             if (z8.1 == (5 : Int)) = true then
              (c_nextA (((100 : Int), z8.2))).bind fun z1013 =>
               (c_putA (((26 : Int), z1013))).bind fun z1023 =>
                dn (z1023.2)
             else
              if (z8.1 == (6 : Int)) = true then
               (c_condA (z8.2)).bind fun z1031 =>
                (c_putA (((21 : Int), (0 : Int), z1031))).bind fun z1041 =>
                 dn (z1041.2)
              else
               if (z8.1 == (7 : Int)) = true then
                (c_nextA (((4 : Int), z8.2))).bind fun z1050 =>
                 (c_putA (((16 : Int), w ((1 : Int) + z1050.1), z1050.2))).bind fun z1060 =>
                  (c_blockA (((2 : Int), w (x.1 - (1 : Int)), z1060.2))).bind fun z1070 =>
                   (c_putA (((17 : Int), w (z1060.1 + (1 : Int)), z1070))).bind fun z1080 =>
                    dn (z1080.2)
               else
                if (z8.1 == (8 : Int)) = true then
                 (c_nextA (((30 : Int), z8.2))).bind fun z1089 =>
                  (c_putA (((19 : Int), z1089))).bind fun z1099 =>
                   (c_condA (z1099.2)).bind fun z1107 =>
                    (c_putA (((20 : Int), w (z1099.1 + (1 : Int)), z1107))).bind fun z1117 =>
                     dn (z1117.2)
                else
                 if (z8.1 == (9 : Int)) = true then
                  (c_nextA (((1000 : Int), z8.2))).bind fun z1126 =>
                   (c_putA (((27 : Int), z1126))).bind fun z1136 =>
                    dn (z1136.2)
                 else
                  (c_condA (z8.2)).bind fun z1144 =>
                   (c_putA (((15 : Int), (0 : Int), z1144))).bind fun z1154 =>
                    (c_blockA (((2 : Int), w (x.1 - (1 : Int)), z1154.2))).bind fun z1164 =>
                     if (z8.1 == (11 : Int)) = true then
                      (c_putA (((14 : Int), (0 : Int), z1164))).bind fun z1174 =>
                       if (0 : Int) ≤ z1154.1 ∧ z1154.1 < ((z1174.2.2.2.2.2.1 : Nat) : Int) then
                        if 0 + Int.toNat (z1154.1) < z1174.2.2.2.2.2.1 ∧ 2 = 2 then
                         (c_blockA (((2 : Int), w (x.1 - (1 : Int)), z1174.2.1, z1174.2.2.1, z1174.2.2.2.1, z1174.2.2.2.2.1, z1174.2.2.2.2.2.1, z1174.2.2.2.2.2.2.1, fun (j : Nat) => if j = 0 + Int.toNat (z1154.1) then ((z1174.2.2.2.2.2.1 : Nat) : Int) else z1174.2.2.2.2.2.2.2 j))).bind fun z1184 =>
                          if (0 : Int) ≤ z1174.1 ∧ z1174.1 < ((z1184.2.2.2.2.1 : Nat) : Int) then
                           if 0 + Int.toNat (z1174.1) < z1184.2.2.2.2.1 ∧ 2 = 2 then
                            dn ((z1184.1, z1184.2.1, z1184.2.2.1, z1184.2.2.2.1, z1184.2.2.2.2.1, z1184.2.2.2.2.2.1, fun (j : Nat) => if j = 0 + Int.toNat (z1174.1) then ((z1184.2.2.2.2.1 : Nat) : Int) else z1184.2.2.2.2.2.2 j))
                           else
                            none
                          else
                           none
                        else
                         none
                       else
                        none
                     else
                      if (0 : Int) ≤ z1154.1 ∧ z1154.1 < ((z1164.2.2.2.2.1 : Nat) : Int) then
                       if 0 + Int.toNat (z1154.1) < z1164.2.2.2.2.1 ∧ 2 = 2 then
                        dn ((z1164.1, z1164.2.1, z1164.2.2.1, z1164.2.2.2.1, z1164.2.2.2.2.1, z1164.2.2.2.2.2.1, fun (j : Nat) => if j = 0 + Int.toNat (z1154.1) then ((z1164.2.2.2.2.1 : Nat) : Int) else z1164.2.2.2.2.2.2 j))
                       else
                        none
                      else
                       none
      else
       if (z8.1 == (0 : Int)) = true then
        (c_nextA (((8 : Int), z8.2))).bind fun z1193 =>
         (c_nextA (((50 : Int), z1193.2))).bind fun z1202 =>
          (c_putA (((23 : Int), w (w (z1193.1 * (1000000 : Int)) + z1202.1), z1202.2))).bind fun z1212 =>
           dn (z1212.2)
       else
        if (z8.1 == (1 : Int)) = true then
         (c_nextA (((4000 : Int), z8.2))).bind fun z1221 =>
          (c_putA (((24 : Int), z1221))).bind fun z1231 =>
           dn (z1231.2)
        else
         if (z8.1 == (2 : Int)) = true then
          (c_nextA (((4000 : Int), z8.2))).bind fun z1240 =>
           (c_putA (((25 : Int), z1240))).bind fun z1250 =>
            dn (z1250.2)
         else
          if (z8.1 == (3 : Int)) = true then
           (c_nextA (((50 : Int), z8.2))).bind fun z1259 =>
            (c_putA (((18 : Int), z1259))).bind fun z1269 =>
             dn (z1269.2)
          else
           if (z8.1 == (4 : Int)) = true then
            (c_nextA (((720 : Int), z8.2))).bind fun z1278 =>
             (c_putA (((1 : Int), w (z1278.1 - (360 : Int)), z1278.2))).bind fun z1288 =>
              (c_putA (((22 : Int), (0 : Int), z1288.2))).bind fun z1298 =>
               dn (z1298.2)
           else
            if (z8.1 == (5 : Int)) = true then
             (c_nextA (((100 : Int), z8.2))).bind fun z1307 =>
              (c_putA (((26 : Int), z1307))).bind fun z1317 =>
               dn (z1317.2)
            else
             if (z8.1 == (6 : Int)) = true then
              (c_condA (z8.2)).bind fun z1325 =>
               (c_putA (((21 : Int), (0 : Int), z1325))).bind fun z1335 =>
                dn (z1335.2)
             else
              if (z8.1 == (7 : Int)) = true then
               (c_nextA (((4 : Int), z8.2))).bind fun z1344 =>
                (c_putA (((16 : Int), w ((1 : Int) + z1344.1), z1344.2))).bind fun z1354 =>
                 (c_blockA (((2 : Int), w (x.1 - (1 : Int)), z1354.2))).bind fun z1364 =>
                  (c_putA (((17 : Int), w (z1354.1 + (1 : Int)), z1364))).bind fun z1374 =>
                   dn (z1374.2)
              else
               if (z8.1 == (8 : Int)) = true then
                (c_nextA (((30 : Int), z8.2))).bind fun z1383 =>
                 (c_putA (((19 : Int), z1383))).bind fun z1393 =>
                  (c_condA (z1393.2)).bind fun z1401 =>
                   (c_putA (((20 : Int), w (z1393.1 + (1 : Int)), z1401))).bind fun z1411 =>
                    dn (z1411.2)
               else
                if (z8.1 == (9 : Int)) = true then
                 (c_nextA (((1000 : Int), z8.2))).bind fun z1420 =>
                  (c_putA (((27 : Int), z1420))).bind fun z1430 =>
                   dn (z1430.2)
                else
                 (c_condA (z8.2)).bind fun z1438 =>
                  (c_putA (((15 : Int), (0 : Int), z1438))).bind fun z1448 =>
                   (c_blockA (((2 : Int), w (x.1 - (1 : Int)), z1448.2))).bind fun z1458 =>
                    if (z8.1 == (11 : Int)) = true then
                     (c_putA (((14 : Int), (0 : Int), z1458))).bind fun z1468 =>
                      if (0 : Int) ≤ z1448.1 ∧ z1448.1 < ((z1468.2.2.2.2.2.1 : Nat) : Int) then
                       if 0 + Int.toNat (z1448.1) < z1468.2.2.2.2.2.1 ∧ 2 = 2 then
                        (c_blockA (((2 : Int), w (x.1 - (1 : Int)), z1468.2.1, z1468.2.2.1, z1468.2.2.2.1, z1468.2.2.2.2.1, z1468.2.2.2.2.2.1, z1468.2.2.2.2.2.2.1, fun (j : Nat) => if j = 0 + Int.toNat (z1448.1) then ((z1468.2.2.2.2.2.1 : Nat) : Int) else z1468.2.2.2.2.2.2.2 j))).bind fun z1478 =>
                         if (0 : Int) ≤ z1468.1 ∧ z1468.1 < ((z1478.2.2.2.2.1 : Nat) : Int) then
                          if 0 + Int.toNat (z1468.1) < z1478.2.2.2.2.1 ∧ 2 = 2 then
                           dn ((z1478.1, z1478.2.1, z1478.2.2.1, z1478.2.2.2.1, z1478.2.2.2.2.1, z1478.2.2.2.2.2.1, fun (j : Nat) => if j = 0 + Int.toNat (z1468.1) then ((z1478.2.2.2.2.1 : Nat) : Int) else z1478.2.2.2.2.2.2 j))
                          else
                           none
                         else
                          none
                       else
                        none
                      else
                       none
                    else
                     if (0 : Int) ≤ z1448.1 ∧ z1448.1 < ((z1458.2.2.2.2.1 : Nat) : Int) then
                      if 0 + Int.toNat (z1448.1) < z1458.2.2.2.2.1 ∧ 2 = 2 then
                       dn ((z1458.1, z1458.2.1, z1458.2.2.1, z1458.2.2.2.1, z1458.2.2.2.2.1, z1458.2.2.2.2.2.1, fun (j : Nat) => if j = 0 + Int.toNat (z1448.1) then ((z1458.2.2.2.2.1 : Nat) : Int) else z1458.2.2.2.2.2.2 j))
                      else
                       none
                     else
                      none
    else
     if (z8.1 == (7 : Int)) = true then
      if decide (x.1 ≤ (0 : Int)) = true then
       if (Int.tmod (z8.1) (7 : Int) == (0 : Int)) = true then
        (c_nextA (((8 : Int), z8.2))).bind fun z1487 =>
         (c_nextA (((50 : Int), z1487.2))).bind fun z1496 =>
          (c_putA (((23 : Int), w (w (z1487.1 * (1000000 : Int)) + z1496.1), z1496.2))).bind fun z1506 =>
           dn (z1506.2)
       else
        if (Int.tmod (z8.1) (7 : Int) == (1 : Int)) = true then
         (c_nextA (((4000 : Int), z8.2))).bind fun z1515 =>
          (c_putA (((24 : Int), z1515))).bind fun z1525 =>
           dn (z1525.2)
        else
         if (Int.tmod (z8.1) (7 : Int) == (2 : Int)) = true then
          (c_nextA (((4000 : Int), z8.2))).bind fun z1534 =>
           (c_putA (((25 : Int), z1534))).bind fun z1544 =>
            dn (z1544.2)
         else
          if (Int.tmod (z8.1) (7 : Int) == (3 : Int)) = true then
           (c_nextA (((50 : Int), z8.2))).bind fun z1553 =>
            (c_putA (((18 : Int), z1553))).bind fun z1563 =>
             dn (z1563.2)
          else
           if (Int.tmod (z8.1) (7 : Int) == (4 : Int)) = true then
            (c_nextA (((720 : Int), z8.2))).bind fun z1572 =>
             (c_putA (((1 : Int), w (z1572.1 - (360 : Int)), z1572.2))).bind fun z1582 =>
              (c_putA (((22 : Int), (0 : Int), z1582.2))).bind fun z1592 =>
               dn (z1592.2)
           else
            if (Int.tmod (z8.1) (7 : Int) == (5 : Int)) = true then
             (c_nextA (((100 : Int), z8.2))).bind fun z1601 =>
              (c_putA (((26 : Int), z1601))).bind fun z1611 =>
               dn (z1611.2)
            else
             if (Int.tmod (z8.1) (7 : Int) == (6 : Int)) = true then
              (c_condA (z8.2)).bind fun z1619 =>
               (c_putA (((21 : Int), (0 : Int), z1619))).bind fun z1629 =>
                dn (z1629.2)
             else
              if (Int.tmod (z8.1) (7 : Int) == (7 : Int)) = true then
               (c_nextA (((4 : Int), z8.2))).bind fun z1638 =>
                (c_putA (((16 : Int), w ((1 : Int) + z1638.1), z1638.2))).bind fun z1648 =>
                 (c_blockA (((2 : Int), w (x.1 - (1 : Int)), z1648.2))).bind fun z1658 =>
                  (c_putA (((17 : Int), w (z1648.1 + (1 : Int)), z1658))).bind fun z1668 =>
                   dn (z1668.2)
              else
               if (Int.tmod (z8.1) (7 : Int) == (8 : Int)) = true then
                (c_nextA (((30 : Int), z8.2))).bind fun z1677 =>
                 (c_putA (((19 : Int), z1677))).bind fun z1687 =>
                  (c_condA (z1687.2)).bind fun z1695 =>
                   (c_putA (((20 : Int), w (z1687.1 + (1 : Int)), z1695))).bind fun z1705 =>
                    dn (z1705.2)
               else
                if (Int.tmod (z8.1) (7 : Int) == (9 : Int)) = true then
                 (c_nextA (((1000 : Int), z8.2))).bind fun z1714 =>
                  (c_putA (((27 : Int), z1714))).bind fun z1724 =>
                   dn (z1724.2)
                else
                 (c_condA (z8.2)).bind fun z1732 =>
                  (c_putA (((15 : Int), (0 : Int), z1732))).bind fun z1742 =>
                   (c_blockA (((2 : Int), w (x.1 - (1 : Int)), z1742.2))).bind fun z1752 =>
                    if (Int.tmod (z8.1) (7 : Int) == (11 : Int)) = true then
                     (c_putA (((14 : Int), (0 : Int), z1752))).bind fun z1762 =>
                      if (0 : Int) ≤ z1742.1 ∧ z1742.1 < ((z1762.2.2.2.2.2.1 : Nat) : Int) then
                       if 0 + Int.toNat (z1742.1) < z1762.2.2.2.2.2.1 ∧ 2 = 2 then
                        (c_blockA (((2 : Int), w (x.1 - (1 : Int)), z1762.2.1, z1762.2.2.1, z1762.2.2.2.1, z1762.2.2.2.2.1, z1762.2.2.2.2.2.1, z1762.2.2.2.2.2.2.1, fun (j : Nat) => if j = 0 + Int.toNat (z1742.1) then ((z1762.2.2.2.2.2.1 : Nat) : Int) else z1762.2.2.2.2.2.2.2 j))).bind fun z1772 =>
                         if (0 : Int) ≤ z1762.1 ∧ z1762.1 < ((z1772.2.2.2.2.1 : Nat) : Int) then
                          if 0 + Int.toNat (z1762.1) < z1772.2.2.2.2.1 ∧ 2 = 2 then
                           dn ((z1772.1, z1772.2.1, z1772.2.2.1, z1772.2.2.2.1, z1772.2.2.2.2.1, z1772.2.2.2.2.2.1, fun (j : Nat) => if j = 0 + Int.toNat (z1762.1) then ((z1772.2.2.2.2.1 : Nat) : Int) else z1772.2.2.2.2.2.2 j))
                          else
                           none
                         else
                          none
                       else
                        none
                      else
                       none
                    else
                     if (0 : Int) ≤ z1742.1 ∧ z1742.1 < ((z1752.2.2.2.2.1 : Nat) : Int) then
                      if 0 + Int.toNat (z1742.1) < z1752.2.2.2.2.1 ∧ 2 = 2 then
                       dn ((z1752.1, z1752.2.1, z1752.2.2.1, z1752.2.2.2.1, z1752.2.2.2.2.1, z1752.2.2.2.2.2.1, fun (j : Nat) => if j = 0 + Int.toNat (z1742.1) then ((z1752.2.2.2.2.1 : Nat) : Int) else z1752.2.2.2.2.2.2 j))
                      else
                       none
                     else
                      none
      else
       if (z8.1 == (0 : Int)) = true then
        (c_nextA (((8 : Int), z8.2))).bind fun z1781 =>
         (c_nextA (((50 : Int), z1781.2))).bind fun z1790 =>
          (c_putA (((23 : Int), w (w (z1781.1 * (1000000 : Int)) + z1790.1), z1790.2))).bind fun z1800 =>
           dn (z1800.2)
       else
        if (z8.1 == (1 : Int)) = true then
         (c_nextA (((4000 : Int), z8.2))).bind fun z1809 =>
          (c_putA (((24 : Int), z1809))).bind fun z1819 =>
           dn (z1819.2)
        else
         if (z8.1 == (2 : Int)) = true then
          (c_nextA (((4000 : Int), z8.2))).bind fun z1828 =>
           (c_putA (((25 : Int), z1828))).bind fun z1838 =>
            dn (z1838.2)
         else
          if (z8.1 == (3 : Int)) = true then
           (c_nextA (((50 : Int), z8.2))).bind fun z1847 =>
            (c_putA (((18 : Int), z1847))).bind fun z1857 =>
             dn (z1857.2)
          else
           if (z8.1 == (4 : Int)) = true then
            (c_nextA (((720 : Int), z8.2))).bind fun z1866 =>
             (c_putA (((1 : Int), w (z1866.1 - (360 : Int)), z1866.2))).bind fun z1876 =>
              (c_putA (((22 : Int), (0 : Int), z1876.2))).bind fun z1886 =>
               dn (z1886.2)
           else
            if (z8.1 == (5 : Int)) = true then
             (c_nextA (((100 : Int), z8.2))).bind fun z1895 =>
              (c_putA (((26 : Int), z1895))).bind fun z1905 =>
               dn (z1905.2)
            else
             if (z8.1 == (6 : Int)) = true then
              (c_condA (z8.2)).bind fun z1913 =>
               (c_putA (((21 : Int), (0 : Int), z1913))).bind fun z1923 =>
                dn (z1923.2)
             else
              if (z8.1 == (7 : Int)) = true then
               (c_nextA (((4 : Int), z8.2))).bind fun z1932 =>
                (c_putA (((16 : Int), w ((1 : Int) + z1932.1), z1932.2))).bind fun z1942 =>
                 (c_blockA (((2 : Int), w (x.1 - (1 : Int)), z1942.2))).bind fun z1952 =>
                  (c_putA (((17 : Int), w (z1942.1 + (1 : Int)), z1952))).bind fun z1962 =>
                   dn (z1962.2)
              else
               if (z8.1 == (8 : Int)) = true then
                (c_nextA (((30 : Int), z8.2))).bind fun z1971 =>
                 (c_putA (((19 : Int), z1971))).bind fun z1981 =>
                  (c_condA (z1981.2)).bind fun z1989 =>
                   (c_putA (((20 : Int), w (z1981.1 + (1 : Int)), z1989))).bind fun z1999 =>
                    dn (z1999.2)
               else
                if (z8.1 == (9 : Int)) = true then
                 (c_nextA (((1000 : Int), z8.2))).bind fun z2008 =>
                  (c_putA (((27 : Int), z2008))).bind fun z2018 =>
                   dn (z2018.2)
                else
                 (c_condA (z8.2)).bind fun z2026 =>
                  (c_putA (((15 : Int), (0 : Int), z2026))).bind fun z2036 =>
                   (c_blockA (((2 : Int), w (x.1 - (1 : Int)), z2036.2))).bind fun z2046 =>
                    if (z8.1 == (11 : Int)) = true then
                     (c_putA (((14 : Int), (0 : Int), z2046))).bind fun z2056 =>
                      if (0 : Int) ≤ z2036.1 ∧ z2036.1 < ((z2056.2.2.2.2.2.1 : Nat) : Int) then
                       if 0 + Int.toNat (z2036.1) < z2056.2.2.2.2.2.1 ∧ 2 = 2 then
                        (c_blockA (((2 : Int), w (x.1 - (1 : Int)), z2056.2.1, z2056.2.2.1, z2056.2.2.2.1, z2056.2.2.2.2.1, z2056.2.2.2.2.2.1, z2056.2.2.2.2.2.2.1, fun (j : Nat) => if j = 0 + Int.toNat (z2036.1) then ((z2056.2.2.2.2.2.1 : Nat) : Int) else z2056.2.2.2.2.2.2.2 j))).bind fun z2066 =>
                         if (0 : Int) ≤ z2056.1 ∧ z2056.1 < ((z2066.2.2.2.2.1 : Nat) : Int) then
                          if 0 + Int.toNat (z2056.1) < z2066.2.2.2.2.1 ∧ 2 = 2 then
                           dn ((z2066.1, z2066.2.1, z2066.2.2.1, z2066.2.2.2.1, z2066.2.2.2.2.1, z2066.2.2.2.2.2.1, fun (j : Nat) => if j = 0 + Int.toNat (z2056.1) then ((z2066.2.2.2.2.1 : Nat) : Int) else z2066.2.2.2.2.2.2 j))
                          else
                           none
                         else
                          none
                       else
                        none
                      else
                       none
                    else
                     if (0 : Int) ≤ z2036.1 ∧ z2036.1 < ((z2046.2.2.2.2.1 : Nat) : Int) then
                      if 0 + Int.toNat (z2036.1) < z2046.2.2.2.2.1 ∧ 2 = 2 then
                       dn ((z2046.1, z2046.2.1, z2046.2.2.1, z2046.2.2.2.1, z2046.2.2.2.2.1, z2046.2.2.2.2.2.1, fun (j : Nat) => if j = 0 + Int.toNat (z2036.1) then ((z2046.2.2.2.2.1 : Nat) : Int) else z2046.2.2.2.2.2.2 j))
                      else
                       none
                     else
                      none
     else
      if (z8.1 == (0 : Int)) = true then
       (c_nextA (((8 : Int), z8.2))).bind fun z2075 =>
        (c_nextA (((50 : Int), z2075.2))).bind fun z2084 =>
         (c_putA (((23 : Int), w (w (z2075.1 * (1000000 : Int)) + z2084.1), z2084.2))).bind fun z2094 =>
          dn (z2094.2)
      else
       if (z8.1 == (1 : Int)) = true then
        (c_nextA (((4000 : Int), z8.2))).bind fun z2103 =>
         (c_putA (((24 : Int), z2103))).bind fun z2113 =>
          dn (z2113.2)
       else
        if (z8.1 == (2 : Int)) = true then
         (c_nextA (((4000 : Int), z8.2))).bind fun z2122 =>
          (c_putA (((25 : Int), z2122))).bind fun z2132 =>
           dn (z2132.2)
        else
         if (z8.1 == (3 : Int)) = true then
          (c_nextA (((50 : Int), z8.2))).bind fun z2141 =>
           (c_putA (((18 : Int), z2141))).bind fun z2151 =>
            dn (z2151.2)
         else
          if (z8.1 == (4 : Int)) = true then
           (c_nextA (((720 : Int), z8.2))).bind fun z2160 =>
            (c_putA (((1 : Int), w (z2160.1 - (360 : Int)), z2160.2))).bind fun z2170 =>
             (c_putA (((22 : Int), (0 : Int), z2170.2))).bind fun z2180 =>
              dn (z2180.2)
          else
           if (z8.1 == (5 : Int)) = true then
            (c_nextA (((100 : Int), z8.2))).bind fun z2189 =>
             (c_putA (((26 : Int), z2189))).bind fun z2199 =>
              dn (z2199.2)
           else
            if (z8.1 == (6 : Int)) = true then
             (c_condA (z8.2)).bind fun z2207 =>
              (c_putA (((21 : Int), (0 : Int), z2207))).bind fun z2217 =>
               dn (z2217.2)
            else
             if (z8.1 == (7 : Int)) = true then
              (c_nextA (((4 : Int), z8.2))).bind fun z2226 =>
               (c_putA (((16 : Int), w ((1 : Int) + z2226.1), z2226.2))).bind fun z2236 =>
                (c_blockA (((2 : Int), w (x.1 - (1 : Int)), z2236.2))).bind fun z2246 =>
                 (c_putA (((17 : Int), w (z2236.1 + (1 : Int)), z2246))).bind fun z2256 =>
                  dn (z2256.2)
             else
              if (z8.1 == (8 : Int)) = true then
               (c_nextA (((30 : Int), z8.2))).bind fun z2265 =>
                (c_putA (((19 : Int), z2265))).bind fun z2275 =>
                 (c_condA (z2275.2)).bind fun z2283 =>
                  (c_putA (((20 : Int), w (z2275.1 + (1 : Int)), z2283))).bind fun z2293 =>
                   dn (z2293.2)
              else
               if (z8.1 == (9 : Int)) = true then
                (c_nextA (((1000 : Int), z8.2))).bind fun z2302 =>
                 (c_putA (((27 : Int), z2302))).bind fun z2312 =>
                  dn (z2312.2)
               else
                (c_condA (z8.2)).bind fun z2320 =>
                 (c_putA (((15 : Int), (0 : Int), z2320))).bind fun z2330 =>
                  (c_blockA (((2 : Int), w (x.1 - (1 : Int)), z2330.2))).bind fun z2340 =>
                   if (z8.1 == (11 : Int)) = true then
                    (c_putA (((14 : Int), (0 : Int), z2340))).bind fun z2350 =>
                     if (0 : Int) ≤ z2330.1 ∧ z2330.1 < ((z2350.2.2.2.2.2.1 : Nat) : Int) then
                      if 0 + Int.toNat (z2330.1) < z2350.2.2.2.2.2.1 ∧ 2 = 2 then
                       (c_blockA (((2 : Int), w (x.1 - (1 : Int)), z2350.2.1, z2350.2.2.1, z2350.2.2.2.1, z2350.2.2.2.2.1, z2350.2.2.2.2.2.1, z2350.2.2.2.2.2.2.1, fun (j : Nat) => if j = 0 + Int.toNat (z2330.1) then ((z2350.2.2.2.2.2.1 : Nat) : Int) else z2350.2.2.2.2.2.2.2 j))).bind fun z2360 =>
                        if (0 : Int) ≤ z2350.1 ∧ z2350.1 < ((z2360.2.2.2.2.1 : Nat) : Int) then
                         if 0 + Int.toNat (z2350.1) < z2360.2.2.2.2.1 ∧ 2 = 2 then
                          dn ((z2360.1, z2360.2.1, z2360.2.2.1, z2360.2.2.2.1, z2360.2.2.2.2.1, z2360.2.2.2.2.2.1, fun (j : Nat) => if j = 0 + Int.toNat (z2350.1) then ((z2360.2.2.2.2.1 : Nat) : Int) else z2360.2.2.2.2.2.2 j))
                         else
                          none
                        else
                         none
                      else
                       none
                     else
                      none
                   else
                    if (0 : Int) ≤ z2330.1 ∧ z2330.1 < ((z2340.2.2.2.2.1 : Nat) : Int) then
                     if 0 + Int.toNat (z2330.1) < z2340.2.2.2.2.1 ∧ 2 = 2 then
                      dn ((z2340.1, z2340.2.1, z2340.2.2.1, z2340.2.2.2.1, z2340.2.2.2.2.1, z2340.2.2.2.2.2.1, fun (j : Nat) => if j = 0 + Int.toNat (z2330.1) then ((z2340.2.2.2.2.1 : Nat) : Int) else z2340.2.2.2.2.2.2 j))
                     else
                      none
                    else
                     none
  else
   if decide (z8.1 ≥ (10 : Int)) = true then
    if decide (x.1 ≤ (0 : Int)) = true then
     if (Int.tmod (z8.1) (7 : Int) == (0 : Int)) = true then
      (c_nextA (((8 : Int), z8.2))).bind fun z2369 =>
       (c_nextA (((50 : Int), z2369.2))).bind fun z2378 =>
        (c_putA (((23 : Int), w (w (z2369.1 * (1000000 : Int)) + z2378.1), z2378.2))).bind fun z2388 =>
         dn (z2388.2)
     else
      if (Int.tmod (z8.1) (7 : Int) == (1 : Int)) = true then
       (c_nextA (((4000 : Int), z8.2))).bind fun z2397 =>
        (c_putA (((24 : Int), z2397))).bind fun z2407 =>
         dn (z2407.2)
      else
       if (Int.tmod (z8.1) (7 : Int) == (2 : Int)) = true then
        (c_nextA (((4000 : Int), z8.2))).bind fun z2416 =>
         (c_putA (((25 : Int), z2416))).bind fun z2426 =>
          dn (z2426.2)
       else
        if (Int.tmod (z8.1) (7 : Int) == (3 : Int)) = true then
         (c_nextA (((50 : Int), z8.2))).bind fun z2435 =>
          (c_putA (((18 : Int), z2435))).bind fun z2445 =>
           dn (z2445.2)
        else
         if (Int.tmod (z8.1) (7 : Int) == (4 : Int)) = true then
          (c_nextA (((720 : Int), z8.2))).bind fun z2454 =>
           (c_putA (((1 : Int), w (z2454.1 - (360 : Int)), z2454.2))).bind fun z2464 =>
            (c_putA (((22 : Int), (0 : Int), z2464.2))).bind fun z2474 =>
             dn (z2474.2)
         else
          if (Int.tmod (z8.1) (7 : Int) == (5 : Int)) = true then
           (c_nextA (((100 : Int), z8.2))).bind fun z2483 =>
            (c_putA (((26 : Int), z2483))).bind fun z2493 =>
             dn (z2493.2)
          else
           if (Int.tmod (z8.1) (7 : Int) == (6 : Int)) = true then
            (c_condA (z8.2)).bind fun z2501 =>
             (c_putA (((21 : Int), (0 : Int), z2501))).bind fun z2511 =>
              dn (z2511.2)
           else
            if (Int.tmod (z8.1) (7 : Int) == (7 : Int)) = true then
             (c_nextA (((4 : Int), z8.2))).bind fun z2520 =>
              (c_putA (((16 : Int), w ((1 : Int) + z2520.1), z2520.2))).bind fun z2530 =>
               (c_blockA (((2 : Int), w (x.1 - (1 : Int)), z2530.2))).bind fun z2540 =>
                (c_putA (((17 : Int), w (z2530.1 + (1 : Int)), z2540))).bind fun z2550 =>
                 dn (z2550.2)
            else
             if (Int.tmod (z8.1) (7 : Int) == (8 : Int)) = true then
              (c_nextA (((30 : Int), z8.2))).bind fun z2559 =>
               (c_putA (((19 : Int), z2559))).bind fun z2569 =>
                (c_condA (z2569.2)).bind fun z2577 =>
                 (c_putA (((20 : Int), w (z2569.1 + (1 : Int)), z2577))).bind fun z2587 =>
                  dn (z2587.2)
             else
              if (Int.tmod (z8.1) (7 : Int) == (9 : Int)) = true then
               (c_nextA (((1000 : Int), z8.2))).bind fun z2596 =>
                (c_putA (((27 : Int), z2596))).bind fun z2606 =>
                 dn (z2606.2)
              else
               (c_condA (z8.2)).bind fun z2614 =>
                (c_putA (((15 : Int), (0 : Int), z2614))).bind fun z2624 =>
                 (c_blockA (((2 : Int), w (x.1 - (1 : Int)), z2624.2))).bind fun z2634 =>
                  if (Int.tmod (z8.1) (7 : Int) == (11 : Int)) = true then
                   (c_putA (((14 : Int), (0 : Int), z2634))).bind fun z2644 =>
                    if (0 : Int) ≤ z2624.1 ∧ z2624.1 < ((z2644.2.2.2.2.2.1 : Nat) : Int) then
                     if 0 + Int.toNat (z2624.1) < z2644.2.2.2.2.2.1 ∧ 2 = 2 then
                      (c_blockA (((2 : Int), w (x.1 - (1 : Int)), z2644.2.1, z2644.2.2.1, z2644.2.2.2.1, z2644.2.2.2.2.1, z2644.2.2.2.2.2.1, z2644.2.2.2.2.2.2.1, fun (j : Nat) => if j = 0 + Int.toNat (z2624.1) then ((z2644.2.2.2.2.2.1 : Nat) : Int) else z2644.2.2.2.2.2.2.2 j))).bind fun z2654 =>
                       if (0 : Int) ≤ z2644.1 ∧ z2644.1 < ((z2654.2.2.2.2.1 : Nat) : Int) then
                        if 0 + Int.toNat (z2644.1) < z2654.2.2.2.2.1 ∧ 2 = 2 then
                         dn ((z2654.1, z2654.2.1, z2654.2.2.1, z2654.2.2.2.1, z2654.2.2.2.2.1, z2654.2.2.2.2.2.1, fun (j : Nat) => if j = 0 + Int.toNat (z2644.1) then ((z2654.2.2.2.2.1 : Nat) : Int) else z2654.2.2.2.2.2.2 j))
                        else
                         none
                       else
                        none
                     else
                      none
                    else
                     none
                  else
                   if (0 : Int) ≤ z2624.1 ∧ z2624.1 < ((z2634.2.2.2.2.1 : Nat) : Int) then
                    if 0 + Int.toNat (z2624.1) < z2634.2.2.2.2.1 ∧ 2 = 2 then
                     dn ((z2634.1, z2634.2.1, z2634.2.2.1, z2634.2.2.2.1, z2634.2.2.2.2.1, z2634.2.2.2.2.2.1, fun (j : Nat) => if j = 0 + Int.toNat (z2624.1) then ((z2634.2.2.2.2.1 : Nat) : Int) else z2634.2.2.2.2.2.2 j))
                    else
                     none
                   else
                    none
    else
     if (z8.1 == (7 : Int)) = true then
      if decide (x.1 ≤ (0 : Int)) = true then
       if (Int.tmod (z8.1) (7 : Int) == (0 : Int)) = true then
        (c_nextA (((8 : Int), z8.2))).bind fun z2663 =>
         (c_nextA (((50 : Int), z2663.2))).bind fun z2672 =>
          (c_putA (((23 : Int), w (w (z2663.1 * (1000000 : Int)) + z2672.1), z2672.2))).bind fun z2682 =>
           dn (z2682.2)
       else
        if (Int.tmod (z8.1) (7 : Int) == (1 : Int)) = true then
         (c_nextA (((4000 : Int), z8.2))).bind fun z2691 =>
          (c_putA (((24 : Int), z2691))).bind fun z2701 =>
           dn (z2701.2)
        else
         if (Int.tmod (z8.1) (7 : Int) == (2 : Int)) = true then
          (c_nextA (((4000 : Int), z8.2))).bind fun z2710 =>
           (c_putA (((25 : Int), z2710))).bind fun z2720 =>
            dn (z2720.2)
         else
          if (Int.tmod (z8.1) (7 : Int) == (3 : Int)) = true then
           (c_nextA (((50 : Int), z8.2))).bind fun z2729 =>
            (c_putA (((18 : Int), z2729))).bind fun z2739 =>
             dn (z2739.2)
          else
           if (Int.tmod (z8.1) (7 : Int) == (4 : Int)) = true then
            (c_nextA (((720 : Int), z8.2))).bind fun z2748 =>
             (c_putA (((1 : Int), w (z2748.1 - (360 : Int)), z2748.2))).bind fun z2758 =>
              (c_putA (((22 : Int), (0 : Int), z2758.2))).bind fun z2768 =>
               dn (z2768.2)
           else
            if (Int.tmod (z8.1) (7 : Int) == (5 : Int)) = true then
             (c_nextA (((100 : Int), z8.2))).bind fun z2777 =>
              (c_putA (((26 : Int), z2777))).bind fun z2787 =>
               dn (z2787.2)
            else
             if (Int.tmod (z8.1) (7 : Int) == (6 : Int)) = true then
              (c_condA (z8.2)).bind fun z2795 =>
               (c_putA (((21 : Int), (0 : Int), z2795))).bind fun z2805 =>
                dn (z2805.2)
             else
              if (Int.tmod (z8.1) (7 : Int) == (7 : Int)) = true then
               (c_nextA (((4 : Int), z8.2))).bind fun z2814 =>
                (c_putA (((16 : Int), w ((1 : Int) + z2814.1), z2814.2))).bind fun z2824 =>
                 (c_blockA (((2 : Int), w (x.1 - (1 : Int)), z2824.2))).bind fun z2834 =>
                  (c_putA (((17 : Int), w (z2824.1 + (1 : Int)), z2834))).bind fun z2844 =>
                   dn (z2844.2)
              else
               if (Int.tmod (z8.1) (7 : Int) == (8 : Int)) = true then
                (c_nextA (((30 : Int), z8.2))).bind fun z2853 =>
                 (c_putA (((19 : Int), z2853))).bind fun z2863 =>
                  (c_condA (z2863.2)).bind fun z2871 =>
                   (c_putA (((20 : Int), w (z2863.1 + (1 : Int)), z2871))).bind fun z2881 =>
                    dn (z2881.2)
               else
                if (Int.tmod (z8.1) (7 : Int) == (9 : Int)) = true then
                 (c_nextA (((1000 : Int), z8.2))).bind fun z2890 =>
                  (c_putA (((27 : Int), z2890))).bind fun z2900 =>
                   dn (z2900.2)
                else
                 (c_condA (z8.2)).bind fun z2908 =>
                  (c_putA (((15 : Int), (0 : Int), z2908))).bind fun z2918 =>
                   (c_blockA (((2 : Int), w (x.1 - (1 : Int)), z2918.2))).bind fun z2928 =>
                    if (Int.tmod (z8.1) (7 : Int) == (11 : Int)) = true then
                     (c_putA (((14 : Int), (0 : Int), z2928))).bind fun z2938 =>
                      if (0 : Int) ≤ z2918.1 ∧ z2918.1 < ((z2938.2.2.2.2.2.1 : Nat) : Int) then
                       if 0 + Int.toNat (z2918.1) < z2938.2.2.2.2.2.1 ∧ 2 = 2 then
                        (c_blockA (((2 : Int), w (x.1 - (1 : Int)), z2938.2.1, z2938.2.2.1, z2938.2.2.2.1, z2938.2.2.2.2.1, z2938.2.2.2.2.2.1, z2938.2.2.2.2.2.2.1, fun (j : Nat) => if j = 0 + Int.toNat (z2918.1) then ((z2938.2.2.2.2.2.1 : Nat) : Int) else z2938.2.2.2.2.2.2.2 j))).bind fun z2948 =>
                         if (0 : Int) ≤ z2938.1 ∧ z2938.1 < ((z2948.2.2.2.2.1 : Nat) : Int) then
                          if 0 + Int.toNat (z2938.1) < z2948.2.2.2.2.1 ∧ 2 = 2 then
                           dn ((z2948.1, z2948.2.1, z2948.2.2.1, z2948.2.2.2.1, z2948.2.2.2.2.1, z2948.2.2.2.2.2.1, fun (j : Nat) => if j = 0 + Int.toNat (z2938.1) then ((z2948.2.2.2.2.1 : Nat) : Int) else z2948.2.2.2.2.2.2 j))
                          else
                           none
                         else
                          none
                       else
                        none
                      else
                       none
                    else
                     if (0 : Int) ≤ z2918.1 ∧ z2918.1 < ((z2928.2.2.2.2.1 : Nat) : Int) then
                      if 0 + Int.toNat (z2918.1) < z2928.2.2.2.2.1 ∧ 2 = 2 then
                       dn ((z2928.1, z2928.2.1, z2928.2.2.1, z2928.2.2.2.1, z2928.2.2.2.2.1, z2928.2.2.2.2.2.1, fun (j : Nat) => if j = 0 + Int.toNat (z2918.1) then ((z2928.2.2.2.2.1 : Nat) : Int) else z2928.2.2.2.2.2.2 j))
                      else
                       none
                     else
                      none
      else
       if (z8.1 == (0 : Int)) = true then
        (c_nextA (((8 : Int), z8.2))).bind fun z2957 =>
         (c_nextA (((50 : Int), z2957.2))).bind fun z2966 =>
          (c_putA (((23 : Int), w (w (z2957.1 * (1000000 : Int)) + z2966.1), z2966.2))).bind fun z2976 =>
           dn (z2976.2)
       else
        if (z8.1 == (1 : Int)) = true then
         (c_nextA (((4000 : Int), z8.2))).bind fun z2985 =>
          (c_putA (((24 : Int), z2985))).bind fun z2995 =>
           dn (z2995.2)
        else
         if (z8.1 == (2 : Int)) = true then
          (c_nextA (((4000 : Int), z8.2))).bind fun z3004 =>
           (c_putA (((25 : Int), z3004))).bind fun z3014 =>
            dn (z3014.2)
         else
          if (z8.1 == (3 : Int)) = true then
           (c_nextA (((50 : Int), z8.2))).bind fun z3023 =>
            (c_putA (((18 : Int), z3023))).bind fun z3033 =>
             dn (z3033.2)
          else
           if (z8.1 == (4 : Int)) = true then
            (c_nextA (((720 : Int), z8.2))).bind fun z3042 =>
             (c_putA (((1 : Int), w (z3042.1 - (360 : Int)), z3042.2))).bind fun z3052 =>
              (c_putA (((22 : Int), (0 : Int), z3052.2))).bind fun z3062 =>
               dn (z3062.2)
           else
            if (z8.1 == (5 : Int)) = true then
             (c_nextA (((100 : Int), z8.2))).bind fun z3071 =>
              (c_putA (((26 : Int), z3071))).bind fun z3081 =>
               dn (z3081.2)
            else
             if (z8.1 == (6 : Int)) = true then
              (c_condA (z8.2)).bind fun z3089 =>
               (c_putA (((21 : Int), (0 : Int), z3089))).bind fun z3099 =>
                dn (z3099.2)
             else
              if (z8.1 == (7 : Int)) = true then
               (c_nextA (((4 : Int), z8.2))).bind fun z3108 =>
                (c_putA (((16 : Int), w ((1 : Int) + z3108.1), z3108.2))).bind fun z3118 =>
                 (c_blockA (((2 : Int), w (x.1 - (1 : Int)), z3118.2))).bind fun z3128 =>
                  (c_putA (((17 : Int), w (z3118.1 + (1 : Int)), z3128))).bind fun z3138 =>
                   dn (z3138.2)
              else
               if (z8.1 == (8 : Int)) = true then
                (c_nextA (((30 : Int), z8.2))).bind fun z3147 =>
                 (c_putA (((19 : Int), z3147))).bind fun z3157 =>
                  (c_condA (z3157.2)).bind fun z3165 =>
                   (c_putA (((20 : Int), w (z3157.1 + (1 : Int)), z3165))).bind fun z3175 =>
                    dn (z3175.2)
               else
                if (z8.1 == (9 : Int)) = true then
                 (c_nextA (((1000 : Int), z8.2))).bind fun z3184 =>
                  (c_putA (((27 : Int), z3184))).bind fun z3194 =>
                   dn (z3194.2)
                else
                 (c_condA (z8.2)).bind fun z3202 =>
                  (c_putA (((15 : Int), (0 : Int), z3202))).bind fun z3212 =>
                   (c_blockA (((2 : Int), w (x.1 - (1 : Int)), z3212.2))).bind fun z3222 =>
                    if (z8.1 == (11 : Int)) = true then
                     (c_putA (((14 : Int), (0 : Int), z3222))).bind fun z3232 =>
                      if (0 : Int) ≤ z3212.1 ∧ z3212.1 < ((z3232.2.2.2.2.2.1 : Nat) : Int) then
                       if 0 + Int.toNat (z3212.1) < z3232.2.2.2.2.2.1 ∧ 2 = 2 then
                        (c_blockA (((2 : Int), w (x.1 - (1 : Int)), z3232.2.1, z3232.2.2.1, z3232.2.2.2.1, z3232.2.2.2.2.1, z3232.2.2.2.2.2.1, z3232.2.2.2.2.2.2.1, fun (j : Nat) => if j = 0 + Int.toNat (z3212.1) then ((z3232.2.2.2.2.2.1 : Nat) : Int) else z3232.2.2.2.2.2.2.2 j))).bind fun z3242 =>
                         if (0 : Int) ≤ z3232.1 ∧ z3232.1 < ((z3242.2.2.2.2.1 : Nat) : Int) then
                          if 0 + Int.toNat (z3232.1) < z3242.2.2.2.2.1 ∧ 2 = 2 then
                           dn ((z3242.1, z3242.2.1, z3242.2.2.1, z3242.2.2.2.1, z3242.2.2.2.2.1, z3242.2.2.2.2.2.1, fun (j : Nat) => if j = 0 + Int.toNat (z3232.1) then ((z3242.2.2.2.2.1 : Nat) : Int) else z3242.2.2.2.2.2.2 j))
                          else
                           none
                         else
                          none
                       else
                        none
                      else
                       none
                    else
                     if (0 : Int) ≤ z3212.1 ∧ z3212.1 < ((z3222.2.2.2.2.1 : Nat) : Int) then
                      if 0 + Int.toNat (z3212.1) < z3222.2.2.2.2.1 ∧ 2 = 2 then
                       dn ((z3222.1, z3222.2.1, z3222.2.2.1, z3222.2.2.2.1, z3222.2.2.2.2.1, z3222.2.2.2.2.2.1, fun (j : Nat) => if j = 0 + Int.toNat (z3212.1) then ((z3222.2.2.2.2.1 : Nat) : Int) else z3222.2.2.2.2.2.2 j))
                      else
                       none
                     else
                      none
     else
      if (z8.1 == (0 : Int)) = true then
       (c_nextA (((8 : Int), z8.2))).bind fun z3251 =>
        (c_nextA (((50 : Int), z3251.2))).bind fun z3260 =>
         (c_putA (((23 : Int), w (w (z3251.1 * (1000000 : Int)) + z3260.1), z3260.2))).bind fun z3270 =>
          dn (z3270.2)
      else
       if (z8.1 == (1 : Int)) = true then
        (c_nextA (((4000 : Int), z8.2))).bind fun z3279 =>
         (c_putA (((24 : Int), z3279))).bind fun z3289 =>
          dn (z3289.2)
       else
        if (z8.1 == (2 : Int)) = true then
         (c_nextA (((4000 : Int), z8.2))).bind fun z3298 =>
          (c_putA (((25 : Int), z3298))).bind fun z3308 =>
           dn (z3308.2)
        else
         if (z8.1 == (3 : Int)) = true then
          (c_nextA (((50 : Int), z8.2))).bind fun z3317 =>
           (c_putA (((18 : Int), z3317))).bind fun z3327 =>
            dn (z3327.2)
         else
          if (z8.1 == (4 : Int)) = true then
           (c_nextA (((720 : Int), z8.2))).bind fun z3336 =>
            (c_putA (((1 : Int), w (z3336.1 - (360 : Int)), z3336.2))).bind fun z3346 =>
             (c_putA (((22 : Int), (0 : Int), z3346.2))).bind fun z3356 =>
              dn (z3356.2)
          else
           if (z8.1 == (5 : Int)) = true then
            (c_nextA (((100 : Int), z8.2))).bind fun z3365 =>
             (c_putA (((26 : Int), z3365))).bind fun z3375 =>
              dn (z3375.2)
           else
            if (z8.1 == (6 : Int)) = true then
             (c_condA (z8.2)).bind fun z3383 =>
              (c_putA (((21 : Int), (0 : Int), z3383))).bind fun z3393 =>
               dn (z3393.2)
            else
             if (z8.1 == (7 : Int)) = true then
              (c_nextA (((4 : Int), z8.2))).bind fun z3402 =>
               (c_putA (((16 : Int), w ((1 : Int) + z3402.1), z3402.2))).bind fun z3412 =>
                (c_blockA (((2 : Int), w (x.1 - (1 : Int)), z3412.2))).bind fun z3422 =>
                 (c_putA (((17 : Int), w (z3412.1 + (1 : Int)), z3422))).bind fun z3432 =>
                  dn (z3432.2)
             else
              if (z8.1 == (8 : Int)) = true then
               (c_nextA (((30 : Int), z8.2))).bind fun z3441 =>
                (c_putA (((19 : Int), z3441))).bind fun z3451 =>
                 (c_condA (z3451.2)).bind fun z3459 =>
                  (c_putA (((20 : Int), w (z3451.1 + (1 : Int)), z3459))).bind fun z3469 =>
                   dn (z3469.2)
              else
               if (z8.1 == (9 : Int)) = true then
                (c_nextA (((1000 : Int), z8.2))).bind fun z3478 =>
                 (c_putA (((27 : Int), z3478))).bind fun z3488 =>
                  dn (z3488.2)
               else
                (c_condA (z8.2)).bind fun z3496 =>
                 (c_putA (((15 : Int), (0 : Int), z3496))).bind fun z3506 =>
                  (c_blockA (((2 : Int), w (x.1 - (1 : Int)), z3506.2))).bind fun z3516 =>
                   if (z8.1 == (11 : Int)) = true then
                    (c_putA (((14 : Int), (0 : Int), z3516))).bind fun z3526 =>
                     if (0 : Int) ≤ z3506.1 ∧ z3506.1 < ((z3526.2.2.2.2.2.1 : Nat) : Int) then
                      if 0 + Int.toNat (z3506.1) < z3526.2.2.2.2.2.1 ∧ 2 = 2 then
                       (c_blockA (((2 : Int), w (x.1 - (1 : Int)), z3526.2.1, z3526.2.2.1, z3526.2.2.2.1, z3526.2.2.2.2.1, z3526.2.2.2.2.2.1, z3526.2.2.2.2.2.2.1, fun (j : Nat) => if j = 0 + Int.toNat (z3506.1) then ((z3526.2.2.2.2.2.1 : Nat) : Int) else z3526.2.2.2.2.2.2.2 j))).bind fun z3536 =>
                        if (0 : Int) ≤ z3526.1 ∧ z3526.1 < ((z3536.2.2.2.2.1 : Nat) : Int) then
                         if 0 + Int.toNat (z3526.1) < z3536.2.2.2.2.1 ∧ 2 = 2 then
                          dn ((z3536.1, z3536.2.1, z3536.2.2.1, z3536.2.2.2.1, z3536.2.2.2.2.1, z3536.2.2.2.2.2.1, fun (j : Nat) => if j = 0 + Int.toNat (z3526.1) then ((z3536.2.2.2.2.1 : Nat) : Int) else z3536.2.2.2.2.2.2 j))
                         else
                          none
                        else
                         none
                      else
                       none
                     else
                      none
                   else
                    if (0 : Int) ≤ z3506.1 ∧ z3506.1 < ((z3516.2.2.2.2.1 : Nat) : Int) then
                     if 0 + Int.toNat (z3506.1) < z3516.2.2.2.2.1 ∧ 2 = 2 then
                      dn ((z3516.1, z3516.2.1, z3516.2.2.1, z3516.2.2.2.1, z3516.2.2.2.2.1, z3516.2.2.2.2.2.1, fun (j : Nat) => if j = 0 + Int.toNat (z3506.1) then ((z3516.2.2.2.2.1 : Nat) : Int) else z3516.2.2.2.2.2.2 j))
                     else
                      none
                    else
                     none
   else
    if (z8.1 == (7 : Int)) = true then
     if decide (x.1 ≤ (0 : Int)) = true then
      if (Int.tmod (z8.1) (7 : Int) == (0 : Int)) = true then
       (c_nextA (((8 : Int), z8.2))).bind fun z3545 =>
        (c_nextA (((50 : Int), z3545.2))).bind fun z3554 =>
         (c_putA (((23 : Int), w (w (z3545.1 * (1000000 : Int)) + z3554.1), z3554.2))).bind fun z3564 =>
          dn (z3564.2)
      else
       if (Int.tmod (z8.1) (7 : Int) == (1 : Int)) = true then
        (c_nextA (((4000 : Int), z8.2))).bind fun z3573 =>
         (c_putA (((24 : Int), z3573))).bind fun z3583 =>
          dn (z3583.2)
       else
        if (Int.tmod (z8.1) (7 : Int) == (2 : Int)) = true then
         (c_nextA (((4000 : Int), z8.2))).bind fun z3592 =>
          (c_putA (((25 : Int), z3592))).bind fun z3602 =>
           dn (z3602.2)
        else
         if (Int.tmod (z8.1) (7 : Int) == (3 : Int)) = true then
          (c_nextA (((50 : Int), z8.2))).bind fun z3611 =>
           (c_putA (((18 : Int), z3611))).bind fun z3621 =>
            dn (z3621.2)
         else
          if (Int.tmod (z8.1) (7 : Int) == (4 : Int)) = true then
           (c_nextA (((720 : Int), z8.2))).bind fun z3630 =>
            (c_putA (((1 : Int), w (z3630.1 - (360 : Int)), z3630.2))).bind fun z3640 =>
             (c_putA (((22 : Int), (0 : Int), z3640.2))).bind fun z3650 =>
              dn (z3650.2)
          else
           if (Int.tmod (z8.1) (7 : Int) == (5 : Int)) = true then
            (c_nextA (((100 : Int), z8.2))).bind fun z3659 =>
             (c_putA (((26 : Int), z3659))).bind fun z3669 =>
              dn (z3669.2)
           else
            if (Int.tmod (z8.1) (7 : Int) == (6 : Int)) = true then
             (c_condA (z8.2)).bind fun z3677 =>
              (c_putA (((21 : Int), (0 : Int), z3677))).bind fun z3687 =>
               dn (z3687.2)
            else
             if (Int.tmod (z8.1) (7 : Int) == (7 : Int)) = true then
              (c_nextA (((4 : Int), z8.2))).bind fun z3696 =>
               (c_putA (((16 : Int), w ((1 : Int) + z3696.1), z3696.2))).bind fun z3706 =>
                (c_blockA (((2 : Int), w (x.1 - (1 : Int)), z3706.2))).bind fun z3716 =>
                 (c_putA (((17 : Int), w (z3706.1 + (1 : Int)), z3716))).bind fun z3726 =>
                  dn (z3726.2)
             else
              if (Int.tmod (z8.1) (7 : Int) == (8 : Int)) = true then
               (c_nextA (((30 : Int), z8.2))).bind fun z3735 =>
                (c_putA (((19 : Int), z3735))).bind fun z3745 =>
                 (c_condA (z3745.2)).bind fun z3753 =>
                  (c_putA (((20 : Int), w (z3745.1 + (1 : Int)), z3753))).bind fun z3763 =>
                   dn (z3763.2)
              else
               if (Int.tmod (z8.1) (7 : Int) == (9 : Int)) = true then
                (c_nextA (((1000 : Int), z8.2))).bind fun z3772 =>
                 (c_putA (((27 : Int), z3772))).bind fun z3782 =>
                  dn (z3782.2)
               else
                (c_condA (z8.2)).bind fun z3790 =>
                 (c_putA (((15 : Int), (0 : Int), z3790))).bind fun z3800 =>
                  (c_blockA (((2 : Int), w (x.1 - (1 : Int)), z3800.2))).bind fun z3810 =>
                   if (Int.tmod (z8.1) (7 : Int) == (11 : Int)) = true then
                    (c_putA (((14 : Int), (0 : Int), z3810))).bind fun z3820 =>
                     if (0 : Int) ≤ z3800.1 ∧ z3800.1 < ((z3820.2.2.2.2.2.1 : Nat) : Int) then
                      if 0 + Int.toNat (z3800.1) < z3820.2.2.2.2.2.1 ∧ 2 = 2 then
                       (c_blockA (((2 : Int), w (x.1 - (1 : Int)), z3820.2.1, z3820.2.2.1, z3820.2.2.2.1, z3820.2.2.2.2.1, z3820.2.2.2.2.2.1, z3820.2.2.2.2.2.2.1, fun (j : Nat) => if j = 0 + Int.toNat (z3800.1) then ((z3820.2.2.2.2.2.1 : Nat) : Int) else z3820.2.2.2.2.2.2.2 j))).bind fun z3830 =>
                        if (0 : Int) ≤ z3820.1 ∧ z3820.1 < ((z3830.2.2.2.2.1 : Nat) : Int) then
                         if 0 + Int.toNat (z3820.1) < z3830.2.2.2.2.1 ∧ 2 = 2 then
                          dn ((z3830.1, z3830.2.1, z3830.2.2.1, z3830.2.2.2.1, z3830.2.2.2.2.1, z3830.2.2.2.2.2.1, fun (j : Nat) => if j = 0 + Int.toNat (z3820.1) then ((z3830.2.2.2.2.1 : Nat) : Int) else z3830.2.2.2.2.2.2 j))
                         else
                          none
                        else
                         none
                      else
                       none
                     else
                      none
                   else
                    if (0 : Int) ≤ z3800.1 ∧ z3800.1 < ((z3810.2.2.2.2.1 : Nat) : Int) then
                     if 0 + Int.toNat (z3800.1) < z3810.2.2.2.2.1 ∧ 2 = 2 then
                      dn ((z3810.1, z3810.2.1, z3810.2.2.1, z3810.2.2.2.1, z3810.2.2.2.2.1, z3810.2.2.2.2.2.1, fun (j : Nat) => if j = 0 + Int.toNat (z3800.1) then ((z3810.2.2.2.2.1 : Nat) : Int) else z3810.2.2.2.2.2.2 j))
                     else
                      none
                    else
                     none
     else
      if (z8.1 == (0 : Int)) = true then
       (c_nextA (((8 : Int), z8.2))).bind fun z3839 =>
        (c_nextA (((50 : Int), z3839.2))).bind fun z3848 =>
         (c_putA (((23 : Int), w (w (z3839.1 * (1000000 : Int)) + z3848.1), z3848.2))).bind fun z3858 =>
          dn (z3858.2)
      else
       if (z8.1 == (1 : Int)) = true then
        (c_nextA (((4000 : Int), z8.2))).bind fun z3867 =>
         (c_putA (((24 : Int), z3867))).bind fun z3877 =>
          dn (z3877.2)
       else
        if (z8.1 == (2 : Int)) = true then
         (c_nextA (((4000 : Int), z8.2))).bind fun z3886 =>
          (c_putA (((25 : Int), z3886))).bind fun z3896 =>
           dn (z3896.2)
        else
         if (z8.1 == (3 : Int)) = true then
          (c_nextA (((50 : Int), z8.2))).bind fun z3905 =>
           (c_putA (((18 : Int), z3905))).bind fun z3915 =>
            dn (z3915.2)
         else
          if (z8.1 == (4 : Int)) = true then
           (c_nextA (((720 : Int), z8.2))).bind fun z3924 =>
            (c_putA (((1 : Int), w (z3924.1 - (360 : Int)), z3924.2))).bind fun z3934 =>
             (c_putA (((22 : Int), (0 : Int), z3934.2))).bind fun z3944 =>
              dn (z3944.2)
          else
           if (z8.1 == (5 : Int)) = true then
            (c_nextA (((100 : Int), z8.2))).bind fun z3953 =>
             (c_putA (((26 : Int), z3953))).bind fun z3963 =>
              dn (z3963.2)
           else
            if (z8.1 == (6 : Int)) = true then
             (c_condA (z8.2)).bind fun z3971 =>
              (c_putA (((21 : Int), (0 : Int), z3971))).bind fun z3981 =>
               dn (z3981.2)
            else
             if (z8.1 == (7 : Int)) = true then
              (c_nextA (((4 : Int), z8.2))).bind fun z3990 =>
               (c_putA (((16 : Int), w ((1 : Int) + z3990.1), z3990.2))).bind fun z4000 =>
                (c_blockA (((2 : Int), w (x.1 - (1 : Int)), z4000.2))).bind fun z4010 =>
                 (c_putA (((17 : Int), w (z4000.1 + (1 : Int)), z4010))).bind fun z4020 =>
                  dn (z4020.2)
             else
              if (z8.1 == (8 : Int)) = true then
               (c_nextA (((30 : Int), z8.2))).bind fun z4029 =>
                (c_putA (((19 : Int), z4029))).bind fun z4039 =>
                 (c_condA (z4039.2)).bind fun z4047 =>
                  (c_putA (((20 : Int), w (z4039.1 + (1 : Int)), z4047))).bind fun z4057 =>
                   dn (z4057.2)
              else
               if (z8.1 == (9 : Int)) = true then
                (c_nextA (((1000 : Int), z8.2))).bind fun z4066 =>
                 (c_putA (((27 : Int), z4066))).bind fun z4076 =>
                  dn (z4076.2)
               else
                (c_condA (z8.2)).bind fun z4084 =>
                 (c_putA (((15 : Int), (0 : Int), z4084))).bind fun z4094 =>
                  (c_blockA (((2 : Int), w (x.1 - (1 : Int)), z4094.2))).bind fun z4104 =>
                   if (z8.1 == (11 : Int)) = true then
                    (c_putA (((14 : Int), (0 : Int), z4104))).bind fun z4114 =>
                     if (0 : Int) ≤ z4094.1 ∧ z4094.1 < ((z4114.2.2.2.2.2.1 : Nat) : Int) then
                      if 0 + Int.toNat (z4094.1) < z4114.2.2.2.2.2.1 ∧ 2 = 2 then
                       (c_blockA (((2 : Int), w (x.1 - (1 : Int)), z4114.2.1, z4114.2.2.1, z4114.2.2.2.1, z4114.2.2.2.2.1, z4114.2.2.2.2.2.1, z4114.2.2.2.2.2.2.1, fun (j : Nat) => if j = 0 + Int.toNat (z4094.1) then ((z4114.2.2.2.2.2.1 : Nat) : Int) else z4114.2.2.2.2.2.2.2 j))).bind fun z4124 =>
                        if (0 : Int) ≤ z4114.1 ∧ z4114.1 < ((z4124.2.2.2.2.1 : Nat) : Int) then
                         if 0 + Int.toNat (z4114.1) < z4124.2.2.2.2.1 ∧ 2 = 2 then
                          dn ((z4124.1, z4124.2.1, z4124.2.2.1, z4124.2.2.2.1, z4124.2.2.2.2.1, z4124.2.2.2.2.2.1, fun (j : Nat) => if j = 0 + Int.toNat (z4114.1) then ((z4124.2.2.2.2.1 : Nat) : Int) else z4124.2.2.2.2.2.2 j))
                         else
                          none
                        else
                         none
                      else
                       none
                     else
                      none
                   else
                    if (0 : Int) ≤ z4094.1 ∧ z4094.1 < ((z4104.2.2.2.2.1 : Nat) : Int) then
                     if 0 + Int.toNat (z4094.1) < z4104.2.2.2.2.1 ∧ 2 = 2 then
                      dn ((z4104.1, z4104.2.1, z4104.2.2.1, z4104.2.2.2.1, z4104.2.2.2.2.1, z4104.2.2.2.2.2.1, fun (j : Nat) => if j = 0 + Int.toNat (z4094.1) then ((z4104.2.2.2.2.1 : Nat) : Int) else z4104.2.2.2.2.2.2 j))
                     else
                      none
                    else
                     none
    else
     if (z8.1 == (0 : Int)) = true then
      (c_nextA (((8 : Int), z8.2))).bind fun z4133 =>
       (c_nextA (((50 : Int), z4133.2))).bind fun z4142 =>
        (c_putA (((23 : Int), w (w (z4133.1 * (1000000 : Int)) + z4142.1), z4142.2))).bind fun z4152 =>
         dn (z4152.2)
     else
      if (z8.1 == (1 : Int)) = true then
       (c_nextA (((4000 : Int), z8.2))).bind fun z4161 =>
        (c_putA (((24 : Int), z4161))).bind fun z4171 =>
         dn (z4171.2)
      else
       if (z8.1 == (2 : Int)) = true then
        (c_nextA (((4000 : Int), z8.2))).bind fun z4180 =>
         (c_putA (((25 : Int), z4180))).bind fun z4190 =>
          dn (z4190.2)
       else
        if (z8.1 == (3 : Int)) = true then
         (c_nextA (((50 : Int), z8.2))).bind fun z4199 =>
          (c_putA (((18 : Int), z4199))).bind fun z4209 =>
           dn (z4209.2)
        else
         if (z8.1 == (4 : Int)) = true then
          (c_nextA (((720 : Int), z8.2))).bind fun z4218 =>
           (c_putA (((1 : Int), w (z4218.1 - (360 : Int)), z4218.2))).bind fun z4228 =>
            (c_putA (((22 : Int), (0 : Int), z4228.2))).bind fun z4238 =>
             dn (z4238.2)
         else
          if (z8.1 == (5 : Int)) = true then
           (c_nextA (((100 : Int), z8.2))).bind fun z4247 =>
            (c_putA (((26 : Int), z4247))).bind fun z4257 =>
             dn (z4257.2)
          else
           if (z8.1 == (6 : Int)) = true then
            (c_condA (z8.2)).bind fun z4265 =>
             (c_putA (((21 : Int), (0 : Int), z4265))).bind fun z4275 =>
              dn (z4275.2)
           else
            if (z8.1 == (7 : Int)) = true then
             (c_nextA (((4 : Int), z8.2))).bind fun z4284 =>
              (c_putA (((16 : Int), w ((1 : Int) + z4284.1), z4284.2))).bind fun z4294 =>
               (c_blockA (((2 : Int), w (x.1 - (1 : Int)), z4294.2))).bind fun z4304 =>
                (c_putA (((17 : Int), w (z4294.1 + (1 : Int)), z4304))).bind fun z4314 =>
                 dn (z4314.2)
            else
             if (z8.1 == (8 : Int)) = true then
              (c_nextA (((30 : Int), z8.2))).bind fun z4323 =>
               (c_putA (((19 : Int), z4323))).bind fun z4333 =>
                (c_condA (z4333.2)).bind fun z4341 =>
                 (c_putA (((20 : Int), w (z4333.1 + (1 : Int)), z4341))).bind fun z4351 =>
                  dn (z4351.2)
             else
              if (z8.1 == (9 : Int)) = true then
               (c_nextA (((1000 : Int), z8.2))).bind fun z4360 =>
                (c_putA (((27 : Int), z4360))).bind fun z4370 =>
                 dn (z4370.2)
              else
               (c_condA (z8.2)).bind fun z4378 =>
                (c_putA (((15 : Int), (0 : Int), z4378))).bind fun z4388 =>
                 (c_blockA (((2 : Int), w (x.1 - (1 : Int)), z4388.2))).bind fun z4398 =>
                  if (z8.1 == (11 : Int)) = true then
                   (c_putA (((14 : Int), (0 : Int), z4398))).bind fun z4408 =>
                    if (0 : Int) ≤ z4388.1 ∧ z4388.1 < ((z4408.2.2.2.2.2.1 : Nat) : Int) then
                     if 0 + Int.toNat (z4388.1) < z4408.2.2.2.2.2.1 ∧ 2 = 2 then
                      (c_blockA (((2 : Int), w (x.1 - (1 : Int)), z4408.2.1, z4408.2.2.1, z4408.2.2.2.1, z4408.2.2.2.2.1, z4408.2.2.2.2.2.1, z4408.2.2.2.2.2.2.1, fun (j : Nat) => if j = 0 + Int.toNat (z4388.1) then ((z4408.2.2.2.2.2.1 : Nat) : Int) else z4408.2.2.2.2.2.2.2 j))).bind fun z4418 =>
                       if (0 : Int) ≤ z4408.1 ∧ z4408.1 < ((z4418.2.2.2.2.1 : Nat) : Int) then
                        if 0 + Int.toNat (z4408.1) < z4418.2.2.2.2.1 ∧ 2 = 2 then
                         dn ((z4418.1, z4418.2.1, z4418.2.2.1, z4418.2.2.2.1, z4418.2.2.2.2.1, z4418.2.2.2.2.2.1, fun (j : Nat) => if j = 0 + Int.toNat (z4408.1) then ((z4418.2.2.2.2.1 : Nat) : Int) else z4418.2.2.2.2.2.2 j))
                        else
                         none
                       else
                        none
                     else
                      none
                    else
                     none
                  else
                   if (0 : Int) ≤ z4388.1 ∧ z4388.1 < ((z4398.2.2.2.2.1 : Nat) : Int) then
                    if 0 + Int.toNat (z4388.1) < z4398.2.2.2.2.1 ∧ 2 = 2 then
                     dn ((z4398.1, z4398.2.1, z4398.2.2.1, z4398.2.2.2.1, z4398.2.2.2.2.1, z4398.2.2.2.2.2.1, fun (j : Nat) => if j = 0 + Int.toNat (z4388.1) then ((z4398.2.2.2.2.1 : Nat) : Int) else z4398.2.2.2.2.2.2 j))
                    else
                     none
                   else
                    none
theorem n_stmtA {β : Type} (c_nextA : a_nextA → Option g_nextA) (c_putA : a_putA → Option g_putA) (c_condA : a_condA → Option g_condA) (c_blockA : a_blockA → Option g_blockA) (x : a_stmtA) (dn : g_stmtA → Option β) : t_stmtA c_nextA c_putA c_condA c_blockA x dn = (t_stmtA c_nextA c_putA c_condA c_blockA x some).bind dn := by
  unfold t_stmtA
  repeat' first | exact free_none | refine free_bind (fun z => ?_) | refine free_ite ?_ ?_ | refine free_sum (fun z => ?_) (fun z => ?_) | rfl
theorem r_stmtA (c_nextA : a_nextA → Option g_nextA) (c_putA : a_putA → Option g_putA) (c_condA : a_condA → Option g_condA) (c_blockA : a_blockA → Option g_blockA) (x : a_stmtA) : callK E3 (ftab 54 (fun _ L => L.length == 2) A_nextA x_nextA c_nextA (ftab 37 (fun _ L => L.length == 2) A_putA x_putA c_putA (ftab 68 (fun _ L => L.length == 2) A_condA x_condA c_condA (ftab 36 (fun _ L => L.length == 2) A_blockA x_blockA c_blockA ca0)))) lo0 55 (A_stmtA x).1 (A_stmtA x).2 K = t_stmtA (fun x => viaF A_nextA c_nextA (A_nextA x)) (fun x => viaF A_putA c_putA (A_putA x)) (fun x => viaF A_condA c_condA (A_condA x)) (fun x => viaF A_blockA c_blockA (A_blockA x)) x (fun z => some (.c (R_stmtA z))) := by kernel_rfl
theorem s_stmtA (c_nextA : a_nextA → Option g_nextA) (h_nextA : ∀ x z, c_nextA x = some z → SC E3 54 (A_nextA x).1 (A_nextA x).2 (R_nextA z)) (c_putA : a_putA → Option g_putA) (h_putA : ∀ x z, c_putA x = some z → SC E3 37 (A_putA x).1 (A_putA x).2 (R_putA z)) (c_condA : a_condA → Option g_condA) (h_condA : ∀ x z, c_condA x = some z → SC E3 68 (A_condA x).1 (A_condA x).2 (R_condA z)) (c_blockA : a_blockA → Option g_blockA) (h_blockA : ∀ x z, c_blockA x = some z → SC E3 36 (A_blockA x).1 (A_blockA x).2 (R_blockA z)) (q : Nat) (x : a_stmtA) (z : g_stmtA) (h : t_stmtA c_nextA c_putA c_condA c_blockA x some = some z) : SC E3 55 (A_stmtA x).1 (A_stmtA x).2 (R_stmtA z) := by
  refine SC.of hW3 hX3 (ftab_cons h_nextA xe_nextA (ftab_cons h_putA xe_putA (ftab_cons h_condA xe_condA (ftab_cons h_blockA xe_blockA ca0_sound)))) lo0_sound ((r_stmtA c_nextA c_putA c_condA c_blockA x).trans ?_)
  rw [via_eq i_nextA c_nextA, via_eq i_putA c_putA, via_eq i_condA c_condA, via_eq i_blockA c_blockA, n_stmtA, h]; rfl
abbrev blockA_l0_a : Type := Int × Nat × (Nat → Int) × Int × Bool × Nat × (Nat → Int) × (Nat → Int) × Int
abbrev blockA_l0_g : Type := Nat × (Nat → Int) × Int × Bool × Nat × (Nat → Int) × (Nat → Int)
def blockA_l0_S (x : a_blockA) (y : blockA_l0_a) : St := { fr := [V.ptr 0 0, V.junk, i64 (x.2.1), V.junk, V.junk, V.junk, i64 (y.1), i64 (y.2.2.2.2.2.2.2.2)] ++ jk 20, H := hp [some (Chunk.blk [V.ro 1 (y.2.1) fun (j : Nat) => [i64 (y.2.2.1 j)], i64 (y.2.2.2.1), bo (y.2.2.2.2.1), V.sl 1 2 0 (y.2.2.2.2.2.1)]), some (Chunk.row 74 2 (y.2.2.2.2.2.1) fun (j : Nat) => [i64 (y.2.2.2.2.2.2.1 j), i64 (y.2.2.2.2.2.2.2.1 j)])], nx := 2, rt := 1, me := 36 }
def blockA_l0_d (s : St) : blockA_l0_a := ((vI (s.fr.getD 6 .junk)), (vRoN ((chB (s.H 0)).getD 0 .junk)), (fun j => (vI (((vRoF ((chB (s.H 0)).getD 0 .junk)) j).getD 0 .junk))), (vI ((chB (s.H 0)).getD 1 .junk)), (vB ((chB (s.H 0)).getD 2 .junk)), (vSlN ((chB (s.H 0)).getD 3 .junk)), (fun j => (vI (((chF (s.H 1)) j).getD 0 .junk))), (fun j => (vI (((chF (s.H 1)) j).getD 1 .junk))), (vI (s.fr.getD 7 .junk)))
theorem blockA_l0_i (x : a_blockA) : ∀ y y', blockA_l0_S x y = blockA_l0_S x y' → y = y' := fun y y' h => (congrArg blockA_l0_d h :)
def blockA_l0_T (x : a_blockA) : blockA_l0_g → Ex × St := (fun z => (Ex.exit 0, { fr := [V.junk] ++ jk 27, H := hp [some (Chunk.blk [V.ro 1 (z.1) fun (j : Nat) => [i64 (z.2.1 j)], i64 (z.2.2.1), bo (z.2.2.2.1), V.sl 1 2 0 (z.2.2.2.2.1)]), some (Chunk.row 74 2 (z.2.2.2.2.1) fun (j : Nat) => [i64 (z.2.2.2.2.2.1 j), i64 (z.2.2.2.2.2.2 j)])], nx := 2, rt := 1, me := 36 }))
def blockA_l0_x (x : a_blockA) (z : blockA_l0_g) (k : KX) : Option Ans := k (blockA_l0_T x z).1 (blockA_l0_T x z).2
theorem blockA_l0_xe (x : a_blockA) : ∀ z k, blockA_l0_x x z k = k (blockA_l0_T x z).1 (blockA_l0_T x z).2 := fun z k => rfl
theorem blockA_l0_k0 (x : a_blockA) (z : Nat × (Nat → Int) × Int × Bool × Nat × (Nat → Int) × (Nat → Int)) : KCM [(0, 0)] 0 (blockA_l0_T x z).1 (blockA_l0_T x z).2 = some (.l (blockA_l0_T x z).1 (blockA_l0_T x z).2) := by kernel_rfl
def blockA_l0_t {β : Type} (c_nextA : a_nextA → Option g_nextA) (c_stmtA : a_stmtA → Option g_stmtA) (x : a_blockA) (y : blockA_l0_a) (nx : blockA_l0_a → Option β) (dn : blockA_l0_g → Option β) : Option β :=
 if decide (y.2.2.2.2.2.2.2.2 < y.1) = true then
  if decide (((y.2.2.2.2.2.1 : Nat) : Int) < (200 : Int)) = true then
   (c_stmtA ((x.2.1, y.2.1, y.2.2.1, y.2.2.2.1, y.2.2.2.2.1, y.2.2.2.2.2.1, y.2.2.2.2.2.2.1, y.2.2.2.2.2.2.2.1))).bind fun z108 =>
    nx ((y.1, z108.1, z108.2.1, z108.2.2.1, z108.2.2.2.1, z108.2.2.2.2.1, z108.2.2.2.2.2.1, z108.2.2.2.2.2.2, w (y.2.2.2.2.2.2.2.2 + (1 : Int))))
  else
   dn ((y.2.1, y.2.2.1, y.2.2.2.1, y.2.2.2.2.1, y.2.2.2.2.2.1, y.2.2.2.2.2.2.1, y.2.2.2.2.2.2.2.1))
 else
  dn ((y.2.1, y.2.2.1, y.2.2.2.1, y.2.2.2.2.1, y.2.2.2.2.2.1, y.2.2.2.2.2.2.1, y.2.2.2.2.2.2.2.1))
theorem blockA_l0_n {β : Type} (c_nextA : a_nextA → Option g_nextA) (c_stmtA : a_stmtA → Option g_stmtA) (x : a_blockA) (y : blockA_l0_a) (nx : blockA_l0_a → Option β) (dn : blockA_l0_g → Option β) : blockA_l0_t c_nextA c_stmtA x y nx dn = (blockA_l0_t c_nextA c_stmtA x y (fun y => some (.inl y)) (fun z => some (.inr z))).bind fun r => Sum.elim nx dn r := by
  unfold blockA_l0_t
  repeat' first | exact free_none | refine free_bind (fun z => ?_) | refine free_ite ?_ ?_ | refine free_sum (fun z => ?_) (fun z => ?_) | rfl
theorem blockA_l0_r (c_nextA : a_nextA → Option g_nextA) (c_stmtA : a_stmtA → Option g_stmtA) (x : a_blockA) (y : blockA_l0_a) (lo : LoopT) : loopK E3 (ftab 54 (fun _ L => L.length == 2) A_nextA x_nextA c_nextA (ftab 55 (fun _ L => L.length == 2) A_stmtA x_stmtA c_stmtA ca0)) lo 0 197 (bodyOf E3 36 0) (blockA_l0_S x y) (KCM [(0, 0)] 0) = blockA_l0_t (fun x => viaF A_nextA c_nextA (A_nextA x)) (fun x => viaF A_stmtA c_stmtA (A_stmtA x)) x y (fun y => lo 0 197 (bodyOf E3 36 0) (blockA_l0_S x y) (KCM [(0, 0)] 0)) (fun z => some (.l (blockA_l0_T x z).1 (blockA_l0_T x z).2)) := by kernel_rfl
noncomputable def blockA_l0 (c_nextA : a_nextA → Option g_nextA) (c_stmtA : a_stmtA → Option g_stmtA) (q : Nat) (x : a_blockA) : blockA_l0_a → Option blockA_l0_g := lpG (fun y => blockA_l0_t c_nextA c_stmtA x y (fun y => some (.inl y)) (fun z => some (.inr z))) q
theorem blockA_l0_s (c_nextA : a_nextA → Option g_nextA) (h_nextA : ∀ x z, c_nextA x = some z → SC E3 54 (A_nextA x).1 (A_nextA x).2 (R_nextA z)) (c_stmtA : a_stmtA → Option g_stmtA) (h_stmtA : ∀ x z, c_stmtA x = some z → SC E3 55 (A_stmtA x).1 (A_stmtA x).2 (R_stmtA z)) (q : Nat) (x : a_blockA) : ∀ y z, blockA_l0 c_nextA c_stmtA q x y = some z → SL E3 (bodyOf E3 36 0) (blockA_l0_S x y) (blockA_l0_T x z).1 (blockA_l0_T x z).2 :=
  SL.lp (LT := fun lo => lo) (T := blockA_l0_T x) (S := blockA_l0_S x) (ftab_cons h_nextA xe_nextA (ftab_cons h_stmtA xe_stmtA ca0_sound)) hX3 (fun lo h => h) (fun lo y => (blockA_l0_r c_nextA c_stmtA x y lo).trans (by rw [via_eq i_nextA c_nextA, via_eq i_stmtA c_stmtA]; exact blockA_l0_n _ _ _ _ _ _)) (blockA_l0_k0 x) q
def t_blockA {β : Type} (c_nextA : a_nextA → Option g_nextA) (c_stmtA : a_stmtA → Option g_stmtA) (l_blockA_l0 : blockA_l0_a → Option blockA_l0_g) (x : a_blockA) (dn : g_blockA → Option β) : Option β :=
 (c_nextA ((w (x.1 + (1 : Int)), x.2.2))).bind fun z8 =>
  (l_blockA_l0 ((z8.1, z8.2.1, z8.2.2.1, z8.2.2.2.1, z8.2.2.2.2.1, z8.2.2.2.2.2.1, z8.2.2.2.2.2.2.1, z8.2.2.2.2.2.2.2, (0 : Int)))).bind fun z82 =>
   dn z82
theorem n_blockA {β : Type} (c_nextA : a_nextA → Option g_nextA) (c_stmtA : a_stmtA → Option g_stmtA) (l_blockA_l0 : blockA_l0_a → Option blockA_l0_g) (x : a_blockA) (dn : g_blockA → Option β) : t_blockA c_nextA c_stmtA l_blockA_l0 x dn = (t_blockA c_nextA c_stmtA l_blockA_l0 x some).bind dn := by
  unfold t_blockA
  repeat' first | exact free_none | refine free_bind (fun z => ?_) | refine free_ite ?_ ?_ | refine free_sum (fun z => ?_) (fun z => ?_) | rfl
theorem r_blockA (c_nextA : a_nextA → Option g_nextA) (c_stmtA : a_stmtA → Option g_stmtA) (l_blockA_l0 : blockA_l0_a → Option blockA_l0_g) (x : a_blockA) : callK E3 (ftab 54 (fun _ L => L.length == 2) A_nextA x_nextA c_nextA (ftab 55 (fun _ L => L.length == 2) A_stmtA x_stmtA c_stmtA ca0)) (ltabF 0 (fun _ => true) (bodyOf E3 36 0) (blockA_l0_S x) (blockA_l0_x x) l_blockA_l0 lo0) 36 (A_blockA x).1 (A_blockA x).2 K = t_blockA (fun x => viaF A_nextA c_nextA (A_nextA x)) (fun x => viaF A_stmtA c_stmtA (A_stmtA x)) (fun y => viaF (fun y => (bodyOf E3 36 0, blockA_l0_S x y)) l_blockA_l0 (bodyOf E3 36 0, blockA_l0_S x y)) x (fun z => some (.c (R_blockA z))) := by kernel_rfl
theorem s_blockA (c_nextA : a_nextA → Option g_nextA) (h_nextA : ∀ x z, c_nextA x = some z → SC E3 54 (A_nextA x).1 (A_nextA x).2 (R_nextA z)) (c_stmtA : a_stmtA → Option g_stmtA) (h_stmtA : ∀ x z, c_stmtA x = some z → SC E3 55 (A_stmtA x).1 (A_stmtA x).2 (R_stmtA z)) (q : Nat) (x : a_blockA) (z : g_blockA) (h : t_blockA c_nextA c_stmtA (blockA_l0 c_nextA c_stmtA q x) x some = some z) : SC E3 36 (A_blockA x).1 (A_blockA x).2 (R_blockA z) := by
  refine SC.of hW3 hX3 (ftab_cons h_nextA xe_nextA (ftab_cons h_stmtA xe_stmtA ca0_sound)) (ltabF_cons (blockA_l0_s c_nextA h_nextA c_stmtA h_stmtA q x) (blockA_l0_xe x) lo0_sound) ((r_blockA c_nextA c_stmtA (blockA_l0 c_nextA c_stmtA q x) x).trans ?_)
  rw [via_eq i_nextA c_nextA, via_eq i_stmtA c_stmtA, via_eq (pair_inj (bodyOf E3 36 0) (blockA_l0_i x)) (blockA_l0 c_nextA c_stmtA q x), n_blockA, h]; rfl
noncomputable def made : Nat → (a_stmtA → Option g_stmtA) × (a_blockA → Option g_blockA)
  | 0 => (fun _ => none, fun _ => none)
  | q + 1 => (fun x => t_stmtA ((nextA q)) ((putA q)) ((condA q)) ((made q).2) x some,
    fun x => t_blockA ((nextA q)) ((made q).1) (blockA_l0 ((nextA q)) ((made q).1) q x) x some)
theorem made_sc : ∀ q, (∀ x z, (made q).1 x = some z → SC E3 55 (A_stmtA x).1 (A_stmtA x).2 (R_stmtA z)) ∧ (∀ x z, (made q).2 x = some z → SC E3 36 (A_blockA x).1 (A_blockA x).2 (R_blockA z))
  | 0 => ⟨(fun x z h => by cases h), (fun x z h => by cases h)⟩
  | q + 1 => by
    obtain ⟨h0, h1⟩ := made_sc q
    exact ⟨(fun x z h => s_stmtA ((nextA q)) (sc_nextA q) ((putA q)) (sc_putA q) ((condA q)) (sc_condA q) ((made q).2) (h1) q x z h), (fun x z h => s_blockA ((nextA q)) (sc_nextA q) ((made q).1) (h0) q x z h)⟩
noncomputable def stmtA (q : Nat) : a_stmtA → Option g_stmtA := (made q).1
theorem sc_stmtA (q : Nat) : ∀ (x : a_stmtA) (z : g_stmtA), stmtA q x = some z → SC E3 55 (A_stmtA x).1 (A_stmtA x).2 (R_stmtA z) := (made_sc q).1
noncomputable def blockA (q : Nat) : a_blockA → Option g_blockA := (made q).2
theorem sc_blockA (q : Nat) : ∀ (x : a_blockA) (z : g_blockA), blockA q x = some z → SC E3 36 (A_blockA x).1 (A_blockA x).2 (R_blockA z) := (made_sc q).2
abbrev a_stmtZ : Type := Int × Nat × (Nat → Int) × Int × Bool
abbrev g_stmtZ : Type := Nat × (Nat → Int) × Int × Bool × Nat × (Nat → Int) × (Nat → Int)
def A_stmtZ : a_stmtZ → List V × List (Option Chunk) := (fun x => (fun (e : Int) (m : Nat) (y : Nat → Int) (a : Int) (tl : Bool) => (([.ptr 0 0, i64 e] : List V), ([some (.blk [.ro 1 m (fun j => [i64 (y j)]), i64 a, bo tl, nilS])] : List (Option Chunk)))) x.1 x.2.1 x.2.2.1 x.2.2.2.1 x.2.2.2.2)
def d_stmtZ (t : List V × List (Option Chunk)) : a_stmtZ := ((vI (t.1.getD 1 .junk)), (vRoN ((chB (t.2.getD 0 none)).getD 0 .junk)), (fun j => (vI (((vRoF ((chB (t.2.getD 0 none)).getD 0 .junk)) j).getD 0 .junk))), (vI ((chB (t.2.getD 0 none)).getD 1 .junk)), (vB ((chB (t.2.getD 0 none)).getD 2 .junk)))
theorem i_stmtZ : ∀ x y, A_stmtZ x = A_stmtZ y → x = y := fun x y h => (congrArg d_stmtZ h :)
def R_stmtZ : g_stmtZ → CRes := (fun z => (fun (m : Nat) (y : Nat → Int) (a : Int) (tl : Bool) (n : Nat) (op : Nat → Int) (ar : Nat → Int) => .ret (.tup []) [some (.blk [.ro 1 m (fun j => [i64 (y j)]), i64 a, bo tl, .sl 1 2 0 n]), some (.row 74 2 n (fun j => [i64 (op j), i64 (ar j)]))]) z.1 z.2.1 z.2.2.1 z.2.2.2.1 z.2.2.2.2.1 z.2.2.2.2.2.1 z.2.2.2.2.2.2 : (Nat × (Nat → Int) × Int × Bool × Nat × (Nat → Int) × (Nat → Int)) → CRes)
def x_stmtZ (z : g_stmtZ) (k : CRes → Option Ans) : Option Ans := k (R_stmtZ z)
theorem xe_stmtZ : ∀ z k, x_stmtZ z k = k (R_stmtZ z) := fun z k => rfl
def t_stmtZ {β : Type} (c_nextZ : a_nextZ → Option g_nextZ) (c_putA : a_putA → Option g_putA) (c_putZ : a_putZ → Option g_putZ) (c_condA : a_condA → Option g_condA) (c_condZ : a_condZ → Option g_condZ) (c_blockA : a_blockA → Option g_blockA) (x : a_stmtZ) (dn : g_stmtZ → Option β) : Option β :=
 (c_nextZ (((12 : Int), x.2))).bind fun z5 =>
  if z5.2.2.2.2 = true then
   if decide (z5.1 ≥ (8 : Int)) = true then
    if (Int.tmod (z5.1) (7 : Int) == (0 : Int)) = true then
     (c_nextZ (((8 : Int), z5.2))).bind fun z11 =>
      (c_nextZ (((50 : Int), z11.2))).bind fun z17 =>
       (c_putZ (((23 : Int), w (w (z11.1 * (1000000 : Int)) + z17.1), z17.2))).bind fun z24 =>
        dn ((z24.1, z24.2.1, z24.2.2.1, z24.2.2.2.1, 1, z24.2.2.2.2))
    else
     if (Int.tmod (z5.1) (7 : Int) == (1 : Int)) = true then
      (c_nextZ (((4000 : Int), z5.2))).bind fun z30 =>
       (c_putZ (((24 : Int), z30))).bind fun z37 =>
        dn ((z37.1, z37.2.1, z37.2.2.1, z37.2.2.2.1, 1, z37.2.2.2.2))
     else
      if (Int.tmod (z5.1) (7 : Int) == (2 : Int)) = true then
       (c_nextZ (((4000 : Int), z5.2))).bind fun z43 =>
        (c_putZ (((25 : Int), z43))).bind fun z50 =>
         dn ((z50.1, z50.2.1, z50.2.2.1, z50.2.2.2.1, 1, z50.2.2.2.2))
      else
       if (Int.tmod (z5.1) (7 : Int) == (3 : Int)) = true then
        (c_nextZ (((50 : Int), z5.2))).bind fun z56 =>
         (c_putZ (((18 : Int), z56))).bind fun z63 =>
          dn ((z63.1, z63.2.1, z63.2.2.1, z63.2.2.2.1, 1, z63.2.2.2.2))
       else
        if (Int.tmod (z5.1) (7 : Int) == (4 : Int)) = true then
         (c_nextZ (((720 : Int), z5.2))).bind fun z69 =>
          (c_putZ (((1 : Int), w (z69.1 - (360 : Int)), z69.2))).bind fun z76 =>
           (c_putA (((22 : Int), (0 : Int), z76.1, z76.2.1, z76.2.2.1, z76.2.2.2.1, 1, z76.2.2.2.2))).bind fun z86 =>
            dn (z86.2)
        else
         if (Int.tmod (z5.1) (7 : Int) == (5 : Int)) = true then
          (c_nextZ (((100 : Int), z5.2))).bind fun z92 =>
           (c_putZ (((26 : Int), z92))).bind fun z99 =>
            dn ((z99.1, z99.2.1, z99.2.2.1, z99.2.2.2.1, 1, z99.2.2.2.2))
         else
          if (Int.tmod (z5.1) (7 : Int) == (6 : Int)) = true then
           (c_condZ (z5.2)).bind fun z104 =>
            (c_putA (((21 : Int), (0 : Int), z104))).bind fun z114 =>
             dn (z114.2)
          else
           if (Int.tmod (z5.1) (7 : Int) == (7 : Int)) = true then
            (c_nextZ (((4 : Int), z5.2))).bind fun z120 =>
             (c_putZ (((16 : Int), w ((1 : Int) + z120.1), z120.2))).bind fun z127 =>
              (c_blockA (((2 : Int), w (x.1 - (1 : Int)), z127.1, z127.2.1, z127.2.2.1, z127.2.2.2.1, 1, z127.2.2.2.2))).bind fun z137 =>
               (c_putA (((17 : Int), (1 : Int), z137))).bind fun z147 =>
                dn (z147.2)
           else
            if (Int.tmod (z5.1) (7 : Int) == (8 : Int)) = true then
             (c_nextZ (((30 : Int), z5.2))).bind fun z153 =>
              (c_putZ (((19 : Int), z153))).bind fun z160 =>
               (c_condA ((z160.1, z160.2.1, z160.2.2.1, z160.2.2.2.1, 1, z160.2.2.2.2))).bind fun z168 =>
                (c_putA (((20 : Int), (1 : Int), z168))).bind fun z178 =>
                 dn (z178.2)
            else
             if (Int.tmod (z5.1) (7 : Int) == (9 : Int)) = true then
              (c_nextZ (((1000 : Int), z5.2))).bind fun z184 =>
               (c_putZ (((27 : Int), z184))).bind fun z191 =>
                dn ((z191.1, z191.2.1, z191.2.2.1, z191.2.2.2.1, 1, z191.2.2.2.2))
             else
              (c_condZ (z5.2)).bind fun z196 =>
               (c_putA (((15 : Int), (0 : Int), z196))).bind fun z206 =>
                (c_blockA (((2 : Int), w (x.1 - (1 : Int)), z206.2))).bind fun z216 =>
                 if (Int.tmod (z5.1) (7 : Int) == (11 : Int)) = true then
                  (c_putA (((14 : Int), (0 : Int), z216))).bind fun z226 =>
                   if (0 : Int) ≤ z206.1 ∧ z206.1 < ((z226.2.2.2.2.2.1 : Nat) : Int) then
                    if 0 + Int.toNat (z206.1) < z226.2.2.2.2.2.1 ∧ 2 = 2 then
                     (c_blockA (((2 : Int), w (x.1 - (1 : Int)), z226.2.1, z226.2.2.1, z226.2.2.2.1, z226.2.2.2.2.1, z226.2.2.2.2.2.1, z226.2.2.2.2.2.2.1, fun (j : Nat) => if j = 0 + Int.toNat (z206.1) then ((z226.2.2.2.2.2.1 : Nat) : Int) else z226.2.2.2.2.2.2.2 j))).bind fun z236 =>
                      if (0 : Int) ≤ z226.1 ∧ z226.1 < ((z236.2.2.2.2.1 : Nat) : Int) then
                       if 0 + Int.toNat (z226.1) < z236.2.2.2.2.1 ∧ 2 = 2 then
                        dn ((z236.1, z236.2.1, z236.2.2.1, z236.2.2.2.1, z236.2.2.2.2.1, z236.2.2.2.2.2.1, fun (j : Nat) => if j = 0 + Int.toNat (z226.1) then ((z236.2.2.2.2.1 : Nat) : Int) else z236.2.2.2.2.2.2 j))
                       else
                        none
                      else
                       none
                    else
                     none
                   else
                    none
                 else
                  if (0 : Int) ≤ z206.1 ∧ z206.1 < ((z216.2.2.2.2.1 : Nat) : Int) then
                   if 0 + Int.toNat (z206.1) < z216.2.2.2.2.1 ∧ 2 = 2 then
                    dn ((z216.1, z216.2.1, z216.2.2.1, z216.2.2.2.1, z216.2.2.2.2.1, z216.2.2.2.2.2.1, fun (j : Nat) => if j = 0 + Int.toNat (z206.1) then ((z216.2.2.2.2.1 : Nat) : Int) else z216.2.2.2.2.2.2 j))
                   else
                    none
                  else
                   none
   else
    if decide (z5.1 ≥ (10 : Int)) = true then
     if decide (x.1 ≤ (0 : Int)) = true then
      if (Int.tmod (z5.1) (7 : Int) == (0 : Int)) = true then
       (c_nextZ (((8 : Int), z5.2))).bind fun z242 =>
        (c_nextZ (((50 : Int), z242.2))).bind fun z248 =>
         (c_putZ (((23 : Int), w (w (z242.1 * (1000000 : Int)) + z248.1), z248.2))).bind fun z255 =>
          dn ((z255.1, z255.2.1, z255.2.2.1, z255.2.2.2.1, 1, z255.2.2.2.2))
      else
       if (Int.tmod (z5.1) (7 : Int) == (1 : Int)) = true then
        (c_nextZ (((4000 : Int), z5.2))).bind fun z261 =>
         (c_putZ (((24 : Int), z261))).bind fun z268 =>
          dn ((z268.1, z268.2.1, z268.2.2.1, z268.2.2.2.1, 1, z268.2.2.2.2))
       else
        if (Int.tmod (z5.1) (7 : Int) == (2 : Int)) = true then
         (c_nextZ (((4000 : Int), z5.2))).bind fun z274 =>
          (c_putZ (((25 : Int), z274))).bind fun z281 =>
           dn ((z281.1, z281.2.1, z281.2.2.1, z281.2.2.2.1, 1, z281.2.2.2.2))
        else
         if (Int.tmod (z5.1) (7 : Int) == (3 : Int)) = true then
          (c_nextZ (((50 : Int), z5.2))).bind fun z287 =>
           (c_putZ (((18 : Int), z287))).bind fun z294 =>
            dn ((z294.1, z294.2.1, z294.2.2.1, z294.2.2.2.1, 1, z294.2.2.2.2))
         else
          if (Int.tmod (z5.1) (7 : Int) == (4 : Int)) = true then
           (c_nextZ (((720 : Int), z5.2))).bind fun z300 =>
            (c_putZ (((1 : Int), w (z300.1 - (360 : Int)), z300.2))).bind fun z307 =>
             (c_putA (((22 : Int), (0 : Int), z307.1, z307.2.1, z307.2.2.1, z307.2.2.2.1, 1, z307.2.2.2.2))).bind fun z317 =>
              dn (z317.2)
          else
           if (Int.tmod (z5.1) (7 : Int) == (5 : Int)) = true then
            (c_nextZ (((100 : Int), z5.2))).bind fun z323 =>
             (c_putZ (((26 : Int), z323))).bind fun z330 =>
              dn ((z330.1, z330.2.1, z330.2.2.1, z330.2.2.2.1, 1, z330.2.2.2.2))
           else
            if (Int.tmod (z5.1) (7 : Int) == (6 : Int)) = true then
             (c_condZ (z5.2)).bind fun z335 =>
              (c_putA (((21 : Int), (0 : Int), z335))).bind fun z345 =>
               dn (z345.2)
            else
             if (Int.tmod (z5.1) (7 : Int) == (7 : Int)) = true then
              (c_nextZ (((4 : Int), z5.2))).bind fun z351 =>
               (c_putZ (((16 : Int), w ((1 : Int) + z351.1), z351.2))).bind fun z358 =>
                (c_blockA (((2 : Int), w (x.1 - (1 : Int)), z358.1, z358.2.1, z358.2.2.1, z358.2.2.2.1, 1, z358.2.2.2.2))).bind fun z368 =>
                 (c_putA (((17 : Int), (1 : Int), z368))).bind fun z378 =>
                  dn (z378.2)
             else
              if (Int.tmod (z5.1) (7 : Int) == (8 : Int)) = true then
               (c_nextZ (((30 : Int), z5.2))).bind fun z384 =>
                (c_putZ (((19 : Int), z384))).bind fun z391 =>
                 (c_condA ((z391.1, z391.2.1, z391.2.2.1, z391.2.2.2.1, 1, z391.2.2.2.2))).bind fun z399 =>
                  (c_putA (((20 : Int), (1 : Int), z399))).bind fun z409 =>
                   dn (z409.2)
              else
               if (Int.tmod (z5.1) (7 : Int) == (9 : Int)) = true then
                (c_nextZ (((1000 : Int), z5.2))).bind fun z415 =>
                 (c_putZ (((27 : Int), z415))).bind fun z422 =>
                  dn ((z422.1, z422.2.1, z422.2.2.1, z422.2.2.2.1, 1, z422.2.2.2.2))
               else
                (c_condZ (z5.2)).bind fun z427 =>
                 (c_putA (((15 : Int), (0 : Int), z427))).bind fun z437 =>
                  (c_blockA (((2 : Int), w (x.1 - (1 : Int)), z437.2))).bind fun z447 =>
                   if (Int.tmod (z5.1) (7 : Int) == (11 : Int)) = true then
                    (c_putA (((14 : Int), (0 : Int), z447))).bind fun z457 =>
                     if (0 : Int) ≤ z437.1 ∧ z437.1 < ((z457.2.2.2.2.2.1 : Nat) : Int) then
                      if 0 + Int.toNat (z437.1) < z457.2.2.2.2.2.1 ∧ 2 = 2 then
                       (c_blockA (((2 : Int), w (x.1 - (1 : Int)), z457.2.1, z457.2.2.1, z457.2.2.2.1, z457.2.2.2.2.1, z457.2.2.2.2.2.1, z457.2.2.2.2.2.2.1, fun (j : Nat) => if j = 0 + Int.toNat (z437.1) then ((z457.2.2.2.2.2.1 : Nat) : Int) else z457.2.2.2.2.2.2.2 j))).bind fun z467 =>
                        if (0 : Int) ≤ z457.1 ∧ z457.1 < ((z467.2.2.2.2.1 : Nat) : Int) then
                         if 0 + Int.toNat (z457.1) < z467.2.2.2.2.1 ∧ 2 = 2 then
                          dn ((z467.1, z467.2.1, z467.2.2.1, z467.2.2.2.1, z467.2.2.2.2.1, z467.2.2.2.2.2.1, fun (j : Nat) => if j = 0 + Int.toNat (z457.1) then ((z467.2.2.2.2.1 : Nat) : Int) else z467.2.2.2.2.2.2 j))
                         else
                          none
                        else
                         none
                      else
                       none
                     else
                      none
                   else
                    if (0 : Int) ≤ z437.1 ∧ z437.1 < ((z447.2.2.2.2.1 : Nat) : Int) then
                     if 0 + Int.toNat (z437.1) < z447.2.2.2.2.1 ∧ 2 = 2 then
                      dn ((z447.1, z447.2.1, z447.2.2.1, z447.2.2.2.1, z447.2.2.2.2.1, z447.2.2.2.2.2.1, fun (j : Nat) => if j = 0 + Int.toNat (z437.1) then ((z447.2.2.2.2.1 : Nat) : Int) else z447.2.2.2.2.2.2 j))
                     else
                      none
                    else
                     none
     else
      if (z5.1 == (7 : Int)) = true then
       if decide (x.1 ≤ (0 : Int)) = true then
        if (Int.tmod (z5.1) (7 : Int) == (0 : Int)) = true then
         (c_nextZ (((8 : Int), z5.2))).bind fun z473 =>
          (c_nextZ (((50 : Int), z473.2))).bind fun z479 =>
           (c_putZ (((23 : Int), w (w (z473.1 * (1000000 : Int)) + z479.1), z479.2))).bind fun z486 =>
            dn ((z486.1, z486.2.1, z486.2.2.1, z486.2.2.2.1, 1, z486.2.2.2.2))
        else
         if (Int.tmod (z5.1) (7 : Int) == (1 : Int)) = true then
          (c_nextZ (((4000 : Int), z5.2))).bind fun z492 =>
           (c_putZ (((24 : Int), z492))).bind fun z499 =>
            dn ((z499.1, z499.2.1, z499.2.2.1, z499.2.2.2.1, 1, z499.2.2.2.2))
         else
          if (Int.tmod (z5.1) (7 : Int) == (2 : Int)) = true then
           (c_nextZ (((4000 : Int), z5.2))).bind fun z505 =>
            (c_putZ (((25 : Int), z505))).bind fun z512 =>
             dn ((z512.1, z512.2.1, z512.2.2.1, z512.2.2.2.1, 1, z512.2.2.2.2))
          else
           if (Int.tmod (z5.1) (7 : Int) == (3 : Int)) = true then
            (c_nextZ (((50 : Int), z5.2))).bind fun z518 =>
             (c_putZ (((18 : Int), z518))).bind fun z525 =>
              dn ((z525.1, z525.2.1, z525.2.2.1, z525.2.2.2.1, 1, z525.2.2.2.2))
           else
            if (Int.tmod (z5.1) (7 : Int) == (4 : Int)) = true then
             (c_nextZ (((720 : Int), z5.2))).bind fun z531 =>
              (c_putZ (((1 : Int), w (z531.1 - (360 : Int)), z531.2))).bind fun z538 =>
               (c_putA (((22 : Int), (0 : Int), z538.1, z538.2.1, z538.2.2.1, z538.2.2.2.1, 1, z538.2.2.2.2))).bind fun z548 =>
                dn (z548.2)
            else
             if (Int.tmod (z5.1) (7 : Int) == (5 : Int)) = true then
              (c_nextZ (((100 : Int), z5.2))).bind fun z554 =>
               (c_putZ (((26 : Int), z554))).bind fun z561 =>
                dn ((z561.1, z561.2.1, z561.2.2.1, z561.2.2.2.1, 1, z561.2.2.2.2))
             else
              if (Int.tmod (z5.1) (7 : Int) == (6 : Int)) = true then
               (c_condZ (z5.2)).bind fun z566 =>
                (c_putA (((21 : Int), (0 : Int), z566))).bind fun z576 =>
                 dn (z576.2)
              else
               if (Int.tmod (z5.1) (7 : Int) == (7 : Int)) = true then
                (c_nextZ (((4 : Int), z5.2))).bind fun z582 =>
                 (c_putZ (((16 : Int), w ((1 : Int) + z582.1), z582.2))).bind fun z589 =>
                  (c_blockA (((2 : Int), w (x.1 - (1 : Int)), z589.1, z589.2.1, z589.2.2.1, z589.2.2.2.1, 1, z589.2.2.2.2))).bind fun z599 =>
                   (c_putA (((17 : Int), (1 : Int), z599))).bind fun z609 =>
                    dn (z609.2)
               else
                if (Int.tmod (z5.1) (7 : Int) == (8 : Int)) = true then
                 (c_nextZ (((30 : Int), z5.2))).bind fun z615 =>
                  (c_putZ (((19 : Int), z615))).bind fun z622 =>
                   (c_condA ((z622.1, z622.2.1, z622.2.2.1, z622.2.2.2.1, 1, z622.2.2.2.2))).bind fun z630 =>
                    (c_putA (((20 : Int), (1 : Int), z630))).bind fun z640 =>
                     dn (z640.2)
                else
                 if (Int.tmod (z5.1) (7 : Int) == (9 : Int)) = true then
                  (c_nextZ (((1000 : Int), z5.2))).bind fun z646 =>
                   (c_putZ (((27 : Int), z646))).bind fun z653 =>
                    dn ((z653.1, z653.2.1, z653.2.2.1, z653.2.2.2.1, 1, z653.2.2.2.2))
                 else
                  (c_condZ (z5.2)).bind fun z658 =>
                   (c_putA (((15 : Int), (0 : Int), z658))).bind fun z668 =>
                    (c_blockA (((2 : Int), w (x.1 - (1 : Int)), z668.2))).bind fun z678 =>
                     if (Int.tmod (z5.1) (7 : Int) == (11 : Int)) = true then
                      (c_putA (((14 : Int), (0 : Int), z678))).bind fun z688 =>
                       if (0 : Int) ≤ z668.1 ∧ z668.1 < ((z688.2.2.2.2.2.1 : Nat) : Int) then
                        if 0 + Int.toNat (z668.1) < z688.2.2.2.2.2.1 ∧ 2 = 2 then
                         (c_blockA (((2 : Int), w (x.1 - (1 : Int)), z688.2.1, z688.2.2.1, z688.2.2.2.1, z688.2.2.2.2.1, z688.2.2.2.2.2.1, z688.2.2.2.2.2.2.1, fun (j : Nat) => if j = 0 + Int.toNat (z668.1) then ((z688.2.2.2.2.2.1 : Nat) : Int) else z688.2.2.2.2.2.2.2 j))).bind fun z698 =>
                          if (0 : Int) ≤ z688.1 ∧ z688.1 < ((z698.2.2.2.2.1 : Nat) : Int) then
                           if 0 + Int.toNat (z688.1) < z698.2.2.2.2.1 ∧ 2 = 2 then
                            dn ((z698.1, z698.2.1, z698.2.2.1, z698.2.2.2.1, z698.2.2.2.2.1, z698.2.2.2.2.2.1, fun (j : Nat) => if j = 0 + Int.toNat (z688.1) then ((z698.2.2.2.2.1 : Nat) : Int) else z698.2.2.2.2.2.2 j))
                           else
                            none
                          else
                           none
                        else
                         none
                       else
                        none
                     else
                      if (0 : Int) ≤ z668.1 ∧ z668.1 < ((z678.2.2.2.2.1 : Nat) : Int) then
                       if 0 + Int.toNat (z668.1) < z678.2.2.2.2.1 ∧ 2 = 2 then
                        dn ((z678.1, z678.2.1, z678.2.2.1, z678.2.2.2.1, z678.2.2.2.2.1, z678.2.2.2.2.2.1, fun (j : Nat) => if j = 0 + Int.toNat (z668.1) then ((z678.2.2.2.2.1 : Nat) : Int) else z678.2.2.2.2.2.2 j))
                       else
                        none
                      else
                       none
       else
        if (z5.1 == (0 : Int)) = true then
         (c_nextZ (((8 : Int), z5.2))).bind fun z704 =>
          (c_nextZ (((50 : Int), z704.2))).bind fun z710 =>
           (c_putZ (((23 : Int), w (w (z704.1 * (1000000 : Int)) + z710.1), z710.2))).bind fun z717 =>
            dn ((z717.1, z717.2.1, z717.2.2.1, z717.2.2.2.1, 1, z717.2.2.2.2))
        else
         if (z5.1 == (1 : Int)) = true then
          (c_nextZ (((4000 : Int), z5.2))).bind fun z723 =>
           (c_putZ (((24 : Int), z723))).bind fun z730 =>
            dn ((z730.1, z730.2.1, z730.2.2.1, z730.2.2.2.1, 1, z730.2.2.2.2))
         else
          if (z5.1 == (2 : Int)) = true then
           (c_nextZ (((4000 : Int), z5.2))).bind fun z736 =>
            (c_putZ (((25 : Int), z736))).bind fun z743 =>
             dn ((z743.1, z743.2.1, z743.2.2.1, z743.2.2.2.1, 1, z743.2.2.2.2))
          else
           if (z5.1 == (3 : Int)) = true then
            (c_nextZ (((50 : Int), z5.2))).bind fun z749 =>
             (c_putZ (((18 : Int), z749))).bind fun z756 =>
              dn ((z756.1, z756.2.1, z756.2.2.1, z756.2.2.2.1, 1, z756.2.2.2.2))
           else
            if (z5.1 == (4 : Int)) = true then
             (c_nextZ (((720 : Int), z5.2))).bind fun z762 =>
              (c_putZ (((1 : Int), w (z762.1 - (360 : Int)), z762.2))).bind fun z769 =>
               (c_putA (((22 : Int), (0 : Int), z769.1, z769.2.1, z769.2.2.1, z769.2.2.2.1, 1, z769.2.2.2.2))).bind fun z779 =>
                dn (z779.2)
            else
             if (z5.1 == (5 : Int)) = true then
              (c_nextZ (((100 : Int), z5.2))).bind fun z785 =>
               (c_putZ (((26 : Int), z785))).bind fun z792 =>
                dn ((z792.1, z792.2.1, z792.2.2.1, z792.2.2.2.1, 1, z792.2.2.2.2))
             else
              if (z5.1 == (6 : Int)) = true then
               (c_condZ (z5.2)).bind fun z797 =>
                (c_putA (((21 : Int), (0 : Int), z797))).bind fun z807 =>
                 dn (z807.2)
              else
               if (z5.1 == (7 : Int)) = true then
                (c_nextZ (((4 : Int), z5.2))).bind fun z813 =>
                 (c_putZ (((16 : Int), w ((1 : Int) + z813.1), z813.2))).bind fun z820 =>
                  (c_blockA (((2 : Int), w (x.1 - (1 : Int)), z820.1, z820.2.1, z820.2.2.1, z820.2.2.2.1, 1, z820.2.2.2.2))).bind fun z830 =>
                   (c_putA (((17 : Int), (1 : Int), z830))).bind fun z840 =>
                    dn (z840.2)
               else
                if (z5.1 == (8 : Int)) = true then
                 (c_nextZ (((30 : Int), z5.2))).bind fun z846 =>
                  (c_putZ (((19 : Int), z846))).bind fun z853 =>
                   (c_condA ((z853.1, z853.2.1, z853.2.2.1, z853.2.2.2.1, 1, z853.2.2.2.2))).bind fun z861 =>
                    (c_putA (((20 : Int), (1 : Int), z861))).bind fun z871 =>
                     dn (z871.2)
                else
                 if (z5.1 == (9 : Int)) = true then
                  (c_nextZ (((1000 : Int), z5.2))).bind fun z877 =>
                   (c_putZ (((27 : Int), z877))).bind fun z884 =>
                    dn ((z884.1, z884.2.1, z884.2.2.1, z884.2.2.2.1, 1, z884.2.2.2.2))
                 else
                  (c_condZ (z5.2)).bind fun z889 =>
                   (c_putA (((15 : Int), (0 : Int), z889))).bind fun z899 =>
                    (c_blockA (((2 : Int), w (x.1 - (1 : Int)), z899.2))).bind fun z909 =>
                     if (z5.1 == (11 : Int)) = true then
                      (c_putA (((14 : Int), (0 : Int), z909))).bind fun z919 =>
                       if (0 : Int) ≤ z899.1 ∧ z899.1 < ((z919.2.2.2.2.2.1 : Nat) : Int) then
                        if 0 + Int.toNat (z899.1) < z919.2.2.2.2.2.1 ∧ 2 = 2 then
                         (c_blockA (((2 : Int), w (x.1 - (1 : Int)), z919.2.1, z919.2.2.1, z919.2.2.2.1, z919.2.2.2.2.1, z919.2.2.2.2.2.1, z919.2.2.2.2.2.2.1, fun (j : Nat) => if j = 0 + Int.toNat (z899.1) then ((z919.2.2.2.2.2.1 : Nat) : Int) else z919.2.2.2.2.2.2.2 j))).bind fun z929 =>
                          if (0 : Int) ≤ z919.1 ∧ z919.1 < ((z929.2.2.2.2.1 : Nat) : Int) then
                           if 0 + Int.toNat (z919.1) < z929.2.2.2.2.1 ∧ 2 = 2 then
                            dn ((z929.1, z929.2.1, z929.2.2.1, z929.2.2.2.1, z929.2.2.2.2.1, z929.2.2.2.2.2.1, fun (j : Nat) => if j = 0 + Int.toNat (z919.1) then ((z929.2.2.2.2.1 : Nat) : Int) else z929.2.2.2.2.2.2 j))
                           else
                            none
                          else
                           none
                        else
                         none
                       else
                        none
                     else
                      if (0 : Int) ≤ z899.1 ∧ z899.1 < ((z909.2.2.2.2.1 : Nat) : Int) then
                       if 0 + Int.toNat (z899.1) < z909.2.2.2.2.1 ∧ 2 = 2 then
                        dn ((z909.1, z909.2.1, z909.2.2.1, z909.2.2.2.1, z909.2.2.2.2.1, z909.2.2.2.2.2.1, fun (j : Nat) => if j = 0 + Int.toNat (z899.1) then ((z909.2.2.2.2.1 : Nat) : Int) else z909.2.2.2.2.2.2 j))
                       else
                        none
                      else
                       none
      else
       if (z5.1 == (0 : Int)) = true then
        (c_nextZ (((8 : Int), z5.2))).bind fun z935 =>
         (c_nextZ (((50 : Int), z935.2))).bind fun z941 =>
          (c_putZ (((23 : Int), w (w (z935.1 * (1000000 : Int)) + z941.1), z941.2))).bind fun z948 =>
           dn ((z948.1, z948.2.1, z948.2.2.1, z948.2.2.2.1, 1, z948.2.2.2.2))
       else
        if (z5.1 == (1 : Int)) = true then
         (c_nextZ (((4000 : Int), z5.2))).bind fun z954 =>
          (c_putZ (((24 : Int), z954))).bind fun z961 =>
           dn ((z961.1, z961.2.1, z961.2.2.1, z961.2.2.2.1, 1, z961.2.2.2.2))
        else
         if (z5.1 == (2 : Int)) = true then
          (c_nextZ (((4000 : Int), z5.2))).bind fun z967 =>
           (c_putZ (((25 : Int), z967))).bind fun z974 =>
            dn ((z974.1, z974.2.1, z974.2.2.1, z974.2.2.2.1, 1, z974.2.2.2.2))
         else
          if (z5.1 == (3 : Int)) = true then
           (c_nextZ (((50 : Int), z5.2))).bind fun z980 =>
            (c_putZ (((18 : Int), z980))).bind fun z987 =>
             dn ((z987.1, z987.2.1, z987.2.2.1, z987.2.2.2.1, 1, z987.2.2.2.2))
          else
           if (z5.1 == (4 : Int)) = true then
            (c_nextZ (((720 : Int), z5.2))).bind fun z993 =>
             (c_putZ (((1 : Int), w (z993.1 - (360 : Int)), z993.2))).bind fun z1000 =>
              (c_putA (((22 : Int), (0 : Int), z1000.1, z1000.2.1, z1000.2.2.1, z1000.2.2.2.1, 1, z1000.2.2.2.2))).bind fun z1010 =>
               dn (z1010.2)
           else
            if (z5.1 == (5 : Int)) = true then
             (c_nextZ (((100 : Int), z5.2))).bind fun z1016 =>
              (c_putZ (((26 : Int), z1016))).bind fun z1023 =>
               dn ((z1023.1, z1023.2.1, z1023.2.2.1, z1023.2.2.2.1, 1, z1023.2.2.2.2))
            else
             if (z5.1 == (6 : Int)) = true then
              (c_condZ (z5.2)).bind fun z1028 =>
               (c_putA (((21 : Int), (0 : Int), z1028))).bind fun z1038 =>
                dn (z1038.2)
             else
              if (z5.1 == (7 : Int)) = true then
               (c_nextZ (((4 : Int), z5.2))).bind fun z1044 =>
                (c_putZ (((16 : Int), w ((1 : Int) + z1044.1), z1044.2))).bind fun z1051 =>
                 (c_blockA (((2 : Int), w (x.1 - (1 : Int)), z1051.1, z1051.2.1, z1051.2.2.1, z1051.2.2.2.1, 1, z1051.2.2.2.2))).bind fun z1061 =>
                  (c_putA (((17 : Int), (1 : Int), z1061))).bind fun z1071 =>
                   dn (z1071.2)
              else
               if (z5.1 == (8 : Int)) = true then
                (c_nextZ (((30 : Int), z5.2))).bind fun z1077 =>
                 (c_putZ (((19 : Int), z1077))).bind fun z1084 =>
                  (c_condA ((z1084.1, z1084.2.1, z1084.2.2.1, z1084.2.2.2.1, 1, z1084.2.2.2.2))).bind fun z1092 =>
                   (c_putA (((20 : Int), (1 : Int), z1092))).bind fun z1102 =>
                    dn (z1102.2)
               else
                if (z5.1 == (9 : Int)) = true then
                 (c_nextZ (((1000 : Int), z5.2))).bind fun z1108 =>
                  (c_putZ (((27 : Int), z1108))).bind fun z1115 =>
                   dn ((z1115.1, z1115.2.1, z1115.2.2.1, z1115.2.2.2.1, 1, z1115.2.2.2.2))
                else
                 (c_condZ (z5.2)).bind fun z1120 =>
                  (c_putA (((15 : Int), (0 : Int), z1120))).bind fun z1130 =>
                   (c_blockA (((2 : Int), w (x.1 - (1 : Int)), z1130.2))).bind fun z1140 =>
                    if (z5.1 == (11 : Int)) = true then
                     (c_putA (((14 : Int), (0 : Int), z1140))).bind fun z1150 =>
                      if (0 : Int) ≤ z1130.1 ∧ z1130.1 < ((z1150.2.2.2.2.2.1 : Nat) : Int) then
                       if 0 + Int.toNat (z1130.1) < z1150.2.2.2.2.2.1 ∧ 2 = 2 then
                        (c_blockA (((2 : Int), w (x.1 - (1 : Int)), z1150.2.1, z1150.2.2.1, z1150.2.2.2.1, z1150.2.2.2.2.1, z1150.2.2.2.2.2.1, z1150.2.2.2.2.2.2.1, fun (j : Nat) => if j = 0 + Int.toNat (z1130.1) then ((z1150.2.2.2.2.2.1 : Nat) : Int) else z1150.2.2.2.2.2.2.2 j))).bind fun z1160 =>
                         if (0 : Int) ≤ z1150.1 ∧ z1150.1 < ((z1160.2.2.2.2.1 : Nat) : Int) then
                          if 0 + Int.toNat (z1150.1) < z1160.2.2.2.2.1 ∧ 2 = 2 then
                           dn ((z1160.1, z1160.2.1, z1160.2.2.1, z1160.2.2.2.1, z1160.2.2.2.2.1, z1160.2.2.2.2.2.1, fun (j : Nat) => if j = 0 + Int.toNat (z1150.1) then ((z1160.2.2.2.2.1 : Nat) : Int) else z1160.2.2.2.2.2.2 j))
                          else
                           none
                         else
                          none
                       else
                        none
                      else
                       none
                    else
                     if (0 : Int) ≤ z1130.1 ∧ z1130.1 < ((z1140.2.2.2.2.1 : Nat) : Int) then
                      if 0 + Int.toNat (z1130.1) < z1140.2.2.2.2.1 ∧ 2 = 2 then
                       dn ((z1140.1, z1140.2.1, z1140.2.2.1, z1140.2.2.2.1, z1140.2.2.2.2.1, z1140.2.2.2.2.2.1, fun (j : Nat) => if j = 0 + Int.toNat (z1130.1) then ((z1140.2.2.2.2.1 : Nat) : Int) else z1140.2.2.2.2.2.2 j))
                      else
                       none
                     else
                      none
    else
     if (z5.1 == (7 : Int)) = true then
      if decide (x.1 ≤ (0 : Int)) = true then
       if (Int.tmod (z5.1) (7 : Int) == (0 : Int)) = true then
        (c_nextZ (((8 : Int), z5.2))).bind fun z1166 =>
         (c_nextZ (((50 : Int), z1166.2))).bind fun z1172 =>
          (c_putZ (((23 : Int), w (w (z1166.1 * (1000000 : Int)) + z1172.1), z1172.2))).bind fun z1179 =>
           dn ((z1179.1, z1179.2.1, z1179.2.2.1, z1179.2.2.2.1, 1, z1179.2.2.2.2))
       else
        if (Int.tmod (z5.1) (7 : Int) == (1 : Int)) = true then
         (c_nextZ (((4000 : Int), z5.2))).bind fun z1185 =>
          (c_putZ (((24 : Int), z1185))).bind fun z1192 =>
           dn ((z1192.1, z1192.2.1, z1192.2.2.1, z1192.2.2.2.1, 1, z1192.2.2.2.2))
        else
         if (Int.tmod (z5.1) (7 : Int) == (2 : Int)) = true then
          (c_nextZ (((4000 : Int), z5.2))).bind fun z1198 =>
           (c_putZ (((25 : Int), z1198))).bind fun z1205 =>
            dn ((z1205.1, z1205.2.1, z1205.2.2.1, z1205.2.2.2.1, 1, z1205.2.2.2.2))
         else
          if (Int.tmod (z5.1) (7 : Int) == (3 : Int)) = true then
           (c_nextZ (((50 : Int), z5.2))).bind fun z1211 =>
            (c_putZ (((18 : Int), z1211))).bind fun z1218 =>
             dn ((z1218.1, z1218.2.1, z1218.2.2.1, z1218.2.2.2.1, 1, z1218.2.2.2.2))
          else
           if (Int.tmod (z5.1) (7 : Int) == (4 : Int)) = true then
            (c_nextZ (((720 : Int), z5.2))).bind fun z1224 =>
             (c_putZ (((1 : Int), w (z1224.1 - (360 : Int)), z1224.2))).bind fun z1231 =>
              (c_putA (((22 : Int), (0 : Int), z1231.1, z1231.2.1, z1231.2.2.1, z1231.2.2.2.1, 1, z1231.2.2.2.2))).bind fun z1241 =>
               dn (z1241.2)
           else
            if (Int.tmod (z5.1) (7 : Int) == (5 : Int)) = true then
             (c_nextZ (((100 : Int), z5.2))).bind fun z1247 =>
              (c_putZ (((26 : Int), z1247))).bind fun z1254 =>
               dn ((z1254.1, z1254.2.1, z1254.2.2.1, z1254.2.2.2.1, 1, z1254.2.2.2.2))
            else
             if (Int.tmod (z5.1) (7 : Int) == (6 : Int)) = true then
              (c_condZ (z5.2)).bind fun z1259 =>
               (c_putA (((21 : Int), (0 : Int), z1259))).bind fun z1269 =>
                dn (z1269.2)
             else
              if (Int.tmod (z5.1) (7 : Int) == (7 : Int)) = true then
               (c_nextZ (((4 : Int), z5.2))).bind fun z1275 =>
                (c_putZ (((16 : Int), w ((1 : Int) + z1275.1), z1275.2))).bind fun z1282 =>
                 (c_blockA (((2 : Int), w (x.1 - (1 : Int)), z1282.1, z1282.2.1, z1282.2.2.1, z1282.2.2.2.1, 1, z1282.2.2.2.2))).bind fun z1292 =>
                  (c_putA (((17 : Int), (1 : Int), z1292))).bind fun z1302 =>
                   dn (z1302.2)
              else
               if (Int.tmod (z5.1) (7 : Int) == (8 : Int)) = true then
                (c_nextZ (((30 : Int), z5.2))).bind fun z1308 =>
                 (c_putZ (((19 : Int), z1308))).bind fun z1315 =>
                  (c_condA ((z1315.1, z1315.2.1, z1315.2.2.1, z1315.2.2.2.1, 1, z1315.2.2.2.2))).bind fun z1323 =>
                   (c_putA (((20 : Int), (1 : Int), z1323))).bind fun z1333 =>
                    dn (z1333.2)
               else
                if (Int.tmod (z5.1) (7 : Int) == (9 : Int)) = true then
                 (c_nextZ (((1000 : Int), z5.2))).bind fun z1339 =>
                  (c_putZ (((27 : Int), z1339))).bind fun z1346 =>
                   dn ((z1346.1, z1346.2.1, z1346.2.2.1, z1346.2.2.2.1, 1, z1346.2.2.2.2))
                else
                 (c_condZ (z5.2)).bind fun z1351 =>
                  (c_putA (((15 : Int), (0 : Int), z1351))).bind fun z1361 =>
                   (c_blockA (((2 : Int), w (x.1 - (1 : Int)), z1361.2))).bind fun z1371 =>
                    if (Int.tmod (z5.1) (7 : Int) == (11 : Int)) = true then
                     (c_putA (((14 : Int), (0 : Int), z1371))).bind fun z1381 =>
                      if (0 : Int) ≤ z1361.1 ∧ z1361.1 < ((z1381.2.2.2.2.2.1 : Nat) : Int) then
                       if 0 + Int.toNat (z1361.1) < z1381.2.2.2.2.2.1 ∧ 2 = 2 then
                        (c_blockA (((2 : Int), w (x.1 - (1 : Int)), z1381.2.1, z1381.2.2.1, z1381.2.2.2.1, z1381.2.2.2.2.1, z1381.2.2.2.2.2.1, z1381.2.2.2.2.2.2.1, fun (j : Nat) => if j = 0 + Int.toNat (z1361.1) then ((z1381.2.2.2.2.2.1 : Nat) : Int) else z1381.2.2.2.2.2.2.2 j))).bind fun z1391 =>
                         if (0 : Int) ≤ z1381.1 ∧ z1381.1 < ((z1391.2.2.2.2.1 : Nat) : Int) then
                          if 0 + Int.toNat (z1381.1) < z1391.2.2.2.2.1 ∧ 2 = 2 then
                           dn ((z1391.1, z1391.2.1, z1391.2.2.1, z1391.2.2.2.1, z1391.2.2.2.2.1, z1391.2.2.2.2.2.1, fun (j : Nat) => if j = 0 + Int.toNat (z1381.1) then ((z1391.2.2.2.2.1 : Nat) : Int) else z1391.2.2.2.2.2.2 j))
                          else
                           none
                         else
                          none
                       else
                        none
                      else
                       none
                    else
                     if (0 : Int) ≤ z1361.1 ∧ z1361.1 < ((z1371.2.2.2.2.1 : Nat) : Int) then
                      if 0 + Int.toNat (z1361.1) < z1371.2.2.2.2.1 ∧ 2 = 2 then
                       dn ((z1371.1, z1371.2.1, z1371.2.2.1, z1371.2.2.2.1, z1371.2.2.2.2.1, z1371.2.2.2.2.2.1, fun (j : Nat) => if j = 0 + Int.toNat (z1361.1) then ((z1371.2.2.2.2.1 : Nat) : Int) else z1371.2.2.2.2.2.2 j))
                      else
                       none
                     else
                      none
      else
       if (z5.1 == (0 : Int)) = true then
        (c_nextZ (((8 : Int), z5.2))).bind fun z1397 =>
         (c_nextZ (((50 : Int), z1397.2))).bind fun z1403 =>
          (c_putZ (((23 : Int), w (w (z1397.1 * (1000000 : Int)) + z1403.1), z1403.2))).bind fun z1410 =>
           dn ((z1410.1, z1410.2.1, z1410.2.2.1, z1410.2.2.2.1, 1, z1410.2.2.2.2))
       else
        if (z5.1 == (1 : Int)) = true then
         (c_nextZ (((4000 : Int), z5.2))).bind fun z1416 =>
          (c_putZ (((24 : Int), z1416))).bind fun z1423 =>
           dn ((z1423.1, z1423.2.1, z1423.2.2.1, z1423.2.2.2.1, 1, z1423.2.2.2.2))
        else
         if (z5.1 == (2 : Int)) = true then
          (c_nextZ (((4000 : Int), z5.2))).bind fun z1429 =>
           (c_putZ (((25 : Int), z1429))).bind fun z1436 =>
            dn ((z1436.1, z1436.2.1, z1436.2.2.1, z1436.2.2.2.1, 1, z1436.2.2.2.2))
         else
          if (z5.1 == (3 : Int)) = true then
           (c_nextZ (((50 : Int), z5.2))).bind fun z1442 =>
            (c_putZ (((18 : Int), z1442))).bind fun z1449 =>
             dn ((z1449.1, z1449.2.1, z1449.2.2.1, z1449.2.2.2.1, 1, z1449.2.2.2.2))
          else
           if (z5.1 == (4 : Int)) = true then
            (c_nextZ (((720 : Int), z5.2))).bind fun z1455 =>
             (c_putZ (((1 : Int), w (z1455.1 - (360 : Int)), z1455.2))).bind fun z1462 =>
              (c_putA (((22 : Int), (0 : Int), z1462.1, z1462.2.1, z1462.2.2.1, z1462.2.2.2.1, 1, z1462.2.2.2.2))).bind fun z1472 =>
               dn (z1472.2)
           else
            if (z5.1 == (5 : Int)) = true then
             (c_nextZ (((100 : Int), z5.2))).bind fun z1478 =>
              (c_putZ (((26 : Int), z1478))).bind fun z1485 =>
               dn ((z1485.1, z1485.2.1, z1485.2.2.1, z1485.2.2.2.1, 1, z1485.2.2.2.2))
            else
             if (z5.1 == (6 : Int)) = true then
              (c_condZ (z5.2)).bind fun z1490 =>
               (c_putA (((21 : Int), (0 : Int), z1490))).bind fun z1500 =>
                dn (z1500.2)
             else
              if (z5.1 == (7 : Int)) = true then
               (c_nextZ (((4 : Int), z5.2))).bind fun z1506 =>
                (c_putZ (((16 : Int), w ((1 : Int) + z1506.1), z1506.2))).bind fun z1513 =>
                 (c_blockA (((2 : Int), w (x.1 - (1 : Int)), z1513.1, z1513.2.1, z1513.2.2.1, z1513.2.2.2.1, 1, z1513.2.2.2.2))).bind fun z1523 =>
                  (c_putA (((17 : Int), (1 : Int), z1523))).bind fun z1533 =>
                   dn (z1533.2)
              else
               if (z5.1 == (8 : Int)) = true then
                (c_nextZ (((30 : Int), z5.2))).bind fun z1539 =>
                 (c_putZ (((19 : Int), z1539))).bind fun z1546 =>
                  (c_condA ((z1546.1, z1546.2.1, z1546.2.2.1, z1546.2.2.2.1, 1, z1546.2.2.2.2))).bind fun z1554 =>
                   (c_putA (((20 : Int), (1 : Int), z1554))).bind fun z1564 =>
                    dn (z1564.2)
               else
                if (z5.1 == (9 : Int)) = true then
                 (c_nextZ (((1000 : Int), z5.2))).bind fun z1570 =>
                  (c_putZ (((27 : Int), z1570))).bind fun z1577 =>
                   dn ((z1577.1, z1577.2.1, z1577.2.2.1, z1577.2.2.2.1, 1, z1577.2.2.2.2))
                else
                 (c_condZ (z5.2)).bind fun z1582 =>
                  (c_putA (((15 : Int), (0 : Int), z1582))).bind fun z1592 =>
                   (c_blockA (((2 : Int), w (x.1 - (1 : Int)), z1592.2))).bind fun z1602 =>
                    if (z5.1 == (11 : Int)) = true then
                     (c_putA (((14 : Int), (0 : Int), z1602))).bind fun z1612 =>
                      if (0 : Int) ≤ z1592.1 ∧ z1592.1 < ((z1612.2.2.2.2.2.1 : Nat) : Int) then
                       if 0 + Int.toNat (z1592.1) < z1612.2.2.2.2.2.1 ∧ 2 = 2 then
                        (c_blockA (((2 : Int), w (x.1 - (1 : Int)), z1612.2.1, z1612.2.2.1, z1612.2.2.2.1, z1612.2.2.2.2.1, z1612.2.2.2.2.2.1, z1612.2.2.2.2.2.2.1, fun (j : Nat) => if j = 0 + Int.toNat (z1592.1) then ((z1612.2.2.2.2.2.1 : Nat) : Int) else z1612.2.2.2.2.2.2.2 j))).bind fun z1622 =>
                         if (0 : Int) ≤ z1612.1 ∧ z1612.1 < ((z1622.2.2.2.2.1 : Nat) : Int) then
                          if 0 + Int.toNat (z1612.1) < z1622.2.2.2.2.1 ∧ 2 = 2 then
                           dn ((z1622.1, z1622.2.1, z1622.2.2.1, z1622.2.2.2.1, z1622.2.2.2.2.1, z1622.2.2.2.2.2.1, fun (j : Nat) => if j = 0 + Int.toNat (z1612.1) then ((z1622.2.2.2.2.1 : Nat) : Int) else z1622.2.2.2.2.2.2 j))
                          else
                           none
                         else
                          none
                       else
                        none
                      else
                       none
                    else
                     if (0 : Int) ≤ z1592.1 ∧ z1592.1 < ((z1602.2.2.2.2.1 : Nat) : Int) then
                      if 0 + Int.toNat (z1592.1) < z1602.2.2.2.2.1 ∧ 2 = 2 then
                       dn ((z1602.1, z1602.2.1, z1602.2.2.1, z1602.2.2.2.1, z1602.2.2.2.2.1, z1602.2.2.2.2.2.1, fun (j : Nat) => if j = 0 + Int.toNat (z1592.1) then ((z1602.2.2.2.2.1 : Nat) : Int) else z1602.2.2.2.2.2.2 j))
                      else
                       none
                     else
                      none
     else
      if (z5.1 == (0 : Int)) = true then
       (c_nextZ (((8 : Int), z5.2))).bind fun z1628 =>
        (c_nextZ (((50 : Int), z1628.2))).bind fun z1634 =>
         (c_putZ (((23 : Int), w (w (z1628.1 * (1000000 : Int)) + z1634.1), z1634.2))).bind fun z1641 =>
          dn ((z1641.1, z1641.2.1, z1641.2.2.1, z1641.2.2.2.1, 1, z1641.2.2.2.2))
      else
       if (z5.1 == (1 : Int)) = true then
        (c_nextZ (((4000 : Int), z5.2))).bind fun z1647 =>
         (c_putZ (((24 : Int), z1647))).bind fun z1654 =>
          dn ((z1654.1, z1654.2.1, z1654.2.2.1, z1654.2.2.2.1, 1, z1654.2.2.2.2))
       else
        if (z5.1 == (2 : Int)) = true then
         (c_nextZ (((4000 : Int), z5.2))).bind fun z1660 =>
          (c_putZ (((25 : Int), z1660))).bind fun z1667 =>
           dn ((z1667.1, z1667.2.1, z1667.2.2.1, z1667.2.2.2.1, 1, z1667.2.2.2.2))
        else
         if (z5.1 == (3 : Int)) = true then
          (c_nextZ (((50 : Int), z5.2))).bind fun z1673 =>
           (c_putZ (((18 : Int), z1673))).bind fun z1680 =>
            dn ((z1680.1, z1680.2.1, z1680.2.2.1, z1680.2.2.2.1, 1, z1680.2.2.2.2))
         else
          if (z5.1 == (4 : Int)) = true then
           (c_nextZ (((720 : Int), z5.2))).bind fun z1686 =>
            (c_putZ (((1 : Int), w (z1686.1 - (360 : Int)), z1686.2))).bind fun z1693 =>
             (c_putA (((22 : Int), (0 : Int), z1693.1, z1693.2.1, z1693.2.2.1, z1693.2.2.2.1, 1, z1693.2.2.2.2))).bind fun z1703 =>
              dn (z1703.2)
          else
           if (z5.1 == (5 : Int)) = true then
            (c_nextZ (((100 : Int), z5.2))).bind fun z1709 =>
             (c_putZ (((26 : Int), z1709))).bind fun z1716 =>
              dn ((z1716.1, z1716.2.1, z1716.2.2.1, z1716.2.2.2.1, 1, z1716.2.2.2.2))
           else
            if (z5.1 == (6 : Int)) = true then
             (c_condZ (z5.2)).bind fun z1721 =>
              (c_putA (((21 : Int), (0 : Int), z1721))).bind fun z1731 =>
               dn (z1731.2)
            else
             if (z5.1 == (7 : Int)) = true then
              (c_nextZ (((4 : Int), z5.2))).bind fun z1737 =>
               (c_putZ (((16 : Int), w ((1 : Int) + z1737.1), z1737.2))).bind fun z1744 =>
                (c_blockA (((2 : Int), w (x.1 - (1 : Int)), z1744.1, z1744.2.1, z1744.2.2.1, z1744.2.2.2.1, 1, z1744.2.2.2.2))).bind fun z1754 =>
                 (c_putA (((17 : Int), (1 : Int), z1754))).bind fun z1764 =>
                  dn (z1764.2)
             else
              if (z5.1 == (8 : Int)) = true then
               (c_nextZ (((30 : Int), z5.2))).bind fun z1770 =>
                (c_putZ (((19 : Int), z1770))).bind fun z1777 =>
                 (c_condA ((z1777.1, z1777.2.1, z1777.2.2.1, z1777.2.2.2.1, 1, z1777.2.2.2.2))).bind fun z1785 =>
                  (c_putA (((20 : Int), (1 : Int), z1785))).bind fun z1795 =>
                   dn (z1795.2)
              else
               if (z5.1 == (9 : Int)) = true then
                (c_nextZ (((1000 : Int), z5.2))).bind fun z1801 =>
                 (c_putZ (((27 : Int), z1801))).bind fun z1808 =>
                  dn ((z1808.1, z1808.2.1, z1808.2.2.1, z1808.2.2.2.1, 1, z1808.2.2.2.2))
               else
                (c_condZ (z5.2)).bind fun z1813 =>
                 (c_putA (((15 : Int), (0 : Int), z1813))).bind fun z1823 =>
                  (c_blockA (((2 : Int), w (x.1 - (1 : Int)), z1823.2))).bind fun z1833 =>
                   if (z5.1 == (11 : Int)) = true then
                    (c_putA (((14 : Int), (0 : Int), z1833))).bind fun z1843 =>
                     if (0 : Int) ≤ z1823.1 ∧ z1823.1 < ((z1843.2.2.2.2.2.1 : Nat) : Int) then
                      if 0 + Int.toNat (z1823.1) < z1843.2.2.2.2.2.1 ∧ 2 = 2 then
                       (c_blockA (((2 : Int), w (x.1 - (1 : Int)), z1843.2.1, z1843.2.2.1, z1843.2.2.2.1, z1843.2.2.2.2.1, z1843.2.2.2.2.2.1, z1843.2.2.2.2.2.2.1, fun (j : Nat) => if j = 0 + Int.toNat (z1823.1) then ((z1843.2.2.2.2.2.1 : Nat) : Int) else z1843.2.2.2.2.2.2.2 j))).bind fun z1853 =>
                        if (0 : Int) ≤ z1843.1 ∧ z1843.1 < ((z1853.2.2.2.2.1 : Nat) : Int) then
                         if 0 + Int.toNat (z1843.1) < z1853.2.2.2.2.1 ∧ 2 = 2 then
                          dn ((z1853.1, z1853.2.1, z1853.2.2.1, z1853.2.2.2.1, z1853.2.2.2.2.1, z1853.2.2.2.2.2.1, fun (j : Nat) => if j = 0 + Int.toNat (z1843.1) then ((z1853.2.2.2.2.1 : Nat) : Int) else z1853.2.2.2.2.2.2 j))
                         else
                          none
                        else
                         none
                      else
                       none
                     else
                      none
                   else
                    if (0 : Int) ≤ z1823.1 ∧ z1823.1 < ((z1833.2.2.2.2.1 : Nat) : Int) then
                     if 0 + Int.toNat (z1823.1) < z1833.2.2.2.2.1 ∧ 2 = 2 then
                      dn ((z1833.1, z1833.2.1, z1833.2.2.1, z1833.2.2.2.1, z1833.2.2.2.2.1, z1833.2.2.2.2.2.1, fun (j : Nat) => if j = 0 + Int.toNat (z1823.1) then ((z1833.2.2.2.2.1 : Nat) : Int) else z1833.2.2.2.2.2.2 j))
                     else
                      none
                    else
                     none
  else
   if decide (z5.1 ≥ (10 : Int)) = true then
    if decide (x.1 ≤ (0 : Int)) = true then
     if (Int.tmod (z5.1) (7 : Int) == (0 : Int)) = true then
      (c_nextZ (((8 : Int), z5.2))).bind fun z1859 =>
       (c_nextZ (((50 : Int), z1859.2))).bind fun z1865 =>
        (c_putZ (((23 : Int), w (w (z1859.1 * (1000000 : Int)) + z1865.1), z1865.2))).bind fun z1872 =>
         dn ((z1872.1, z1872.2.1, z1872.2.2.1, z1872.2.2.2.1, 1, z1872.2.2.2.2))
     else
      if (Int.tmod (z5.1) (7 : Int) == (1 : Int)) = true then
       (c_nextZ (((4000 : Int), z5.2))).bind fun z1878 =>
        (c_putZ (((24 : Int), z1878))).bind fun z1885 =>
         dn ((z1885.1, z1885.2.1, z1885.2.2.1, z1885.2.2.2.1, 1, z1885.2.2.2.2))
      else
       if (Int.tmod (z5.1) (7 : Int) == (2 : Int)) = true then
        (c_nextZ (((4000 : Int), z5.2))).bind fun z1891 =>
         (c_putZ (((25 : Int), z1891))).bind fun z1898 =>
          dn ((z1898.1, z1898.2.1, z1898.2.2.1, z1898.2.2.2.1, 1, z1898.2.2.2.2))
       else
        if (Int.tmod (z5.1) (7 : Int) == (3 : Int)) = true then
         (c_nextZ (((50 : Int), z5.2))).bind fun z1904 =>
          (c_putZ (((18 : Int), z1904))).bind fun z1911 =>
           dn ((z1911.1, z1911.2.1, z1911.2.2.1, z1911.2.2.2.1, 1, z1911.2.2.2.2))
        else
         if (Int.tmod (z5.1) (7 : Int) == (4 : Int)) = true then
          (c_nextZ (((720 : Int), z5.2))).bind fun z1917 =>
           (c_putZ (((1 : Int), w (z1917.1 - (360 : Int)), z1917.2))).bind fun z1924 =>
            (c_putA (((22 : Int), (0 : Int), z1924.1, z1924.2.1, z1924.2.2.1, z1924.2.2.2.1, 1, z1924.2.2.2.2))).bind fun z1934 =>
             dn (z1934.2)
         else
          if (Int.tmod (z5.1) (7 : Int) == (5 : Int)) = true then
           (c_nextZ (((100 : Int), z5.2))).bind fun z1940 =>
            (c_putZ (((26 : Int), z1940))).bind fun z1947 =>
             dn ((z1947.1, z1947.2.1, z1947.2.2.1, z1947.2.2.2.1, 1, z1947.2.2.2.2))
          else
           if (Int.tmod (z5.1) (7 : Int) == (6 : Int)) = true then
            (c_condZ (z5.2)).bind fun z1952 =>
             (c_putA (((21 : Int), (0 : Int), z1952))).bind fun z1962 =>
              dn (z1962.2)
           else
            if (Int.tmod (z5.1) (7 : Int) == (7 : Int)) = true then
             (c_nextZ (((4 : Int), z5.2))).bind fun z1968 =>
              (c_putZ (((16 : Int), w ((1 : Int) + z1968.1), z1968.2))).bind fun z1975 =>
               (c_blockA (((2 : Int), w (x.1 - (1 : Int)), z1975.1, z1975.2.1, z1975.2.2.1, z1975.2.2.2.1, 1, z1975.2.2.2.2))).bind fun z1985 =>
                (c_putA (((17 : Int), (1 : Int), z1985))).bind fun z1995 =>
                 dn (z1995.2)
            else
             if (Int.tmod (z5.1) (7 : Int) == (8 : Int)) = true then
              (c_nextZ (((30 : Int), z5.2))).bind fun z2001 =>
               (c_putZ (((19 : Int), z2001))).bind fun z2008 =>
                (c_condA ((z2008.1, z2008.2.1, z2008.2.2.1, z2008.2.2.2.1, 1, z2008.2.2.2.2))).bind fun z2016 =>
                 (c_putA (((20 : Int), (1 : Int), z2016))).bind fun z2026 =>
                  dn (z2026.2)
             else
              if (Int.tmod (z5.1) (7 : Int) == (9 : Int)) = true then
               (c_nextZ (((1000 : Int), z5.2))).bind fun z2032 =>
                (c_putZ (((27 : Int), z2032))).bind fun z2039 =>
                 dn ((z2039.1, z2039.2.1, z2039.2.2.1, z2039.2.2.2.1, 1, z2039.2.2.2.2))
              else
               (c_condZ (z5.2)).bind fun z2044 =>
                (c_putA (((15 : Int), (0 : Int), z2044))).bind fun z2054 =>
                 (c_blockA (((2 : Int), w (x.1 - (1 : Int)), z2054.2))).bind fun z2064 =>
                  if (Int.tmod (z5.1) (7 : Int) == (11 : Int)) = true then
                   (c_putA (((14 : Int), (0 : Int), z2064))).bind fun z2074 =>
                    if (0 : Int) ≤ z2054.1 ∧ z2054.1 < ((z2074.2.2.2.2.2.1 : Nat) : Int) then
                     if 0 + Int.toNat (z2054.1) < z2074.2.2.2.2.2.1 ∧ 2 = 2 then
                      (c_blockA (((2 : Int), w (x.1 - (1 : Int)), z2074.2.1, z2074.2.2.1, z2074.2.2.2.1, z2074.2.2.2.2.1, z2074.2.2.2.2.2.1, z2074.2.2.2.2.2.2.1, fun (j : Nat) => if j = 0 + Int.toNat (z2054.1) then ((z2074.2.2.2.2.2.1 : Nat) : Int) else z2074.2.2.2.2.2.2.2 j))).bind fun z2084 =>
                       if (0 : Int) ≤ z2074.1 ∧ z2074.1 < ((z2084.2.2.2.2.1 : Nat) : Int) then
                        if 0 + Int.toNat (z2074.1) < z2084.2.2.2.2.1 ∧ 2 = 2 then
                         dn ((z2084.1, z2084.2.1, z2084.2.2.1, z2084.2.2.2.1, z2084.2.2.2.2.1, z2084.2.2.2.2.2.1, fun (j : Nat) => if j = 0 + Int.toNat (z2074.1) then ((z2084.2.2.2.2.1 : Nat) : Int) else z2084.2.2.2.2.2.2 j))
                        else
                         none
                       else
                        none
                     else
                      none
                    else
                     none
                  else
                   if (0 : Int) ≤ z2054.1 ∧ z2054.1 < ((z2064.2.2.2.2.1 : Nat) : Int) then
                    if 0 + Int.toNat (z2054.1) < z2064.2.2.2.2.1 ∧ 2 = 2 then
                     dn ((z2064.1, z2064.2.1, z2064.2.2.1, z2064.2.2.2.1, z2064.2.2.2.2.1, z2064.2.2.2.2.2.1, fun (j : Nat) => if j = 0 + Int.toNat (z2054.1) then ((z2064.2.2.2.2.1 : Nat) : Int) else z2064.2.2.2.2.2.2 j))
                    else
                     none
                   else
                    none
    else
     if (z5.1 == (7 : Int)) = true then
      if decide (x.1 ≤ (0 : Int)) = true then
       if (Int.tmod (z5.1) (7 : Int) == (0 : Int)) = true then
        (c_nextZ (((8 : Int), z5.2))).bind fun z2090 =>
         (c_nextZ (((50 : Int), z2090.2))).bind fun z2096 =>
          (c_putZ (((23 : Int), w (w (z2090.1 * (1000000 : Int)) + z2096.1), z2096.2))).bind fun z2103 =>
           dn ((z2103.1, z2103.2.1, z2103.2.2.1, z2103.2.2.2.1, 1, z2103.2.2.2.2))
       else
        if (Int.tmod (z5.1) (7 : Int) == (1 : Int)) = true then
         (c_nextZ (((4000 : Int), z5.2))).bind fun z2109 =>
          (c_putZ (((24 : Int), z2109))).bind fun z2116 =>
           dn ((z2116.1, z2116.2.1, z2116.2.2.1, z2116.2.2.2.1, 1, z2116.2.2.2.2))
        else
         if (Int.tmod (z5.1) (7 : Int) == (2 : Int)) = true then
          (c_nextZ (((4000 : Int), z5.2))).bind fun z2122 =>
           (c_putZ (((25 : Int), z2122))).bind fun z2129 =>
            dn ((z2129.1, z2129.2.1, z2129.2.2.1, z2129.2.2.2.1, 1, z2129.2.2.2.2))
         else
          if (Int.tmod (z5.1) (7 : Int) == (3 : Int)) = true then
           (c_nextZ (((50 : Int), z5.2))).bind fun z2135 =>
            (c_putZ (((18 : Int), z2135))).bind fun z2142 =>
             dn ((z2142.1, z2142.2.1, z2142.2.2.1, z2142.2.2.2.1, 1, z2142.2.2.2.2))
          else
           if (Int.tmod (z5.1) (7 : Int) == (4 : Int)) = true then
            (c_nextZ (((720 : Int), z5.2))).bind fun z2148 =>
             (c_putZ (((1 : Int), w (z2148.1 - (360 : Int)), z2148.2))).bind fun z2155 =>
              (c_putA (((22 : Int), (0 : Int), z2155.1, z2155.2.1, z2155.2.2.1, z2155.2.2.2.1, 1, z2155.2.2.2.2))).bind fun z2165 =>
               dn (z2165.2)
           else
            if (Int.tmod (z5.1) (7 : Int) == (5 : Int)) = true then
             (c_nextZ (((100 : Int), z5.2))).bind fun z2171 =>
              (c_putZ (((26 : Int), z2171))).bind fun z2178 =>
               dn ((z2178.1, z2178.2.1, z2178.2.2.1, z2178.2.2.2.1, 1, z2178.2.2.2.2))
            else
             if (Int.tmod (z5.1) (7 : Int) == (6 : Int)) = true then
              (c_condZ (z5.2)).bind fun z2183 =>
               (c_putA (((21 : Int), (0 : Int), z2183))).bind fun z2193 =>
                dn (z2193.2)
             else
              if (Int.tmod (z5.1) (7 : Int) == (7 : Int)) = true then
               (c_nextZ (((4 : Int), z5.2))).bind fun z2199 =>
                (c_putZ (((16 : Int), w ((1 : Int) + z2199.1), z2199.2))).bind fun z2206 =>
                 (c_blockA (((2 : Int), w (x.1 - (1 : Int)), z2206.1, z2206.2.1, z2206.2.2.1, z2206.2.2.2.1, 1, z2206.2.2.2.2))).bind fun z2216 =>
                  (c_putA (((17 : Int), (1 : Int), z2216))).bind fun z2226 =>
                   dn (z2226.2)
              else
               if (Int.tmod (z5.1) (7 : Int) == (8 : Int)) = true then
                (c_nextZ (((30 : Int), z5.2))).bind fun z2232 =>
                 (c_putZ (((19 : Int), z2232))).bind fun z2239 =>
                  (c_condA ((z2239.1, z2239.2.1, z2239.2.2.1, z2239.2.2.2.1, 1, z2239.2.2.2.2))).bind fun z2247 =>
                   (c_putA (((20 : Int), (1 : Int), z2247))).bind fun z2257 =>
                    dn (z2257.2)
               else
                if (Int.tmod (z5.1) (7 : Int) == (9 : Int)) = true then
                 (c_nextZ (((1000 : Int), z5.2))).bind fun z2263 =>
                  (c_putZ (((27 : Int), z2263))).bind fun z2270 =>
                   dn ((z2270.1, z2270.2.1, z2270.2.2.1, z2270.2.2.2.1, 1, z2270.2.2.2.2))
                else
                 (c_condZ (z5.2)).bind fun z2275 =>
                  (c_putA (((15 : Int), (0 : Int), z2275))).bind fun z2285 =>
                   (c_blockA (((2 : Int), w (x.1 - (1 : Int)), z2285.2))).bind fun z2295 =>
                    if (Int.tmod (z5.1) (7 : Int) == (11 : Int)) = true then
                     (c_putA (((14 : Int), (0 : Int), z2295))).bind fun z2305 =>
                      if (0 : Int) ≤ z2285.1 ∧ z2285.1 < ((z2305.2.2.2.2.2.1 : Nat) : Int) then
                       if 0 + Int.toNat (z2285.1) < z2305.2.2.2.2.2.1 ∧ 2 = 2 then
                        (c_blockA (((2 : Int), w (x.1 - (1 : Int)), z2305.2.1, z2305.2.2.1, z2305.2.2.2.1, z2305.2.2.2.2.1, z2305.2.2.2.2.2.1, z2305.2.2.2.2.2.2.1, fun (j : Nat) => if j = 0 + Int.toNat (z2285.1) then ((z2305.2.2.2.2.2.1 : Nat) : Int) else z2305.2.2.2.2.2.2.2 j))).bind fun z2315 =>
                         if (0 : Int) ≤ z2305.1 ∧ z2305.1 < ((z2315.2.2.2.2.1 : Nat) : Int) then
                          if 0 + Int.toNat (z2305.1) < z2315.2.2.2.2.1 ∧ 2 = 2 then
                           dn ((z2315.1, z2315.2.1, z2315.2.2.1, z2315.2.2.2.1, z2315.2.2.2.2.1, z2315.2.2.2.2.2.1, fun (j : Nat) => if j = 0 + Int.toNat (z2305.1) then ((z2315.2.2.2.2.1 : Nat) : Int) else z2315.2.2.2.2.2.2 j))
                          else
                           none
                         else
                          none
                       else
                        none
                      else
                       none
                    else
                     if (0 : Int) ≤ z2285.1 ∧ z2285.1 < ((z2295.2.2.2.2.1 : Nat) : Int) then
                      if 0 + Int.toNat (z2285.1) < z2295.2.2.2.2.1 ∧ 2 = 2 then
                       dn ((z2295.1, z2295.2.1, z2295.2.2.1, z2295.2.2.2.1, z2295.2.2.2.2.1, z2295.2.2.2.2.2.1, fun (j : Nat) => if j = 0 + Int.toNat (z2285.1) then ((z2295.2.2.2.2.1 : Nat) : Int) else z2295.2.2.2.2.2.2 j))
                      else
                       none
                     else
                      none
      else
       if (z5.1 == (0 : Int)) = true then
        (c_nextZ (((8 : Int), z5.2))).bind fun z2321 =>
         (c_nextZ (((50 : Int), z2321.2))).bind fun z2327 =>
          (c_putZ (((23 : Int), w (w (z2321.1 * (1000000 : Int)) + z2327.1), z2327.2))).bind fun z2334 =>
           dn ((z2334.1, z2334.2.1, z2334.2.2.1, z2334.2.2.2.1, 1, z2334.2.2.2.2))
       else
        if (z5.1 == (1 : Int)) = true then
         (c_nextZ (((4000 : Int), z5.2))).bind fun z2340 =>
          (c_putZ (((24 : Int), z2340))).bind fun z2347 =>
           dn ((z2347.1, z2347.2.1, z2347.2.2.1, z2347.2.2.2.1, 1, z2347.2.2.2.2))
        else
         if (z5.1 == (2 : Int)) = true then
          (c_nextZ (((4000 : Int), z5.2))).bind fun z2353 =>
           (c_putZ (((25 : Int), z2353))).bind fun z2360 =>
            dn ((z2360.1, z2360.2.1, z2360.2.2.1, z2360.2.2.2.1, 1, z2360.2.2.2.2))
         else
          if (z5.1 == (3 : Int)) = true then
           (c_nextZ (((50 : Int), z5.2))).bind fun z2366 =>
            (c_putZ (((18 : Int), z2366))).bind fun z2373 =>
             dn ((z2373.1, z2373.2.1, z2373.2.2.1, z2373.2.2.2.1, 1, z2373.2.2.2.2))
          else
           if (z5.1 == (4 : Int)) = true then
            (c_nextZ (((720 : Int), z5.2))).bind fun z2379 =>
             (c_putZ (((1 : Int), w (z2379.1 - (360 : Int)), z2379.2))).bind fun z2386 =>
              (c_putA (((22 : Int), (0 : Int), z2386.1, z2386.2.1, z2386.2.2.1, z2386.2.2.2.1, 1, z2386.2.2.2.2))).bind fun z2396 =>
               dn (z2396.2)
           else
            if (z5.1 == (5 : Int)) = true then
             (c_nextZ (((100 : Int), z5.2))).bind fun z2402 =>
              (c_putZ (((26 : Int), z2402))).bind fun z2409 =>
               dn ((z2409.1, z2409.2.1, z2409.2.2.1, z2409.2.2.2.1, 1, z2409.2.2.2.2))
            else
             if (z5.1 == (6 : Int)) = true then
              (c_condZ (z5.2)).bind fun z2414 =>
               (c_putA (((21 : Int), (0 : Int), z2414))).bind fun z2424 =>
                dn (z2424.2)
             else
              if (z5.1 == (7 : Int)) = true then
               (c_nextZ (((4 : Int), z5.2))).bind fun z2430 =>
                (c_putZ (((16 : Int), w ((1 : Int) + z2430.1), z2430.2))).bind fun z2437 =>
                 (c_blockA (((2 : Int), w (x.1 - (1 : Int)), z2437.1, z2437.2.1, z2437.2.2.1, z2437.2.2.2.1, 1, z2437.2.2.2.2))).bind fun z2447 =>
                  (c_putA (((17 : Int), (1 : Int), z2447))).bind fun z2457 =>
                   dn (z2457.2)
              else
               if (z5.1 == (8 : Int)) = true then
                (c_nextZ (((30 : Int), z5.2))).bind fun z2463 =>
                 (c_putZ (((19 : Int), z2463))).bind fun z2470 =>
                  (c_condA ((z2470.1, z2470.2.1, z2470.2.2.1, z2470.2.2.2.1, 1, z2470.2.2.2.2))).bind fun z2478 =>
                   (c_putA (((20 : Int), (1 : Int), z2478))).bind fun z2488 =>
                    dn (z2488.2)
               else
                if (z5.1 == (9 : Int)) = true then
                 (c_nextZ (((1000 : Int), z5.2))).bind fun z2494 =>
                  (c_putZ (((27 : Int), z2494))).bind fun z2501 =>
                   dn ((z2501.1, z2501.2.1, z2501.2.2.1, z2501.2.2.2.1, 1, z2501.2.2.2.2))
                else
                 (c_condZ (z5.2)).bind fun z2506 =>
                  (c_putA (((15 : Int), (0 : Int), z2506))).bind fun z2516 =>
                   (c_blockA (((2 : Int), w (x.1 - (1 : Int)), z2516.2))).bind fun z2526 =>
                    if (z5.1 == (11 : Int)) = true then
                     (c_putA (((14 : Int), (0 : Int), z2526))).bind fun z2536 =>
                      if (0 : Int) ≤ z2516.1 ∧ z2516.1 < ((z2536.2.2.2.2.2.1 : Nat) : Int) then
                       if 0 + Int.toNat (z2516.1) < z2536.2.2.2.2.2.1 ∧ 2 = 2 then
                        (c_blockA (((2 : Int), w (x.1 - (1 : Int)), z2536.2.1, z2536.2.2.1, z2536.2.2.2.1, z2536.2.2.2.2.1, z2536.2.2.2.2.2.1, z2536.2.2.2.2.2.2.1, fun (j : Nat) => if j = 0 + Int.toNat (z2516.1) then ((z2536.2.2.2.2.2.1 : Nat) : Int) else z2536.2.2.2.2.2.2.2 j))).bind fun z2546 =>
                         if (0 : Int) ≤ z2536.1 ∧ z2536.1 < ((z2546.2.2.2.2.1 : Nat) : Int) then
                          if 0 + Int.toNat (z2536.1) < z2546.2.2.2.2.1 ∧ 2 = 2 then
                           dn ((z2546.1, z2546.2.1, z2546.2.2.1, z2546.2.2.2.1, z2546.2.2.2.2.1, z2546.2.2.2.2.2.1, fun (j : Nat) => if j = 0 + Int.toNat (z2536.1) then ((z2546.2.2.2.2.1 : Nat) : Int) else z2546.2.2.2.2.2.2 j))
                          else
                           none
                         else
                          none
                       else
                        none
                      else
                       none
                    else
                     if (0 : Int) ≤ z2516.1 ∧ z2516.1 < ((z2526.2.2.2.2.1 : Nat) : Int) then
                      if 0 + Int.toNat (z2516.1) < z2526.2.2.2.2.1 ∧ 2 = 2 then
                       dn ((z2526.1, z2526.2.1, z2526.2.2.1, z2526.2.2.2.1, z2526.2.2.2.2.1, z2526.2.2.2.2.2.1, fun (j : Nat) => if j = 0 + Int.toNat (z2516.1) then ((z2526.2.2.2.2.1 : Nat) : Int) else z2526.2.2.2.2.2.2 j))
                      else
                       none
                     else
                      none
     else
      if (z5.1 == (0 : Int)) = true then
       (c_nextZ (((8 : Int), z5.2))).bind fun z2552 =>
        (c_nextZ (((50 : Int), z2552.2))).bind fun z2558 =>
         (c_putZ (((23 : Int), w (w (z2552.1 * (1000000 : Int)) + z2558.1), z2558.2))).bind fun z2565 =>
          dn ((z2565.1, z2565.2.1, z2565.2.2.1, z2565.2.2.2.1, 1, z2565.2.2.2.2))
      else
       if (z5.1 == (1 : Int)) = true then
        (c_nextZ (((4000 : Int), z5.2))).bind fun z2571 =>
         (c_putZ (((24 : Int), z2571))).bind fun z2578 =>
          dn ((z2578.1, z2578.2.1, z2578.2.2.1, z2578.2.2.2.1, 1, z2578.2.2.2.2))
       else
        if (z5.1 == (2 : Int)) = true then
         (c_nextZ (((4000 : Int), z5.2))).bind fun z2584 =>
          (c_putZ (((25 : Int), z2584))).bind fun z2591 =>
           dn ((z2591.1, z2591.2.1, z2591.2.2.1, z2591.2.2.2.1, 1, z2591.2.2.2.2))
        else
         if (z5.1 == (3 : Int)) = true then
          (c_nextZ (((50 : Int), z5.2))).bind fun z2597 =>
           (c_putZ (((18 : Int), z2597))).bind fun z2604 =>
            dn ((z2604.1, z2604.2.1, z2604.2.2.1, z2604.2.2.2.1, 1, z2604.2.2.2.2))
         else
          if (z5.1 == (4 : Int)) = true then
           (c_nextZ (((720 : Int), z5.2))).bind fun z2610 =>
            (c_putZ (((1 : Int), w (z2610.1 - (360 : Int)), z2610.2))).bind fun z2617 =>
             (c_putA (((22 : Int), (0 : Int), z2617.1, z2617.2.1, z2617.2.2.1, z2617.2.2.2.1, 1, z2617.2.2.2.2))).bind fun z2627 =>
              dn (z2627.2)
          else
           if (z5.1 == (5 : Int)) = true then
            (c_nextZ (((100 : Int), z5.2))).bind fun z2633 =>
             (c_putZ (((26 : Int), z2633))).bind fun z2640 =>
              dn ((z2640.1, z2640.2.1, z2640.2.2.1, z2640.2.2.2.1, 1, z2640.2.2.2.2))
           else
            if (z5.1 == (6 : Int)) = true then
             (c_condZ (z5.2)).bind fun z2645 =>
              (c_putA (((21 : Int), (0 : Int), z2645))).bind fun z2655 =>
               dn (z2655.2)
            else
             if (z5.1 == (7 : Int)) = true then
              (c_nextZ (((4 : Int), z5.2))).bind fun z2661 =>
               (c_putZ (((16 : Int), w ((1 : Int) + z2661.1), z2661.2))).bind fun z2668 =>
                (c_blockA (((2 : Int), w (x.1 - (1 : Int)), z2668.1, z2668.2.1, z2668.2.2.1, z2668.2.2.2.1, 1, z2668.2.2.2.2))).bind fun z2678 =>
                 (c_putA (((17 : Int), (1 : Int), z2678))).bind fun z2688 =>
                  dn (z2688.2)
             else
              if (z5.1 == (8 : Int)) = true then
               (c_nextZ (((30 : Int), z5.2))).bind fun z2694 =>
                (c_putZ (((19 : Int), z2694))).bind fun z2701 =>
                 (c_condA ((z2701.1, z2701.2.1, z2701.2.2.1, z2701.2.2.2.1, 1, z2701.2.2.2.2))).bind fun z2709 =>
                  (c_putA (((20 : Int), (1 : Int), z2709))).bind fun z2719 =>
                   dn (z2719.2)
              else
               if (z5.1 == (9 : Int)) = true then
                (c_nextZ (((1000 : Int), z5.2))).bind fun z2725 =>
                 (c_putZ (((27 : Int), z2725))).bind fun z2732 =>
                  dn ((z2732.1, z2732.2.1, z2732.2.2.1, z2732.2.2.2.1, 1, z2732.2.2.2.2))
               else
                (c_condZ (z5.2)).bind fun z2737 =>
                 (c_putA (((15 : Int), (0 : Int), z2737))).bind fun z2747 =>
                  (c_blockA (((2 : Int), w (x.1 - (1 : Int)), z2747.2))).bind fun z2757 =>
                   if (z5.1 == (11 : Int)) = true then
                    (c_putA (((14 : Int), (0 : Int), z2757))).bind fun z2767 =>
                     if (0 : Int) ≤ z2747.1 ∧ z2747.1 < ((z2767.2.2.2.2.2.1 : Nat) : Int) then
                      if 0 + Int.toNat (z2747.1) < z2767.2.2.2.2.2.1 ∧ 2 = 2 then
                       (c_blockA (((2 : Int), w (x.1 - (1 : Int)), z2767.2.1, z2767.2.2.1, z2767.2.2.2.1, z2767.2.2.2.2.1, z2767.2.2.2.2.2.1, z2767.2.2.2.2.2.2.1, fun (j : Nat) => if j = 0 + Int.toNat (z2747.1) then ((z2767.2.2.2.2.2.1 : Nat) : Int) else z2767.2.2.2.2.2.2.2 j))).bind fun z2777 =>
                        if (0 : Int) ≤ z2767.1 ∧ z2767.1 < ((z2777.2.2.2.2.1 : Nat) : Int) then
                         if 0 + Int.toNat (z2767.1) < z2777.2.2.2.2.1 ∧ 2 = 2 then
                          dn ((z2777.1, z2777.2.1, z2777.2.2.1, z2777.2.2.2.1, z2777.2.2.2.2.1, z2777.2.2.2.2.2.1, fun (j : Nat) => if j = 0 + Int.toNat (z2767.1) then ((z2777.2.2.2.2.1 : Nat) : Int) else z2777.2.2.2.2.2.2 j))
                         else
                          none
                        else
                         none
                      else
                       none
                     else
                      none
                   else
                    if (0 : Int) ≤ z2747.1 ∧ z2747.1 < ((z2757.2.2.2.2.1 : Nat) : Int) then
                     if 0 + Int.toNat (z2747.1) < z2757.2.2.2.2.1 ∧ 2 = 2 then
                      dn ((z2757.1, z2757.2.1, z2757.2.2.1, z2757.2.2.2.1, z2757.2.2.2.2.1, z2757.2.2.2.2.2.1, fun (j : Nat) => if j = 0 + Int.toNat (z2747.1) then ((z2757.2.2.2.2.1 : Nat) : Int) else z2757.2.2.2.2.2.2 j))
                     else
                      none
                    else
                     none
   else
    if (z5.1 == (7 : Int)) = true then
     if decide (x.1 ≤ (0 : Int)) = true then
      if (Int.tmod (z5.1) (7 : Int) == (0 : Int)) = true then
       (c_nextZ (((8 : Int), z5.2))).bind fun z2783 =>
        (c_nextZ (((50 : Int), z2783.2))).bind fun z2789 =>
         (c_putZ (((23 : Int), w (w (z2783.1 * (1000000 : Int)) + z2789.1), z2789.2))).bind fun z2796 =>
          dn ((z2796.1, z2796.2.1, z2796.2.2.1, z2796.2.2.2.1, 1, z2796.2.2.2.2))
      else
       if (Int.tmod (z5.1) (7 : Int) == (1 : Int)) = true then
        (c_nextZ (((4000 : Int), z5.2))).bind fun z2802 =>
         (c_putZ (((24 : Int), z2802))).bind fun z2809 =>
          dn ((z2809.1, z2809.2.1, z2809.2.2.1, z2809.2.2.2.1, 1, z2809.2.2.2.2))
       else
        if (Int.tmod (z5.1) (7 : Int) == (2 : Int)) = true then
         (c_nextZ (((4000 : Int), z5.2))).bind fun z2815 =>
          (c_putZ (((25 : Int), z2815))).bind fun z2822 =>
           dn ((z2822.1, z2822.2.1, z2822.2.2.1, z2822.2.2.2.1, 1, z2822.2.2.2.2))
        else
         if (Int.tmod (z5.1) (7 : Int) == (3 : Int)) = true then
          (c_nextZ (((50 : Int), z5.2))).bind fun z2828 =>
           (c_putZ (((18 : Int), z2828))).bind fun z2835 =>
            dn ((z2835.1, z2835.2.1, z2835.2.2.1, z2835.2.2.2.1, 1, z2835.2.2.2.2))
         else
          if (Int.tmod (z5.1) (7 : Int) == (4 : Int)) = true then
           (c_nextZ (((720 : Int), z5.2))).bind fun z2841 =>
            (c_putZ (((1 : Int), w (z2841.1 - (360 : Int)), z2841.2))).bind fun z2848 =>
             (c_putA (((22 : Int), (0 : Int), z2848.1, z2848.2.1, z2848.2.2.1, z2848.2.2.2.1, 1, z2848.2.2.2.2))).bind fun z2858 =>
              dn (z2858.2)
          else
           if (Int.tmod (z5.1) (7 : Int) == (5 : Int)) = true then
            (c_nextZ (((100 : Int), z5.2))).bind fun z2864 =>
             (c_putZ (((26 : Int), z2864))).bind fun z2871 =>
              dn ((z2871.1, z2871.2.1, z2871.2.2.1, z2871.2.2.2.1, 1, z2871.2.2.2.2))
           else
            if (Int.tmod (z5.1) (7 : Int) == (6 : Int)) = true then
             (c_condZ (z5.2)).bind fun z2876 =>
              (c_putA (((21 : Int), (0 : Int), z2876))).bind fun z2886 =>
               dn (z2886.2)
            else
             if (Int.tmod (z5.1) (7 : Int) == (7 : Int)) = true then
              (c_nextZ (((4 : Int), z5.2))).bind fun z2892 =>
               (c_putZ (((16 : Int), w ((1 : Int) + z2892.1), z2892.2))).bind fun z2899 =>
                (c_blockA (((2 : Int), w (x.1 - (1 : Int)), z2899.1, z2899.2.1, z2899.2.2.1, z2899.2.2.2.1, 1, z2899.2.2.2.2))).bind fun z2909 =>
                 (c_putA (((17 : Int), (1 : Int), z2909))).bind fun z2919 =>
                  dn (z2919.2)
             else
              if (Int.tmod (z5.1) (7 : Int) == (8 : Int)) = true then
               (c_nextZ (((30 : Int), z5.2))).bind fun z2925 =>
                (c_putZ (((19 : Int), z2925))).bind fun z2932 =>
                 (c_condA ((z2932.1, z2932.2.1, z2932.2.2.1, z2932.2.2.2.1, 1, z2932.2.2.2.2))).bind fun z2940 =>
                  (c_putA (((20 : Int), (1 : Int), z2940))).bind fun z2950 =>
                   dn (z2950.2)
              else
               if (Int.tmod (z5.1) (7 : Int) == (9 : Int)) = true then
                (c_nextZ (((1000 : Int), z5.2))).bind fun z2956 =>
                 (c_putZ (((27 : Int), z2956))).bind fun z2963 =>
                  dn ((z2963.1, z2963.2.1, z2963.2.2.1, z2963.2.2.2.1, 1, z2963.2.2.2.2))
               else
                (c_condZ (z5.2)).bind fun z2968 =>
                 (c_putA (((15 : Int), (0 : Int), z2968))).bind fun z2978 =>
                  (c_blockA (((2 : Int), w (x.1 - (1 : Int)), z2978.2))).bind fun z2988 =>
                   if (Int.tmod (z5.1) (7 : Int) == (11 : Int)) = true then
                    (c_putA (((14 : Int), (0 : Int), z2988))).bind fun z2998 =>
                     if (0 : Int) ≤ z2978.1 ∧ z2978.1 < ((z2998.2.2.2.2.2.1 : Nat) : Int) then
                      if 0 + Int.toNat (z2978.1) < z2998.2.2.2.2.2.1 ∧ 2 = 2 then
                       (c_blockA (((2 : Int), w (x.1 - (1 : Int)), z2998.2.1, z2998.2.2.1, z2998.2.2.2.1, z2998.2.2.2.2.1, z2998.2.2.2.2.2.1, z2998.2.2.2.2.2.2.1, fun (j : Nat) => if j = 0 + Int.toNat (z2978.1) then ((z2998.2.2.2.2.2.1 : Nat) : Int) else z2998.2.2.2.2.2.2.2 j))).bind fun z3008 =>
                        if (0 : Int) ≤ z2998.1 ∧ z2998.1 < ((z3008.2.2.2.2.1 : Nat) : Int) then
                         if 0 + Int.toNat (z2998.1) < z3008.2.2.2.2.1 ∧ 2 = 2 then
                          dn ((z3008.1, z3008.2.1, z3008.2.2.1, z3008.2.2.2.1, z3008.2.2.2.2.1, z3008.2.2.2.2.2.1, fun (j : Nat) => if j = 0 + Int.toNat (z2998.1) then ((z3008.2.2.2.2.1 : Nat) : Int) else z3008.2.2.2.2.2.2 j))
                         else
                          none
                        else
                         none
                      else
                       none
                     else
                      none
                   else
                    if (0 : Int) ≤ z2978.1 ∧ z2978.1 < ((z2988.2.2.2.2.1 : Nat) : Int) then
                     if 0 + Int.toNat (z2978.1) < z2988.2.2.2.2.1 ∧ 2 = 2 then
                      dn ((z2988.1, z2988.2.1, z2988.2.2.1, z2988.2.2.2.1, z2988.2.2.2.2.1, z2988.2.2.2.2.2.1, fun (j : Nat) => if j = 0 + Int.toNat (z2978.1) then ((z2988.2.2.2.2.1 : Nat) : Int) else z2988.2.2.2.2.2.2 j))
                     else
                      none
                    else
                     none
     else
      if (z5.1 == (0 : Int)) = true then
       (c_nextZ (((8 : Int), z5.2))).bind fun z3014 =>
        (c_nextZ (((50 : Int), z3014.2))).bind fun z3020 =>
         (c_putZ (((23 : Int), w (w (z3014.1 * (1000000 : Int)) + z3020.1), z3020.2))).bind fun z3027 =>
          dn ((z3027.1, z3027.2.1, z3027.2.2.1, z3027.2.2.2.1, 1, z3027.2.2.2.2))
      else
       if (z5.1 == (1 : Int)) = true then
        (c_nextZ (((4000 : Int), z5.2))).bind fun z3033 =>
         (c_putZ (((24 : Int), z3033))).bind fun z3040 =>
          dn ((z3040.1, z3040.2.1, z3040.2.2.1, z3040.2.2.2.1, 1, z3040.2.2.2.2))
       else
        if (z5.1 == (2 : Int)) = true then
         (c_nextZ (((4000 : Int), z5.2))).bind fun z3046 =>
          (c_putZ (((25 : Int), z3046))).bind fun z3053 =>
           dn ((z3053.1, z3053.2.1, z3053.2.2.1, z3053.2.2.2.1, 1, z3053.2.2.2.2))
        else
         if (z5.1 == (3 : Int)) = true then
          (c_nextZ (((50 : Int), z5.2))).bind fun z3059 =>
           (c_putZ (((18 : Int), z3059))).bind fun z3066 =>
            dn ((z3066.1, z3066.2.1, z3066.2.2.1, z3066.2.2.2.1, 1, z3066.2.2.2.2))
         else
          if (z5.1 == (4 : Int)) = true then
           (c_nextZ (((720 : Int), z5.2))).bind fun z3072 =>
            (c_putZ (((1 : Int), w (z3072.1 - (360 : Int)), z3072.2))).bind fun z3079 =>
             (c_putA (((22 : Int), (0 : Int), z3079.1, z3079.2.1, z3079.2.2.1, z3079.2.2.2.1, 1, z3079.2.2.2.2))).bind fun z3089 =>
              dn (z3089.2)
          else
           if (z5.1 == (5 : Int)) = true then
            (c_nextZ (((100 : Int), z5.2))).bind fun z3095 =>
             (c_putZ (((26 : Int), z3095))).bind fun z3102 =>
              dn ((z3102.1, z3102.2.1, z3102.2.2.1, z3102.2.2.2.1, 1, z3102.2.2.2.2))
           else
            if (z5.1 == (6 : Int)) = true then
             (c_condZ (z5.2)).bind fun z3107 =>
              (c_putA (((21 : Int), (0 : Int), z3107))).bind fun z3117 =>
               dn (z3117.2)
            else
             if (z5.1 == (7 : Int)) = true then
              (c_nextZ (((4 : Int), z5.2))).bind fun z3123 =>
               (c_putZ (((16 : Int), w ((1 : Int) + z3123.1), z3123.2))).bind fun z3130 =>
                (c_blockA (((2 : Int), w (x.1 - (1 : Int)), z3130.1, z3130.2.1, z3130.2.2.1, z3130.2.2.2.1, 1, z3130.2.2.2.2))).bind fun z3140 =>
                 (c_putA (((17 : Int), (1 : Int), z3140))).bind fun z3150 =>
                  dn (z3150.2)
             else
              if (z5.1 == (8 : Int)) = true then
               (c_nextZ (((30 : Int), z5.2))).bind fun z3156 =>
                (c_putZ (((19 : Int), z3156))).bind fun z3163 =>
                 (c_condA ((z3163.1, z3163.2.1, z3163.2.2.1, z3163.2.2.2.1, 1, z3163.2.2.2.2))).bind fun z3171 =>
                  (c_putA (((20 : Int), (1 : Int), z3171))).bind fun z3181 =>
                   dn (z3181.2)
              else
               if (z5.1 == (9 : Int)) = true then
                (c_nextZ (((1000 : Int), z5.2))).bind fun z3187 =>
                 (c_putZ (((27 : Int), z3187))).bind fun z3194 =>
                  dn ((z3194.1, z3194.2.1, z3194.2.2.1, z3194.2.2.2.1, 1, z3194.2.2.2.2))
               else
                (c_condZ (z5.2)).bind fun z3199 =>
                 (c_putA (((15 : Int), (0 : Int), z3199))).bind fun z3209 =>
                  (c_blockA (((2 : Int), w (x.1 - (1 : Int)), z3209.2))).bind fun z3219 =>
                   if (z5.1 == (11 : Int)) = true then
                    (c_putA (((14 : Int), (0 : Int), z3219))).bind fun z3229 =>
                     if (0 : Int) ≤ z3209.1 ∧ z3209.1 < ((z3229.2.2.2.2.2.1 : Nat) : Int) then
                      if 0 + Int.toNat (z3209.1) < z3229.2.2.2.2.2.1 ∧ 2 = 2 then
                       (c_blockA (((2 : Int), w (x.1 - (1 : Int)), z3229.2.1, z3229.2.2.1, z3229.2.2.2.1, z3229.2.2.2.2.1, z3229.2.2.2.2.2.1, z3229.2.2.2.2.2.2.1, fun (j : Nat) => if j = 0 + Int.toNat (z3209.1) then ((z3229.2.2.2.2.2.1 : Nat) : Int) else z3229.2.2.2.2.2.2.2 j))).bind fun z3239 =>
                        if (0 : Int) ≤ z3229.1 ∧ z3229.1 < ((z3239.2.2.2.2.1 : Nat) : Int) then
                         if 0 + Int.toNat (z3229.1) < z3239.2.2.2.2.1 ∧ 2 = 2 then
                          dn ((z3239.1, z3239.2.1, z3239.2.2.1, z3239.2.2.2.1, z3239.2.2.2.2.1, z3239.2.2.2.2.2.1, fun (j : Nat) => if j = 0 + Int.toNat (z3229.1) then ((z3239.2.2.2.2.1 : Nat) : Int) else z3239.2.2.2.2.2.2 j))
                         else
                          none
                        else
                         none
                      else
                       none
                     else
                      none
                   else
                    if (0 : Int) ≤ z3209.1 ∧ z3209.1 < ((z3219.2.2.2.2.1 : Nat) : Int) then
                     if 0 + Int.toNat (z3209.1) < z3219.2.2.2.2.1 ∧ 2 = 2 then
                      dn ((z3219.1, z3219.2.1, z3219.2.2.1, z3219.2.2.2.1, z3219.2.2.2.2.1, z3219.2.2.2.2.2.1, fun (j : Nat) => if j = 0 + Int.toNat (z3209.1) then ((z3219.2.2.2.2.1 : Nat) : Int) else z3219.2.2.2.2.2.2 j))
                     else
                      none
                    else
                     none
    else
     if (z5.1 == (0 : Int)) = true then
      (c_nextZ (((8 : Int), z5.2))).bind fun z3245 =>
       (c_nextZ (((50 : Int), z3245.2))).bind fun z3251 =>
        (c_putZ (((23 : Int), w (w (z3245.1 * (1000000 : Int)) + z3251.1), z3251.2))).bind fun z3258 =>
         dn ((z3258.1, z3258.2.1, z3258.2.2.1, z3258.2.2.2.1, 1, z3258.2.2.2.2))
     else
      if (z5.1 == (1 : Int)) = true then
       (c_nextZ (((4000 : Int), z5.2))).bind fun z3264 =>
        (c_putZ (((24 : Int), z3264))).bind fun z3271 =>
         dn ((z3271.1, z3271.2.1, z3271.2.2.1, z3271.2.2.2.1, 1, z3271.2.2.2.2))
      else
       if (z5.1 == (2 : Int)) = true then
        (c_nextZ (((4000 : Int), z5.2))).bind fun z3277 =>
         (c_putZ (((25 : Int), z3277))).bind fun z3284 =>
          dn ((z3284.1, z3284.2.1, z3284.2.2.1, z3284.2.2.2.1, 1, z3284.2.2.2.2))
       else
        if (z5.1 == (3 : Int)) = true then
         (c_nextZ (((50 : Int), z5.2))).bind fun z3290 =>
          (c_putZ (((18 : Int), z3290))).bind fun z3297 =>
           dn ((z3297.1, z3297.2.1, z3297.2.2.1, z3297.2.2.2.1, 1, z3297.2.2.2.2))
        else
         if (z5.1 == (4 : Int)) = true then
          (c_nextZ (((720 : Int), z5.2))).bind fun z3303 =>
           (c_putZ (((1 : Int), w (z3303.1 - (360 : Int)), z3303.2))).bind fun z3310 =>
            (c_putA (((22 : Int), (0 : Int), z3310.1, z3310.2.1, z3310.2.2.1, z3310.2.2.2.1, 1, z3310.2.2.2.2))).bind fun z3320 =>
             dn (z3320.2)
         else
          if (z5.1 == (5 : Int)) = true then
           (c_nextZ (((100 : Int), z5.2))).bind fun z3326 =>
            (c_putZ (((26 : Int), z3326))).bind fun z3333 =>
             dn ((z3333.1, z3333.2.1, z3333.2.2.1, z3333.2.2.2.1, 1, z3333.2.2.2.2))
          else
           if (z5.1 == (6 : Int)) = true then
            (c_condZ (z5.2)).bind fun z3338 =>
             (c_putA (((21 : Int), (0 : Int), z3338))).bind fun z3348 =>
              dn (z3348.2)
           else
            if (z5.1 == (7 : Int)) = true then
             (c_nextZ (((4 : Int), z5.2))).bind fun z3354 =>
              (c_putZ (((16 : Int), w ((1 : Int) + z3354.1), z3354.2))).bind fun z3361 =>
               (c_blockA (((2 : Int), w (x.1 - (1 : Int)), z3361.1, z3361.2.1, z3361.2.2.1, z3361.2.2.2.1, 1, z3361.2.2.2.2))).bind fun z3371 =>
                (c_putA (((17 : Int), (1 : Int), z3371))).bind fun z3381 =>
                 dn (z3381.2)
            else
             if (z5.1 == (8 : Int)) = true then
              (c_nextZ (((30 : Int), z5.2))).bind fun z3387 =>
               (c_putZ (((19 : Int), z3387))).bind fun z3394 =>
                (c_condA ((z3394.1, z3394.2.1, z3394.2.2.1, z3394.2.2.2.1, 1, z3394.2.2.2.2))).bind fun z3402 =>
                 (c_putA (((20 : Int), (1 : Int), z3402))).bind fun z3412 =>
                  dn (z3412.2)
             else
              if (z5.1 == (9 : Int)) = true then
               (c_nextZ (((1000 : Int), z5.2))).bind fun z3418 =>
                (c_putZ (((27 : Int), z3418))).bind fun z3425 =>
                 dn ((z3425.1, z3425.2.1, z3425.2.2.1, z3425.2.2.2.1, 1, z3425.2.2.2.2))
              else
               (c_condZ (z5.2)).bind fun z3430 =>
                (c_putA (((15 : Int), (0 : Int), z3430))).bind fun z3440 =>
                 (c_blockA (((2 : Int), w (x.1 - (1 : Int)), z3440.2))).bind fun z3450 =>
                  if (z5.1 == (11 : Int)) = true then
                   (c_putA (((14 : Int), (0 : Int), z3450))).bind fun z3460 =>
                    if (0 : Int) ≤ z3440.1 ∧ z3440.1 < ((z3460.2.2.2.2.2.1 : Nat) : Int) then
                     if 0 + Int.toNat (z3440.1) < z3460.2.2.2.2.2.1 ∧ 2 = 2 then
                      (c_blockA (((2 : Int), w (x.1 - (1 : Int)), z3460.2.1, z3460.2.2.1, z3460.2.2.2.1, z3460.2.2.2.2.1, z3460.2.2.2.2.2.1, z3460.2.2.2.2.2.2.1, fun (j : Nat) => if j = 0 + Int.toNat (z3440.1) then ((z3460.2.2.2.2.2.1 : Nat) : Int) else z3460.2.2.2.2.2.2.2 j))).bind fun z3470 =>
                       if (0 : Int) ≤ z3460.1 ∧ z3460.1 < ((z3470.2.2.2.2.1 : Nat) : Int) then
                        if 0 + Int.toNat (z3460.1) < z3470.2.2.2.2.1 ∧ 2 = 2 then
                         dn ((z3470.1, z3470.2.1, z3470.2.2.1, z3470.2.2.2.1, z3470.2.2.2.2.1, z3470.2.2.2.2.2.1, fun (j : Nat) => if j = 0 + Int.toNat (z3460.1) then ((z3470.2.2.2.2.1 : Nat) : Int) else z3470.2.2.2.2.2.2 j))
                        else
                         none
                       else
                        none
                     else
                      none
                    else
                     none
                  else
                   if (0 : Int) ≤ z3440.1 ∧ z3440.1 < ((z3450.2.2.2.2.1 : Nat) : Int) then
                    if 0 + Int.toNat (z3440.1) < z3450.2.2.2.2.1 ∧ 2 = 2 then
                     dn ((z3450.1, z3450.2.1, z3450.2.2.1, z3450.2.2.2.1, z3450.2.2.2.2.1, z3450.2.2.2.2.2.1, fun (j : Nat) => if j = 0 + Int.toNat (z3440.1) then ((z3450.2.2.2.2.1 : Nat) : Int) else z3450.2.2.2.2.2.2 j))
                    else
                     none
                   else
                    none
theorem n_stmtZ {β : Type} (c_nextZ : a_nextZ → Option g_nextZ) (c_putA : a_putA → Option g_putA) (c_putZ : a_putZ → Option g_putZ) (c_condA : a_condA → Option g_condA) (c_condZ : a_condZ → Option g_condZ) (c_blockA : a_blockA → Option g_blockA) (x : a_stmtZ) (dn : g_stmtZ → Option β) : t_stmtZ c_nextZ c_putA c_putZ c_condA c_condZ c_blockA x dn = (t_stmtZ c_nextZ c_putA c_putZ c_condA c_condZ c_blockA x some).bind dn := by
  unfold t_stmtZ
  repeat' first | exact free_none | refine free_bind (fun z => ?_) | refine free_ite ?_ ?_ | refine free_sum (fun z => ?_) (fun z => ?_) | rfl
theorem r_stmtZ (c_nextZ : a_nextZ → Option g_nextZ) (c_putA : a_putA → Option g_putA) (c_putZ : a_putZ → Option g_putZ) (c_condA : a_condA → Option g_condA) (c_condZ : a_condZ → Option g_condZ) (c_blockA : a_blockA → Option g_blockA) (x : a_stmtZ) : callK E3 (ftab 54 (fun _ L => L.length == 1) A_nextZ x_nextZ c_nextZ (ftab 37 (fun _ L => L.length == 2) A_putA x_putA c_putA (ftab 37 (fun _ L => L.length == 1) A_putZ x_putZ c_putZ (ftab 68 (fun _ L => L.length == 2) A_condA x_condA c_condA (ftab 68 (fun _ L => L.length == 1) A_condZ x_condZ c_condZ (ftab 36 (fun _ L => L.length == 2) A_blockA x_blockA c_blockA ca0)))))) lo0 55 (A_stmtZ x).1 (A_stmtZ x).2 K = t_stmtZ (fun x => viaF A_nextZ c_nextZ (A_nextZ x)) (fun x => viaF A_putA c_putA (A_putA x)) (fun x => viaF A_putZ c_putZ (A_putZ x)) (fun x => viaF A_condA c_condA (A_condA x)) (fun x => viaF A_condZ c_condZ (A_condZ x)) (fun x => viaF A_blockA c_blockA (A_blockA x)) x (fun z => some (.c (R_stmtZ z))) := by kernel_rfl
theorem s_stmtZ (c_nextZ : a_nextZ → Option g_nextZ) (h_nextZ : ∀ x z, c_nextZ x = some z → SC E3 54 (A_nextZ x).1 (A_nextZ x).2 (R_nextZ z)) (c_putA : a_putA → Option g_putA) (h_putA : ∀ x z, c_putA x = some z → SC E3 37 (A_putA x).1 (A_putA x).2 (R_putA z)) (c_putZ : a_putZ → Option g_putZ) (h_putZ : ∀ x z, c_putZ x = some z → SC E3 37 (A_putZ x).1 (A_putZ x).2 (R_putZ z)) (c_condA : a_condA → Option g_condA) (h_condA : ∀ x z, c_condA x = some z → SC E3 68 (A_condA x).1 (A_condA x).2 (R_condA z)) (c_condZ : a_condZ → Option g_condZ) (h_condZ : ∀ x z, c_condZ x = some z → SC E3 68 (A_condZ x).1 (A_condZ x).2 (R_condZ z)) (c_blockA : a_blockA → Option g_blockA) (h_blockA : ∀ x z, c_blockA x = some z → SC E3 36 (A_blockA x).1 (A_blockA x).2 (R_blockA z)) (q : Nat) (x : a_stmtZ) (z : g_stmtZ) (h : t_stmtZ c_nextZ c_putA c_putZ c_condA c_condZ c_blockA x some = some z) : SC E3 55 (A_stmtZ x).1 (A_stmtZ x).2 (R_stmtZ z) := by
  refine SC.of hW3 hX3 (ftab_cons h_nextZ xe_nextZ (ftab_cons h_putA xe_putA (ftab_cons h_putZ xe_putZ (ftab_cons h_condA xe_condA (ftab_cons h_condZ xe_condZ (ftab_cons h_blockA xe_blockA ca0_sound)))))) lo0_sound ((r_stmtZ c_nextZ c_putA c_putZ c_condA c_condZ c_blockA x).trans ?_)
  rw [via_eq i_nextZ c_nextZ, via_eq i_putA c_putA, via_eq i_putZ c_putZ, via_eq i_condA c_condA, via_eq i_condZ c_condZ, via_eq i_blockA c_blockA, n_stmtZ, h]; rfl
noncomputable def stmtZ (q : Nat) (x : a_stmtZ) : Option g_stmtZ := t_stmtZ (nextZ q) (putA q) (putZ q) (condA q) (condZ q) (blockA q) x some
theorem sc_stmtZ (q : Nat) : ∀ (x : a_stmtZ) (z : g_stmtZ), stmtZ q x = some z → SC E3 55 (A_stmtZ x).1 (A_stmtZ x).2 (R_stmtZ z) := fun x z h => s_stmtZ (nextZ q) (sc_nextZ q) (putA q) (sc_putA q) (putZ q) (sc_putZ q) (condA q) (sc_condA q) (condZ q) (sc_condZ q) (blockA q) (sc_blockA q) q x z h
abbrev a_blockZ : Type := Int × Int × Nat × (Nat → Int) × Int × Bool
abbrev g_blockZ : Type := (Nat × (Nat → Int) × Int × Bool × Nat × (Nat → Int) × (Nat → Int)) ⊕ (Nat × (Nat → Int) × Int × Bool)
def A_blockZ : a_blockZ → List V × List (Option Chunk) := (fun x => (fun (d : Int) (e : Int) (m : Nat) (y : Nat → Int) (a : Int) (tl : Bool) => (([.ptr 0 0, i64 d, i64 e] : List V), ([some (.blk [.ro 1 m (fun j => [i64 (y j)]), i64 a, bo tl, nilS])] : List (Option Chunk)))) x.1 x.2.1 x.2.2.1 x.2.2.2.1 x.2.2.2.2.1 x.2.2.2.2.2)
def d_blockZ (t : List V × List (Option Chunk)) : a_blockZ := ((vI (t.1.getD 1 .junk)), (vI (t.1.getD 2 .junk)), (vRoN ((chB (t.2.getD 0 none)).getD 0 .junk)), (fun j => (vI (((vRoF ((chB (t.2.getD 0 none)).getD 0 .junk)) j).getD 0 .junk))), (vI ((chB (t.2.getD 0 none)).getD 1 .junk)), (vB ((chB (t.2.getD 0 none)).getD 2 .junk)))
theorem i_blockZ : ∀ x y, A_blockZ x = A_blockZ y → x = y := fun x y h => (congrArg d_blockZ h :)
def R_blockZ : g_blockZ → CRes := Sum.elim ((fun z => (fun (m : Nat) (y : Nat → Int) (a : Int) (tl : Bool) (n : Nat) (op : Nat → Int) (ar : Nat → Int) => .ret (.tup []) [some (.blk [.ro 1 m (fun j => [i64 (y j)]), i64 a, bo tl, .sl 1 2 0 n]), some (.row 74 2 n (fun j => [i64 (op j), i64 (ar j)]))]) z.1 z.2.1 z.2.2.1 z.2.2.2.1 z.2.2.2.2.1 z.2.2.2.2.2.1 z.2.2.2.2.2.2 : (Nat × (Nat → Int) × Int × Bool × Nat × (Nat → Int) × (Nat → Int)) → CRes)) ((fun z => (fun (m : Nat) (y : Nat → Int) (a : Int) (tl : Bool) => .ret (.tup []) [some (.blk [.ro 1 m (fun j => [i64 (y j)]), i64 a, bo tl, nilS])]) z.1 z.2.1 z.2.2.1 z.2.2.2 : (Nat × (Nat → Int) × Int × Bool) → CRes))
def x_blockZ (z : g_blockZ) (k : CRes → Option Ans) : Option Ans := Sum.elim (fun za => k (R_blockZ (.inl za))) (fun zb => k (R_blockZ (.inr zb))) z
theorem xe_blockZ : ∀ z k, x_blockZ z k = k (R_blockZ z) := fun z k => by
  rcases z with z | z <;> rfl
abbrev blockZ_l0_a : Type := (Int × Nat × (Nat → Int) × Int × Bool) ⊕ (Int × Nat × (Nat → Int) × Int × Bool × Nat × (Nat → Int) × (Nat → Int) × Int)
abbrev blockZ_l0_g : Type := (Nat × (Nat → Int) × Int × Bool) ⊕ (Nat × (Nat → Int) × Int × Bool × Nat × (Nat → Int) × (Nat → Int))
def blockZ_l0_S0 (x : a_blockZ) (y : Int × Nat × (Nat → Int) × Int × Bool) : St := { fr := [V.ptr 0 0, V.junk, i64 (x.2.1), V.junk, V.junk, V.junk, i64 (y.1), i64 (0 : Int)] ++ jk 20, H := hp [some (Chunk.blk [V.ro 1 (y.2.1) fun (j : Nat) => [i64 (y.2.2.1 j)], i64 (y.2.2.2.1), bo (y.2.2.2.2), nilS])], nx := 1, rt := 1, me := 36 }
def blockZ_l0_d0 (s : St) : Int × Nat × (Nat → Int) × Int × Bool := ((vI (s.fr.getD 6 .junk)), (vRoN ((chB (s.H 0)).getD 0 .junk)), (fun j => (vI (((vRoF ((chB (s.H 0)).getD 0 .junk)) j).getD 0 .junk))), (vI ((chB (s.H 0)).getD 1 .junk)), (vB ((chB (s.H 0)).getD 2 .junk)))
def blockZ_l0_S1 (x : a_blockZ) (y : Int × Nat × (Nat → Int) × Int × Bool × Nat × (Nat → Int) × (Nat → Int) × Int) : St := { fr := [V.ptr 0 0, V.junk, i64 (x.2.1), V.junk, V.junk, V.junk, i64 (y.1), i64 (y.2.2.2.2.2.2.2.2)] ++ jk 20, H := hp [some (Chunk.blk [V.ro 1 (y.2.1) fun (j : Nat) => [i64 (y.2.2.1 j)], i64 (y.2.2.2.1), bo (y.2.2.2.2.1), V.sl 1 2 0 (y.2.2.2.2.2.1)]), some (Chunk.row 74 2 (y.2.2.2.2.2.1) fun (j : Nat) => [i64 (y.2.2.2.2.2.2.1 j), i64 (y.2.2.2.2.2.2.2.1 j)])], nx := 2, rt := 1, me := 36 }
def blockZ_l0_d1 (s : St) : Int × Nat × (Nat → Int) × Int × Bool × Nat × (Nat → Int) × (Nat → Int) × Int := ((vI (s.fr.getD 6 .junk)), (vRoN ((chB (s.H 0)).getD 0 .junk)), (fun j => (vI (((vRoF ((chB (s.H 0)).getD 0 .junk)) j).getD 0 .junk))), (vI ((chB (s.H 0)).getD 1 .junk)), (vB ((chB (s.H 0)).getD 2 .junk)), (vSlN ((chB (s.H 0)).getD 3 .junk)), (fun j => (vI (((chF (s.H 1)) j).getD 0 .junk))), (fun j => (vI (((chF (s.H 1)) j).getD 1 .junk))), (vI (s.fr.getD 7 .junk)))
def blockZ_l0_S (x : a_blockZ) : blockZ_l0_a → St := (Sum.elim (blockZ_l0_S0 x) (blockZ_l0_S1 x))
def blockZ_l0_d (s : St) : blockZ_l0_a := (match s.nx == 1 with | true => (.inl (blockZ_l0_d0 s)) | false => (.inr (blockZ_l0_d1 s)))
theorem blockZ_l0_i (x : a_blockZ) : ∀ y y', blockZ_l0_S x y = blockZ_l0_S x y' → y = y' := fun y y' h => by rcases y with y | y <;> rcases y' with y | y <;> exact (congrArg blockZ_l0_d h :)
def blockZ_l0_T (x : a_blockZ) : blockZ_l0_g → Ex × St := (Sum.elim (fun z => (Ex.exit 0, { fr := [V.junk] ++ jk 27, H := hp [some (Chunk.blk [V.ro 1 (z.1) fun (j : Nat) => [i64 (z.2.1 j)], i64 (z.2.2.1), bo (z.2.2.2), nilS])], nx := 1, rt := 1, me := 36 })) (fun z => (Ex.exit 0, { fr := [V.junk] ++ jk 27, H := hp [some (Chunk.blk [V.ro 1 (z.1) fun (j : Nat) => [i64 (z.2.1 j)], i64 (z.2.2.1), bo (z.2.2.2.1), V.sl 1 2 0 (z.2.2.2.2.1)]), some (Chunk.row 74 2 (z.2.2.2.2.1) fun (j : Nat) => [i64 (z.2.2.2.2.2.1 j), i64 (z.2.2.2.2.2.2 j)])], nx := 2, rt := 1, me := 36 })))
def blockZ_l0_x (x : a_blockZ) (z : blockZ_l0_g) (k : KX) : Option Ans := Sum.elim (fun za => k (blockZ_l0_T x (.inl za)).1 (blockZ_l0_T x (.inl za)).2) (fun zb => k (blockZ_l0_T x (.inr zb)).1 (blockZ_l0_T x (.inr zb)).2) z
theorem blockZ_l0_xe (x : a_blockZ) : ∀ z k, blockZ_l0_x x z k = k (blockZ_l0_T x z).1 (blockZ_l0_T x z).2 := fun z k => by
  rcases z with z | z <;> rfl
theorem blockZ_l0_k0 (x : a_blockZ) (z : Nat × (Nat → Int) × Int × Bool) : KCM [(0, 0)] 0 (blockZ_l0_T x (.inl z)).1 (blockZ_l0_T x (.inl z)).2 = some (.l (blockZ_l0_T x (.inl z)).1 (blockZ_l0_T x (.inl z)).2) := by kernel_rfl
theorem blockZ_l0_k1 (x : a_blockZ) (z : Nat × (Nat → Int) × Int × Bool × Nat × (Nat → Int) × (Nat → Int)) : KCM [(0, 0)] 0 (blockZ_l0_T x (.inr z)).1 (blockZ_l0_T x (.inr z)).2 = some (.l (blockZ_l0_T x (.inr z)).1 (blockZ_l0_T x (.inr z)).2) := by kernel_rfl
def blockZ_l0_t0 {β : Type} (c_nextZ : a_nextZ → Option g_nextZ) (c_stmtA : a_stmtA → Option g_stmtA) (c_stmtZ : a_stmtZ → Option g_stmtZ) (x : a_blockZ) (y : Int × Nat × (Nat → Int) × Int × Bool) (nx : blockZ_l0_a → Option β) (dn : blockZ_l0_g → Option β) : Option β :=
 if decide ((0 : Int) < y.1) = true then
  (c_stmtZ ((x.2.1, y.2))).bind fun z201 =>
   nx (.inr ((y.1, z201.1, z201.2.1, z201.2.2.1, z201.2.2.2.1, z201.2.2.2.2.1, z201.2.2.2.2.2.1, z201.2.2.2.2.2.2, (1 : Int))))
 else
  dn (.inl (y.2))
theorem blockZ_l0_n0 {β : Type} (c_nextZ : a_nextZ → Option g_nextZ) (c_stmtA : a_stmtA → Option g_stmtA) (c_stmtZ : a_stmtZ → Option g_stmtZ) (x : a_blockZ) (y : Int × Nat × (Nat → Int) × Int × Bool) (nx : blockZ_l0_a → Option β) (dn : blockZ_l0_g → Option β) : blockZ_l0_t0 c_nextZ c_stmtA c_stmtZ x y nx dn = (blockZ_l0_t0 c_nextZ c_stmtA c_stmtZ x y (fun y => some (.inl y)) (fun z => some (.inr z))).bind fun r => Sum.elim nx dn r := by
  unfold blockZ_l0_t0
  repeat' first | exact free_none | refine free_bind (fun z => ?_) | refine free_ite ?_ ?_ | refine free_sum (fun z => ?_) (fun z => ?_) | rfl
theorem blockZ_l0_r0 (c_nextZ : a_nextZ → Option g_nextZ) (c_stmtA : a_stmtA → Option g_stmtA) (c_stmtZ : a_stmtZ → Option g_stmtZ) (x : a_blockZ) (y : Int × Nat × (Nat → Int) × Int × Bool) (lo : LoopT) : loopK E3 (ftab 54 (fun _ L => L.length == 1) A_nextZ x_nextZ c_nextZ (ftab 55 (fun _ L => L.length == 2) A_stmtA x_stmtA c_stmtA (ftab 55 (fun _ L => L.length == 1) A_stmtZ x_stmtZ c_stmtZ ca0))) lo 0 197 (bodyOf E3 36 0) (blockZ_l0_S x (.inl y)) (KCM [(0, 0)] 0) = blockZ_l0_t0 (fun x => viaF A_nextZ c_nextZ (A_nextZ x)) (fun x => viaF A_stmtA c_stmtA (A_stmtA x)) (fun x => viaF A_stmtZ c_stmtZ (A_stmtZ x)) x y (fun y => lo 0 197 (bodyOf E3 36 0) (blockZ_l0_S x y) (KCM [(0, 0)] 0)) (fun z => some (.l (blockZ_l0_T x z).1 (blockZ_l0_T x z).2)) := by kernel_rfl
def blockZ_l0_t1 {β : Type} (c_nextZ : a_nextZ → Option g_nextZ) (c_stmtA : a_stmtA → Option g_stmtA) (c_stmtZ : a_stmtZ → Option g_stmtZ) (x : a_blockZ) (y : Int × Nat × (Nat → Int) × Int × Bool × Nat × (Nat → Int) × (Nat → Int) × Int) (nx : blockZ_l0_a → Option β) (dn : blockZ_l0_g → Option β) : Option β :=
 if decide (y.2.2.2.2.2.2.2.2 < y.1) = true then
  if decide (((y.2.2.2.2.2.1 : Nat) : Int) < (200 : Int)) = true then
   (c_stmtA ((x.2.1, y.2.1, y.2.2.1, y.2.2.2.1, y.2.2.2.2.1, y.2.2.2.2.2.1, y.2.2.2.2.2.2.1, y.2.2.2.2.2.2.2.1))).bind fun z211 =>
    nx (.inr ((y.1, z211.1, z211.2.1, z211.2.2.1, z211.2.2.2.1, z211.2.2.2.2.1, z211.2.2.2.2.2.1, z211.2.2.2.2.2.2, w (y.2.2.2.2.2.2.2.2 + (1 : Int)))))
  else
   dn (.inr ((y.2.1, y.2.2.1, y.2.2.2.1, y.2.2.2.2.1, y.2.2.2.2.2.1, y.2.2.2.2.2.2.1, y.2.2.2.2.2.2.2.1)))
 else
  dn (.inr ((y.2.1, y.2.2.1, y.2.2.2.1, y.2.2.2.2.1, y.2.2.2.2.2.1, y.2.2.2.2.2.2.1, y.2.2.2.2.2.2.2.1)))
theorem blockZ_l0_n1 {β : Type} (c_nextZ : a_nextZ → Option g_nextZ) (c_stmtA : a_stmtA → Option g_stmtA) (c_stmtZ : a_stmtZ → Option g_stmtZ) (x : a_blockZ) (y : Int × Nat × (Nat → Int) × Int × Bool × Nat × (Nat → Int) × (Nat → Int) × Int) (nx : blockZ_l0_a → Option β) (dn : blockZ_l0_g → Option β) : blockZ_l0_t1 c_nextZ c_stmtA c_stmtZ x y nx dn = (blockZ_l0_t1 c_nextZ c_stmtA c_stmtZ x y (fun y => some (.inl y)) (fun z => some (.inr z))).bind fun r => Sum.elim nx dn r := by
  unfold blockZ_l0_t1
  repeat' first | exact free_none | refine free_bind (fun z => ?_) | refine free_ite ?_ ?_ | refine free_sum (fun z => ?_) (fun z => ?_) | rfl
theorem blockZ_l0_r1 (c_nextZ : a_nextZ → Option g_nextZ) (c_stmtA : a_stmtA → Option g_stmtA) (c_stmtZ : a_stmtZ → Option g_stmtZ) (x : a_blockZ) (y : Int × Nat × (Nat → Int) × Int × Bool × Nat × (Nat → Int) × (Nat → Int) × Int) (lo : LoopT) : loopK E3 (ftab 54 (fun _ L => L.length == 1) A_nextZ x_nextZ c_nextZ (ftab 55 (fun _ L => L.length == 2) A_stmtA x_stmtA c_stmtA (ftab 55 (fun _ L => L.length == 1) A_stmtZ x_stmtZ c_stmtZ ca0))) lo 0 197 (bodyOf E3 36 0) (blockZ_l0_S x (.inr y)) (KCM [(0, 0)] 0) = blockZ_l0_t1 (fun x => viaF A_nextZ c_nextZ (A_nextZ x)) (fun x => viaF A_stmtA c_stmtA (A_stmtA x)) (fun x => viaF A_stmtZ c_stmtZ (A_stmtZ x)) x y (fun y => lo 0 197 (bodyOf E3 36 0) (blockZ_l0_S x y) (KCM [(0, 0)] 0)) (fun z => some (.l (blockZ_l0_T x z).1 (blockZ_l0_T x z).2)) := by kernel_rfl
noncomputable def blockZ_l0 (c_nextZ : a_nextZ → Option g_nextZ) (c_stmtA : a_stmtA → Option g_stmtA) (c_stmtZ : a_stmtZ → Option g_stmtZ) (q : Nat) (x : a_blockZ) : blockZ_l0_a → Option blockZ_l0_g := lpG (Sum.elim (fun y => blockZ_l0_t0 c_nextZ c_stmtA c_stmtZ x y (fun y => some (.inl y)) (fun z => some (.inr z))) (fun y => blockZ_l0_t1 c_nextZ c_stmtA c_stmtZ x y (fun y => some (.inl y)) (fun z => some (.inr z)))) q
theorem blockZ_l0_s (c_nextZ : a_nextZ → Option g_nextZ) (h_nextZ : ∀ x z, c_nextZ x = some z → SC E3 54 (A_nextZ x).1 (A_nextZ x).2 (R_nextZ z)) (c_stmtA : a_stmtA → Option g_stmtA) (h_stmtA : ∀ x z, c_stmtA x = some z → SC E3 55 (A_stmtA x).1 (A_stmtA x).2 (R_stmtA z)) (c_stmtZ : a_stmtZ → Option g_stmtZ) (h_stmtZ : ∀ x z, c_stmtZ x = some z → SC E3 55 (A_stmtZ x).1 (A_stmtZ x).2 (R_stmtZ z)) (q : Nat) (x : a_blockZ) : ∀ y z, blockZ_l0 c_nextZ c_stmtA c_stmtZ q x y = some z → SL E3 (bodyOf E3 36 0) (blockZ_l0_S x y) (blockZ_l0_T x z).1 (blockZ_l0_T x z).2 :=
  SL.lp (LT := fun lo => lo) (T := blockZ_l0_T x) (S := blockZ_l0_S x) (ftab_cons h_nextZ xe_nextZ (ftab_cons h_stmtA xe_stmtA (ftab_cons h_stmtZ xe_stmtZ ca0_sound))) hX3 (fun lo h => h) (fun lo y => by
      rcases y with y | y
      · exact (blockZ_l0_r0 c_nextZ c_stmtA c_stmtZ x y lo).trans (by rw [via_eq i_nextZ c_nextZ, via_eq i_stmtA c_stmtA, via_eq i_stmtZ c_stmtZ]; exact blockZ_l0_n0 _ _ _ _ _ _ _)
      · exact (blockZ_l0_r1 c_nextZ c_stmtA c_stmtZ x y lo).trans (by rw [via_eq i_nextZ c_nextZ, via_eq i_stmtA c_stmtA, via_eq i_stmtZ c_stmtZ]; exact blockZ_l0_n1 _ _ _ _ _ _ _)) (fun z => by rcases z with z | z <;> first | exact blockZ_l0_k0 x z | exact blockZ_l0_k1 x z) q
def t_blockZ {β : Type} (c_nextZ : a_nextZ → Option g_nextZ) (c_stmtA : a_stmtA → Option g_stmtA) (c_stmtZ : a_stmtZ → Option g_stmtZ) (l_blockZ_l0 : blockZ_l0_a → Option blockZ_l0_g) (x : a_blockZ) (dn : g_blockZ → Option β) : Option β :=
 (c_nextZ ((w (x.1 + (1 : Int)), x.2.2))).bind fun z5 =>
  (l_blockZ_l0 (.inl z5)).bind fun z176 =>
   Sum.elim (fun z176a =>
   dn (.inr z176a)) (fun z176b =>
   dn (.inl z176b)) z176
theorem n_blockZ {β : Type} (c_nextZ : a_nextZ → Option g_nextZ) (c_stmtA : a_stmtA → Option g_stmtA) (c_stmtZ : a_stmtZ → Option g_stmtZ) (l_blockZ_l0 : blockZ_l0_a → Option blockZ_l0_g) (x : a_blockZ) (dn : g_blockZ → Option β) : t_blockZ c_nextZ c_stmtA c_stmtZ l_blockZ_l0 x dn = (t_blockZ c_nextZ c_stmtA c_stmtZ l_blockZ_l0 x some).bind dn := by
  unfold t_blockZ
  repeat' first | exact free_none | refine free_bind (fun z => ?_) | refine free_ite ?_ ?_ | refine free_sum (fun z => ?_) (fun z => ?_) | rfl
theorem r_blockZ (c_nextZ : a_nextZ → Option g_nextZ) (c_stmtA : a_stmtA → Option g_stmtA) (c_stmtZ : a_stmtZ → Option g_stmtZ) (l_blockZ_l0 : blockZ_l0_a → Option blockZ_l0_g) (x : a_blockZ) : callK E3 (ftab 54 (fun _ L => L.length == 1) A_nextZ x_nextZ c_nextZ (ftab 55 (fun _ L => L.length == 2) A_stmtA x_stmtA c_stmtA (ftab 55 (fun _ L => L.length == 1) A_stmtZ x_stmtZ c_stmtZ ca0))) (ltabF 0 (fun _ => true) (bodyOf E3 36 0) (blockZ_l0_S x) (blockZ_l0_x x) l_blockZ_l0 lo0) 36 (A_blockZ x).1 (A_blockZ x).2 K = t_blockZ (fun x => viaF A_nextZ c_nextZ (A_nextZ x)) (fun x => viaF A_stmtA c_stmtA (A_stmtA x)) (fun x => viaF A_stmtZ c_stmtZ (A_stmtZ x)) (fun y => viaF (fun y => (bodyOf E3 36 0, blockZ_l0_S x y)) l_blockZ_l0 (bodyOf E3 36 0, blockZ_l0_S x y)) x (fun z => some (.c (R_blockZ z))) := by kernel_rfl
theorem s_blockZ (c_nextZ : a_nextZ → Option g_nextZ) (h_nextZ : ∀ x z, c_nextZ x = some z → SC E3 54 (A_nextZ x).1 (A_nextZ x).2 (R_nextZ z)) (c_stmtA : a_stmtA → Option g_stmtA) (h_stmtA : ∀ x z, c_stmtA x = some z → SC E3 55 (A_stmtA x).1 (A_stmtA x).2 (R_stmtA z)) (c_stmtZ : a_stmtZ → Option g_stmtZ) (h_stmtZ : ∀ x z, c_stmtZ x = some z → SC E3 55 (A_stmtZ x).1 (A_stmtZ x).2 (R_stmtZ z)) (q : Nat) (x : a_blockZ) (z : g_blockZ) (h : t_blockZ c_nextZ c_stmtA c_stmtZ (blockZ_l0 c_nextZ c_stmtA c_stmtZ q x) x some = some z) : SC E3 36 (A_blockZ x).1 (A_blockZ x).2 (R_blockZ z) := by
  refine SC.of hW3 hX3 (ftab_cons h_nextZ xe_nextZ (ftab_cons h_stmtA xe_stmtA (ftab_cons h_stmtZ xe_stmtZ ca0_sound))) (ltabF_cons (blockZ_l0_s c_nextZ h_nextZ c_stmtA h_stmtA c_stmtZ h_stmtZ q x) (blockZ_l0_xe x) lo0_sound) ((r_blockZ c_nextZ c_stmtA c_stmtZ (blockZ_l0 c_nextZ c_stmtA c_stmtZ q x) x).trans ?_)
  rw [via_eq i_nextZ c_nextZ, via_eq i_stmtA c_stmtA, via_eq i_stmtZ c_stmtZ, via_eq (pair_inj (bodyOf E3 36 0) (blockZ_l0_i x)) (blockZ_l0 c_nextZ c_stmtA c_stmtZ q x), n_blockZ, h]; rfl
noncomputable def blockZ (q : Nat) (x : a_blockZ) : Option g_blockZ := t_blockZ (nextZ q) (stmtA q) (stmtZ q) (blockZ_l0 (nextZ q) (stmtA q) (stmtZ q) q x) x some
theorem sc_blockZ (q : Nat) : ∀ (x : a_blockZ) (z : g_blockZ), blockZ q x = some z → SC E3 36 (A_blockZ x).1 (A_blockZ x).2 (R_blockZ z) := fun x z h => s_blockZ (nextZ q) (sc_nextZ q) (stmtA q) (sc_stmtA q) (stmtZ q) (sc_stmtZ q) q x z h
end Go.Proofs.Ythegipdgillngaa
/- What the maker of code makes (plain). -/
namespace Go.Proofs.Ythegipdgillngaa
open Go Go.Am Go.Proofs
set_option linter.unusedSimpArgs false
set_option linter.unusedVariables false
set_option maxRecDepth 100000
/-- It answers, and so. -/
def Runs {α : Type} (o : Option α) (P : α → Prop) : Prop := ∃ z, o = some z ∧ P z
theorem Runs.bind {α β : Type} {o : Option α} {f : α → Option β} {P : α → Prop} {Q : β → Prop} (h : Runs o P) (g : ∀ z, P z → Runs (f z) Q) : Runs (o.bind f) Q := by
  obtain ⟨z, rfl, hz⟩ := h
  exact g z hz
theorem Runs.some {α : Type} {z : α} {P : α → Prop} (h : P z) : Runs (some z) P := ⟨z, rfl, h⟩
theorem Runs.mono {α : Type} {o : Option α} {P Q : α → Prop} (h : Runs o P) (g : ∀ z, P z → Q z) : Runs o Q := by
  obtain ⟨z, h1, h2⟩ := h
  exact ⟨z, h1, g z h2⟩
theorem Runs.if_pos {α : Type} {c : Prop} [Decidable c] {a b : Option α} {P : α → Prop} (hc : c) (h : Runs a P) : Runs (ite c a b) P := by rw [_root_.if_pos hc]; exact h
theorem Runs.if_neg {α : Type} {c : Prop} [Decidable c] {a b : Option α} {P : α → Prop} (hc : ¬ c) (h : Runs b P) : Runs (ite c a b) P := by rw [_root_.if_neg hc]; exact h
theorem Runs.ite {α : Type} {c : Prop} [Decidable c] {a b : Option α} {P : α → Prop} (h1 : c → Runs a P) (h2 : ¬ c → Runs b P) : Runs (_root_.ite c a b) P := by
  by_cases h : c
  · exact Runs.if_pos h (h1 h)
  · exact Runs.if_neg h (h2 h)
abbrev MT : Type := Nat × (Nat → Int) × Int × Bool × Nat × (Nat → Int) × (Nat → Int)
abbrev Is : Type := List (Int × Int)
/-- The maker holds this code. -/
structure MS (m : Nat) (y : Nat → Int) (tl : Bool) (l : Is) (z : MT) : Prop where
  m : z.1 = m
  y : z.2.1 = y
  tl : z.2.2.2.1 = tl
  n : z.2.2.2.2.1 = l.length
  row : ∀ j, j < l.length → z.2.2.2.2.2.1 j = (l.getD j (0, 0)).1 ∧ z.2.2.2.2.2.2 j = (l.getD j (0, 0)).2
section
variable {m : Nat} {y : Nat → Int} {tl : Bool} {q : Nat}
theorem pick_runs (hy : ∀ j, j < m → inR (y j)) (i : Int) {k : Int} (hk : 0 < k) : Runs (Pick q (m, y, i, k)) (fun v => 0 ≤ v ∧ v < k) := by
  unfold Pick t_Pick
  have hk0 : ¬ k = 0 := by omega
  refine Runs.ite (fun _ => Runs.some ⟨Int.le_refl 0, hk⟩) fun h1 => Runs.ite (fun _ => Runs.some ⟨Int.le_refl 0, hk⟩) fun h2 => ?_
  simp only [decide_eq_true_eq] at h1 h2
  refine Runs.if_pos (show (0 : Int) ≤ i ∧ i < (m : Int) by omega) ?_
  have ha := around_in (hy i.toNat (by omega)) hk
  unfold around at ha
  refine Runs.ite (fun h => Runs.if_neg hk0 (Runs.some ?_)) fun h => Runs.if_neg hk0 (Runs.some ?_)
  · rw [_root_.if_pos (by simpa using h)] at ha; exact ha
  · rw [_root_.if_neg (by simpa using h)] at ha; exact ha
theorem next_runs (hy : ∀ j, j < m → inR (y j)) {l : Is} {s : MT} (hs : MS m y tl l s) {k : Int} (hk : 0 < k) : Runs (nextA q (k, s)) (fun z => (0 ≤ z.1 ∧ z.1 < k) ∧ MS m y tl l z.2) := by
  obtain ⟨m', y', a, tl', n, op, ar⟩ := s
  obtain ⟨rfl, rfl, rfl, h4, h5⟩ := hs
  exact Runs.bind (pick_runs hy _ hk) fun v hv => Runs.some ⟨hv, ⟨rfl, rfl, rfl, h4, h5⟩⟩
theorem nextZ_runs (hy : ∀ j, j < m → inR (y j)) {a : Int} {k : Int} (hk : 0 < k) : Runs (nextZ q (k, m, y, a, tl)) (fun z => (0 ≤ z.1 ∧ z.1 < k) ∧ ∃ a', z.2 = (m, y, a', tl)) :=
  Runs.bind (pick_runs hy _ hk) fun v hv => Runs.some ⟨hv, _, rfl⟩
theorem getD_app (l : Is) (p : Int × Int) (j : Nat) : (l ++ [p]).getD j (0, 0) = if j < l.length then l.getD j (0, 0) else if j = l.length then p else (0, 0) := by
  simp only [List.getD_eq_getElem?_getD, List.getElem?_append]
  split
  · rfl
  · split
    · rename_i h; subst h; simp
    · rename_i h1 h2
      rw [List.getElem?_eq_none (by simp; omega)]; rfl
theorem put_runs {l : Is} {s : MT} (hs : MS m y tl l s) (o t : Int) (hl : l.length ≤ 300) : Runs (putA q (o, t, s)) (fun z => z.1 = l.length ∧ MS m y tl (l ++ [(o, t)]) z.2) := by
  obtain ⟨m', y', a, tl', n, op, ar⟩ := s
  obtain ⟨rfl, rfl, rfl, h4, h5⟩ := hs
  simp only at h4 h5
  subst h4
  unfold putA t_putA
  refine Runs.if_pos ⟨by simp only [roomBound]; omega, by simp only [maxLen]; omega, Nat.le_refl _⟩ (Runs.some ⟨?_, ⟨rfl, rfl, rfl, by simp, fun j hj => ?_⟩⟩)
  · show w (((l.length + 1 : Nat) : Int) - 1) = _
    rw [w_in (by unfold inR; omega)]; omega
  · simp only [getD_app]
    simp only [List.length_append, List.length_cons, List.length_nil] at hj
    by_cases h : j < l.length
    · simp only [h, if_true]; exact h5 j h
    · have : j = l.length := by omega
      simp only [h, if_false, this, if_true, and_self]
      simp
theorem putZ_runs (o t a : Int) : Runs (putZ q (o, t, m, y, a, tl)) (fun z => MS m y tl (([] : Is) ++ [(o, t)]) (z.1, z.2.1, z.2.2.1, z.2.2.2.1, 1, z.2.2.2.2)) := by
  unfold putZ t_putZ
  refine Runs.some ⟨rfl, rfl, rfl, rfl, fun j hj => ?_⟩
  have : j = 0 := by simpa using hj
  subst this
  exact ⟨rfl, rfl⟩
/-- A condition. -/
inductive Cond : Is → Prop
  | mk (t p o : Int) (ht : 0 ≤ t ∧ t < 6) (hp : -500 ≤ p ∧ p < 500) (ho : 10 ≤ o ∧ o ≤ 12) : Cond [(4, t), (1, p), (o, 0)]
  | not (t p o : Int) (ht : 0 ≤ t ∧ t < 6) (hp : -500 ≤ p ∧ p < 500) (ho : 10 ≤ o ∧ o ≤ 12) : Cond [(4, t), (1, p), (o, 0), (13, 0)]
def okOne (o a : Int) : Prop := (o = 23 ∧ 0 ≤ a ∧ a ≤ 7000049 ∧ a % 1000000 < 50) ∨ (o = 24 ∧ 0 ≤ a ∧ a < 4000) ∨ (o = 25 ∧ 0 ≤ a ∧ a < 4000) ∨ (o = 18 ∧ 0 ≤ a ∧ a < 50) ∨ (o = 26 ∧ 0 ≤ a ∧ a < 100)
/-- Statements from place i on; plain ones without branches. -/
inductive Seg (pl : Bool) : Nat → Is → Prop
  | nil (i : Nat) : Seg pl i []
  | app {i : Nat} {s t : Is} : Seg pl i s → Seg pl (i + s.length) t → Seg pl i (s ++ t)
  | one {i : Nat} {o a : Int} : okOne o a → Seg pl i [(o, a)]
  | point {i : Nat} {a : Int} : -360 ≤ a ∧ a < 360 → Seg pl i [(1, a), (22, 0)]
  | req {i : Nat} {c : Is} : Cond c → Seg pl i (c ++ [(21, 0)])
  | loop {i : Nat} {N : Int} {b : Is} : 1 ≤ N ∧ N ≤ 4 → Seg pl (i + 1) b → Seg pl i ((16, N) :: (b ++ [(17, (i : Int) + 1)]))
  | wait {i : Nat} {n : Int} {c : Is} : pl = false → 0 ≤ n ∧ n < 30 → Cond c → Seg pl i ((19, n) :: (c ++ [(20, (i : Int) + 1)]))
  | abort {i : Nat} {n : Int} : pl = false → 0 ≤ n ∧ n < 1000 → Seg pl i [(27, n)]
  | ite1 {i : Nat} {c b : Is} : pl = false → Cond c → Seg pl (i + c.length + 1) b → Seg pl i (c ++ (15, ((i + c.length + 1 + b.length : Nat) : Int)) :: b)
  | ite2 {i : Nat} {c b d : Is} : pl = false → Cond c → Seg pl (i + c.length + 1) b → Seg pl (i + c.length + 1 + b.length + 1) d → Seg pl i (c ++ (15, ((i + c.length + 1 + b.length + 1 : Nat) : Int)) :: (b ++ (14, ((i + c.length + 1 + b.length + 1 + d.length : Nat) : Int)) :: d))
theorem Cond.len {c : Is} (h : Cond c) : 3 ≤ c.length ∧ c.length ≤ 4 := by cases h <;> simp
theorem cond_runs (hy : ∀ j, j < m → inR (y j)) {l : Is} {s : MT} (hs : MS m y tl l s) (hl : l.length ≤ 290) : Runs (condA q s) (fun z => ∃ c, Cond c ∧ MS m y tl (l ++ c) z) := by
  unfold condA t_condA
  refine Runs.bind (next_runs hy hs (by omega)) fun z1 h1 => ?_
  refine Runs.bind (put_runs h1.2 4 z1.1 (by omega)) fun z2 h2 => ?_
  refine Runs.bind (next_runs hy h2.2 (by omega)) fun z3 h3 => ?_
  refine Runs.bind (put_runs h3.2 1 (w (z3.1 - 500)) (by simp; omega)) fun z4 h4 => ?_
  refine Runs.bind (next_runs hy h4.2 (by omega)) fun z5 h5 => ?_
  refine Runs.if_pos h5.1 (Runs.if_pos ⟨by omega, rfl⟩ ?_)
  have hw : w (z3.1 - 500) = z3.1 - 500 := w_in (by unfold inR; omega)
  generalize ho : (if 0 + z5.1.toNat = 0 then (10 : Int) else if 0 + z5.1.toNat - 1 = 0 then 11 else 12) = o
  have ho2 : 10 ≤ o ∧ o ≤ 12 := by subst ho; split <;> (try split) <;> omega
  refine Runs.bind (put_runs h5.2 o 0 (by simp; omega)) fun z6 h6 => ?_
  refine Runs.bind (next_runs hy h6.2 (by omega)) fun z7 h7 => ?_
  refine Runs.ite (fun _ => ?_) (fun _ => Runs.some ⟨_, Cond.mk z1.1 (z3.1 - 500) o h1.1 (by omega) ho2, ?_⟩)
  · refine Runs.bind (put_runs h7.2 13 0 (by simp; omega)) fun z8 h8 => Runs.some ⟨_, Cond.not z1.1 (z3.1 - 500) o h1.1 (by omega) ho2, ?_⟩
    have := h8.2
    rw [hw] at this
    simpa [List.append_assoc] using this
  · have := h7.2
    rw [hw] at this
    simpa [List.append_assoc] using this
theorem condZ_runs (hy : ∀ j, j < m → inR (y j)) (a : Int) : Runs (condZ q (m, y, a, tl)) (fun z => ∃ c, Cond c ∧ MS m y tl (([] : Is) ++ c) z) := by
  unfold condZ t_condZ
  refine Runs.bind (nextZ_runs hy (by omega)) fun z1 h1 => ?_
  obtain ⟨g1, a1, e1⟩ := h1
  obtain ⟨v1, s1⟩ := z1
  simp only at e1 g1
  subst e1
  refine Runs.bind (putZ_runs 4 v1 a1) fun z2 h2 => ?_
  refine Runs.bind (next_runs hy h2 (by omega)) fun z3 h3 => ?_
  refine Runs.bind (put_runs h3.2 1 (w (z3.1 - 500)) (by simp)) fun z4 h4 => ?_
  refine Runs.bind (next_runs hy h4.2 (by omega)) fun z5 h5 => ?_
  refine Runs.if_pos h5.1 (Runs.if_pos ⟨by omega, rfl⟩ ?_)
  have hw : w (z3.1 - 500) = z3.1 - 500 := w_in (by unfold inR; omega)
  generalize ho : (if 0 + z5.1.toNat = 0 then (10 : Int) else if 0 + z5.1.toNat - 1 = 0 then 11 else 12) = o
  have ho2 : 10 ≤ o ∧ o ≤ 12 := by subst ho; split <;> (try split) <;> omega
  refine Runs.bind (put_runs h5.2 o 0 (by simp)) fun z6 h6 => ?_
  refine Runs.bind (next_runs hy h6.2 (by omega)) fun z7 h7 => ?_
  refine Runs.ite (fun _ => ?_) (fun _ => Runs.some ⟨_, Cond.mk v1 (z3.1 - 500) o g1 (by omega) ho2, ?_⟩)
  · refine Runs.bind (put_runs h7.2 13 0 (by simp)) fun z8 h8 => Runs.some ⟨_, Cond.not v1 (z3.1 - 500) o g1 (by omega) ho2, ?_⟩
    have := h8.2
    rw [hw] at this
    simpa [List.append_assoc] using this
  · have := h7.2
    rw [hw] at this
    simpa [List.append_assoc] using this
end
end Go.Proofs.Ythegipdgillngaa
