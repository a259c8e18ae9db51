/- Ints, Code, changed; the laws, walked. -/
import Derived.Test.YthegipdgillngaaX4
namespace Go.Proofs.Ythegipdgillngaa
open Go Go.Am Go.Proofs
set_option linter.unusedSimpArgs false
set_option linter.unusedVariables false
set_option maxRecDepth 100000
def pName : ByteArray := { data := #[(112 : UInt8)] }
def mk6 (a b c d e f : Nat → Int) (q : Nat) : Nat → Int := match q with | 0 => a | 1 => b | 2 => c | 3 => d | 4 => e | _ => f
abbrev aCert : Type := ByteArray × Int × Int × Nat × (Nat → Int) × (Nat → Int) × Nat × (Nat → Int) × (Nat → Int) × (Nat → Int) × Int × Int
noncomputable def certO (x : aCert) : Int × Nat × (Nat → Int) × (Nat → Int) × (Nat → Int) × (Nat → Int) × (Nat → Int) × (Nat → Int) :=
  (chkV x.2.1 x.2.2.1 x.2.2.2.1 x.2.2.2.2.1 x.2.2.2.2.2.1 x.2.2.2.2.2.2.1 x.2.2.2.2.2.2.2.1 x.2.2.2.2.2.2.2.2.1 x.2.2.2.2.2.2.2.2.2.1 x.2.2.2.2.2.2.2.2.2.2.1 x.2.2.2.2.2.2.2.2.2.2.2,
   certN x.2.1 x.2.2.1 x.2.2.2.1 x.2.2.2.2.1 x.2.2.2.2.2.1 x.2.2.2.2.2.2.1 x.2.2.2.2.2.2.2.1 x.2.2.2.2.2.2.2.2.1 x.2.2.2.2.2.2.2.2.2.1 x.2.2.2.2.2.2.2.2.2.2.1 x.2.2.2.2.2.2.2.2.2.2.2,
   certF x.2.2.1 x.2.2.2.1 x.2.2.2.2.1 x.2.2.2.2.2.1 x.2.2.2.2.2.2.2.1 x.2.2.2.2.2.2.2.2.1 x.2.2.2.2.2.2.2.2.2.2.1 x.2.2.2.2.2.2.2.2.2.2.2 0,
   certF x.2.2.1 x.2.2.2.1 x.2.2.2.2.1 x.2.2.2.2.2.1 x.2.2.2.2.2.2.2.1 x.2.2.2.2.2.2.2.2.1 x.2.2.2.2.2.2.2.2.2.2.1 x.2.2.2.2.2.2.2.2.2.2.2 1,
   certF x.2.2.1 x.2.2.2.1 x.2.2.2.2.1 x.2.2.2.2.2.1 x.2.2.2.2.2.2.2.1 x.2.2.2.2.2.2.2.2.1 x.2.2.2.2.2.2.2.2.2.2.1 x.2.2.2.2.2.2.2.2.2.2.2 2,
   certF x.2.2.1 x.2.2.2.1 x.2.2.2.2.1 x.2.2.2.2.2.1 x.2.2.2.2.2.2.2.1 x.2.2.2.2.2.2.2.2.1 x.2.2.2.2.2.2.2.2.2.2.1 x.2.2.2.2.2.2.2.2.2.2.2 3,
   certF x.2.2.1 x.2.2.2.1 x.2.2.2.2.1 x.2.2.2.2.2.1 x.2.2.2.2.2.2.2.1 x.2.2.2.2.2.2.2.2.1 x.2.2.2.2.2.2.2.2.2.2.1 x.2.2.2.2.2.2.2.2.2.2.2 4,
   certF x.2.2.1 x.2.2.2.1 x.2.2.2.2.1 x.2.2.2.2.2.1 x.2.2.2.2.2.2.2.1 x.2.2.2.2.2.2.2.2.1 x.2.2.2.2.2.2.2.2.2.2.1 x.2.2.2.2.2.2.2.2.2.2.2 5)
abbrev aCver : Type := ByteArray × Int × Int × Nat × (Nat → Int) × (Nat → Int) × Nat × (Nat → Int) × (Nat → Int) × (Nat → Int) × Int × Int × Nat × (Nat → Int) × (Nat → Int) × (Nat → Int) × (Nat → Int) × (Nat → Int) × (Nat → Int)
noncomputable def cverO (x : aCver) : Int := cverV x.2.1 x.2.2.1 x.2.2.2.1 x.2.2.2.2.1 x.2.2.2.2.2.1 x.2.2.2.2.2.2.1 x.2.2.2.2.2.2.2.1 x.2.2.2.2.2.2.2.2.1 x.2.2.2.2.2.2.2.2.2.1 x.2.2.2.2.2.2.2.2.2.2.1 x.2.2.2.2.2.2.2.2.2.2.2.1 x.2.2.2.2.2.2.2.2.2.2.2.2.1 (mk6 x.2.2.2.2.2.2.2.2.2.2.2.2.2.1 x.2.2.2.2.2.2.2.2.2.2.2.2.2.2.1 x.2.2.2.2.2.2.2.2.2.2.2.2.2.2.2.1 x.2.2.2.2.2.2.2.2.2.2.2.2.2.2.2.2.1 x.2.2.2.2.2.2.2.2.2.2.2.2.2.2.2.2.2.1 x.2.2.2.2.2.2.2.2.2.2.2.2.2.2.2.2.2.2)
/-! ### Ints (35) -/
abbrev a_Ints : Type := Nat × (Nat → Int) × Int
abbrev g_Ints : Type := (Unit) ⊕ (Nat × (Nat → Int))
def A_Ints : a_Ints → List V × List (Option Chunk) := (fun x => (fun (n : Nat) (y : Nat → Int) (k : Int) => (([.ro 1 n (fun j => [i64 (y j)]), i64 k] : List V), ([] : List (Option Chunk)))) x.1 x.2.1 x.2.2)
def d_Ints (t : List V × List (Option Chunk)) : a_Ints := ((vRoN (t.1.getD 0 .junk)), (fun j => (vI (((vRoF (t.1.getD 0 .junk)) j).getD 0 .junk))), (vI (t.1.getD 1 .junk)))
theorem i_Ints : ∀ x y, A_Ints x = A_Ints y → x = y := fun x y h => (congrArg d_Ints h :)
def R_Ints : g_Ints → CRes := Sum.elim ((fun z => CRes.ret (nilS) [] : (Unit) → CRes)) ((fun z => CRes.ret (V.sl 0 1 0 (z.1)) [some (Chunk.row 3 1 (z.1) fun (j : Nat) => [i64 (z.2 j)])] : (Nat × (Nat → Int)) → CRes))
def x_Ints (z : g_Ints) (k : CRes → Option Ans) : Option Ans := Sum.elim (fun za => k (R_Ints (.inl za))) (fun zb => k (R_Ints (.inr zb))) z
theorem xe_Ints : ∀ z k, x_Ints z k = k (R_Ints z) := fun z k => by
  rcases z with z | z <;> rfl
def t_Ints {β : Type} (x : a_Ints) (dn : g_Ints → Option β) : Option β :=
 if (0 : Int) ≤ (0 : Int) ∧ ((0 : Int) ≤ if x.2.2 < ((x.1 : Nat) : Int) then x.2.2 else ((x.1 : Nat) : Int)) ∧ (if x.2.2 < ((x.1 : Nat) : Int) then x.2.2 else ((x.1 : Nat) : Int)) ≤ ((x.1 : Nat) : Int) then
  if Int.toNat (if x.2.2 < ((x.1 : Nat) : Int) then x.2.2 else ((x.1 : Nat) : Int)) - 0 = 0 then
   dn (.inl ())
  else
   if (Int.toNat (if x.2.2 < ((x.1 : Nat) : Int) then x.2.2 else ((x.1 : Nat) : Int)) - 0) * 8 ≤ roomBound ∧ Int.toNat (if x.2.2 < ((x.1 : Nat) : Int) then x.2.2 else ((x.1 : Nat) : Int)) - 0 ≤ maxLen then
    dn (.inr ((Int.toNat (if x.2.2 < ((x.1 : Nat) : Int) then x.2.2 else ((x.1 : Nat) : Int)) - 0, fun (j : Nat) => x.2.1 (0 + j))))
   else
    none
 else
  none
theorem n_Ints {β : Type} (x : a_Ints) (dn : g_Ints → Option β) : t_Ints x dn = (t_Ints x some).bind dn := by
  unfold t_Ints
  repeat' first | exact free_none | refine free_bind (fun z => ?_) | refine free_ite ?_ ?_ | refine free_sum (fun z => ?_) (fun z => ?_) | rfl
theorem r_Ints (x : a_Ints) : callK E3 ca0 lo0 35 (A_Ints x).1 (A_Ints x).2 K = t_Ints x (fun z => some (.c (R_Ints z))) := by kernel_rfl
theorem s_Ints (q : Nat) (x : a_Ints) (z : g_Ints) (h : t_Ints x some = some z) : SC E3 35 (A_Ints x).1 (A_Ints x).2 (R_Ints z) := by
  refine SC.of hW3 hX3 ca0_sound lo0_sound ((r_Ints x).trans ?_)
  rw [n_Ints, h]; rfl
noncomputable def Ints (q : Nat) (x : a_Ints) : Option g_Ints := t_Ints x some
theorem sc_Ints (q : Nat) : ∀ (x : a_Ints) (z : g_Ints), Ints q x = some z → SC E3 35 (A_Ints x).1 (A_Ints x).2 (R_Ints z) := fun x z h => s_Ints q x z h
/-! ### IntsR (35) -/
abbrev a_IntsR : Type := Nat × (Nat → Int)
abbrev g_IntsR : Type := Nat × (Nat → Int)
def A_IntsR : a_IntsR → List V × List (Option Chunk) := (fun x => (fun (n : Nat) (y : Nat → Int) => (([.ro 1 n (fun j => [i64 (y j)]), i64 120] : List V), ([] : List (Option Chunk)))) x.1 x.2)
def d_IntsR (t : List V × List (Option Chunk)) : a_IntsR := ((vRoN (t.1.getD 0 .junk)), (fun j => (vI (((vRoF (t.1.getD 0 .junk)) j).getD 0 .junk))))
theorem i_IntsR : ∀ x y, A_IntsR x = A_IntsR y → x = y := fun x y h => (congrArg d_IntsR h :)
def R_IntsR : g_IntsR → CRes := (fun z => (fun (n : Nat) (y : Nat → Int) => .ret (.ro 1 n (fun j => [i64 (y j)])) []) z.1 z.2 : (Nat × (Nat → Int)) → CRes)
def x_IntsR (z : g_IntsR) (k : CRes → Option Ans) : Option Ans := k (R_IntsR z)
theorem xe_IntsR : ∀ z k, x_IntsR z k = k (R_IntsR z) := fun z k => rfl
noncomputable def IntsR (q : Nat) (x : a_IntsR) : Option g_IntsR := (Ints q (x.1, x.2, 120)).map fun z => Sum.elim (fun _ => (0, x.2)) id z
theorem sc_IntsR (q : Nat) : ∀ (x : a_IntsR) (z : g_IntsR), IntsR q x = some z → SC E3 35 (A_IntsR x).1 (A_IntsR x).2 (R_IntsR z) := by
  intro x z h
  unfold IntsR at h
  cases hI : Ints q (x.1, x.2, 120) with
  | none => rw [hI] at h; cases h
  | some r =>
    rw [hI] at h
    simp only [Option.map_some, Option.some.injEq] at h
    have g := sc_Ints q _ _ hI
    subst h
    cases r with
    | inl _ => exact g.le Le.nil_ro
    | inr r => exact (SC.give g (by simp [V.bw, V.bw2, V.bw1, hp, V.pure, pureL])).le (Le.of_eq (by simp [V.bw, V.bw2, V.bw1, hp]))
/-! ### Code (12) -/
abbrev a_Code : Type := Bool × Nat × (Nat → Int)
abbrev g_Code : Type := Nat × (Nat → Int) × (Nat → Int)
def A_Code : a_Code → List V × List (Option Chunk) := (fun x => (fun (tl : Bool) (n : Nat) (y : Nat → Int) => (([.ro 1 n (fun j => [i64 (y j)]), bo tl] : List V), ([] : List (Option Chunk)))) x.1 x.2.1 x.2.2)
def d_Code (t : List V × List (Option Chunk)) : a_Code := ((vB (t.1.getD 1 .junk)), (vRoN (t.1.getD 0 .junk)), (fun j => (vI (((vRoF (t.1.getD 0 .junk)) j).getD 0 .junk))))
theorem i_Code : ∀ x y, A_Code x = A_Code y → x = y := fun x y h => (congrArg d_Code h :)
def R_Code : g_Code → CRes := (fun z => CRes.ret (V.agg [st { data := #[(112 : UInt8)] }, i64 (0 : Int), i64 (0 : Int), V.sl 0 2 0 (z.1)]) [some (Chunk.row 74 2 (z.1) fun (j : Nat) => [i64 (z.2.1 j), i64 (z.2.2 j)])] : (Nat × (Nat → Int) × (Nat → Int)) → CRes)
def x_Code (z : g_Code) (k : CRes → Option Ans) : Option Ans := k (R_Code z)
theorem xe_Code : ∀ z k, x_Code z k = k (R_Code z) := fun z k => rfl
def t_Code {β : Type} (c_IntsR : a_IntsR → Option g_IntsR) (c_blockZ : a_blockZ → Option g_blockZ) (c_putA : a_putA → Option g_putA) (c_putZ : a_putZ → Option g_putZ) (x : a_Code) (dn : g_Code → Option β) : Option β :=
 (c_IntsR (x.2)).bind fun z2 =>
  (c_blockZ (((5 : Int), (2 : Int), z2.1, z2.2, (0 : Int), x.1))).bind fun z9 =>
   Sum.elim (fun z9a =>
   (c_putA (((28 : Int), (0 : Int), z9a))).bind fun z19 =>
    dn (z19.2.2.2.2.2)) (fun z9b =>
   (c_putZ (((28 : Int), (0 : Int), z9b))).bind fun z27 =>
    dn ((1, z27.2.2.2.2))) z9
theorem n_Code {β : Type} (c_IntsR : a_IntsR → Option g_IntsR) (c_blockZ : a_blockZ → Option g_blockZ) (c_putA : a_putA → Option g_putA) (c_putZ : a_putZ → Option g_putZ) (x : a_Code) (dn : g_Code → Option β) : t_Code c_IntsR c_blockZ c_putA c_putZ x dn = (t_Code c_IntsR c_blockZ c_putA c_putZ x some).bind dn := by
  unfold t_Code
  repeat' first | exact free_none | refine free_bind (fun z => ?_) | refine free_ite ?_ ?_ | refine free_sum (fun z => ?_) (fun z => ?_) | rfl
theorem r_Code (c_IntsR : a_IntsR → Option g_IntsR) (c_blockZ : a_blockZ → Option g_blockZ) (c_putA : a_putA → Option g_putA) (c_putZ : a_putZ → Option g_putZ) (x : a_Code) : callK E3 (ftab 35 (fun _ _ => true) A_IntsR x_IntsR c_IntsR (ftab 36 (fun _ L => L.length == 1) A_blockZ x_blockZ c_blockZ (ftab 37 (fun _ L => L.length == 2) A_putA x_putA c_putA (ftab 37 (fun _ L => L.length == 1) A_putZ x_putZ c_putZ ca0)))) lo0 12 (A_Code x).1 (A_Code x).2 K = t_Code (fun x => viaF A_IntsR c_IntsR (A_IntsR x)) (fun x => viaF A_blockZ c_blockZ (A_blockZ x)) (fun x => viaF A_putA c_putA (A_putA x)) (fun x => viaF A_putZ c_putZ (A_putZ x)) x (fun z => some (.c (R_Code z))) := by kernel_rfl
theorem s_Code (c_IntsR : a_IntsR → Option g_IntsR) (h_IntsR : ∀ x z, c_IntsR x = some z → SC E3 35 (A_IntsR x).1 (A_IntsR x).2 (R_IntsR z)) (c_blockZ : a_blockZ → Option g_blockZ) (h_blockZ : ∀ x z, c_blockZ x = some z → SC E3 36 (A_blockZ x).1 (A_blockZ x).2 (R_blockZ z)) (c_putA : a_putA → Option g_putA) (h_putA : ∀ x z, c_putA x = some z → SC E3 37 (A_putA x).1 (A_putA x).2 (R_putA z)) (c_putZ : a_putZ → Option g_putZ) (h_putZ : ∀ x z, c_putZ x = some z → SC E3 37 (A_putZ x).1 (A_putZ x).2 (R_putZ z)) (q : Nat) (x : a_Code) (z : g_Code) (h : t_Code c_IntsR c_blockZ c_putA c_putZ x some = some z) : SC E3 12 (A_Code x).1 (A_Code x).2 (R_Code z) := by
  refine SC.of hW3 hX3 (ftab_cons h_IntsR xe_IntsR (ftab_cons h_blockZ xe_blockZ (ftab_cons h_putA xe_putA (ftab_cons h_putZ xe_putZ ca0_sound)))) lo0_sound ((r_Code c_IntsR c_blockZ c_putA c_putZ x).trans ?_)
  rw [via_eq i_IntsR c_IntsR, via_eq i_blockZ c_blockZ, via_eq i_putA c_putA, via_eq i_putZ c_putZ, n_Code, h]; rfl
noncomputable def Code (q : Nat) (x : a_Code) : Option g_Code := t_Code (IntsR q) (blockZ q) (putA q) (putZ q) x some
theorem sc_Code (q : Nat) : ∀ (x : a_Code) (z : g_Code), Code q x = some z → SC E3 12 (A_Code x).1 (A_Code x).2 (R_Code z) := fun x z h => s_Code (IntsR q) (sc_IntsR q) (blockZ q) (sc_blockZ q) (putA q) (sc_putA q) (putZ q) (sc_putZ q) q x z h
/-! ### Around (21) -/
abbrev a_Around : Type := Int × Int
abbrev g_Around : Type := Int
def A_Around : a_Around → List V × List (Option Chunk) := (fun x => (fun (a : Int) (m : Int) => (([i64 a, i64 m] : List V), ([] : List (Option Chunk)))) x.1 x.2)
def d_Around (t : List V × List (Option Chunk)) : a_Around := ((vI (t.1.getD 0 .junk)), (vI (t.1.getD 1 .junk)))
theorem i_Around : ∀ x y, A_Around x = A_Around y → x = y := fun x y h => (congrArg d_Around h :)
def R_Around : g_Around → CRes := (fun z => CRes.ret (i64 z) [] : (Int) → CRes)
def x_Around (z : g_Around) (k : CRes → Option Ans) : Option Ans := k (R_Around z)
theorem xe_Around : ∀ z k, x_Around z k = k (R_Around z) := fun z k => rfl
def t_Around {β : Type} (x : a_Around) (dn : g_Around → Option β) : Option β :=
 if decide (x.1 < (0 : Int)) = true then
  if x.2 = (0 : Int) then
   none
  else
   dn (Int.tmod (w ((0 : Int) - w (x.1 + (1 : Int)))) (x.2))
 else
  if x.2 = (0 : Int) then
   none
  else
   dn (Int.tmod (x.1) (x.2))
theorem n_Around {β : Type} (x : a_Around) (dn : g_Around → Option β) : t_Around x dn = (t_Around x some).bind dn := by
  unfold t_Around
  repeat' first | exact free_none | refine free_bind (fun z => ?_) | refine free_ite ?_ ?_ | refine free_sum (fun z => ?_) (fun z => ?_) | rfl
theorem r_Around (x : a_Around) : callK E3 ca0 lo0 21 (A_Around x).1 (A_Around x).2 K = t_Around x (fun z => some (.c (R_Around z))) := by kernel_rfl
theorem s_Around (q : Nat) (x : a_Around) (z : g_Around) (h : t_Around x some = some z) : SC E3 21 (A_Around x).1 (A_Around x).2 (R_Around z) := by
  refine SC.of hW3 hX3 ca0_sound lo0_sound ((r_Around x).trans ?_)
  rw [n_Around, h]; rfl
noncomputable def Around (q : Nat) (x : a_Around) : Option g_Around := t_Around x some
theorem sc_Around (q : Nat) : ∀ (x : a_Around) (z : g_Around), Around q x = some z → SC E3 21 (A_Around x).1 (A_Around x).2 (R_Around z) := fun x z h => s_Around q x z h
/-! ### Bound (43) -/
abbrev a_Bound : Type := Int × Int
abbrev g_Bound : Type := Int
def A_Bound : a_Bound → List V × List (Option Chunk) := (fun x => (fun (a : Int) (m : Int) => (([i64 a, i64 m] : List V), ([] : List (Option Chunk)))) x.1 x.2)
def d_Bound (t : List V × List (Option Chunk)) : a_Bound := ((vI (t.1.getD 0 .junk)), (vI (t.1.getD 1 .junk)))
theorem i_Bound : ∀ x y, A_Bound x = A_Bound y → x = y := fun x y h => (congrArg d_Bound h :)
def R_Bound : g_Bound → CRes := (fun z => CRes.ret (i64 z) [] : (Int) → CRes)
def x_Bound (z : g_Bound) (k : CRes → Option Ans) : Option Ans := k (R_Bound z)
theorem xe_Bound : ∀ z k, x_Bound z k = k (R_Bound z) := fun z k => rfl
def t_Bound {β : Type} (c_Around : a_Around → Option g_Around) (x : a_Bound) (dn : g_Bound → Option β) : Option β :=
 (c_Around ((x.1, w (w ((2 : Int) * x.2) + (1 : Int))))).bind fun z2 =>
  dn (w (z2 - x.2))
theorem n_Bound {β : Type} (c_Around : a_Around → Option g_Around) (x : a_Bound) (dn : g_Bound → Option β) : t_Bound c_Around x dn = (t_Bound c_Around x some).bind dn := by
  unfold t_Bound
  repeat' first | exact free_none | refine free_bind (fun z => ?_) | refine free_ite ?_ ?_ | refine free_sum (fun z => ?_) (fun z => ?_) | rfl
theorem r_Bound (c_Around : a_Around → Option g_Around) (x : a_Bound) : callK E3 (ftab 21 (fun _ _ => true) A_Around x_Around c_Around ca0) lo0 43 (A_Bound x).1 (A_Bound x).2 K = t_Bound (fun x => viaF A_Around c_Around (A_Around x)) x (fun z => some (.c (R_Bound z))) := by kernel_rfl
theorem s_Bound (c_Around : a_Around → Option g_Around) (h_Around : ∀ x z, c_Around x = some z → SC E3 21 (A_Around x).1 (A_Around x).2 (R_Around z)) (q : Nat) (x : a_Bound) (z : g_Bound) (h : t_Bound c_Around x some = some z) : SC E3 43 (A_Bound x).1 (A_Bound x).2 (R_Bound z) := by
  refine SC.of hW3 hX3 (ftab_cons h_Around xe_Around ca0_sound) lo0_sound ((r_Bound c_Around x).trans ?_)
  rw [via_eq i_Around c_Around, n_Bound, h]; rfl
noncomputable def Bound (q : Nat) (x : a_Bound) : Option g_Bound := t_Bound (Around q) x some
theorem sc_Bound (q : Nat) : ∀ (x : a_Bound) (z : g_Bound), Bound q x = some z → SC E3 43 (A_Bound x).1 (A_Bound x).2 (R_Bound z) := fun x z h => s_Bound (Around q) (sc_Around q) q x z h
/-! ### changed (18) -/
abbrev a_changed : Type := Nat × (Nat → Int) × (Nat → Int) × (Nat → Int) × (Nat → Int) × (Nat → Int) × (Nat → Int) × Nat × (Nat → Int)
abbrev g_changed : Type := (Unit) ⊕ (Nat × (Nat → Int) × (Nat → Int) × (Nat → Int) × (Nat → Int) × (Nat → Int) × (Nat → Int))
def A_changed : a_changed → List V × List (Option Chunk) := (fun x => (fun (n : Nat) (x0 : Nat → Int) (x1 : Nat → Int) (x2 : Nat → Int) (x3 : Nat → Int) (x4 : Nat → Int) (x5 : Nat → Int) (m : Nat) (y : Nat → Int) => (([.ro 6 n (fun j => [i64 (x0 j), i64 (x1 j), i64 (x2 j), i64 (x3 j), i64 (x4 j), i64 (x5 j)]), .ro 1 m (fun j => [i64 (y j)])] : List V), ([] : List (Option Chunk)))) x.1 x.2.1 x.2.2.1 x.2.2.2.1 x.2.2.2.2.1 x.2.2.2.2.2.1 x.2.2.2.2.2.2.1 x.2.2.2.2.2.2.2.1 x.2.2.2.2.2.2.2.2)
def d_changed (t : List V × List (Option Chunk)) : a_changed := ((vRoN (t.1.getD 0 .junk)), (fun j => (vI (((vRoF (t.1.getD 0 .junk)) j).getD 0 .junk))), (fun j => (vI (((vRoF (t.1.getD 0 .junk)) j).getD 1 .junk))), (fun j => (vI (((vRoF (t.1.getD 0 .junk)) j).getD 2 .junk))), (fun j => (vI (((vRoF (t.1.getD 0 .junk)) j).getD 3 .junk))), (fun j => (vI (((vRoF (t.1.getD 0 .junk)) j).getD 4 .junk))), (fun j => (vI (((vRoF (t.1.getD 0 .junk)) j).getD 5 .junk))), (vRoN (t.1.getD 1 .junk)), (fun j => (vI (((vRoF (t.1.getD 1 .junk)) j).getD 0 .junk))))
theorem i_changed : ∀ x y, A_changed x = A_changed y → x = y := fun x y h => (congrArg d_changed h :)
def R_changed : g_changed → CRes := Sum.elim ((fun z => CRes.ret (nilS) [] : (Unit) → CRes)) ((fun z => CRes.ret (V.sl 0 6 0 (z.1)) [some (Chunk.row 45 6 (z.1) fun (j : Nat) => [i64 (z.2.1 j), i64 (z.2.2.1 j), i64 (z.2.2.2.1 j), i64 (z.2.2.2.2.1 j), i64 (z.2.2.2.2.2.1 j), i64 (z.2.2.2.2.2.2 j)])] : (Nat × (Nat → Int) × (Nat → Int) × (Nat → Int) × (Nat → Int) × (Nat → Int) × (Nat → Int)) → CRes))
def x_changed (z : g_changed) (k : CRes → Option Ans) : Option Ans := Sum.elim (fun za => k (R_changed (.inl za))) (fun zb => k (R_changed (.inr zb))) z
theorem xe_changed : ∀ z k, x_changed z k = k (R_changed z) := fun z k => by
  rcases z with z | z <;> rfl
abbrev changed_l0_a : Type := Unit
abbrev changed_l0_g : Type := Unit
def changed_l0_S (x : a_changed) (y : changed_l0_a) : St := { fr := [V.junk, V.ro 1 (x.2.2.2.2.2.2.2.1) fun (j : Nat) => [i64 (x.2.2.2.2.2.2.2.2 j)], V.junk, V.junk, V.junk, nilS, i64 (0 : Int)] ++ jk 117, H := hp [], nx := 0, rt := 0, me := 18 }
def changed_l0_d (s : St) : changed_l0_a := ()
theorem changed_l0_i (x : a_changed) : ∀ y y', changed_l0_S x y = changed_l0_S x y' → y = y' := fun y y' h => (congrArg changed_l0_d h :)
def changed_l0_T (x : a_changed) : changed_l0_g → Ex × St := (fun z => (Ex.exit 0, { fr := jk 5 ++ [nilS] ++ jk 118, H := hp [], nx := 0, rt := 0, me := 18 }))
def changed_l0_x (x : a_changed) (z : changed_l0_g) (k : KX) : Option Ans := k (changed_l0_T x z).1 (changed_l0_T x z).2
theorem changed_l0_xe (x : a_changed) : ∀ z k, changed_l0_x x z k = k (changed_l0_T x z).1 (changed_l0_T x z).2 := fun z k => rfl
theorem changed_l0_k0 (x : a_changed) (z : Unit) : KCM [(0, 32)] 16 (changed_l0_T x z).1 (changed_l0_T x z).2 = some (.l (changed_l0_T x z).1 (changed_l0_T x z).2) := by kernel_rfl
def changed_l0_t {β : Type} (c_Around : a_Around → Option g_Around) (c_Bound : a_Bound → Option g_Bound) (x : a_changed) (y : changed_l0_a) (nx : changed_l0_a → Option β) (dn : changed_l0_g → Option β) : Option β :=
 if decide ((2 : Int) < ((x.2.2.2.2.2.2.2.1 : Nat) : Int)) = true then
  dn ()
 else
  dn ()
theorem changed_l0_n {β : Type} (c_Around : a_Around → Option g_Around) (c_Bound : a_Bound → Option g_Bound) (x : a_changed) (y : changed_l0_a) (nx : changed_l0_a → Option β) (dn : changed_l0_g → Option β) : changed_l0_t c_Around c_Bound x y nx dn = (changed_l0_t c_Around c_Bound x y (fun y => some (.inl y)) (fun z => some (.inr z))).bind fun r => Sum.elim nx dn r := by
  unfold changed_l0_t
  repeat' first | exact free_none | refine free_bind (fun z => ?_) | refine free_ite ?_ ?_ | refine free_sum (fun z => ?_) (fun z => ?_) | rfl
theorem changed_l0_r (c_Around : a_Around → Option g_Around) (c_Bound : a_Bound → Option g_Bound) (x : a_changed) (y : changed_l0_a) (lo : LoopT) : loopK E3 (ftab 21 (fun _ _ => true) A_Around x_Around c_Around (ftab 43 (fun _ _ => true) A_Bound x_Bound c_Bound ca0)) lo 0 98 (bodyOf E3 18 0) (changed_l0_S x y) (KCM [(0, 32)] 16) = changed_l0_t (fun x => viaF A_Around c_Around (A_Around x)) (fun x => viaF A_Bound c_Bound (A_Bound x)) x y (fun y => lo 0 98 (bodyOf E3 18 0) (changed_l0_S x y) (KCM [(0, 32)] 16)) (fun z => some (.l (changed_l0_T x z).1 (changed_l0_T x z).2)) := by kernel_rfl
noncomputable def changed_l0 (c_Around : a_Around → Option g_Around) (c_Bound : a_Bound → Option g_Bound) (q : Nat) (x : a_changed) : changed_l0_a → Option changed_l0_g := lpG (fun y => changed_l0_t c_Around c_Bound x y (fun y => some (.inl y)) (fun z => some (.inr z))) q
theorem changed_l0_s (c_Around : a_Around → Option g_Around) (h_Around : ∀ x z, c_Around x = some z → SC E3 21 (A_Around x).1 (A_Around x).2 (R_Around z)) (c_Bound : a_Bound → Option g_Bound) (h_Bound : ∀ x z, c_Bound x = some z → SC E3 43 (A_Bound x).1 (A_Bound x).2 (R_Bound z)) (q : Nat) (x : a_changed) : ∀ y z, changed_l0 c_Around c_Bound q x y = some z → SL E3 (bodyOf E3 18 0) (changed_l0_S x y) (changed_l0_T x z).1 (changed_l0_T x z).2 :=
  SL.lp (LT := fun lo => lo) (T := changed_l0_T x) (S := changed_l0_S x) (ftab_cons h_Around xe_Around (ftab_cons h_Bound xe_Bound ca0_sound)) hX3 (fun lo h => h) (fun lo y => (changed_l0_r c_Around c_Bound x y lo).trans (by rw [via_eq i_Around c_Around, via_eq i_Bound c_Bound]; exact changed_l0_n _ _ _ _ _ _)) (changed_l0_k0 x) q
abbrev changed_l0_1_a : Type := Int × (Nat → Int) × (Nat → Int) × (Nat → Int) × (Nat → Int) × (Nat → Int) × (Nat → Int)
abbrev changed_l0_1_g : Type := (Nat → Int) × (Nat → Int) × (Nat → Int) × (Nat → Int) × (Nat → Int) × (Nat → Int)
def changed_l0_1_S (x : a_changed) (y : changed_l0_1_a) : St := { fr := [V.junk, V.ro 1 (x.2.2.2.2.2.2.2.1) fun (j : Nat) => [i64 (x.2.2.2.2.2.2.2.2 j)], V.junk, V.junk, V.junk, V.sl 0 6 0 (x.1), i64 (y.1)] ++ jk 117, H := hp [some (Chunk.row 45 6 (x.1) fun (j : Nat) => [i64 (y.2.1 j), i64 (y.2.2.1 j), i64 (y.2.2.2.1 j), i64 (y.2.2.2.2.1 j), i64 (y.2.2.2.2.2.1 j), i64 (y.2.2.2.2.2.2 j)])], nx := 1, rt := 0, me := 18 }
def changed_l0_1_d (s : St) : changed_l0_1_a := ((vI (s.fr.getD 6 .junk)), (fun j => (vI (((chF (s.H 0)) j).getD 0 .junk))), (fun j => (vI (((chF (s.H 0)) j).getD 1 .junk))), (fun j => (vI (((chF (s.H 0)) j).getD 2 .junk))), (fun j => (vI (((chF (s.H 0)) j).getD 3 .junk))), (fun j => (vI (((chF (s.H 0)) j).getD 4 .junk))), (fun j => (vI (((chF (s.H 0)) j).getD 5 .junk))))
theorem changed_l0_1_i (x : a_changed) : ∀ y y', changed_l0_1_S x y = changed_l0_1_S x y' → y = y' := fun y y' h => (congrArg changed_l0_1_d h :)
def changed_l0_1_T (x : a_changed) : changed_l0_1_g → Ex × St := (fun z => (Ex.exit 0, { fr := jk 5 ++ [V.sl 0 6 0 (x.1)] ++ jk 118, H := hp [some (Chunk.row 45 6 (x.1) fun (j : Nat) => [i64 (z.1 j), i64 (z.2.1 j), i64 (z.2.2.1 j), i64 (z.2.2.2.1 j), i64 (z.2.2.2.2.1 j), i64 (z.2.2.2.2.2 j)])], nx := 1, rt := 0, me := 18 }))
def changed_l0_1_x (x : a_changed) (z : changed_l0_1_g) (k : KX) : Option Ans := k (changed_l0_1_T x z).1 (changed_l0_1_T x z).2
theorem changed_l0_1_xe (x : a_changed) : ∀ z k, changed_l0_1_x x z k = k (changed_l0_1_T x z).1 (changed_l0_1_T x z).2 := fun z k => rfl
theorem changed_l0_1_k0 (x : a_changed) (z : (Nat → Int) × (Nat → Int) × (Nat → Int) × (Nat → Int) × (Nat → Int) × (Nat → Int)) : KCM [(0, 32)] 16 (changed_l0_1_T x z).1 (changed_l0_1_T x z).2 = some (.l (changed_l0_1_T x z).1 (changed_l0_1_T x z).2) := by kernel_rfl
def changed_l0_1_t {β : Type} (c_Around : a_Around → Option g_Around) (c_Bound : a_Bound → Option g_Bound) (x : a_changed) (y : changed_l0_1_a) (nx : changed_l0_1_a → Option β) (dn : changed_l0_1_g → Option β) : Option β :=
 if decide (w (y.1 + (2 : Int)) < ((x.2.2.2.2.2.2.2.1 : Nat) : Int)) = true then
  if decide (y.1 < (30 : Int)) = true then
   if decide (((x.1 : Nat) : Int) > (0 : Int)) = true then
    if (0 : Int) ≤ y.1 ∧ y.1 < ((x.2.2.2.2.2.2.2.1 : Nat) : Int) then
     (c_Around ((x.2.2.2.2.2.2.2.2 (Int.toNat (y.1)), ((x.1 : Nat) : Int)))).bind fun z120 =>
      if (0 : Int) ≤ w (y.1 + (2 : Int)) ∧ w (y.1 + (2 : Int)) < ((x.2.2.2.2.2.2.2.1 : Nat) : Int) then
       (c_Bound ((x.2.2.2.2.2.2.2.2 (Int.toNat (w (y.1 + (2 : Int)))), (1000 : Int)))).bind fun z123 =>
        if (0 : Int) ≤ w (y.1 + (1 : Int)) ∧ w (y.1 + (1 : Int)) < ((x.2.2.2.2.2.2.2.1 : Nat) : Int) then
         (c_Around ((x.2.2.2.2.2.2.2.2 (Int.toNat (w (y.1 + (1 : Int)))), (6 : Int)))).bind fun z126 =>
          if (z126 == (0 : Int)) = true then
           if (0 : Int) ≤ z120 ∧ z120 < ((x.1 : Nat) : Int) then
            if 0 + Int.toNat z120 < x.1 ∧ 6 = 6 then
             if (0 : Int) ≤ z120 ∧ z120 < ((x.1 : Nat) : Int) then
              if 0 + Int.toNat z120 < x.1 ∧ 6 = 6 then
               nx ((w (y.1 + (3 : Int)), fun (j : Nat) => if j = 0 + Int.toNat z120 then w (y.2.1 (0 + Int.toNat z120) + z123) else y.2.1 j, y.2.2))
              else
               none
             else
              none
            else
             none
           else
            none
          else
           if (z126 == (1 : Int)) = true then
            if (0 : Int) ≤ z120 ∧ z120 < ((x.1 : Nat) : Int) then
             if 0 + Int.toNat z120 < x.1 ∧ 6 = 6 then
              if (0 : Int) ≤ z120 ∧ z120 < ((x.1 : Nat) : Int) then
               if 0 + Int.toNat z120 < x.1 ∧ 6 = 6 then
                nx ((w (y.1 + (3 : Int)), y.2.1, fun (j : Nat) => if j = 0 + Int.toNat z120 then w (y.2.2.1 (0 + Int.toNat z120) + z123) else y.2.2.1 j, y.2.2.2))
               else
                none
              else
               none
             else
              none
            else
             none
           else
            if (z126 == (2 : Int)) = true then
             if (0 : Int) ≤ z120 ∧ z120 < ((x.1 : Nat) : Int) then
              if 0 + Int.toNat z120 < x.1 ∧ 6 = 6 then
               if (0 : Int) ≤ z120 ∧ z120 < ((x.1 : Nat) : Int) then
                if 0 + Int.toNat z120 < x.1 ∧ 6 = 6 then
                 nx ((w (y.1 + (3 : Int)), y.2.1, y.2.2.1, fun (j : Nat) => if j = 0 + Int.toNat z120 then w (y.2.2.2.1 (0 + Int.toNat z120) + z123) else y.2.2.2.1 j, y.2.2.2.2))
                else
                 none
               else
                none
              else
               none
             else
              none
            else
             if (z126 == (3 : Int)) = true then
              if (0 : Int) ≤ z120 ∧ z120 < ((x.1 : Nat) : Int) then
               if 0 + Int.toNat z120 < x.1 ∧ 6 = 6 then
                if (0 : Int) ≤ z120 ∧ z120 < ((x.1 : Nat) : Int) then
                 if 0 + Int.toNat z120 < x.1 ∧ 6 = 6 then
                  nx ((w (y.1 + (3 : Int)), y.2.1, y.2.2.1, y.2.2.2.1, fun (j : Nat) => if j = 0 + Int.toNat z120 then w (y.2.2.2.2.1 (0 + Int.toNat z120) + z123) else y.2.2.2.2.1 j, y.2.2.2.2.2))
                 else
                  none
                else
                 none
               else
                none
              else
               none
             else
              if (z126 == (4 : Int)) = true then
               if (0 : Int) ≤ z120 ∧ z120 < ((x.1 : Nat) : Int) then
                if 0 + Int.toNat z120 < x.1 ∧ 6 = 6 then
                 if (0 : Int) ≤ z120 ∧ z120 < ((x.1 : Nat) : Int) then
                  if 0 + Int.toNat z120 < x.1 ∧ 6 = 6 then
                   nx ((w (y.1 + (3 : Int)), y.2.1, y.2.2.1, y.2.2.2.1, y.2.2.2.2.1, fun (j : Nat) => if j = 0 + Int.toNat z120 then w (y.2.2.2.2.2.1 (0 + Int.toNat z120) + z123) else y.2.2.2.2.2.1 j, y.2.2.2.2.2.2))
                  else
                   none
                 else
                  none
                else
                 none
               else
                none
              else
               if (0 : Int) ≤ z120 ∧ z120 < ((x.1 : Nat) : Int) then
                if 0 + Int.toNat z120 < x.1 ∧ 6 = 6 then
                 if (0 : Int) ≤ z120 ∧ z120 < ((x.1 : Nat) : Int) then
                  if 0 + Int.toNat z120 < x.1 ∧ 6 = 6 then
                   nx ((w (y.1 + (3 : Int)), y.2.1, y.2.2.1, y.2.2.2.1, y.2.2.2.2.1, y.2.2.2.2.2.1, fun (j : Nat) => if j = 0 + Int.toNat z120 then w (y.2.2.2.2.2.2 (0 + Int.toNat z120) + z123) else y.2.2.2.2.2.2 j))
                  else
                   none
                 else
                  none
                else
                 none
               else
                none
        else
         none
      else
       none
    else
     none
   else
    dn (y.2)
  else
   dn (y.2)
 else
  dn (y.2)
theorem changed_l0_1_n {β : Type} (c_Around : a_Around → Option g_Around) (c_Bound : a_Bound → Option g_Bound) (x : a_changed) (y : changed_l0_1_a) (nx : changed_l0_1_a → Option β) (dn : changed_l0_1_g → Option β) : changed_l0_1_t c_Around c_Bound x y nx dn = (changed_l0_1_t c_Around c_Bound x y (fun y => some (.inl y)) (fun z => some (.inr z))).bind fun r => Sum.elim nx dn r := by
  unfold changed_l0_1_t
  repeat' first | exact free_none | refine free_bind (fun z => ?_) | refine free_ite ?_ ?_ | refine free_sum (fun z => ?_) (fun z => ?_) | rfl
theorem changed_l0_1_r (c_Around : a_Around → Option g_Around) (c_Bound : a_Bound → Option g_Bound) (x : a_changed) (y : changed_l0_1_a) (lo : LoopT) : loopK E3 (ftab 21 (fun _ _ => true) A_Around x_Around c_Around (ftab 43 (fun _ _ => true) A_Bound x_Bound c_Bound ca0)) lo 0 98 (bodyOf E3 18 0) (changed_l0_1_S x y) (KCM [(0, 32)] 16) = changed_l0_1_t (fun x => viaF A_Around c_Around (A_Around x)) (fun x => viaF A_Bound c_Bound (A_Bound x)) x y (fun y => lo 0 98 (bodyOf E3 18 0) (changed_l0_1_S x y) (KCM [(0, 32)] 16)) (fun z => some (.l (changed_l0_1_T x z).1 (changed_l0_1_T x z).2)) := by kernel_rfl
noncomputable def changed_l0_1 (c_Around : a_Around → Option g_Around) (c_Bound : a_Bound → Option g_Bound) (q : Nat) (x : a_changed) : changed_l0_1_a → Option changed_l0_1_g := lpG (fun y => changed_l0_1_t c_Around c_Bound x y (fun y => some (.inl y)) (fun z => some (.inr z))) q
theorem changed_l0_1_s (c_Around : a_Around → Option g_Around) (h_Around : ∀ x z, c_Around x = some z → SC E3 21 (A_Around x).1 (A_Around x).2 (R_Around z)) (c_Bound : a_Bound → Option g_Bound) (h_Bound : ∀ x z, c_Bound x = some z → SC E3 43 (A_Bound x).1 (A_Bound x).2 (R_Bound z)) (q : Nat) (x : a_changed) : ∀ y z, changed_l0_1 c_Around c_Bound q x y = some z → SL E3 (bodyOf E3 18 0) (changed_l0_1_S x y) (changed_l0_1_T x z).1 (changed_l0_1_T x z).2 :=
  SL.lp (LT := fun lo => lo) (T := changed_l0_1_T x) (S := changed_l0_1_S x) (ftab_cons h_Around xe_Around (ftab_cons h_Bound xe_Bound ca0_sound)) hX3 (fun lo h => h) (fun lo y => (changed_l0_1_r c_Around c_Bound x y lo).trans (by rw [via_eq i_Around c_Around, via_eq i_Bound c_Bound]; exact changed_l0_1_n _ _ _ _ _ _)) (changed_l0_1_k0 x) q
def t_changed {β : Type} (c_Around : a_Around → Option g_Around) (c_Bound : a_Bound → Option g_Bound) (l_changed_l0 : changed_l0_a → Option changed_l0_g) (l_changed_l0_1 : changed_l0_1_a → Option changed_l0_1_g) (x : a_changed) (dn : g_changed → Option β) : Option β :=
 if x.1 = 0 then
  (l_changed_l0 ()).bind fun z0 =>
   dn (.inl ())
 else
  if x.1 * 48 ≤ roomBound ∧ x.1 ≤ maxLen then
   (l_changed_l0_1 (((0 : Int), x.2.1, x.2.2.1, x.2.2.2.1, x.2.2.2.2.1, x.2.2.2.2.2.1, x.2.2.2.2.2.2.1))).bind fun z99 =>
    dn (.inr ((x.1, z99)))
  else
   none
theorem n_changed {β : Type} (c_Around : a_Around → Option g_Around) (c_Bound : a_Bound → Option g_Bound) (l_changed_l0 : changed_l0_a → Option changed_l0_g) (l_changed_l0_1 : changed_l0_1_a → Option changed_l0_1_g) (x : a_changed) (dn : g_changed → Option β) : t_changed c_Around c_Bound l_changed_l0 l_changed_l0_1 x dn = (t_changed c_Around c_Bound l_changed_l0 l_changed_l0_1 x some).bind dn := by
  unfold t_changed
  repeat' first | exact free_none | refine free_bind (fun z => ?_) | refine free_ite ?_ ?_ | refine free_sum (fun z => ?_) (fun z => ?_) | rfl
theorem r_changed (c_Around : a_Around → Option g_Around) (c_Bound : a_Bound → Option g_Bound) (l_changed_l0 : changed_l0_a → Option changed_l0_g) (l_changed_l0_1 : changed_l0_1_a → Option changed_l0_1_g) (x : a_changed) : callK E3 (ftab 21 (fun _ _ => true) A_Around x_Around c_Around (ftab 43 (fun _ _ => true) A_Bound x_Bound c_Bound ca0)) (ltabF 0 (fun s => s.nx == 0) (bodyOf E3 18 0) (changed_l0_S x) (changed_l0_x x) l_changed_l0 (ltabF 0 (fun s => s.nx == 1) (bodyOf E3 18 0) (changed_l0_1_S x) (changed_l0_1_x x) l_changed_l0_1 lo0)) 18 (A_changed x).1 (A_changed x).2 K = t_changed (fun x => viaF A_Around c_Around (A_Around x)) (fun x => viaF A_Bound c_Bound (A_Bound x)) (fun y => viaF (fun y => (bodyOf E3 18 0, changed_l0_S x y)) l_changed_l0 (bodyOf E3 18 0, changed_l0_S x y)) (fun y => viaF (fun y => (bodyOf E3 18 0, changed_l0_1_S x y)) l_changed_l0_1 (bodyOf E3 18 0, changed_l0_1_S x y)) x (fun z => some (.c (R_changed z))) := by kernel_rfl
theorem s_changed (c_Around : a_Around → Option g_Around) (h_Around : ∀ x z, c_Around x = some z → SC E3 21 (A_Around x).1 (A_Around x).2 (R_Around z)) (c_Bound : a_Bound → Option g_Bound) (h_Bound : ∀ x z, c_Bound x = some z → SC E3 43 (A_Bound x).1 (A_Bound x).2 (R_Bound z)) (q : Nat) (x : a_changed) (z : g_changed) (h : t_changed c_Around c_Bound (changed_l0 c_Around c_Bound q x) (changed_l0_1 c_Around c_Bound q x) x some = some z) : SC E3 18 (A_changed x).1 (A_changed x).2 (R_changed z) := by
  refine SC.of hW3 hX3 (ftab_cons h_Around xe_Around (ftab_cons h_Bound xe_Bound ca0_sound)) (ltabF_cons (changed_l0_s c_Around h_Around c_Bound h_Bound q x) (changed_l0_xe x) (ltabF_cons (changed_l0_1_s c_Around h_Around c_Bound h_Bound q x) (changed_l0_1_xe x) lo0_sound)) ((r_changed c_Around c_Bound (changed_l0 c_Around c_Bound q x) (changed_l0_1 c_Around c_Bound q x) x).trans ?_)
  rw [via_eq i_Around c_Around, via_eq i_Bound c_Bound, via_eq (pair_inj (bodyOf E3 18 0) (changed_l0_i x)) (changed_l0 c_Around c_Bound q x), via_eq (pair_inj (bodyOf E3 18 0) (changed_l0_1_i x)) (changed_l0_1 c_Around c_Bound q x), n_changed, h]; rfl
noncomputable def changed (q : Nat) (x : a_changed) : Option g_changed := t_changed (Around q) (Bound q) (changed_l0 (Around q) (Bound q) q x) (changed_l0_1 (Around q) (Bound q) q x) x some
theorem sc_changed (q : Nat) : ∀ (x : a_changed) (z : g_changed), changed q x = some z → SC E3 18 (A_changed x).1 (A_changed x).2 (R_changed z) := fun x z h => s_changed (Around q) (sc_Around q) (Bound q) (sc_Bound q) q x z h
/-! ### CodeR (12) -/
abbrev a_CodeR : Type := Bool × Nat × (Nat → Int)
abbrev g_CodeR : Type := Nat × (Nat → Int) × (Nat → Int)
def A_CodeR : a_CodeR → List V × List (Option Chunk) := (fun x => (fun (tl : Bool) (n : Nat) (y : Nat → Int) => (([.ro 1 n (fun j => [i64 (y j)]), bo tl] : List V), ([] : List (Option Chunk)))) x.1 x.2.1 x.2.2)
def d_CodeR (t : List V × List (Option Chunk)) : a_CodeR := ((vB (t.1.getD 1 .junk)), (vRoN (t.1.getD 0 .junk)), (fun j => (vI ((vRoF (t.1.getD 0 .junk) j).getD 0 .junk))))
theorem i_CodeR : ∀ x y, A_CodeR x = A_CodeR y → x = y := fun x y h => (congrArg d_CodeR h :)
def R_CodeR : g_CodeR → CRes := (fun z => (fun (n : Nat) (op : Nat → Int) (ar : Nat → Int) => .ret (.agg [st pName, i64 0, i64 0, .ro 2 n (fun j => [i64 (op j), i64 (ar j)])]) []) z.1 z.2.1 z.2.2 : (Nat × (Nat → Int) × (Nat → Int)) → CRes)
def x_CodeR (z : g_CodeR) (k : CRes → Option Ans) : Option Ans := k (R_CodeR z)
theorem xe_CodeR : ∀ z k, x_CodeR z k = k (R_CodeR z) := fun z k => rfl
noncomputable def CodeR (q : Nat) : a_CodeR → Option g_CodeR := Code q
theorem sc_CodeR (q : Nat) : ∀ (x : a_CodeR) (z : g_CodeR), CodeR q x = some z → SC E3 12 (A_CodeR x).1 (A_CodeR x).2 (R_CodeR z) := fun x z h =>
  (SC.give (sc_Code q x z h) (by simp [V.bw, V.bw2, V.bw1, hp, V.pure, pureL])).le (Le.of_eq (by simp [V.bw, V.bw2, V.bw1, hp, pName]))
/-! ### Rig (13) -/
abbrev a_Rig : Type := Nat × (Nat → Int)
abbrev g_Rig : Type := Nat × (Nat → Int) × (Nat → Int) × (Nat → Int) × Int × Int
def A_Rig : a_Rig → List V × List (Option Chunk) := (fun x => (fun (n : Nat) (y : Nat → Int) => (([.ro 1 n (fun j => [i64 (y j)])] : List V), ([] : List (Option Chunk)))) x.1 x.2)
def d_Rig (t : List V × List (Option Chunk)) : a_Rig := ((vRoN (t.1.getD 0 .junk)), (fun j => (vI ((vRoF (t.1.getD 0 .junk) j).getD 0 .junk))))
theorem i_Rig : ∀ x y, A_Rig x = A_Rig y → x = y := fun x y h => (congrArg d_Rig h :)
def R_Rig : g_Rig → CRes := (fun z => (fun (k : Nat) (da : Nat → Int) (db : Nat → Int) (dc : Nat → Int) (R : Int) (W : Int) => .ret (.agg [.ro 3 k (fun j => [i64 (da j), i64 (db j), i64 (dc j)]), i64 R, i64 W]) []) z.1 z.2.1 z.2.2.1 z.2.2.2.1 z.2.2.2.2.1 z.2.2.2.2.2 : (Nat × (Nat → Int) × (Nat → Int) × (Nat → Int) × Int × Int) → CRes)
def x_Rig (z : g_Rig) (k : CRes → Option Ans) : Option Ans := k (R_Rig z)
theorem xe_Rig : ∀ z k, x_Rig z k = k (R_Rig z) := fun z k => rfl
noncomputable def Rig (q : Nat) (x : a_Rig) : Option g_Rig := if x.1 ≤ Go.maxLen then some (dn x.1, dA x.2, dB x.2, dC x.2, w (1 + pick x.1 x.2 0 360), pick x.1 x.2 1 1001) else none
theorem sc_Rig (q : Nat) : ∀ (x : a_Rig) (z : g_Rig), Rig q x = some z → SC E3 13 (A_Rig x).1 (A_Rig x).2 (R_Rig z) := by
  intro x z h
  unfold Rig at h
  split at h
  · rename_i hn
    cases h
    exact sc3.2 (sc2.2 (rig_sc x.1 x.2 hn))
  · cases h
/-! ### Cert (14) -/
abbrev a_Cert : Type := ByteArray × Int × Int × Nat × (Nat → Int) × (Nat → Int) × Nat × (Nat → Int) × (Nat → Int) × (Nat → Int) × Int × Int
abbrev g_Cert : Type := Int × Nat × (Nat → Int) × (Nat → Int) × (Nat → Int) × (Nat → Int) × (Nat → Int) × (Nat → Int)
def A_Cert : a_Cert → List V × List (Option Chunk) := (fun x => (fun (nm : ByteArray) (ps : Int) (vs : Int) (n : Nat) (op : Nat → Int) (ar : Nat → Int) (k : Nat) (da : Nat → Int) (db : Nat → Int) (dc : Nat → Int) (R : Int) (W : Int) => (([.agg [st nm, i64 ps, i64 vs, .ro 2 n (fun j => [i64 (op j), i64 (ar j)])], .agg [.ro 3 k (fun j => [i64 (da j), i64 (db j), i64 (dc j)]), i64 R, i64 W]] : List V), ([] : List (Option Chunk)))) x.1 x.2.1 x.2.2.1 x.2.2.2.1 x.2.2.2.2.1 x.2.2.2.2.2.1 x.2.2.2.2.2.2.1 x.2.2.2.2.2.2.2.1 x.2.2.2.2.2.2.2.2.1 x.2.2.2.2.2.2.2.2.2.1 x.2.2.2.2.2.2.2.2.2.2.1 x.2.2.2.2.2.2.2.2.2.2.2)
def d_Cert (t : List V × List (Option Chunk)) : a_Cert := ((vS ((vAg (t.1.getD 0 .junk)).getD 0 .junk)), (vI ((vAg (t.1.getD 0 .junk)).getD 1 .junk)), (vI ((vAg (t.1.getD 0 .junk)).getD 2 .junk)), (vRoN ((vAg (t.1.getD 0 .junk)).getD 3 .junk)), (fun j => (vI ((vRoF ((vAg (t.1.getD 0 .junk)).getD 3 .junk) j).getD 0 .junk))), (fun j => (vI ((vRoF ((vAg (t.1.getD 0 .junk)).getD 3 .junk) j).getD 1 .junk))), (vRoN ((vAg (t.1.getD 1 .junk)).getD 0 .junk)), (fun j => (vI ((vRoF ((vAg (t.1.getD 1 .junk)).getD 0 .junk) j).getD 0 .junk))), (fun j => (vI ((vRoF ((vAg (t.1.getD 1 .junk)).getD 0 .junk) j).getD 1 .junk))), (fun j => (vI ((vRoF ((vAg (t.1.getD 1 .junk)).getD 0 .junk) j).getD 2 .junk))), (vI ((vAg (t.1.getD 1 .junk)).getD 1 .junk)), (vI ((vAg (t.1.getD 1 .junk)).getD 2 .junk)))
theorem i_Cert : ∀ x y, A_Cert x = A_Cert y → x = y := fun x y h => (congrArg d_Cert h :)
def R_Cert : g_Cert → CRes := (fun z => (fun (e : Int) (cn : Nat) (x0 : Nat → Int) (x1 : Nat → Int) (x2 : Nat → Int) (x3 : Nat → Int) (x4 : Nat → Int) (x5 : Nat → Int) => .ret (.tup [.ro 6 cn (fun j => [i64 (x0 j), i64 (x1 j), i64 (x2 j), i64 (x3 j), i64 (x4 j), i64 (x5 j)]), i64 e]) []) z.1 z.2.1 z.2.2.1 z.2.2.2.1 z.2.2.2.2.1 z.2.2.2.2.2.1 z.2.2.2.2.2.2.1 z.2.2.2.2.2.2.2 : (Int × Nat × (Nat → Int) × (Nat → Int) × (Nat → Int) × (Nat → Int) × (Nat → Int) × (Nat → Int)) → CRes)
def x_Cert (z : g_Cert) (k : CRes → Option Ans) : Option Ans := k (R_Cert z)
theorem xe_Cert : ∀ z k, x_Cert z k = k (R_Cert z) := fun z k => rfl
noncomputable def Cert (q : Nat) (x : a_Cert) : Option g_Cert := if x.2.2.2.1 ≤ Go.maxLen then some (certO x) else none
theorem sc_Cert (q : Nat) : ∀ (x : a_Cert) (z : g_Cert), Cert q x = some z → SC E3 14 (A_Cert x).1 (A_Cert x).2 (R_Cert z) := by
  intro x z h
  unfold Cert at h
  split at h
  · rename_i hn
    cases h
    exact sc3.2 (certify_sc x.1 x.2.1 x.2.2.1 x.2.2.2.1 x.2.2.2.2.1 x.2.2.2.2.2.1 x.2.2.2.2.2.2.1 x.2.2.2.2.2.2.2.1 x.2.2.2.2.2.2.2.2.1 x.2.2.2.2.2.2.2.2.2.1 x.2.2.2.2.2.2.2.2.2.2.1 x.2.2.2.2.2.2.2.2.2.2.2 hn)
  · cases h
/-! ### RCert (15) -/
abbrev a_RCert : Type := ByteArray × Int × Int × Nat × (Nat → Int) × (Nat → Int) × Nat × (Nat → Int) × (Nat → Int) × (Nat → Int) × Int × Int
abbrev g_RCert : Type := Int × Nat × (Nat → Int) × (Nat → Int) × (Nat → Int) × (Nat → Int) × (Nat → Int) × (Nat → Int)
def A_RCert : a_RCert → List V × List (Option Chunk) := (fun x => (fun (nm : ByteArray) (ps : Int) (vs : Int) (n : Nat) (op : Nat → Int) (ar : Nat → Int) (k : Nat) (da : Nat → Int) (db : Nat → Int) (dc : Nat → Int) (R : Int) (W : Int) => (([.agg [st nm, i64 ps, i64 vs, .ro 2 n (fun j => [i64 (op j), i64 (ar j)])], .agg [.ro 3 k (fun j => [i64 (da j), i64 (db j), i64 (dc j)]), i64 R, i64 W]] : List V), ([] : List (Option Chunk)))) x.1 x.2.1 x.2.2.1 x.2.2.2.1 x.2.2.2.2.1 x.2.2.2.2.2.1 x.2.2.2.2.2.2.1 x.2.2.2.2.2.2.2.1 x.2.2.2.2.2.2.2.2.1 x.2.2.2.2.2.2.2.2.2.1 x.2.2.2.2.2.2.2.2.2.2.1 x.2.2.2.2.2.2.2.2.2.2.2)
def d_RCert (t : List V × List (Option Chunk)) : a_RCert := ((vS ((vAg (t.1.getD 0 .junk)).getD 0 .junk)), (vI ((vAg (t.1.getD 0 .junk)).getD 1 .junk)), (vI ((vAg (t.1.getD 0 .junk)).getD 2 .junk)), (vRoN ((vAg (t.1.getD 0 .junk)).getD 3 .junk)), (fun j => (vI ((vRoF ((vAg (t.1.getD 0 .junk)).getD 3 .junk) j).getD 0 .junk))), (fun j => (vI ((vRoF ((vAg (t.1.getD 0 .junk)).getD 3 .junk) j).getD 1 .junk))), (vRoN ((vAg (t.1.getD 1 .junk)).getD 0 .junk)), (fun j => (vI ((vRoF ((vAg (t.1.getD 1 .junk)).getD 0 .junk) j).getD 0 .junk))), (fun j => (vI ((vRoF ((vAg (t.1.getD 1 .junk)).getD 0 .junk) j).getD 1 .junk))), (fun j => (vI ((vRoF ((vAg (t.1.getD 1 .junk)).getD 0 .junk) j).getD 2 .junk))), (vI ((vAg (t.1.getD 1 .junk)).getD 1 .junk)), (vI ((vAg (t.1.getD 1 .junk)).getD 2 .junk)))
theorem i_RCert : ∀ x y, A_RCert x = A_RCert y → x = y := fun x y h => (congrArg d_RCert h :)
def R_RCert : g_RCert → CRes := (fun z => (fun (e : Int) (cn : Nat) (x0 : Nat → Int) (x1 : Nat → Int) (x2 : Nat → Int) (x3 : Nat → Int) (x4 : Nat → Int) (x5 : Nat → Int) => .ret (.tup [.ro 6 cn (fun j => [i64 (x0 j), i64 (x1 j), i64 (x2 j), i64 (x3 j), i64 (x4 j), i64 (x5 j)]), i64 e]) []) z.1 z.2.1 z.2.2.1 z.2.2.2.1 z.2.2.2.2.1 z.2.2.2.2.2.1 z.2.2.2.2.2.2.1 z.2.2.2.2.2.2.2 : (Int × Nat × (Nat → Int) × (Nat → Int) × (Nat → Int) × (Nat → Int) × (Nat → Int) × (Nat → Int)) → CRes)
def x_RCert (z : g_RCert) (k : CRes → Option Ans) : Option Ans := k (R_RCert z)
theorem xe_RCert : ∀ z k, x_RCert z k = k (R_RCert z) := fun z k => rfl
noncomputable def RCert (q : Nat) (x : a_RCert) : Option g_RCert := if x.2.2.2.1 ≤ Go.maxLen then some (certO x) else none
theorem sc_RCert (q : Nat) : ∀ (x : a_RCert) (z : g_RCert), RCert q x = some z → SC E3 15 (A_RCert x).1 (A_RCert x).2 (R_RCert z) := by
  intro x z h
  unfold RCert at h
  split at h
  · rename_i hn
    cases h
    exact sc3.2 (refCertify_sc x.1 x.2.1 x.2.2.1 x.2.2.2.1 x.2.2.2.2.1 x.2.2.2.2.2.1 x.2.2.2.2.2.2.1 x.2.2.2.2.2.2.2.1 x.2.2.2.2.2.2.2.2.1 x.2.2.2.2.2.2.2.2.2.1 x.2.2.2.2.2.2.2.2.2.2.1 x.2.2.2.2.2.2.2.2.2.2.2 hn)
  · cases h
/-! ### CVer (19) -/
abbrev a_CVer : Type := ByteArray × Int × Int × Nat × (Nat → Int) × (Nat → Int) × Nat × (Nat → Int) × (Nat → Int) × (Nat → Int) × Int × Int × Nat × (Nat → Int) × (Nat → Int) × (Nat → Int) × (Nat → Int) × (Nat → Int) × (Nat → Int)
abbrev g_CVer : Type := Int
def A_CVer : a_CVer → List V × List (Option Chunk) := (fun x => (fun (nm : ByteArray) (ps : Int) (vs : Int) (n : Nat) (op : Nat → Int) (ar : Nat → Int) (k : Nat) (da : Nat → Int) (db : Nat → Int) (dc : Nat → Int) (R : Int) (W : Int) (cn : Nat) (x0 : Nat → Int) (x1 : Nat → Int) (x2 : Nat → Int) (x3 : Nat → Int) (x4 : Nat → Int) (x5 : Nat → Int) => (([.agg [st nm, i64 ps, i64 vs, .ro 2 n (fun j => [i64 (op j), i64 (ar j)])], .agg [.ro 3 k (fun j => [i64 (da j), i64 (db j), i64 (dc j)]), i64 R, i64 W], .ro 6 cn (fun j => [i64 (x0 j), i64 (x1 j), i64 (x2 j), i64 (x3 j), i64 (x4 j), i64 (x5 j)])] : List V), ([] : List (Option Chunk)))) x.1 x.2.1 x.2.2.1 x.2.2.2.1 x.2.2.2.2.1 x.2.2.2.2.2.1 x.2.2.2.2.2.2.1 x.2.2.2.2.2.2.2.1 x.2.2.2.2.2.2.2.2.1 x.2.2.2.2.2.2.2.2.2.1 x.2.2.2.2.2.2.2.2.2.2.1 x.2.2.2.2.2.2.2.2.2.2.2.1 x.2.2.2.2.2.2.2.2.2.2.2.2.1 x.2.2.2.2.2.2.2.2.2.2.2.2.2.1 x.2.2.2.2.2.2.2.2.2.2.2.2.2.2.1 x.2.2.2.2.2.2.2.2.2.2.2.2.2.2.2.1 x.2.2.2.2.2.2.2.2.2.2.2.2.2.2.2.2.1 x.2.2.2.2.2.2.2.2.2.2.2.2.2.2.2.2.2.1 x.2.2.2.2.2.2.2.2.2.2.2.2.2.2.2.2.2.2)
def d_CVer (t : List V × List (Option Chunk)) : a_CVer := ((vS ((vAg (t.1.getD 0 .junk)).getD 0 .junk)), (vI ((vAg (t.1.getD 0 .junk)).getD 1 .junk)), (vI ((vAg (t.1.getD 0 .junk)).getD 2 .junk)), (vRoN ((vAg (t.1.getD 0 .junk)).getD 3 .junk)), (fun j => (vI ((vRoF ((vAg (t.1.getD 0 .junk)).getD 3 .junk) j).getD 0 .junk))), (fun j => (vI ((vRoF ((vAg (t.1.getD 0 .junk)).getD 3 .junk) j).getD 1 .junk))), (vRoN ((vAg (t.1.getD 1 .junk)).getD 0 .junk)), (fun j => (vI ((vRoF ((vAg (t.1.getD 1 .junk)).getD 0 .junk) j).getD 0 .junk))), (fun j => (vI ((vRoF ((vAg (t.1.getD 1 .junk)).getD 0 .junk) j).getD 1 .junk))), (fun j => (vI ((vRoF ((vAg (t.1.getD 1 .junk)).getD 0 .junk) j).getD 2 .junk))), (vI ((vAg (t.1.getD 1 .junk)).getD 1 .junk)), (vI ((vAg (t.1.getD 1 .junk)).getD 2 .junk)), (vRoN (t.1.getD 2 .junk)), (fun j => (vI ((vRoF (t.1.getD 2 .junk) j).getD 0 .junk))), (fun j => (vI ((vRoF (t.1.getD 2 .junk) j).getD 1 .junk))), (fun j => (vI ((vRoF (t.1.getD 2 .junk) j).getD 2 .junk))), (fun j => (vI ((vRoF (t.1.getD 2 .junk) j).getD 3 .junk))), (fun j => (vI ((vRoF (t.1.getD 2 .junk) j).getD 4 .junk))), (fun j => (vI ((vRoF (t.1.getD 2 .junk) j).getD 5 .junk))))
theorem i_CVer : ∀ x y, A_CVer x = A_CVer y → x = y := fun x y h => (congrArg d_CVer h :)
def R_CVer : g_CVer → CRes := (fun z => (fun (e : Int) => .ret (i64 e) []) z : (Int) → CRes)
def x_CVer (z : g_CVer) (k : CRes → Option Ans) : Option Ans := k (R_CVer z)
theorem xe_CVer : ∀ z k, x_CVer z k = k (R_CVer z) := fun z k => rfl
noncomputable def CVer (q : Nat) (x : a_CVer) : Option g_CVer := if x.2.2.2.1 ≤ Go.maxLen then some (cverO x) else none
theorem sc_CVer (q : Nat) : ∀ (x : a_CVer) (z : g_CVer), CVer q x = some z → SC E3 19 (A_CVer x).1 (A_CVer x).2 (R_CVer z) := by
  intro x z h
  unfold CVer at h
  split at h
  · rename_i hn
    cases h
    exact sc3.2 (cverify_sc x.1 x.2.1 x.2.2.1 x.2.2.2.1 x.2.2.2.2.1 x.2.2.2.2.2.1 x.2.2.2.2.2.2.1 x.2.2.2.2.2.2.2.1 x.2.2.2.2.2.2.2.2.1 x.2.2.2.2.2.2.2.2.2.1 x.2.2.2.2.2.2.2.2.2.2.1 x.2.2.2.2.2.2.2.2.2.2.2.1 x.2.2.2.2.2.2.2.2.2.2.2.2.1 (mk6 x.2.2.2.2.2.2.2.2.2.2.2.2.2.1 x.2.2.2.2.2.2.2.2.2.2.2.2.2.2.1 x.2.2.2.2.2.2.2.2.2.2.2.2.2.2.2.1 x.2.2.2.2.2.2.2.2.2.2.2.2.2.2.2.2.1 x.2.2.2.2.2.2.2.2.2.2.2.2.2.2.2.2.2.1 x.2.2.2.2.2.2.2.2.2.2.2.2.2.2.2.2.2.2) hn)
  · cases h
/-! ### RCVer (20) -/
abbrev a_RCVer : Type := ByteArray × Int × Int × Nat × (Nat → Int) × (Nat → Int) × Nat × (Nat → Int) × (Nat → Int) × (Nat → Int) × Int × Int × Nat × (Nat → Int) × (Nat → Int) × (Nat → Int) × (Nat → Int) × (Nat → Int) × (Nat → Int)
abbrev g_RCVer : Type := Int
def A_RCVer : a_RCVer → List V × List (Option Chunk) := (fun x => (fun (nm : ByteArray) (ps : Int) (vs : Int) (n : Nat) (op : Nat → Int) (ar : Nat → Int) (k : Nat) (da : Nat → Int) (db : Nat → Int) (dc : Nat → Int) (R : Int) (W : Int) (cn : Nat) (x0 : Nat → Int) (x1 : Nat → Int) (x2 : Nat → Int) (x3 : Nat → Int) (x4 : Nat → Int) (x5 : Nat → Int) => (([.agg [st nm, i64 ps, i64 vs, .ro 2 n (fun j => [i64 (op j), i64 (ar j)])], .agg [.ro 3 k (fun j => [i64 (da j), i64 (db j), i64 (dc j)]), i64 R, i64 W], .ro 6 cn (fun j => [i64 (x0 j), i64 (x1 j), i64 (x2 j), i64 (x3 j), i64 (x4 j), i64 (x5 j)])] : List V), ([] : List (Option Chunk)))) x.1 x.2.1 x.2.2.1 x.2.2.2.1 x.2.2.2.2.1 x.2.2.2.2.2.1 x.2.2.2.2.2.2.1 x.2.2.2.2.2.2.2.1 x.2.2.2.2.2.2.2.2.1 x.2.2.2.2.2.2.2.2.2.1 x.2.2.2.2.2.2.2.2.2.2.1 x.2.2.2.2.2.2.2.2.2.2.2.1 x.2.2.2.2.2.2.2.2.2.2.2.2.1 x.2.2.2.2.2.2.2.2.2.2.2.2.2.1 x.2.2.2.2.2.2.2.2.2.2.2.2.2.2.1 x.2.2.2.2.2.2.2.2.2.2.2.2.2.2.2.1 x.2.2.2.2.2.2.2.2.2.2.2.2.2.2.2.2.1 x.2.2.2.2.2.2.2.2.2.2.2.2.2.2.2.2.2.1 x.2.2.2.2.2.2.2.2.2.2.2.2.2.2.2.2.2.2)
def d_RCVer (t : List V × List (Option Chunk)) : a_RCVer := ((vS ((vAg (t.1.getD 0 .junk)).getD 0 .junk)), (vI ((vAg (t.1.getD 0 .junk)).getD 1 .junk)), (vI ((vAg (t.1.getD 0 .junk)).getD 2 .junk)), (vRoN ((vAg (t.1.getD 0 .junk)).getD 3 .junk)), (fun j => (vI ((vRoF ((vAg (t.1.getD 0 .junk)).getD 3 .junk) j).getD 0 .junk))), (fun j => (vI ((vRoF ((vAg (t.1.getD 0 .junk)).getD 3 .junk) j).getD 1 .junk))), (vRoN ((vAg (t.1.getD 1 .junk)).getD 0 .junk)), (fun j => (vI ((vRoF ((vAg (t.1.getD 1 .junk)).getD 0 .junk) j).getD 0 .junk))), (fun j => (vI ((vRoF ((vAg (t.1.getD 1 .junk)).getD 0 .junk) j).getD 1 .junk))), (fun j => (vI ((vRoF ((vAg (t.1.getD 1 .junk)).getD 0 .junk) j).getD 2 .junk))), (vI ((vAg (t.1.getD 1 .junk)).getD 1 .junk)), (vI ((vAg (t.1.getD 1 .junk)).getD 2 .junk)), (vRoN (t.1.getD 2 .junk)), (fun j => (vI ((vRoF (t.1.getD 2 .junk) j).getD 0 .junk))), (fun j => (vI ((vRoF (t.1.getD 2 .junk) j).getD 1 .junk))), (fun j => (vI ((vRoF (t.1.getD 2 .junk) j).getD 2 .junk))), (fun j => (vI ((vRoF (t.1.getD 2 .junk) j).getD 3 .junk))), (fun j => (vI ((vRoF (t.1.getD 2 .junk) j).getD 4 .junk))), (fun j => (vI ((vRoF (t.1.getD 2 .junk) j).getD 5 .junk))))
theorem i_RCVer : ∀ x y, A_RCVer x = A_RCVer y → x = y := fun x y h => (congrArg d_RCVer h :)
def R_RCVer : g_RCVer → CRes := (fun z => (fun (e : Int) => .ret (i64 e) []) z : (Int) → CRes)
def x_RCVer (z : g_RCVer) (k : CRes → Option Ans) : Option Ans := k (R_RCVer z)
theorem xe_RCVer : ∀ z k, x_RCVer z k = k (R_RCVer z) := fun z k => rfl
noncomputable def RCVer (q : Nat) (x : a_RCVer) : Option g_RCVer := if x.2.2.2.1 ≤ Go.maxLen then some (cverO x) else none
theorem sc_RCVer (q : Nat) : ∀ (x : a_RCVer) (z : g_RCVer), RCVer q x = some z → SC E3 20 (A_RCVer x).1 (A_RCVer x).2 (R_RCVer z) := by
  intro x z h
  unfold RCVer at h
  split at h
  · rename_i hn
    cases h
    exact sc3.2 (refCverify_sc x.1 x.2.1 x.2.2.1 x.2.2.2.1 x.2.2.2.2.1 x.2.2.2.2.2.1 x.2.2.2.2.2.2.1 x.2.2.2.2.2.2.2.1 x.2.2.2.2.2.2.2.2.1 x.2.2.2.2.2.2.2.2.2.1 x.2.2.2.2.2.2.2.2.2.2.1 x.2.2.2.2.2.2.2.2.2.2.2.1 x.2.2.2.2.2.2.2.2.2.2.2.2.1 (mk6 x.2.2.2.2.2.2.2.2.2.2.2.2.2.1 x.2.2.2.2.2.2.2.2.2.2.2.2.2.2.1 x.2.2.2.2.2.2.2.2.2.2.2.2.2.2.2.1 x.2.2.2.2.2.2.2.2.2.2.2.2.2.2.2.2.1 x.2.2.2.2.2.2.2.2.2.2.2.2.2.2.2.2.2.1 x.2.2.2.2.2.2.2.2.2.2.2.2.2.2.2.2.2.2) hn)
  · cases h
/-! ### Same (16) -/
abbrev a_Same : Type := Nat × (Nat → Int) × (Nat → Int) × (Nat → Int) × (Nat → Int) × (Nat → Int) × (Nat → Int) × Nat × (Nat → Int) × (Nat → Int) × (Nat → Int) × (Nat → Int) × (Nat → Int) × (Nat → Int)
abbrev g_Same : Type := Bool
def A_Same : a_Same → List V × List (Option Chunk) := (fun x => (fun (an : Nat) (p0 : Nat → Int) (p1 : Nat → Int) (p2 : Nat → Int) (p3 : Nat → Int) (p4 : Nat → Int) (p5 : Nat → Int) (cn : Nat) (x0 : Nat → Int) (x1 : Nat → Int) (x2 : Nat → Int) (x3 : Nat → Int) (x4 : Nat → Int) (x5 : Nat → Int) => (([.ro 6 an (fun j => [i64 (p0 j), i64 (p1 j), i64 (p2 j), i64 (p3 j), i64 (p4 j), i64 (p5 j)]), .ro 6 cn (fun j => [i64 (x0 j), i64 (x1 j), i64 (x2 j), i64 (x3 j), i64 (x4 j), i64 (x5 j)])] : List V), ([] : List (Option Chunk)))) x.1 x.2.1 x.2.2.1 x.2.2.2.1 x.2.2.2.2.1 x.2.2.2.2.2.1 x.2.2.2.2.2.2.1 x.2.2.2.2.2.2.2.1 x.2.2.2.2.2.2.2.2.1 x.2.2.2.2.2.2.2.2.2.1 x.2.2.2.2.2.2.2.2.2.2.1 x.2.2.2.2.2.2.2.2.2.2.2.1 x.2.2.2.2.2.2.2.2.2.2.2.2.1 x.2.2.2.2.2.2.2.2.2.2.2.2.2)
def d_Same (t : List V × List (Option Chunk)) : a_Same := ((vRoN (t.1.getD 0 .junk)), (fun j => (vI ((vRoF (t.1.getD 0 .junk) j).getD 0 .junk))), (fun j => (vI ((vRoF (t.1.getD 0 .junk) j).getD 1 .junk))), (fun j => (vI ((vRoF (t.1.getD 0 .junk) j).getD 2 .junk))), (fun j => (vI ((vRoF (t.1.getD 0 .junk) j).getD 3 .junk))), (fun j => (vI ((vRoF (t.1.getD 0 .junk) j).getD 4 .junk))), (fun j => (vI ((vRoF (t.1.getD 0 .junk) j).getD 5 .junk))), (vRoN (t.1.getD 1 .junk)), (fun j => (vI ((vRoF (t.1.getD 1 .junk) j).getD 0 .junk))), (fun j => (vI ((vRoF (t.1.getD 1 .junk) j).getD 1 .junk))), (fun j => (vI ((vRoF (t.1.getD 1 .junk) j).getD 2 .junk))), (fun j => (vI ((vRoF (t.1.getD 1 .junk) j).getD 3 .junk))), (fun j => (vI ((vRoF (t.1.getD 1 .junk) j).getD 4 .junk))), (fun j => (vI ((vRoF (t.1.getD 1 .junk) j).getD 5 .junk))))
theorem i_Same : ∀ x y, A_Same x = A_Same y → x = y := fun x y h => (congrArg d_Same h :)
def R_Same : g_Same → CRes := (fun z => (fun (b : Bool) => .ret (bo b) []) z : (Bool) → CRes)
def x_Same (z : g_Same) (k : CRes → Option Ans) : Option Ans := k (R_Same z)
theorem xe_Same : ∀ z k, x_Same z k = k (R_Same z) := fun z k => rfl
open Classical in
noncomputable def Same (q : Nat) (x : a_Same) : Option g_Same := if (x.1, x.2.1, x.2.2.1, x.2.2.2.1, x.2.2.2.2.1, x.2.2.2.2.2.1, x.2.2.2.2.2.2.1) = x.2.2.2.2.2.2.2 ∧ x.1 ≤ Go.maxLen then some true else none
theorem sc_Same (q : Nat) : ∀ (x : a_Same) (z : g_Same), Same q x = some z → SC E3 16 (A_Same x).1 (A_Same x).2 (R_Same z) := by
  intro x z h
  unfold Same at h
  split at h
  · rename_i hn
    cases h
    obtain ⟨n, a, b, c, d, e, f, y⟩ := x
    obtain ⟨h1, hn⟩ := hn
    simp only at h1
    subst h1
    exact sc3.2 (same_sc n (mk6 a b c d e f) hn)
  · cases h
/-! ### lives (17) -/
abbrev a_lives : Type := Unit
abbrev g_lives : Type := Bool
def A_lives : a_lives → List V × List (Option Chunk) := (fun _ => (([] : List V), ([] : List (Option Chunk))))
def d_lives (t : List V × List (Option Chunk)) : a_lives := ()
theorem i_lives : ∀ x y, A_lives x = A_lives y → x = y := fun x y h => (congrArg d_lives h :)
def R_lives : g_lives → CRes := (fun z => (fun (b : Bool) => .ret (bo b) []) z : (Bool) → CRes)
def x_lives (z : g_lives) (k : CRes → Option Ans) : Option Ans := k (R_lives z)
theorem xe_lives : ∀ z k, x_lives z k = k (R_lives z) := fun z k => rfl
def lives (q : Nat) (x : a_lives) : Option g_lives := some true
theorem sc_lives (q : Nat) : ∀ (x : a_lives) (z : g_lives), lives q x = some z → SC E3 17 (A_lives x).1 (A_lives x).2 (R_lives z) := by
  intro x z h
  cases h
  exact sc3.2 (sc2.2 lives_true)
/-! ### changedR (18) -/
abbrev a_changedR : Type := Nat × (Nat → Int) × (Nat → Int) × (Nat → Int) × (Nat → Int) × (Nat → Int) × (Nat → Int) × Nat × (Nat → Int)
abbrev g_changedR : Type := Nat × (Nat → Int) × (Nat → Int) × (Nat → Int) × (Nat → Int) × (Nat → Int) × (Nat → Int)
def A_changedR : a_changedR → List V × List (Option Chunk) := (fun x => (fun (cn : Nat) (x0 : Nat → Int) (x1 : Nat → Int) (x2 : Nat → Int) (x3 : Nat → Int) (x4 : Nat → Int) (x5 : Nat → Int) (m : Nat) (y : Nat → Int) => (([.ro 6 cn (fun j => [i64 (x0 j), i64 (x1 j), i64 (x2 j), i64 (x3 j), i64 (x4 j), i64 (x5 j)]), .ro 1 m (fun j => [i64 (y j)])] : List V), ([] : List (Option Chunk)))) x.1 x.2.1 x.2.2.1 x.2.2.2.1 x.2.2.2.2.1 x.2.2.2.2.2.1 x.2.2.2.2.2.2.1 x.2.2.2.2.2.2.2.1 x.2.2.2.2.2.2.2.2)
def d_changedR (t : List V × List (Option Chunk)) : a_changedR := ((vRoN (t.1.getD 0 .junk)), (fun j => (vI ((vRoF (t.1.getD 0 .junk) j).getD 0 .junk))), (fun j => (vI ((vRoF (t.1.getD 0 .junk) j).getD 1 .junk))), (fun j => (vI ((vRoF (t.1.getD 0 .junk) j).getD 2 .junk))), (fun j => (vI ((vRoF (t.1.getD 0 .junk) j).getD 3 .junk))), (fun j => (vI ((vRoF (t.1.getD 0 .junk) j).getD 4 .junk))), (fun j => (vI ((vRoF (t.1.getD 0 .junk) j).getD 5 .junk))), (vRoN (t.1.getD 1 .junk)), (fun j => (vI ((vRoF (t.1.getD 1 .junk) j).getD 0 .junk))))
theorem i_changedR : ∀ x y, A_changedR x = A_changedR y → x = y := fun x y h => (congrArg d_changedR h :)
def R_changedR : g_changedR → CRes := (fun z => (fun (cn : Nat) (x0 : Nat → Int) (x1 : Nat → Int) (x2 : Nat → Int) (x3 : Nat → Int) (x4 : Nat → Int) (x5 : Nat → Int) => .ret (.ro 6 cn (fun j => [i64 (x0 j), i64 (x1 j), i64 (x2 j), i64 (x3 j), i64 (x4 j), i64 (x5 j)])) []) z.1 z.2.1 z.2.2.1 z.2.2.2.1 z.2.2.2.2.1 z.2.2.2.2.2.1 z.2.2.2.2.2.2 : (Nat × (Nat → Int) × (Nat → Int) × (Nat → Int) × (Nat → Int) × (Nat → Int) × (Nat → Int)) → CRes)
def x_changedR (z : g_changedR) (k : CRes → Option Ans) : Option Ans := k (R_changedR z)
theorem xe_changedR : ∀ z k, x_changedR z k = k (R_changedR z) := fun z k => rfl
noncomputable def changedR (q : Nat) (x : a_changedR) : Option g_changedR := (changed q x).map fun z => Sum.elim (fun _ => (0, x.2.1, x.2.2.1, x.2.2.2.1, x.2.2.2.2.1, x.2.2.2.2.2.1, x.2.2.2.2.2.2.1)) id z
theorem sc_changedR (q : Nat) : ∀ (x : a_changedR) (z : g_changedR), changedR q x = some z → SC E3 18 (A_changedR x).1 (A_changedR x).2 (R_changedR z) := by
  intro x z h
  unfold changedR at h
  cases hI : changed q x with
  | none => rw [hI] at h; cases h
  | some r =>
    rw [hI] at h
    simp only [Option.map_some, Option.some.injEq] at h
    have g := sc_changed q _ _ hI
    subst h
    cases r with
    | inl _ => exact g.le Le.nil_ro
    | inr r => exact (SC.give g (by simp [V.bw, V.bw2, V.bw1, hp, V.pure, pureL])).le (Le.of_eq (by simp [V.bw, V.bw2, V.bw1, hp]))
/-! ### law3 (3) -/
abbrev a_law3 : Type := Nat × (Nat → Int) × Nat × (Nat → Int) × ByteArray × Int × Int × Nat × (Nat → Int) × (Nat → Int) × Nat × (Nat → Int) × (Nat → Int) × (Nat → Int) × Int × Int
abbrev g_law3 : Type := Bool
def A_law3 : a_law3 → List V × List (Option Chunk) := (fun x => (fun (l : Nat) (ly : Nat → Int) (g : Nat) (gy : Nat → Int) (nm : ByteArray) (ps : Int) (vs : Int) (n : Nat) (op : Nat → Int) (ar : Nat → Int) (k : Nat) (da : Nat → Int) (db : Nat → Int) (dc : Nat → Int) (R : Int) (W : Int) => (([.ro 1 l (fun j => [i64 (ly j)]), .ro 1 g (fun j => [i64 (gy j)]), .agg [st nm, i64 ps, i64 vs, .ro 2 n (fun j => [i64 (op j), i64 (ar j)])], .agg [.ro 3 k (fun j => [i64 (da j), i64 (db j), i64 (dc j)]), i64 R, i64 W]] : List V), ([] : List (Option Chunk)))) x.1 x.2.1 x.2.2.1 x.2.2.2.1 x.2.2.2.2.1 x.2.2.2.2.2.1 x.2.2.2.2.2.2.1 x.2.2.2.2.2.2.2.1 x.2.2.2.2.2.2.2.2.1 x.2.2.2.2.2.2.2.2.2.1 x.2.2.2.2.2.2.2.2.2.2.1 x.2.2.2.2.2.2.2.2.2.2.2.1 x.2.2.2.2.2.2.2.2.2.2.2.2.1 x.2.2.2.2.2.2.2.2.2.2.2.2.2.1 x.2.2.2.2.2.2.2.2.2.2.2.2.2.2.1 x.2.2.2.2.2.2.2.2.2.2.2.2.2.2.2)
def d_law3 (t : List V × List (Option Chunk)) : a_law3 := ((vRoN (t.1.getD 0 .junk)), (fun j => (vI (((vRoF (t.1.getD 0 .junk)) j).getD 0 .junk))), (vRoN (t.1.getD 1 .junk)), (fun j => (vI (((vRoF (t.1.getD 1 .junk)) j).getD 0 .junk))), (vS ((vAg (t.1.getD 2 .junk)).getD 0 .junk)), (vI ((vAg (t.1.getD 2 .junk)).getD 1 .junk)), (vI ((vAg (t.1.getD 2 .junk)).getD 2 .junk)), (vRoN ((vAg (t.1.getD 2 .junk)).getD 3 .junk)), (fun j => (vI (((vRoF ((vAg (t.1.getD 2 .junk)).getD 3 .junk)) j).getD 0 .junk))), (fun j => (vI (((vRoF ((vAg (t.1.getD 2 .junk)).getD 3 .junk)) j).getD 1 .junk))), (vRoN ((vAg (t.1.getD 3 .junk)).getD 0 .junk)), (fun j => (vI (((vRoF ((vAg (t.1.getD 3 .junk)).getD 0 .junk)) j).getD 0 .junk))), (fun j => (vI (((vRoF ((vAg (t.1.getD 3 .junk)).getD 0 .junk)) j).getD 1 .junk))), (fun j => (vI (((vRoF ((vAg (t.1.getD 3 .junk)).getD 0 .junk)) j).getD 2 .junk))), (vI ((vAg (t.1.getD 3 .junk)).getD 1 .junk)), (vI ((vAg (t.1.getD 3 .junk)).getD 2 .junk)))
theorem i_law3 : ∀ x y, A_law3 x = A_law3 y → x = y := fun x y h => (congrArg d_law3 h :)
def R_law3 : g_law3 → CRes := (fun z => CRes.ret (bo z) [] : (Bool) → CRes)
def x_law3 (z : g_law3) (k : CRes → Option Ans) : Option Ans := k (R_law3 z)
theorem xe_law3 : ∀ z k, x_law3 z k = k (R_law3 z) := fun z k => rfl
def t_law3 {β : Type} (c_CodeR : a_CodeR → Option g_CodeR) (c_Rig : a_Rig → Option g_Rig) (c_Cert : a_Cert → Option g_Cert) (c_RCert : a_RCert → Option g_RCert) (c_Same : a_Same → Option g_Same) (c_lives : a_lives → Option g_lives) (x : a_law3) (dn : g_law3 → Option β) : Option β :=
 (c_CodeR ((false, x.1, x.2.1))).bind fun z3 =>
  (c_Rig ((x.2.2.1, x.2.2.2.1))).bind fun z6 =>
   (c_Cert ((pName, (0 : Int), (0 : Int), z3.1, z3.2.1, z3.2.2, z6))).bind fun z19 =>
    (c_RCert ((pName, (0 : Int), (0 : Int), z3.1, z3.2.1, z3.2.2, z6))).bind fun z32 =>
     (c_Cert ((x.2.2.2.2.1, x.2.2.2.2.2.1, x.2.2.2.2.2.2.1, x.2.2.2.2.2.2.2.1, x.2.2.2.2.2.2.2.2.1, x.2.2.2.2.2.2.2.2.2.1, z6))).bind fun z45 =>
      (c_RCert ((x.2.2.2.2.1, x.2.2.2.2.2.1, x.2.2.2.2.2.2.1, x.2.2.2.2.2.2.2.1, x.2.2.2.2.2.2.2.2.1, x.2.2.2.2.2.2.2.2.2.1, z6))).bind fun z58 =>
       (c_Cert ((pName, (0 : Int), (0 : Int), z3.1, z3.2.1, z3.2.2, x.2.2.2.2.2.2.2.2.2.2))).bind fun z71 =>
        (c_RCert ((pName, (0 : Int), (0 : Int), z3.1, z3.2.1, z3.2.2, x.2.2.2.2.2.2.2.2.2.2))).bind fun z84 =>
         (c_Same ((z19.2.1, z19.2.2.1, z19.2.2.2.1, z19.2.2.2.2.1, z19.2.2.2.2.2.1, z19.2.2.2.2.2.2.1, z19.2.2.2.2.2.2.2, z32.2))).bind fun z99 =>
          if z99 = true then
           if (z19.1 == z32.1) = true then
            (c_Same ((z45.2.1, z45.2.2.1, z45.2.2.2.1, z45.2.2.2.2.1, z45.2.2.2.2.2.1, z45.2.2.2.2.2.2.1, z45.2.2.2.2.2.2.2, z58.2))).bind fun z114 =>
             if z114 = true then
              if (z45.1 == z58.1) = true then
               (c_Same ((z71.2.1, z71.2.2.1, z71.2.2.2.1, z71.2.2.2.2.1, z71.2.2.2.2.2.1, z71.2.2.2.2.2.2.1, z71.2.2.2.2.2.2.2, z84.2))).bind fun z129 =>
                if z129 = true then
                 if (z71.1 == z84.1) = true then
                  (c_lives ()).bind fun z130 =>
                   dn z130
                 else
                  dn false
                else
                 dn false
              else
               dn false
             else
              dn false
           else
            dn false
          else
           dn false
theorem n_law3 {β : Type} (c_CodeR : a_CodeR → Option g_CodeR) (c_Rig : a_Rig → Option g_Rig) (c_Cert : a_Cert → Option g_Cert) (c_RCert : a_RCert → Option g_RCert) (c_Same : a_Same → Option g_Same) (c_lives : a_lives → Option g_lives) (x : a_law3) (dn : g_law3 → Option β) : t_law3 c_CodeR c_Rig c_Cert c_RCert c_Same c_lives x dn = (t_law3 c_CodeR c_Rig c_Cert c_RCert c_Same c_lives x some).bind dn := by
  unfold t_law3
  repeat' first | exact free_none | refine free_bind (fun z => ?_) | refine free_ite ?_ ?_ | refine free_sum (fun z => ?_) (fun z => ?_) | rfl
theorem r_law3 (c_CodeR : a_CodeR → Option g_CodeR) (c_Rig : a_Rig → Option g_Rig) (c_Cert : a_Cert → Option g_Cert) (c_RCert : a_RCert → Option g_RCert) (c_Same : a_Same → Option g_Same) (c_lives : a_lives → Option g_lives) (x : a_law3) : callK E3 (ftab 12 (fun _ _ => true) A_CodeR x_CodeR c_CodeR (ftab 13 (fun _ _ => true) A_Rig x_Rig c_Rig (ftab 14 (fun _ _ => true) A_Cert x_Cert c_Cert (ftab 15 (fun _ _ => true) A_RCert x_RCert c_RCert (ftab 16 (fun _ _ => true) A_Same x_Same c_Same (ftab 17 (fun _ _ => true) A_lives x_lives c_lives ca0)))))) lo0 3 (A_law3 x).1 (A_law3 x).2 K = t_law3 (fun x => viaF A_CodeR c_CodeR (A_CodeR x)) (fun x => viaF A_Rig c_Rig (A_Rig x)) (fun x => viaF A_Cert c_Cert (A_Cert x)) (fun x => viaF A_RCert c_RCert (A_RCert x)) (fun x => viaF A_Same c_Same (A_Same x)) (fun x => viaF A_lives c_lives (A_lives x)) x (fun z => some (.c (R_law3 z))) := by kernel_rfl
theorem s_law3 (c_CodeR : a_CodeR → Option g_CodeR) (h_CodeR : ∀ x z, c_CodeR x = some z → SC E3 12 (A_CodeR x).1 (A_CodeR x).2 (R_CodeR z)) (c_Rig : a_Rig → Option g_Rig) (h_Rig : ∀ x z, c_Rig x = some z → SC E3 13 (A_Rig x).1 (A_Rig x).2 (R_Rig z)) (c_Cert : a_Cert → Option g_Cert) (h_Cert : ∀ x z, c_Cert x = some z → SC E3 14 (A_Cert x).1 (A_Cert x).2 (R_Cert z)) (c_RCert : a_RCert → Option g_RCert) (h_RCert : ∀ x z, c_RCert x = some z → SC E3 15 (A_RCert x).1 (A_RCert x).2 (R_RCert z)) (c_Same : a_Same → Option g_Same) (h_Same : ∀ x z, c_Same x = some z → SC E3 16 (A_Same x).1 (A_Same x).2 (R_Same z)) (c_lives : a_lives → Option g_lives) (h_lives : ∀ x z, c_lives x = some z → SC E3 17 (A_lives x).1 (A_lives x).2 (R_lives z)) (q : Nat) (x : a_law3) (z : g_law3) (h : t_law3 c_CodeR c_Rig c_Cert c_RCert c_Same c_lives x some = some z) : SC E3 3 (A_law3 x).1 (A_law3 x).2 (R_law3 z) := by
  refine SC.of hW3 hX3 (ftab_cons h_CodeR xe_CodeR (ftab_cons h_Rig xe_Rig (ftab_cons h_Cert xe_Cert (ftab_cons h_RCert xe_RCert (ftab_cons h_Same xe_Same (ftab_cons h_lives xe_lives ca0_sound)))))) lo0_sound ((r_law3 c_CodeR c_Rig c_Cert c_RCert c_Same c_lives x).trans ?_)
  rw [via_eq i_CodeR c_CodeR, via_eq i_Rig c_Rig, via_eq i_Cert c_Cert, via_eq i_RCert c_RCert, via_eq i_Same c_Same, via_eq i_lives c_lives, n_law3, h]; rfl
noncomputable def law3 (q : Nat) (x : a_law3) : Option g_law3 := t_law3 (CodeR q) (Rig q) (Cert q) (RCert q) (Same q) (lives q) x some
theorem sc_law3 (q : Nat) : ∀ (x : a_law3) (z : g_law3), law3 q x = some z → SC E3 3 (A_law3 x).1 (A_law3 x).2 (R_law3 z) := fun x z h => s_law3 (CodeR q) (sc_CodeR q) (Rig q) (sc_Rig q) (Cert q) (sc_Cert q) (RCert q) (sc_RCert q) (Same q) (sc_Same q) (lives q) (sc_lives q) q x z h
/-! ### law4 (4) -/
abbrev a_law4 : Type := Nat × (Nat → Int) × Nat × (Nat → Int) × Nat × (Nat → Int) × (Nat → Int) × (Nat → Int) × (Nat → Int) × (Nat → Int) × (Nat → Int) × Nat × (Nat → Int)
abbrev g_law4 : Type := Bool
def A_law4 : a_law4 → List V × List (Option Chunk) := (fun x => (fun (l : Nat) (ly : Nat → Int) (g : Nat) (gy : Nat → Int) (cn : Nat) (x0 : Nat → Int) (x1 : Nat → Int) (x2 : Nat → Int) (x3 : Nat → Int) (x4 : Nat → Int) (x5 : Nat → Int) (m : Nat) (y : Nat → Int) => (([.ro 1 l (fun j => [i64 (ly j)]), .ro 1 g (fun j => [i64 (gy j)]), .ro 6 cn (fun j => [i64 (x0 j), i64 (x1 j), i64 (x2 j), i64 (x3 j), i64 (x4 j), i64 (x5 j)]), .ro 1 m (fun j => [i64 (y j)])] : List V), ([] : List (Option Chunk)))) x.1 x.2.1 x.2.2.1 x.2.2.2.1 x.2.2.2.2.1 x.2.2.2.2.2.1 x.2.2.2.2.2.2.1 x.2.2.2.2.2.2.2.1 x.2.2.2.2.2.2.2.2.1 x.2.2.2.2.2.2.2.2.2.1 x.2.2.2.2.2.2.2.2.2.2.1 x.2.2.2.2.2.2.2.2.2.2.2.1 x.2.2.2.2.2.2.2.2.2.2.2.2)
def d_law4 (t : List V × List (Option Chunk)) : a_law4 := ((vRoN (t.1.getD 0 .junk)), (fun j => (vI (((vRoF (t.1.getD 0 .junk)) j).getD 0 .junk))), (vRoN (t.1.getD 1 .junk)), (fun j => (vI (((vRoF (t.1.getD 1 .junk)) j).getD 0 .junk))), (vRoN (t.1.getD 2 .junk)), (fun j => (vI (((vRoF (t.1.getD 2 .junk)) j).getD 0 .junk))), (fun j => (vI (((vRoF (t.1.getD 2 .junk)) j).getD 1 .junk))), (fun j => (vI (((vRoF (t.1.getD 2 .junk)) j).getD 2 .junk))), (fun j => (vI (((vRoF (t.1.getD 2 .junk)) j).getD 3 .junk))), (fun j => (vI (((vRoF (t.1.getD 2 .junk)) j).getD 4 .junk))), (fun j => (vI (((vRoF (t.1.getD 2 .junk)) j).getD 5 .junk))), (vRoN (t.1.getD 3 .junk)), (fun j => (vI (((vRoF (t.1.getD 3 .junk)) j).getD 0 .junk))))
theorem i_law4 : ∀ x y, A_law4 x = A_law4 y → x = y := fun x y h => (congrArg d_law4 h :)
def R_law4 : g_law4 → CRes := (fun z => CRes.ret (bo z) [] : (Bool) → CRes)
def x_law4 (z : g_law4) (k : CRes → Option Ans) : Option Ans := k (R_law4 z)
theorem xe_law4 : ∀ z k, x_law4 z k = k (R_law4 z) := fun z k => rfl
def t_law4 {β : Type} (c_CodeR : a_CodeR → Option g_CodeR) (c_Rig : a_Rig → Option g_Rig) (c_RCert : a_RCert → Option g_RCert) (c_changedR : a_changedR → Option g_changedR) (c_CVer : a_CVer → Option g_CVer) (c_RCVer : a_RCVer → Option g_RCVer) (c_lives : a_lives → Option g_lives) (x : a_law4) (dn : g_law4 → Option β) : Option β :=
 (c_CodeR ((false, x.1, x.2.1))).bind fun z3 =>
  (c_Rig ((x.2.2.1, x.2.2.2.1))).bind fun z6 =>
   (c_RCert ((pName, (0 : Int), (0 : Int), z3.1, z3.2.1, z3.2.2, z6))).bind fun z19 =>
    (c_changedR ((z19.2.1, z19.2.2.1, z19.2.2.2.1, z19.2.2.2.2.1, z19.2.2.2.2.2.1, z19.2.2.2.2.2.2.1, z19.2.2.2.2.2.2.2, x.2.2.2.2.2.2.2.2.2.2.2))).bind fun z29 =>
     (c_CVer ((pName, (0 : Int), (0 : Int), z3.1, z3.2.1, z3.2.2, z6.1, z6.2.1, z6.2.2.1, z6.2.2.2.1, z6.2.2.2.2.1, z6.2.2.2.2.2, x.2.2.2.2.1, x.2.2.2.2.2.1, x.2.2.2.2.2.2.1, x.2.2.2.2.2.2.2.1, x.2.2.2.2.2.2.2.2.1, x.2.2.2.2.2.2.2.2.2.1, x.2.2.2.2.2.2.2.2.2.2.1))).bind fun z49 =>
      (c_RCVer ((pName, (0 : Int), (0 : Int), z3.1, z3.2.1, z3.2.2, z6.1, z6.2.1, z6.2.2.1, z6.2.2.2.1, z6.2.2.2.2.1, z6.2.2.2.2.2, x.2.2.2.2.1, x.2.2.2.2.2.1, x.2.2.2.2.2.2.1, x.2.2.2.2.2.2.2.1, x.2.2.2.2.2.2.2.2.1, x.2.2.2.2.2.2.2.2.2.1, x.2.2.2.2.2.2.2.2.2.2.1))).bind fun z69 =>
       if (z49 == z69) = true then
        (c_CVer ((pName, (0 : Int), (0 : Int), z3.1, z3.2.1, z3.2.2, z6.1, z6.2.1, z6.2.2.1, z6.2.2.2.1, z6.2.2.2.2.1, z6.2.2.2.2.2, z29))).bind fun z89 =>
         (c_RCVer ((pName, (0 : Int), (0 : Int), z3.1, z3.2.1, z3.2.2, z6.1, z6.2.1, z6.2.2.1, z6.2.2.2.1, z6.2.2.2.2.1, z6.2.2.2.2.2, z29))).bind fun z109 =>
          if (z89 == z109) = true then
           (c_lives ()).bind fun z110 =>
            dn z110
          else
           dn false
       else
        dn false
theorem n_law4 {β : Type} (c_CodeR : a_CodeR → Option g_CodeR) (c_Rig : a_Rig → Option g_Rig) (c_RCert : a_RCert → Option g_RCert) (c_changedR : a_changedR → Option g_changedR) (c_CVer : a_CVer → Option g_CVer) (c_RCVer : a_RCVer → Option g_RCVer) (c_lives : a_lives → Option g_lives) (x : a_law4) (dn : g_law4 → Option β) : t_law4 c_CodeR c_Rig c_RCert c_changedR c_CVer c_RCVer c_lives x dn = (t_law4 c_CodeR c_Rig c_RCert c_changedR c_CVer c_RCVer c_lives x some).bind dn := by
  unfold t_law4
  repeat' first | exact free_none | refine free_bind (fun z => ?_) | refine free_ite ?_ ?_ | refine free_sum (fun z => ?_) (fun z => ?_) | rfl
theorem r_law4 (c_CodeR : a_CodeR → Option g_CodeR) (c_Rig : a_Rig → Option g_Rig) (c_RCert : a_RCert → Option g_RCert) (c_changedR : a_changedR → Option g_changedR) (c_CVer : a_CVer → Option g_CVer) (c_RCVer : a_RCVer → Option g_RCVer) (c_lives : a_lives → Option g_lives) (x : a_law4) : callK E3 (ftab 12 (fun _ _ => true) A_CodeR x_CodeR c_CodeR (ftab 13 (fun _ _ => true) A_Rig x_Rig c_Rig (ftab 15 (fun _ _ => true) A_RCert x_RCert c_RCert (ftab 18 (fun _ _ => true) A_changedR x_changedR c_changedR (ftab 19 (fun _ _ => true) A_CVer x_CVer c_CVer (ftab 20 (fun _ _ => true) A_RCVer x_RCVer c_RCVer (ftab 17 (fun _ _ => true) A_lives x_lives c_lives ca0))))))) lo0 4 (A_law4 x).1 (A_law4 x).2 K = t_law4 (fun x => viaF A_CodeR c_CodeR (A_CodeR x)) (fun x => viaF A_Rig c_Rig (A_Rig x)) (fun x => viaF A_RCert c_RCert (A_RCert x)) (fun x => viaF A_changedR c_changedR (A_changedR x)) (fun x => viaF A_CVer c_CVer (A_CVer x)) (fun x => viaF A_RCVer c_RCVer (A_RCVer x)) (fun x => viaF A_lives c_lives (A_lives x)) x (fun z => some (.c (R_law4 z))) := by kernel_rfl
theorem s_law4 (c_CodeR : a_CodeR → Option g_CodeR) (h_CodeR : ∀ x z, c_CodeR x = some z → SC E3 12 (A_CodeR x).1 (A_CodeR x).2 (R_CodeR z)) (c_Rig : a_Rig → Option g_Rig) (h_Rig : ∀ x z, c_Rig x = some z → SC E3 13 (A_Rig x).1 (A_Rig x).2 (R_Rig z)) (c_RCert : a_RCert → Option g_RCert) (h_RCert : ∀ x z, c_RCert x = some z → SC E3 15 (A_RCert x).1 (A_RCert x).2 (R_RCert z)) (c_changedR : a_changedR → Option g_changedR) (h_changedR : ∀ x z, c_changedR x = some z → SC E3 18 (A_changedR x).1 (A_changedR x).2 (R_changedR z)) (c_CVer : a_CVer → Option g_CVer) (h_CVer : ∀ x z, c_CVer x = some z → SC E3 19 (A_CVer x).1 (A_CVer x).2 (R_CVer z)) (c_RCVer : a_RCVer → Option g_RCVer) (h_RCVer : ∀ x z, c_RCVer x = some z → SC E3 20 (A_RCVer x).1 (A_RCVer x).2 (R_RCVer z)) (c_lives : a_lives → Option g_lives) (h_lives : ∀ x z, c_lives x = some z → SC E3 17 (A_lives x).1 (A_lives x).2 (R_lives z)) (q : Nat) (x : a_law4) (z : g_law4) (h : t_law4 c_CodeR c_Rig c_RCert c_changedR c_CVer c_RCVer c_lives x some = some z) : SC E3 4 (A_law4 x).1 (A_law4 x).2 (R_law4 z) := by
  refine SC.of hW3 hX3 (ftab_cons h_CodeR xe_CodeR (ftab_cons h_Rig xe_Rig (ftab_cons h_RCert xe_RCert (ftab_cons h_changedR xe_changedR (ftab_cons h_CVer xe_CVer (ftab_cons h_RCVer xe_RCVer (ftab_cons h_lives xe_lives ca0_sound))))))) lo0_sound ((r_law4 c_CodeR c_Rig c_RCert c_changedR c_CVer c_RCVer c_lives x).trans ?_)
  rw [via_eq i_CodeR c_CodeR, via_eq i_Rig c_Rig, via_eq i_RCert c_RCert, via_eq i_changedR c_changedR, via_eq i_CVer c_CVer, via_eq i_RCVer c_RCVer, via_eq i_lives c_lives, n_law4, h]; rfl
noncomputable def law4 (q : Nat) (x : a_law4) : Option g_law4 := t_law4 (CodeR q) (Rig q) (RCert q) (changedR q) (CVer q) (RCVer q) (lives q) x some
theorem sc_law4 (q : Nat) : ∀ (x : a_law4) (z : g_law4), law4 q x = some z → SC E3 4 (A_law4 x).1 (A_law4 x).2 (R_law4 z) := fun x z h => s_law4 (CodeR q) (sc_CodeR q) (Rig q) (sc_Rig q) (RCert q) (sc_RCert q) (changedR q) (sc_changedR q) (CVer q) (sc_CVer q) (RCVer q) (sc_RCVer q) (lives q) (sc_lives q) q x z h
end Go.Proofs.Ythegipdgillngaa
