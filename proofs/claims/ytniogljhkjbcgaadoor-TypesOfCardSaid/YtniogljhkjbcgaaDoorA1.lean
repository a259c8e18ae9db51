/- Types: the small functions, lifted. -/
import Derived.Test.YtniogljhkjbcgaaDoorTn
import Derived.Test.YtniogljhkjbcgaaDoorAmGx
namespace Go.Proofs.YtniogljhkjbcgaaDoor
open Go Go.Am Go.Proofs
set_option linter.unusedSimpArgs false
set_option linter.unusedVariables false
set_option maxRecDepth 100000
abbrev nilS : V := .sc (.slice none 0 0)
noncomputable def E5 : Env := { P := Tryd.prog, glob := globF, ext := fun _ _ => none, way := fun a b => if b = 11 then .giveM else way a b, lit := fun _ => false, code := fun f => (Tryd.prog.funcs[f]?).bind annF, sett := fun _ => true, rows := true, inv := [(2, intCell .i64)] }
theorem hW5 : WF E5 := WF.of E5 (fun _ => rfl) (by kernel_rfl)
theorem hX5 : SoundX E5 := SoundX.none fun _ _ => rfl
theorem sc5 {f : FuncId} {args : List V} {L : List (Option Chunk)} {cr : CRes} : SC E5 f args L cr ↔ SC E f args L cr :=
  ⟨fun h => ⟨h.1, fun β S w us h1 h2 h3 => h.2 β S w us h1 h2 ⟨h3.rd, h3.inv⟩⟩, fun h => ⟨h.1, fun β S w us h1 h2 h3 => h.2 β S w us h1 h2 ⟨h3.rd, h3.inv⟩⟩⟩
def K : CRes → Option Ans := fun r => some (.c r)
abbrev w (n : Int) : Int := IntKind.wrap .i64 n
/-! ### kind (44) -/
abbrev a_kind : Type := ByteArray
abbrev g_kind : Type := Int
def A_kind : a_kind → List V × List (Option Chunk) := (fun x => (fun (s : ByteArray) => (([st s] : List V), ([] : List (Option Chunk)))) x)
def d_kind (t : List V × List (Option Chunk)) : a_kind := ((vS (t.1.getD 0 .junk)))
theorem i_kind : ∀ x y, A_kind x = A_kind y → x = y := fun x y h => (congrArg d_kind h :)
def R_kind : g_kind → CRes := (fun z => (fun (k : Int) => .ret (i64 k) []) z : (Int) → CRes)
def x_kind (z : g_kind) (k : CRes → Option Ans) : Option Ans := k (R_kind z)
theorem xe_kind : ∀ z k, x_kind z k = k (R_kind z) := fun z k => rfl
def t_kind {β : Type} (x : a_kind) (dn : g_kind → Option β) : Option β :=
 if (ByteArray.toList { data := #[(124 : UInt8), (124 : UInt8)] } == ByteArray.toList x) = true then
  dn ((1 : Int))
 else
  if (ByteArray.toList { data := #[(38 : UInt8), (38 : UInt8)] } == ByteArray.toList x) = true then
   dn ((1 : Int))
  else
   if (ByteArray.toList { data := #[(43 : UInt8)] } == ByteArray.toList x) = true then
    dn ((2 : Int))
   else
    if (ByteArray.toList { data := #[(45 : UInt8)] } == ByteArray.toList x) = true then
     dn ((2 : Int))
    else
     if (ByteArray.toList { data := #[(42 : UInt8)] } == ByteArray.toList x) = true then
      dn ((3 : Int))
     else
      if (ByteArray.toList { data := #[(47 : UInt8)] } == ByteArray.toList x) = true then
       dn ((3 : Int))
      else
       if (ByteArray.toList { data := #[(60 : UInt8)] } == ByteArray.toList x) = true then
        dn ((4 : Int))
       else
        if (ByteArray.toList { data := #[(60 : UInt8), (61 : UInt8)] } == ByteArray.toList x) = true then
         dn ((4 : Int))
        else
         if (ByteArray.toList { data := #[(62 : UInt8)] } == ByteArray.toList x) = true then
          dn ((4 : Int))
         else
          if (ByteArray.toList { data := #[(62 : UInt8), (61 : UInt8)] } == ByteArray.toList x) = true then
           dn ((4 : Int))
          else
           if (ByteArray.toList { data := #[(61 : UInt8), (61 : UInt8)] } == ByteArray.toList x) = true then
            dn ((4 : Int))
           else
            if (ByteArray.toList { data := #[(33 : UInt8), (61 : UInt8)] } == ByteArray.toList x) = true then
             dn ((4 : Int))
            else
             dn ((0 : Int))
theorem n_kind {β : Type} (x : a_kind) (dn : g_kind → Option β) : t_kind x dn = (t_kind x some).bind dn := by
  unfold t_kind
  repeat' first | exact free_none | refine free_bind (fun z => ?_) | refine free_ite ?_ ?_ | refine free_sum (fun z => ?_) (fun z => ?_) | rfl
theorem r_kind (x : a_kind) : callK E5 ca0 (loU E5 ca0 [0] lo0 20) 44 (A_kind x).1 (A_kind x).2 K = t_kind x (fun z => some (.c (R_kind z))) := by kernel_rfl
theorem s_kind (q : Nat) (x : a_kind) (z : g_kind) (h : t_kind x some = some z) : SC E5 44 (A_kind x).1 (A_kind x).2 (R_kind z) := by
  refine SC.of hW5 hX5 ca0_sound (loU_sound ca0_sound hX5 lo0_sound 20) ((r_kind x).trans ?_)
  rw [n_kind, h]; rfl
noncomputable def kind (q : Nat) (x : a_kind) : Option g_kind := t_kind x some
theorem sc_kind (q : Nat) : ∀ (x : a_kind) (z : g_kind), kind q x = some z → SC E5 44 (A_kind x).1 (A_kind x).2 (R_kind z) := fun x z h => s_kind q x z h
/-! ### kids (29) -/
abbrev a_kids : Type := Int × Int × ByteArray × Nat × (Nat → List V)
abbrev g_kids : Type := Int
def A_kids : a_kids → List V × List (Option Chunk) := (fun x => (fun (nk : Int) (nn : Int) (ns : ByteArray) (nm : Nat) (nf : Nat → List V) => (([.agg [i64 nk, i64 nn, st ns, .ro 4 nm nf]] : List V), ([] : List (Option Chunk)))) x.1 x.2.1 x.2.2.1 x.2.2.2.1 x.2.2.2.2)
def d_kids (t : List V × List (Option Chunk)) : a_kids := ((vI ((vAg (t.1.getD 0 .junk)).getD 0 .junk)), (vI ((vAg (t.1.getD 0 .junk)).getD 1 .junk)), (vS ((vAg (t.1.getD 0 .junk)).getD 2 .junk)), (vRoN ((vAg (t.1.getD 0 .junk)).getD 3 .junk)), (vRoF ((vAg (t.1.getD 0 .junk)).getD 3 .junk)))
theorem i_kids : ∀ x y, A_kids x = A_kids y → x = y := fun x y h => (congrArg d_kids h :)
def R_kids : g_kids → CRes := (fun z => (fun (k : Int) => .ret (i64 k) []) z : (Int) → CRes)
def x_kids (z : g_kids) (k : CRes → Option Ans) : Option Ans := k (R_kids z)
theorem xe_kids : ∀ z k, x_kids z k = k (R_kids z) := fun z k => rfl
def t_kids {β : Type} (c_kind : a_kind → Option g_kind) (x : a_kids) (dn : g_kids → Option β) : Option β :=
 if (x.1 == (16 : Int)) = true then
  if (x.2.1 != (0 : Int)) = true then
   if (x.2.1 != (1 : Int)) = true then
    dn ((-1 : Int))
   else
    dn ((0 : Int))
  else
   dn ((0 : Int))
 else
  if (x.1 == (15 : Int)) = true then
   dn ((0 : Int))
  else
   if (x.1 == (17 : Int)) = true then
    dn ((0 : Int))
   else
    if (x.1 == (18 : Int)) = true then
     dn ((0 : Int))
    else
     if (x.1 == (19 : Int)) = true then
      if (ByteArray.toList (x.2.2.1) == ByteArray.toList { data := #[(33 : UInt8)] }) = true then
       dn ((1 : Int))
      else
       if (ByteArray.toList (x.2.2.1) == ByteArray.toList { data := #[(45 : UInt8)] }) = true then
        dn ((1 : Int))
       else
        dn ((-1 : Int))
     else
      if (x.1 == (20 : Int)) = true then
       (c_kind (x.2.2.1)).bind fun z1 =>
        if decide (z1 > (0 : Int)) = true then
         dn ((2 : Int))
        else
         dn ((-1 : Int))
      else
       dn ((-1 : Int))
theorem n_kids {β : Type} (c_kind : a_kind → Option g_kind) (x : a_kids) (dn : g_kids → Option β) : t_kids c_kind x dn = (t_kids c_kind x some).bind dn := by
  unfold t_kids
  repeat' first | exact free_none | refine free_bind (fun z => ?_) | refine free_ite ?_ ?_ | refine free_sum (fun z => ?_) (fun z => ?_) | rfl
theorem r_kids (c_kind : a_kind → Option g_kind) (x : a_kids) : callK E5 (ftab 44 (fun _ _ => true) A_kind x_kind c_kind ca0) lo0 29 (A_kids x).1 (A_kids x).2 K = t_kids (fun x => viaF A_kind c_kind (A_kind x)) x (fun z => some (.c (R_kids z))) := by kernel_rfl
theorem s_kids (c_kind : a_kind → Option g_kind) (h_kind : ∀ x z, c_kind x = some z → SC E5 44 (A_kind x).1 (A_kind x).2 (R_kind z)) (q : Nat) (x : a_kids) (z : g_kids) (h : t_kids c_kind x some = some z) : SC E5 29 (A_kids x).1 (A_kids x).2 (R_kids z) := by
  refine SC.of hW5 hX5 (ftab_cons h_kind xe_kind ca0_sound) lo0_sound ((r_kids c_kind x).trans ?_)
  rw [via_eq i_kind c_kind, n_kids, h]; rfl
noncomputable def kids (q : Nat) (x : a_kids) : Option g_kids := t_kids (kind q) x some
theorem sc_kids (q : Nat) : ∀ (x : a_kids) (z : g_kids), kids q x = some z → SC E5 29 (A_kids x).1 (A_kids x).2 (R_kids z) := fun x z h => s_kids (kind q) (sc_kind q) q x z h
/-! ### adm (47) -/
abbrev a_adm : Type := Int × Int × Int × Int × Int
abbrev g_adm : Type := Bool
def A_adm : a_adm → List V × List (Option Chunk) := (fun x => (fun (d0 : Int) (d1 : Int) (d2 : Int) (d3 : Int) (d4 : Int) => (([.agg [i64 d0, i64 d1, i64 d2, i64 d3, i64 d4]] : List V), ([] : List (Option Chunk)))) x.1 x.2.1 x.2.2.1 x.2.2.2.1 x.2.2.2.2)
def d_adm (t : List V × List (Option Chunk)) : a_adm := ((vI ((vAg (t.1.getD 0 .junk)).getD 0 .junk)), (vI ((vAg (t.1.getD 0 .junk)).getD 1 .junk)), (vI ((vAg (t.1.getD 0 .junk)).getD 2 .junk)), (vI ((vAg (t.1.getD 0 .junk)).getD 3 .junk)), (vI ((vAg (t.1.getD 0 .junk)).getD 4 .junk)))
theorem i_adm : ∀ x y, A_adm x = A_adm y → x = y := fun x y h => (congrArg d_adm h :)
def R_adm : g_adm → CRes := (fun z => (fun (b : Bool) => .ret (bo b) []) z : (Bool) → CRes)
def x_adm (z : g_adm) (k : CRes → Option Ans) : Option Ans := k (R_adm z)
theorem xe_adm : ∀ z k, x_adm z k = k (R_adm z) := fun z k => rfl
def t_adm {β : Type} (x : a_adm) (dn : g_adm → Option β) : Option β :=
 if decide (x.1 < (-8 : Int)) = true then
  dn false
 else
  if decide (x.1 > (8 : Int)) = true then
   dn false
  else
   if decide (x.2.1 < (-8 : Int)) = true then
    dn false
   else
    if decide (x.2.1 > (8 : Int)) = true then
     dn false
    else
     if decide (x.2.2.1 < (-8 : Int)) = true then
      dn false
     else
      if decide (x.2.2.1 > (8 : Int)) = true then
       dn false
      else
       if decide (x.2.2.2.1 < (-8 : Int)) = true then
        dn false
       else
        if decide (x.2.2.2.1 > (8 : Int)) = true then
         dn false
        else
         if decide (x.2.2.2.2 < (-8 : Int)) = true then
          dn false
         else
          if decide (x.2.2.2.2 > (8 : Int)) = true then
           dn false
          else
           dn true
theorem n_adm {β : Type} (x : a_adm) (dn : g_adm → Option β) : t_adm x dn = (t_adm x some).bind dn := by
  unfold t_adm
  repeat' first | exact free_none | refine free_bind (fun z => ?_) | refine free_ite ?_ ?_ | refine free_sum (fun z => ?_) (fun z => ?_) | rfl
theorem r_adm (x : a_adm) : callK E5 ca0 (loU E5 ca0 [0] lo0 20) 47 (A_adm x).1 (A_adm x).2 K = t_adm x (fun z => some (.c (R_adm z))) := by kernel_rfl
theorem s_adm (q : Nat) (x : a_adm) (z : g_adm) (h : t_adm x some = some z) : SC E5 47 (A_adm x).1 (A_adm x).2 (R_adm z) := by
  refine SC.of hW5 hX5 ca0_sound (loU_sound ca0_sound hX5 lo0_sound 20) ((r_adm x).trans ?_)
  rw [n_adm, h]; rfl
noncomputable def adm (q : Nat) (x : a_adm) : Option g_adm := t_adm x some
theorem sc_adm (q : Nat) : ∀ (x : a_adm) (z : g_adm), adm q x = some z → SC E5 47 (A_adm x).1 (A_adm x).2 (R_adm z) := fun x z h => s_adm q x z h
/-! ### Lookup (36) -/
abbrev a_Lookup : Type := ByteArray
abbrev g_Lookup : Type := Int × Int × Int × Int × Int × Int × Bool
def A_Lookup : a_Lookup → List V × List (Option Chunk) := (fun x => (fun (s : ByteArray) => (([st s] : List V), ([] : List (Option Chunk)))) x)
def d_Lookup (t : List V × List (Option Chunk)) : a_Lookup := ((vS (t.1.getD 0 .junk)))
theorem i_Lookup : ∀ x y, A_Lookup x = A_Lookup y → x = y := fun x y h => (congrArg d_Lookup h :)
def R_Lookup : g_Lookup → CRes := (fun z => (fun (d0 : Int) (d1 : Int) (d2 : Int) (d3 : Int) (d4 : Int) (n : Int) (b : Bool) => .ret (.tup [.agg [i64 d0, i64 d1, i64 d2, i64 d3, i64 d4], i64 n, bo b]) []) z.1 z.2.1 z.2.2.1 z.2.2.2.1 z.2.2.2.2.1 z.2.2.2.2.2.1 z.2.2.2.2.2.2 : (Int × Int × Int × Int × Int × Int × Bool) → CRes)
def x_Lookup (z : g_Lookup) (k : CRes → Option Ans) : Option Ans := k (R_Lookup z)
theorem xe_Lookup : ∀ z k, x_Lookup z k = k (R_Lookup z) := fun z k => rfl
def t_Lookup {β : Type} (x : a_Lookup) (dn : g_Lookup → Option β) : Option β :=
 if (ByteArray.toList { data := #[(74 : UInt8)] } == ByteArray.toList x) = true then
  dn (((1 : Int), (0 : Int), (0 : Int), (0 : Int), (0 : Int), (1 : Int), true))
 else
  if (ByteArray.toList { data := #[(107 : UInt8), (74 : UInt8)] } == ByteArray.toList x) = true then
   dn (((1 : Int), (0 : Int), (0 : Int), (0 : Int), (0 : Int), (1000 : Int), true))
  else
   if (ByteArray.toList { data := #[(87 : UInt8), (104 : UInt8)] } == ByteArray.toList x) = true then
    dn (((1 : Int), (0 : Int), (0 : Int), (0 : Int), (0 : Int), (3600 : Int), true))
   else
    if (ByteArray.toList { data := #[(66 : UInt8)] } == ByteArray.toList x) = true then
     dn (((0 : Int), (1 : Int), (0 : Int), (0 : Int), (0 : Int), (1 : Int), true))
    else
     if (ByteArray.toList { data := #[(107 : UInt8), (66 : UInt8)] } == ByteArray.toList x) = true then
      dn (((0 : Int), (1 : Int), (0 : Int), (0 : Int), (0 : Int), (1000 : Int), true))
     else
      if (ByteArray.toList { data := #[(115 : UInt8)] } == ByteArray.toList x) = true then
       dn (((0 : Int), (0 : Int), (1 : Int), (0 : Int), (0 : Int), (1 : Int), true))
      else
       if (ByteArray.toList { data := #[(109 : UInt8), (105 : UInt8), (110 : UInt8)] } == ByteArray.toList x) = true then
        dn (((0 : Int), (0 : Int), (1 : Int), (0 : Int), (0 : Int), (60 : Int), true))
       else
        if (ByteArray.toList { data := #[(104 : UInt8)] } == ByteArray.toList x) = true then
         dn (((0 : Int), (0 : Int), (1 : Int), (0 : Int), (0 : Int), (3600 : Int), true))
        else
         if (ByteArray.toList { data := #[(100 : UInt8), (101 : UInt8), (103 : UInt8)] } == ByteArray.toList x) = true then
          dn (((0 : Int), (0 : Int), (0 : Int), (1 : Int), (0 : Int), (1 : Int), true))
         else
          if (ByteArray.toList { data := #[(75 : UInt8)] } == ByteArray.toList x) = true then
           dn (((0 : Int), (0 : Int), (0 : Int), (0 : Int), (1 : Int), (1 : Int), true))
          else
           if (ByteArray.toList { data := #[(87 : UInt8)] } == ByteArray.toList x) = true then
            dn (((1 : Int), (0 : Int), (-1 : Int), (0 : Int), (0 : Int), (1 : Int), true))
           else
            if (ByteArray.toList { data := #[(107 : UInt8), (87 : UInt8)] } == ByteArray.toList x) = true then
             dn (((1 : Int), (0 : Int), (-1 : Int), (0 : Int), (0 : Int), (1000 : Int), true))
            else
             if (ByteArray.toList { data := #[(66 : UInt8), (112 : UInt8), (115 : UInt8)] } == ByteArray.toList x) = true then
              dn (((0 : Int), (1 : Int), (-1 : Int), (0 : Int), (0 : Int), (1 : Int), true))
             else
              dn (((0 : Int), (0 : Int), (0 : Int), (0 : Int), (0 : Int), (0 : Int), false))
theorem n_Lookup {β : Type} (x : a_Lookup) (dn : g_Lookup → Option β) : t_Lookup x dn = (t_Lookup x some).bind dn := by
  unfold t_Lookup
  repeat' first | exact free_none | refine free_bind (fun z => ?_) | refine free_ite ?_ ?_ | refine free_sum (fun z => ?_) (fun z => ?_) | rfl
theorem r_Lookup (x : a_Lookup) : callK E5 ca0 (loU E5 ca0 [0] lo0 20) 36 (A_Lookup x).1 (A_Lookup x).2 K = t_Lookup x (fun z => some (.c (R_Lookup z))) := by kernel_rfl
theorem s_Lookup (q : Nat) (x : a_Lookup) (z : g_Lookup) (h : t_Lookup x some = some z) : SC E5 36 (A_Lookup x).1 (A_Lookup x).2 (R_Lookup z) := by
  refine SC.of hW5 hX5 ca0_sound (loU_sound ca0_sound hX5 lo0_sound 20) ((r_Lookup x).trans ?_)
  rw [n_Lookup, h]; rfl
noncomputable def Lookup (q : Nat) (x : a_Lookup) : Option g_Lookup := t_Lookup x some
theorem sc_Lookup (q : Nat) : ∀ (x : a_Lookup) (z : g_Lookup), Lookup q x = some z → SC E5 36 (A_Lookup x).1 (A_Lookup x).2 (R_Lookup z) := fun x z h => s_Lookup q x z h
/-! ### number (30) -/
abbrev a_number : Type := Int × Int × ByteArray × Nat × (Nat → List V)
abbrev g_number : Type := Int × Int × Int × Int × Int × Int
def A_number : a_number → List V × List (Option Chunk) := (fun x => (fun (nk : Int) (nn : Int) (ns : ByteArray) (nm : Nat) (nf : Nat → List V) => (([.agg [i64 nk, i64 nn, st ns, .ro 4 nm nf]] : List V), ([] : List (Option Chunk)))) x.1 x.2.1 x.2.2.1 x.2.2.2.1 x.2.2.2.2)
def d_number (t : List V × List (Option Chunk)) : a_number := ((vI ((vAg (t.1.getD 0 .junk)).getD 0 .junk)), (vI ((vAg (t.1.getD 0 .junk)).getD 1 .junk)), (vS ((vAg (t.1.getD 0 .junk)).getD 2 .junk)), (vRoN ((vAg (t.1.getD 0 .junk)).getD 3 .junk)), (vRoF ((vAg (t.1.getD 0 .junk)).getD 3 .junk)))
theorem i_number : ∀ x y, A_number x = A_number y → x = y := fun x y h => (congrArg d_number h :)
def R_number : g_number → CRes := (fun z => (fun (d0 : Int) (d1 : Int) (d2 : Int) (d3 : Int) (d4 : Int) (e : Int) => .ret (.tup [.agg [i64 d0, i64 d1, i64 d2, i64 d3, i64 d4], i64 e]) []) z.1 z.2.1 z.2.2.1 z.2.2.2.1 z.2.2.2.2.1 z.2.2.2.2.2 : (Int × Int × Int × Int × Int × Int) → CRes)
def x_number (z : g_number) (k : CRes → Option Ans) : Option Ans := k (R_number z)
theorem xe_number : ∀ z k, x_number z k = k (R_number z) := fun z k => rfl
def t_number {β : Type} (c_Lookup : a_Lookup → Option g_Lookup) (x : a_number) (dn : g_number → Option β) : Option β :=
 if (!ByteArray.toList (x.2.2.1) == ByteArray.toList { data := #[] }) = true then
  (c_Lookup (x.2.2.1)).bind fun z1 =>
   if (!z1.2.2.2.2.2.2) = true then
    dn (((0 : Int), (0 : Int), (0 : Int), (0 : Int), (0 : Int), (10 : Int)))
   else
    if decide (x.2.1 < (0 : Int)) = true then
     dn (((0 : Int), (0 : Int), (0 : Int), (0 : Int), (0 : Int), (5 : Int)))
    else
     if z1.2.2.2.2.2.1 = (0 : Int) then
      none
     else
      if decide (x.2.1 > w (Int.tdiv (2147483647 : Int) (z1.2.2.2.2.2.1))) = true then
       dn (((0 : Int), (0 : Int), (0 : Int), (0 : Int), (0 : Int), (5 : Int)))
      else
       dn ((z1.1, z1.2.1, z1.2.2.1, z1.2.2.2.1, z1.2.2.2.2.1, (0 : Int)))
 else
  if decide (x.2.1 < (0 : Int)) = true then
   dn (((0 : Int), (0 : Int), (0 : Int), (0 : Int), (0 : Int), (5 : Int)))
  else
   if decide (x.2.1 > (2147483647 : Int)) = true then
    dn (((0 : Int), (0 : Int), (0 : Int), (0 : Int), (0 : Int), (5 : Int)))
   else
    dn (((0 : Int), (0 : Int), (0 : Int), (0 : Int), (0 : Int), (0 : Int)))
theorem n_number {β : Type} (c_Lookup : a_Lookup → Option g_Lookup) (x : a_number) (dn : g_number → Option β) : t_number c_Lookup x dn = (t_number c_Lookup x some).bind dn := by
  unfold t_number
  repeat' first | exact free_none | refine free_bind (fun z => ?_) | refine free_ite ?_ ?_ | refine free_sum (fun z => ?_) (fun z => ?_) | rfl
theorem r_number (c_Lookup : a_Lookup → Option g_Lookup) (x : a_number) : callK E5 (ftab 36 (fun _ _ => true) A_Lookup x_Lookup c_Lookup ca0) lo0 30 (A_number x).1 (A_number x).2 K = t_number (fun x => viaF A_Lookup c_Lookup (A_Lookup x)) x (fun z => some (.c (R_number z))) := by kernel_rfl
theorem s_number (c_Lookup : a_Lookup → Option g_Lookup) (h_Lookup : ∀ x z, c_Lookup x = some z → SC E5 36 (A_Lookup x).1 (A_Lookup x).2 (R_Lookup z)) (q : Nat) (x : a_number) (z : g_number) (h : t_number c_Lookup x some = some z) : SC E5 30 (A_number x).1 (A_number x).2 (R_number z) := by
  refine SC.of hW5 hX5 (ftab_cons h_Lookup xe_Lookup ca0_sound) lo0_sound ((r_number c_Lookup x).trans ?_)
  rw [via_eq i_Lookup c_Lookup, n_number, h]; rfl
noncomputable def number (q : Nat) (x : a_number) : Option g_number := t_number (Lookup q) x some
theorem sc_number (q : Nat) : ∀ (x : a_number) (z : g_number), number q x = some z → SC E5 30 (A_number x).1 (A_number x).2 (R_number z) := fun x z h => s_number (Lookup q) (sc_Lookup q) q x z h
/-! ### found (31) -/
abbrev a_found : Type := Int × Int × Int × Int × Int × Bool
abbrev g_found : Type := Bool × Int × Int × Int × Int × Int × Int
def A_found : a_found → List V × List (Option Chunk) := (fun x => (fun (d0 : Int) (d1 : Int) (d2 : Int) (d3 : Int) (d4 : Int) (ok : Bool) => (([.agg [i64 d0, i64 d1, i64 d2, i64 d3, i64 d4], bo ok] : List V), ([] : List (Option Chunk)))) x.1 x.2.1 x.2.2.1 x.2.2.2.1 x.2.2.2.2.1 x.2.2.2.2.2)
def d_found (t : List V × List (Option Chunk)) : a_found := ((vI ((vAg (t.1.getD 0 .junk)).getD 0 .junk)), (vI ((vAg (t.1.getD 0 .junk)).getD 1 .junk)), (vI ((vAg (t.1.getD 0 .junk)).getD 2 .junk)), (vI ((vAg (t.1.getD 0 .junk)).getD 3 .junk)), (vI ((vAg (t.1.getD 0 .junk)).getD 4 .junk)), (vB (t.1.getD 1 .junk)))
theorem i_found : ∀ x y, A_found x = A_found y → x = y := fun x y h => (congrArg d_found h :)
def R_found : g_found → CRes := (fun z => (fun (b : Bool) (d0 : Int) (d1 : Int) (d2 : Int) (d3 : Int) (d4 : Int) (e : Int) => .ret (.tup [bo b, .agg [i64 d0, i64 d1, i64 d2, i64 d3, i64 d4], i64 e]) []) z.1 z.2.1 z.2.2.1 z.2.2.2.1 z.2.2.2.2.1 z.2.2.2.2.2.1 z.2.2.2.2.2.2 : (Bool × Int × Int × Int × Int × Int × Int) → CRes)
def x_found (z : g_found) (k : CRes → Option Ans) : Option Ans := k (R_found z)
theorem xe_found : ∀ z k, x_found z k = k (R_found z) := fun z k => rfl
def t_found {β : Type} (x : a_found) (dn : g_found → Option β) : Option β :=
 if (!x.2.2.2.2.2) = true then
  dn ((false, (0 : Int), (0 : Int), (0 : Int), (0 : Int), (0 : Int), (3 : Int)))
 else
  dn ((false, x.1, x.2.1, x.2.2.1, x.2.2.2.1, x.2.2.2.2.1, (0 : Int)))
theorem n_found {β : Type} (x : a_found) (dn : g_found → Option β) : t_found x dn = (t_found x some).bind dn := by
  unfold t_found
  repeat' first | exact free_none | refine free_bind (fun z => ?_) | refine free_ite ?_ ?_ | refine free_sum (fun z => ?_) (fun z => ?_) | rfl
theorem r_found (x : a_found) : callK E5 ca0 lo0 31 (A_found x).1 (A_found x).2 K = t_found x (fun z => some (.c (R_found z))) := by kernel_rfl
theorem s_found (q : Nat) (x : a_found) (z : g_found) (h : t_found x some = some z) : SC E5 31 (A_found x).1 (A_found x).2 (R_found z) := by
  refine SC.of hW5 hX5 ca0_sound lo0_sound ((r_found x).trans ?_)
  rw [n_found, h]; rfl
noncomputable def found (q : Nat) (x : a_found) : Option g_found := t_found x some
theorem sc_found (q : Nat) : ∀ (x : a_found) (z : g_found), found q x = some z → SC E5 31 (A_found x).1 (A_found x).2 (R_found z) := fun x z h => s_found q x z h
/-! ### Times (45) -/
abbrev a_Times : Type := Int × Int × Int × Int × Int × Int × Int × Int × Int × Int
abbrev g_Times : Type := Int × Int × Int × Int × Int
def A_Times : a_Times → List V × List (Option Chunk) := (fun x => (fun (d0 : Int) (d1 : Int) (d2 : Int) (d3 : Int) (d4 : Int) (f0 : Int) (f1 : Int) (f2 : Int) (f3 : Int) (f4 : Int) => (([.agg [i64 d0, i64 d1, i64 d2, i64 d3, i64 d4], .agg [i64 f0, i64 f1, i64 f2, i64 f3, i64 f4]] : List V), ([] : List (Option Chunk)))) x.1 x.2.1 x.2.2.1 x.2.2.2.1 x.2.2.2.2.1 x.2.2.2.2.2.1 x.2.2.2.2.2.2.1 x.2.2.2.2.2.2.2.1 x.2.2.2.2.2.2.2.2.1 x.2.2.2.2.2.2.2.2.2)
def d_Times (t : List V × List (Option Chunk)) : a_Times := ((vI ((vAg (t.1.getD 0 .junk)).getD 0 .junk)), (vI ((vAg (t.1.getD 0 .junk)).getD 1 .junk)), (vI ((vAg (t.1.getD 0 .junk)).getD 2 .junk)), (vI ((vAg (t.1.getD 0 .junk)).getD 3 .junk)), (vI ((vAg (t.1.getD 0 .junk)).getD 4 .junk)), (vI ((vAg (t.1.getD 1 .junk)).getD 0 .junk)), (vI ((vAg (t.1.getD 1 .junk)).getD 1 .junk)), (vI ((vAg (t.1.getD 1 .junk)).getD 2 .junk)), (vI ((vAg (t.1.getD 1 .junk)).getD 3 .junk)), (vI ((vAg (t.1.getD 1 .junk)).getD 4 .junk)))
theorem i_Times : ∀ x y, A_Times x = A_Times y → x = y := fun x y h => (congrArg d_Times h :)
def R_Times : g_Times → CRes := (fun z => (fun (d0 : Int) (d1 : Int) (d2 : Int) (d3 : Int) (d4 : Int) => .ret (.agg [i64 d0, i64 d1, i64 d2, i64 d3, i64 d4]) []) z.1 z.2.1 z.2.2.1 z.2.2.2.1 z.2.2.2.2 : (Int × Int × Int × Int × Int) → CRes)
def x_Times (z : g_Times) (k : CRes → Option Ans) : Option Ans := k (R_Times z)
theorem xe_Times : ∀ z k, x_Times z k = k (R_Times z) := fun z k => rfl
def t_Times {β : Type} (x : a_Times) (dn : g_Times → Option β) : Option β :=
 dn ((w (x.1 + w ((1 : Int) * x.2.2.2.2.2.1)), w (x.2.1 + w ((1 : Int) * x.2.2.2.2.2.2.1)), w (x.2.2.1 + w ((1 : Int) * x.2.2.2.2.2.2.2.1)), w (x.2.2.2.1 + w ((1 : Int) * x.2.2.2.2.2.2.2.2.1)), w (x.2.2.2.2.1 + w ((1 : Int) * x.2.2.2.2.2.2.2.2.2))))
theorem n_Times {β : Type} (x : a_Times) (dn : g_Times → Option β) : t_Times x dn = (t_Times x some).bind dn := by
  unfold t_Times
  repeat' first | exact free_none | refine free_bind (fun z => ?_) | refine free_ite ?_ ?_ | refine free_sum (fun z => ?_) (fun z => ?_) | rfl
theorem r_Times (x : a_Times) : callK E5 (callG E5 20) lo0 45 (A_Times x).1 (A_Times x).2 K = t_Times x (fun z => some (.c (R_Times z))) := by kernel_rfl
theorem s_Times (q : Nat) (x : a_Times) (z : g_Times) (h : t_Times x some = some z) : SC E5 45 (A_Times x).1 (A_Times x).2 (R_Times z) := by
  refine SC.of hW5 hX5 (sound_G hW5 hX5 20).1 lo0_sound ((r_Times x).trans ?_)
  rw [n_Times, h]; rfl
noncomputable def Times (q : Nat) (x : a_Times) : Option g_Times := t_Times x some
theorem sc_Times (q : Nat) : ∀ (x : a_Times) (z : g_Times), Times q x = some z → SC E5 45 (A_Times x).1 (A_Times x).2 (R_Times z) := fun x z h => s_Times q x z h
/-! ### Over (46) -/
abbrev a_Over : Type := Int × Int × Int × Int × Int × Int × Int × Int × Int × Int
abbrev g_Over : Type := Int × Int × Int × Int × Int
def A_Over : a_Over → List V × List (Option Chunk) := (fun x => (fun (d0 : Int) (d1 : Int) (d2 : Int) (d3 : Int) (d4 : Int) (f0 : Int) (f1 : Int) (f2 : Int) (f3 : Int) (f4 : Int) => (([.agg [i64 d0, i64 d1, i64 d2, i64 d3, i64 d4], .agg [i64 f0, i64 f1, i64 f2, i64 f3, i64 f4]] : List V), ([] : List (Option Chunk)))) x.1 x.2.1 x.2.2.1 x.2.2.2.1 x.2.2.2.2.1 x.2.2.2.2.2.1 x.2.2.2.2.2.2.1 x.2.2.2.2.2.2.2.1 x.2.2.2.2.2.2.2.2.1 x.2.2.2.2.2.2.2.2.2)
def d_Over (t : List V × List (Option Chunk)) : a_Over := ((vI ((vAg (t.1.getD 0 .junk)).getD 0 .junk)), (vI ((vAg (t.1.getD 0 .junk)).getD 1 .junk)), (vI ((vAg (t.1.getD 0 .junk)).getD 2 .junk)), (vI ((vAg (t.1.getD 0 .junk)).getD 3 .junk)), (vI ((vAg (t.1.getD 0 .junk)).getD 4 .junk)), (vI ((vAg (t.1.getD 1 .junk)).getD 0 .junk)), (vI ((vAg (t.1.getD 1 .junk)).getD 1 .junk)), (vI ((vAg (t.1.getD 1 .junk)).getD 2 .junk)), (vI ((vAg (t.1.getD 1 .junk)).getD 3 .junk)), (vI ((vAg (t.1.getD 1 .junk)).getD 4 .junk)))
theorem i_Over : ∀ x y, A_Over x = A_Over y → x = y := fun x y h => (congrArg d_Over h :)
def R_Over : g_Over → CRes := (fun z => (fun (d0 : Int) (d1 : Int) (d2 : Int) (d3 : Int) (d4 : Int) => .ret (.agg [i64 d0, i64 d1, i64 d2, i64 d3, i64 d4]) []) z.1 z.2.1 z.2.2.1 z.2.2.2.1 z.2.2.2.2 : (Int × Int × Int × Int × Int) → CRes)
def x_Over (z : g_Over) (k : CRes → Option Ans) : Option Ans := k (R_Over z)
theorem xe_Over : ∀ z k, x_Over z k = k (R_Over z) := fun z k => rfl
def t_Over {β : Type} (x : a_Over) (dn : g_Over → Option β) : Option β :=
 dn ((w (x.1 + w ((-1 : Int) * x.2.2.2.2.2.1)), w (x.2.1 + w ((-1 : Int) * x.2.2.2.2.2.2.1)), w (x.2.2.1 + w ((-1 : Int) * x.2.2.2.2.2.2.2.1)), w (x.2.2.2.1 + w ((-1 : Int) * x.2.2.2.2.2.2.2.2.1)), w (x.2.2.2.2.1 + w ((-1 : Int) * x.2.2.2.2.2.2.2.2.2))))
theorem n_Over {β : Type} (x : a_Over) (dn : g_Over → Option β) : t_Over x dn = (t_Over x some).bind dn := by
  unfold t_Over
  repeat' first | exact free_none | refine free_bind (fun z => ?_) | refine free_ite ?_ ?_ | refine free_sum (fun z => ?_) (fun z => ?_) | rfl
theorem r_Over (x : a_Over) : callK E5 (callG E5 20) lo0 46 (A_Over x).1 (A_Over x).2 K = t_Over x (fun z => some (.c (R_Over z))) := by kernel_rfl
theorem s_Over (q : Nat) (x : a_Over) (z : g_Over) (h : t_Over x some = some z) : SC E5 46 (A_Over x).1 (A_Over x).2 (R_Over z) := by
  refine SC.of hW5 hX5 (sound_G hW5 hX5 20).1 lo0_sound ((r_Over x).trans ?_)
  rw [n_Over, h]; rfl
noncomputable def Over (q : Nat) (x : a_Over) : Option g_Over := t_Over x some
theorem sc_Over (q : Nat) : ∀ (x : a_Over) (z : g_Over), Over q x = some z → SC E5 46 (A_Over x).1 (A_Over x).2 (R_Over z) := fun x z h => s_Over q x z h
/-! ### binary (32) -/
abbrev a_binary : Type := ByteArray × Bool × Bool × Int × Int × Int × Int × Int × Int × Int × Int × Int × Int
abbrev g_binary : Type := Bool × Int × Int × Int × Int × Int × Int
def A_binary : a_binary → List V × List (Option Chunk) := (fun x => (fun (s : ByteArray) (x : Bool) (y : Bool) (d0 : Int) (d1 : Int) (d2 : Int) (d3 : Int) (d4 : Int) (f0 : Int) (f1 : Int) (f2 : Int) (f3 : Int) (f4 : Int) => (([st s, .agg [bo x, bo y], .agg [i64 d0, i64 d1, i64 d2, i64 d3, i64 d4, i64 f0, i64 f1, i64 f2, i64 f3, i64 f4]] : List V), ([] : List (Option Chunk)))) x.1 x.2.1 x.2.2.1 x.2.2.2.1 x.2.2.2.2.1 x.2.2.2.2.2.1 x.2.2.2.2.2.2.1 x.2.2.2.2.2.2.2.1 x.2.2.2.2.2.2.2.2.1 x.2.2.2.2.2.2.2.2.2.1 x.2.2.2.2.2.2.2.2.2.2.1 x.2.2.2.2.2.2.2.2.2.2.2.1 x.2.2.2.2.2.2.2.2.2.2.2.2)
def d_binary (t : List V × List (Option Chunk)) : a_binary := ((vS (t.1.getD 0 .junk)), (vB ((vAg (t.1.getD 1 .junk)).getD 0 .junk)), (vB ((vAg (t.1.getD 1 .junk)).getD 1 .junk)), (vI ((vAg (t.1.getD 2 .junk)).getD 0 .junk)), (vI ((vAg (t.1.getD 2 .junk)).getD 1 .junk)), (vI ((vAg (t.1.getD 2 .junk)).getD 2 .junk)), (vI ((vAg (t.1.getD 2 .junk)).getD 3 .junk)), (vI ((vAg (t.1.getD 2 .junk)).getD 4 .junk)), (vI ((vAg (t.1.getD 2 .junk)).getD 5 .junk)), (vI ((vAg (t.1.getD 2 .junk)).getD 6 .junk)), (vI ((vAg (t.1.getD 2 .junk)).getD 7 .junk)), (vI ((vAg (t.1.getD 2 .junk)).getD 8 .junk)), (vI ((vAg (t.1.getD 2 .junk)).getD 9 .junk)))
theorem i_binary : ∀ x y, A_binary x = A_binary y → x = y := fun x y h => (congrArg d_binary h :)
def R_binary : g_binary → CRes := (fun z => (fun (b : Bool) (d0 : Int) (d1 : Int) (d2 : Int) (d3 : Int) (d4 : Int) (e : Int) => .ret (.tup [bo b, .agg [i64 d0, i64 d1, i64 d2, i64 d3, i64 d4], i64 e]) []) z.1 z.2.1 z.2.2.1 z.2.2.2.1 z.2.2.2.2.1 z.2.2.2.2.2.1 z.2.2.2.2.2.2 : (Bool × Int × Int × Int × Int × Int × Int) → CRes)
def x_binary (z : g_binary) (k : CRes → Option Ans) : Option Ans := k (R_binary z)
theorem xe_binary : ∀ z k, x_binary z k = k (R_binary z) := fun z k => rfl
def t_binary {β : Type} (c_kind : a_kind → Option g_kind) (c_adm : a_adm → Option g_adm) (c_Times : a_Times → Option g_Times) (c_Over : a_Over → Option g_Over) (x : a_binary) (dn : g_binary → Option β) : Option β :=
 (c_kind (x.1)).bind fun z1 =>
  if (!x.2.1 == (z1 == (1 : Int))) = true then
   dn ((false, (0 : Int), (0 : Int), (0 : Int), (0 : Int), (0 : Int), (12 : Int)))
  else
   if (!x.2.2.1 == (z1 == (1 : Int))) = true then
    dn ((false, (0 : Int), (0 : Int), (0 : Int), (0 : Int), (0 : Int), (12 : Int)))
   else
    if (z1 == (1 : Int)) = true then
     dn ((true, (0 : Int), (0 : Int), (0 : Int), (0 : Int), (0 : Int), (0 : Int)))
    else
     if (z1 == (3 : Int)) = true then
      (c_Times (x.2.2.2)).bind fun z12 =>
       if (ByteArray.toList (x.1) == ByteArray.toList { data := #[(47 : UInt8)] }) = true then
        (c_Over (x.2.2.2)).bind fun z23 =>
         (c_adm z23).bind fun z29 =>
          if (!z29) = true then
           dn ((false, (0 : Int), (0 : Int), (0 : Int), (0 : Int), (0 : Int), (5 : Int)))
          else
           dn ((false, z23.1, z23.2.1, z23.2.2.1, z23.2.2.2.1, z23.2.2.2.2, (0 : Int)))
       else
        (c_adm z12).bind fun z35 =>
         if (!z35) = true then
          dn ((false, (0 : Int), (0 : Int), (0 : Int), (0 : Int), (0 : Int), (5 : Int)))
         else
          dn ((false, z12.1, z12.2.1, z12.2.2.1, z12.2.2.2.1, z12.2.2.2.2, (0 : Int)))
     else
      if (if true = true then !(x.2.2.2.1 == x.2.2.2.2.2.2.2.2.1 && (x.2.2.2.2.1 == x.2.2.2.2.2.2.2.2.2.1 && (x.2.2.2.2.2.1 == x.2.2.2.2.2.2.2.2.2.2.1 && (x.2.2.2.2.2.2.1 == x.2.2.2.2.2.2.2.2.2.2.2.1 && (x.2.2.2.2.2.2.2.1 == x.2.2.2.2.2.2.2.2.2.2.2.2 && true))))) else x.2.2.2.1 == x.2.2.2.2.2.2.2.2.1 && (x.2.2.2.2.1 == x.2.2.2.2.2.2.2.2.2.1 && (x.2.2.2.2.2.1 == x.2.2.2.2.2.2.2.2.2.2.1 && (x.2.2.2.2.2.2.1 == x.2.2.2.2.2.2.2.2.2.2.2.1 && (x.2.2.2.2.2.2.2.1 == x.2.2.2.2.2.2.2.2.2.2.2.2 && true))))) = true then
       dn ((false, (0 : Int), (0 : Int), (0 : Int), (0 : Int), (0 : Int), (10 : Int)))
      else
       if (z1 == (4 : Int)) = true then
        dn ((true, (0 : Int), (0 : Int), (0 : Int), (0 : Int), (0 : Int), (0 : Int)))
       else
        dn ((false, x.2.2.2.1, x.2.2.2.2.1, x.2.2.2.2.2.1, x.2.2.2.2.2.2.1, x.2.2.2.2.2.2.2.1, (0 : Int)))
theorem n_binary {β : Type} (c_kind : a_kind → Option g_kind) (c_adm : a_adm → Option g_adm) (c_Times : a_Times → Option g_Times) (c_Over : a_Over → Option g_Over) (x : a_binary) (dn : g_binary → Option β) : t_binary c_kind c_adm c_Times c_Over x dn = (t_binary c_kind c_adm c_Times c_Over x some).bind dn := by
  unfold t_binary
  repeat' first | exact free_none | refine free_bind (fun z => ?_) | refine free_ite ?_ ?_ | refine free_sum (fun z => ?_) (fun z => ?_) | rfl
theorem r_binary (c_kind : a_kind → Option g_kind) (c_adm : a_adm → Option g_adm) (c_Times : a_Times → Option g_Times) (c_Over : a_Over → Option g_Over) (x : a_binary) : callK E5 (ftab 44 (fun _ _ => true) A_kind x_kind c_kind (ftab 47 (fun _ _ => true) A_adm x_adm c_adm (ftab 45 (fun _ _ => true) A_Times x_Times c_Times (ftab 46 (fun _ _ => true) A_Over x_Over c_Over ca0)))) lo0 32 (A_binary x).1 (A_binary x).2 K = t_binary (fun x => viaF A_kind c_kind (A_kind x)) (fun x => viaF A_adm c_adm (A_adm x)) (fun x => viaF A_Times c_Times (A_Times x)) (fun x => viaF A_Over c_Over (A_Over x)) x (fun z => some (.c (R_binary z))) := by kernel_rfl
theorem s_binary (c_kind : a_kind → Option g_kind) (h_kind : ∀ x z, c_kind x = some z → SC E5 44 (A_kind x).1 (A_kind x).2 (R_kind z)) (c_adm : a_adm → Option g_adm) (h_adm : ∀ x z, c_adm x = some z → SC E5 47 (A_adm x).1 (A_adm x).2 (R_adm z)) (c_Times : a_Times → Option g_Times) (h_Times : ∀ x z, c_Times x = some z → SC E5 45 (A_Times x).1 (A_Times x).2 (R_Times z)) (c_Over : a_Over → Option g_Over) (h_Over : ∀ x z, c_Over x = some z → SC E5 46 (A_Over x).1 (A_Over x).2 (R_Over z)) (q : Nat) (x : a_binary) (z : g_binary) (h : t_binary c_kind c_adm c_Times c_Over x some = some z) : SC E5 32 (A_binary x).1 (A_binary x).2 (R_binary z) := by
  refine SC.of hW5 hX5 (ftab_cons h_kind xe_kind (ftab_cons h_adm xe_adm (ftab_cons h_Times xe_Times (ftab_cons h_Over xe_Over ca0_sound)))) lo0_sound ((r_binary c_kind c_adm c_Times c_Over x).trans ?_)
  rw [via_eq i_kind c_kind, via_eq i_adm c_adm, via_eq i_Times c_Times, via_eq i_Over c_Over, n_binary, h]; rfl
noncomputable def binary (q : Nat) (x : a_binary) : Option g_binary := t_binary (kind q) (adm q) (Times q) (Over q) x some
theorem sc_binary (q : Nat) : ∀ (x : a_binary) (z : g_binary), binary q x = some z → SC E5 32 (A_binary x).1 (A_binary x).2 (R_binary z) := fun x z h => s_binary (kind q) (sc_kind q) (adm q) (sc_adm q) (Times q) (sc_Times q) (Over q) (sc_Over q) q x z h
/-! ### Tele (15) -/
abbrev a_Tele : Type := ByteArray
abbrev g_Tele : Type := Int × Int × Int × Int × Int × Int × Bool
def A_Tele : a_Tele → List V × List (Option Chunk) := (fun x => (fun (s : ByteArray) => (([st s] : List V), ([] : List (Option Chunk)))) x)
def d_Tele (t : List V × List (Option Chunk)) : a_Tele := ((vS (t.1.getD 0 .junk)))
theorem i_Tele : ∀ x y, A_Tele x = A_Tele y → x = y := fun x y h => (congrArg d_Tele h :)
def R_Tele : g_Tele → CRes := (fun z => (fun (k : Int) (d0 : Int) (d1 : Int) (d2 : Int) (d3 : Int) (d4 : Int) (b : Bool) => .ret (.tup [i64 k, .agg [i64 d0, i64 d1, i64 d2, i64 d3, i64 d4], bo b]) []) z.1 z.2.1 z.2.2.1 z.2.2.2.1 z.2.2.2.2.1 z.2.2.2.2.2.1 z.2.2.2.2.2.2 : (Int × Int × Int × Int × Int × Int × Bool) → CRes)
def x_Tele (z : g_Tele) (k : CRes → Option Ans) : Option Ans := k (R_Tele z)
theorem xe_Tele : ∀ z k, x_Tele z k = k (R_Tele z) := fun z k => rfl
def t_Tele {β : Type} (x : a_Tele) (dn : g_Tele → Option β) : Option β :=
 if (ByteArray.toList x == ByteArray.toList { data := #[(98 : UInt8), (97 : UInt8), (116 : UInt8), (116 : UInt8), (101 : UInt8), (114 : UInt8), (121 : UInt8)] }) = true then
  dn (((0 : Int), (1 : Int), (0 : Int), (0 : Int), (0 : Int), (0 : Int), true))
 else
  if (ByteArray.toList x == ByteArray.toList { data := #[(104 : UInt8), (101 : UInt8), (97 : UInt8), (116 : UInt8)] }) = true then
   dn (((1 : Int), (0 : Int), (0 : Int), (0 : Int), (0 : Int), (1 : Int), true))
  else
   if (ByteArray.toList x == ByteArray.toList { data := #[(97 : UInt8), (110 : UInt8), (103 : UInt8), (108 : UInt8), (101 : UInt8)] }) = true then
    dn (((2 : Int), (0 : Int), (0 : Int), (0 : Int), (1 : Int), (0 : Int), true))
   else
    if (ByteArray.toList x == ByteArray.toList { data := #[(110 : UInt8), (111 : UInt8), (119 : UInt8)] }) = true then
     dn (((3 : Int), (0 : Int), (0 : Int), (1 : Int), (0 : Int), (0 : Int), true))
    else
     if (ByteArray.toList x == ByteArray.toList { data := #[(109 : UInt8), (111 : UInt8), (100 : UInt8), (101 : UInt8)] }) = true then
      dn (((4 : Int), (0 : Int), (0 : Int), (0 : Int), (0 : Int), (0 : Int), true))
     else
      if (ByteArray.toList x == ByteArray.toList { data := #[(102 : UInt8), (114 : UInt8), (101 : UInt8), (101 : UInt8)] }) = true then
       dn (((5 : Int), (0 : Int), (1 : Int), (0 : Int), (0 : Int), (0 : Int), true))
      else
       dn (((0 : Int), (0 : Int), (0 : Int), (0 : Int), (0 : Int), (0 : Int), false))
theorem n_Tele {β : Type} (x : a_Tele) (dn : g_Tele → Option β) : t_Tele x dn = (t_Tele x some).bind dn := by
  unfold t_Tele
  repeat' first | exact free_none | refine free_bind (fun z => ?_) | refine free_ite ?_ ?_ | refine free_sum (fun z => ?_) (fun z => ?_) | rfl
theorem r_Tele (x : a_Tele) : callK E5 ca0 lo0 15 (A_Tele x).1 (A_Tele x).2 K = t_Tele x (fun z => some (.c (R_Tele z))) := by kernel_rfl
theorem s_Tele (q : Nat) (x : a_Tele) (z : g_Tele) (h : t_Tele x some = some z) : SC E5 15 (A_Tele x).1 (A_Tele x).2 (R_Tele z) := by
  refine SC.of hW5 hX5 ca0_sound lo0_sound ((r_Tele x).trans ?_)
  rw [n_Tele, h]; rfl
noncomputable def Tele (q : Nat) (x : a_Tele) : Option g_Tele := t_Tele x some
theorem sc_Tele (q : Nat) : ∀ (x : a_Tele) (z : g_Tele), Tele q x = some z → SC E5 15 (A_Tele x).1 (A_Tele x).2 (R_Tele z) := fun x z h => s_Tele q x z h
/-! ### Operator (48) -/
abbrev a_Operator : Type := ByteArray
abbrev g_Operator : Type := Int
def A_Operator : a_Operator → List V × List (Option Chunk) := (fun x => (fun (s : ByteArray) => (([st s] : List V), ([] : List (Option Chunk)))) x)
def d_Operator (t : List V × List (Option Chunk)) : a_Operator := ((vS (t.1.getD 0 .junk)))
theorem i_Operator : ∀ x y, A_Operator x = A_Operator y → x = y := fun x y h => (congrArg d_Operator h :)
def R_Operator : g_Operator → CRes := (fun z => (fun (k : Int) => .ret (i64 k) []) z : (Int) → CRes)
def x_Operator (z : g_Operator) (k : CRes → Option Ans) : Option Ans := k (R_Operator z)
theorem xe_Operator : ∀ z k, x_Operator z k = k (R_Operator z) := fun z k => rfl
def t_Operator {β : Type} (x : a_Operator) (dn : g_Operator → Option β) : Option β :=
 if (ByteArray.toList x == ByteArray.toList { data := #[(124 : UInt8), (124 : UInt8)] }) = true then
  dn ((1 : Int))
 else
  if (ByteArray.toList x == ByteArray.toList { data := #[(38 : UInt8), (38 : UInt8)] }) = true then
   dn ((1 : Int))
  else
   if (ByteArray.toList x == ByteArray.toList { data := #[(43 : UInt8)] }) = true then
    dn ((2 : Int))
   else
    if (ByteArray.toList x == ByteArray.toList { data := #[(45 : UInt8)] }) = true then
     dn ((2 : Int))
    else
     if (ByteArray.toList x == ByteArray.toList { data := #[(42 : UInt8)] }) = true then
      dn ((3 : Int))
     else
      if (ByteArray.toList x == ByteArray.toList { data := #[(47 : UInt8)] }) = true then
       dn ((3 : Int))
      else
       if (ByteArray.toList x == ByteArray.toList { data := #[(60 : UInt8)] }) = true then
        dn ((4 : Int))
       else
        if (ByteArray.toList x == ByteArray.toList { data := #[(60 : UInt8), (61 : UInt8)] }) = true then
         dn ((4 : Int))
        else
         if (ByteArray.toList x == ByteArray.toList { data := #[(62 : UInt8)] }) = true then
          dn ((4 : Int))
         else
          if (ByteArray.toList x == ByteArray.toList { data := #[(62 : UInt8), (61 : UInt8)] }) = true then
           dn ((4 : Int))
          else
           if (ByteArray.toList x == ByteArray.toList { data := #[(61 : UInt8), (61 : UInt8)] }) = true then
            dn ((4 : Int))
           else
            if (ByteArray.toList x == ByteArray.toList { data := #[(33 : UInt8), (61 : UInt8)] }) = true then
             dn ((4 : Int))
            else
             dn ((0 : Int))
theorem n_Operator {β : Type} (x : a_Operator) (dn : g_Operator → Option β) : t_Operator x dn = (t_Operator x some).bind dn := by
  unfold t_Operator
  repeat' first | exact free_none | refine free_bind (fun z => ?_) | refine free_ite ?_ ?_ | refine free_sum (fun z => ?_) (fun z => ?_) | rfl
theorem r_Operator (x : a_Operator) : callK E5 ca0 lo0 48 (A_Operator x).1 (A_Operator x).2 K = t_Operator x (fun z => some (.c (R_Operator z))) := by kernel_rfl
theorem s_Operator (q : Nat) (x : a_Operator) (z : g_Operator) (h : t_Operator x some = some z) : SC E5 48 (A_Operator x).1 (A_Operator x).2 (R_Operator z) := by
  refine SC.of hW5 hX5 ca0_sound lo0_sound ((r_Operator x).trans ?_)
  rw [n_Operator, h]; rfl
noncomputable def Operator (q : Nat) (x : a_Operator) : Option g_Operator := t_Operator x some
theorem sc_Operator (q : Nat) : ∀ (x : a_Operator) (z : g_Operator), Operator q x = some z → SC E5 48 (A_Operator x).1 (A_Operator x).2 (R_Operator z) := fun x z h => s_Operator q x z h
/-! ### formed (33) -/
abbrev a_formed : Type := Int × Int × ByteArray × Nat × (Nat → List V)
abbrev g_formed : Type := Bool
def A_formed : a_formed → List V × List (Option Chunk) := (fun x => (fun (nk : Int) (nn : Int) (ns : ByteArray) (nm : Nat) (nf : Nat → List V) => (([.agg [i64 nk, i64 nn, st ns, .ro 4 nm nf]] : List V), ([] : List (Option Chunk)))) x.1 x.2.1 x.2.2.1 x.2.2.2.1 x.2.2.2.2)
def d_formed (t : List V × List (Option Chunk)) : a_formed := ((vI ((vAg (t.1.getD 0 .junk)).getD 0 .junk)), (vI ((vAg (t.1.getD 0 .junk)).getD 1 .junk)), (vS ((vAg (t.1.getD 0 .junk)).getD 2 .junk)), (vRoN ((vAg (t.1.getD 0 .junk)).getD 3 .junk)), (vRoF ((vAg (t.1.getD 0 .junk)).getD 3 .junk)))
theorem i_formed : ∀ x y, A_formed x = A_formed y → x = y := fun x y h => (congrArg d_formed h :)
def R_formed : g_formed → CRes := (fun z => (fun (b : Bool) => .ret (bo b) []) z : (Bool) → CRes)
def x_formed (z : g_formed) (k : CRes → Option Ans) : Option Ans := k (R_formed z)
theorem xe_formed : ∀ z k, x_formed z k = k (R_formed z) := fun z k => rfl
def t_formed {β : Type} (c_Operator : a_Operator → Option g_Operator) (x : a_formed) (dn : g_formed → Option β) : Option β :=
 if (x.1 == (15 : Int)) = true then
  dn (((x.2.2.2.1 : Nat) : Int) == (0 : Int))
 else
  if (x.1 == (17 : Int)) = true then
   dn (((x.2.2.2.1 : Nat) : Int) == (0 : Int))
  else
   if (x.1 == (18 : Int)) = true then
    dn (((x.2.2.2.1 : Nat) : Int) == (0 : Int))
   else
    if (x.1 == (16 : Int)) = true then
     if (((x.2.2.2.1 : Nat) : Int) == (0 : Int)) = true then
      if (x.2.1 == (0 : Int)) = true then
       dn true
      else
       dn (x.2.1 == (1 : Int))
     else
      dn false
    else
     if (x.1 == (19 : Int)) = true then
      if (((x.2.2.2.1 : Nat) : Int) == (1 : Int)) = true then
       if (ByteArray.toList (x.2.2.1) == ByteArray.toList { data := #[(33 : UInt8)] }) = true then
        dn true
       else
        dn (ByteArray.toList (x.2.2.1) == ByteArray.toList { data := #[(45 : UInt8)] })
      else
       dn false
     else
      if (x.1 == (20 : Int)) = true then
       if (((x.2.2.2.1 : Nat) : Int) == (2 : Int)) = true then
        (c_Operator (x.2.2.1)).bind fun z1 =>
         dn (decide (z1 > (0 : Int)))
       else
        dn false
      else
       dn false
theorem n_formed {β : Type} (c_Operator : a_Operator → Option g_Operator) (x : a_formed) (dn : g_formed → Option β) : t_formed c_Operator x dn = (t_formed c_Operator x some).bind dn := by
  unfold t_formed
  repeat' first | exact free_none | refine free_bind (fun z => ?_) | refine free_ite ?_ ?_ | refine free_sum (fun z => ?_) (fun z => ?_) | rfl
theorem r_formed (c_Operator : a_Operator → Option g_Operator) (x : a_formed) : callK E5 (ftab 48 (fun _ _ => true) A_Operator x_Operator c_Operator ca0) lo0 33 (A_formed x).1 (A_formed x).2 K = t_formed (fun x => viaF A_Operator c_Operator (A_Operator x)) x (fun z => some (.c (R_formed z))) := by kernel_rfl
theorem s_formed (c_Operator : a_Operator → Option g_Operator) (h_Operator : ∀ x z, c_Operator x = some z → SC E5 48 (A_Operator x).1 (A_Operator x).2 (R_Operator z)) (q : Nat) (x : a_formed) (z : g_formed) (h : t_formed c_Operator x some = some z) : SC E5 33 (A_formed x).1 (A_formed x).2 (R_formed z) := by
  refine SC.of hW5 hX5 (ftab_cons h_Operator xe_Operator ca0_sound) lo0_sound ((r_formed c_Operator x).trans ?_)
  rw [via_eq i_Operator c_Operator, n_formed, h]; rfl
noncomputable def formed (q : Nat) (x : a_formed) : Option g_formed := t_formed (Operator q) x some
theorem sc_formed (q : Nat) : ∀ (x : a_formed) (z : g_formed), formed q x = some z → SC E5 33 (A_formed x).1 (A_formed x).2 (R_formed z) := fun x z h => s_formed (Operator q) (sc_Operator q) q x z h
/-! ### radm (52) -/
abbrev a_radm : Type := Int × Int × Int × Int × Int
abbrev g_radm : Type := Bool
def A_radm : a_radm → List V × List (Option Chunk) := (fun x => (fun (d0 : Int) (d1 : Int) (d2 : Int) (d3 : Int) (d4 : Int) => (([.agg [i64 d0, i64 d1, i64 d2, i64 d3, i64 d4]] : List V), ([] : List (Option Chunk)))) x.1 x.2.1 x.2.2.1 x.2.2.2.1 x.2.2.2.2)
def d_radm (t : List V × List (Option Chunk)) : a_radm := ((vI ((vAg (t.1.getD 0 .junk)).getD 0 .junk)), (vI ((vAg (t.1.getD 0 .junk)).getD 1 .junk)), (vI ((vAg (t.1.getD 0 .junk)).getD 2 .junk)), (vI ((vAg (t.1.getD 0 .junk)).getD 3 .junk)), (vI ((vAg (t.1.getD 0 .junk)).getD 4 .junk)))
theorem i_radm : ∀ x y, A_radm x = A_radm y → x = y := fun x y h => (congrArg d_radm h :)
def R_radm : g_radm → CRes := (fun z => (fun (b : Bool) => .ret (bo b) []) z : (Bool) → CRes)
def x_radm (z : g_radm) (k : CRes → Option Ans) : Option Ans := k (R_radm z)
theorem xe_radm : ∀ z k, x_radm z k = k (R_radm z) := fun z k => rfl
def t_radm {β : Type} (x : a_radm) (dn : g_radm → Option β) : Option β :=
 if decide ((if x.2.2.2.2 > if x.2.2.2.1 > if x.2.2.1 > if x.2.1 > x.1 then x.2.1 else x.1 then x.2.2.1 else if x.2.1 > x.1 then x.2.1 else x.1 then x.2.2.2.1 else if x.2.2.1 > if x.2.1 > x.1 then x.2.1 else x.1 then x.2.2.1 else if x.2.1 > x.1 then x.2.1 else x.1 then x.2.2.2.2 else if x.2.2.2.1 > if x.2.2.1 > if x.2.1 > x.1 then x.2.1 else x.1 then x.2.2.1 else if x.2.1 > x.1 then x.2.1 else x.1 then x.2.2.2.1 else if x.2.2.1 > if x.2.1 > x.1 then x.2.1 else x.1 then x.2.2.1 else if x.2.1 > x.1 then x.2.1 else x.1) ≤ (8 : Int)) = true then
  dn (decide ((if x.2.2.2.2 < if x.2.2.2.1 < if x.2.2.1 < if x.2.1 < x.1 then x.2.1 else x.1 then x.2.2.1 else if x.2.1 < x.1 then x.2.1 else x.1 then x.2.2.2.1 else if x.2.2.1 < if x.2.1 < x.1 then x.2.1 else x.1 then x.2.2.1 else if x.2.1 < x.1 then x.2.1 else x.1 then x.2.2.2.2 else if x.2.2.2.1 < if x.2.2.1 < if x.2.1 < x.1 then x.2.1 else x.1 then x.2.2.1 else if x.2.1 < x.1 then x.2.1 else x.1 then x.2.2.2.1 else if x.2.2.1 < if x.2.1 < x.1 then x.2.1 else x.1 then x.2.2.1 else if x.2.1 < x.1 then x.2.1 else x.1) ≥ (-8 : Int)))
 else
  dn false
theorem n_radm {β : Type} (x : a_radm) (dn : g_radm → Option β) : t_radm x dn = (t_radm x some).bind dn := by
  unfold t_radm
  repeat' first | exact free_none | refine free_bind (fun z => ?_) | refine free_ite ?_ ?_ | refine free_sum (fun z => ?_) (fun z => ?_) | rfl
theorem r_radm (x : a_radm) : callK E5 ca0 lo0 52 (A_radm x).1 (A_radm x).2 K = t_radm x (fun z => some (.c (R_radm z))) := by kernel_rfl
theorem s_radm (q : Nat) (x : a_radm) (z : g_radm) (h : t_radm x some = some z) : SC E5 52 (A_radm x).1 (A_radm x).2 (R_radm z) := by
  refine SC.of hW5 hX5 ca0_sound lo0_sound ((r_radm x).trans ?_)
  rw [n_radm, h]; rfl
noncomputable def radm (q : Nat) (x : a_radm) : Option g_radm := t_radm x some
theorem sc_radm (q : Nat) : ∀ (x : a_radm) (z : g_radm), radm q x = some z → SC E5 52 (A_radm x).1 (A_radm x).2 (R_radm z) := fun x z h => s_radm q x z h
/-! ### RLookup (69) -/
abbrev a_RLookup : Type := ByteArray
abbrev g_RLookup : Type := Int × Int × Int × Int × Int × Int × Bool
def A_RLookup : a_RLookup → List V × List (Option Chunk) := (fun x => (fun (s : ByteArray) => (([st s] : List V), ([] : List (Option Chunk)))) x)
def d_RLookup (t : List V × List (Option Chunk)) : a_RLookup := ((vS (t.1.getD 0 .junk)))
theorem i_RLookup : ∀ x y, A_RLookup x = A_RLookup y → x = y := fun x y h => (congrArg d_RLookup h :)
def R_RLookup : g_RLookup → CRes := (fun z => (fun (d0 : Int) (d1 : Int) (d2 : Int) (d3 : Int) (d4 : Int) (n : Int) (b : Bool) => .ret (.tup [.agg [i64 d0, i64 d1, i64 d2, i64 d3, i64 d4], i64 n, bo b]) []) z.1 z.2.1 z.2.2.1 z.2.2.2.1 z.2.2.2.2.1 z.2.2.2.2.2.1 z.2.2.2.2.2.2 : (Int × Int × Int × Int × Int × Int × Bool) → CRes)
def x_RLookup (z : g_RLookup) (k : CRes → Option Ans) : Option Ans := k (R_RLookup z)
theorem xe_RLookup : ∀ z k, x_RLookup z k = k (R_RLookup z) := fun z k => rfl
def t_RLookup {β : Type} (x : a_RLookup) (dn : g_RLookup → Option β) : Option β :=
 if (ByteArray.toList x == ByteArray.toList { data := #[(74 : UInt8)] }) = true then
  dn (((1 : Int), (0 : Int), (0 : Int), (0 : Int), (0 : Int), (1 : Int), true))
 else
  if (ByteArray.toList x == ByteArray.toList { data := #[(107 : UInt8), (74 : UInt8)] }) = true then
   dn (((1 : Int), (0 : Int), (0 : Int), (0 : Int), (0 : Int), (1000 : Int), true))
  else
   if (ByteArray.toList x == ByteArray.toList { data := #[(87 : UInt8), (104 : UInt8)] }) = true then
    dn (((1 : Int), (0 : Int), (0 : Int), (0 : Int), (0 : Int), (3600 : Int), true))
   else
    if (ByteArray.toList x == ByteArray.toList { data := #[(66 : UInt8)] }) = true then
     dn (((0 : Int), (1 : Int), (0 : Int), (0 : Int), (0 : Int), (1 : Int), true))
    else
     if (ByteArray.toList x == ByteArray.toList { data := #[(107 : UInt8), (66 : UInt8)] }) = true then
      dn (((0 : Int), (1 : Int), (0 : Int), (0 : Int), (0 : Int), (1000 : Int), true))
     else
      if (ByteArray.toList x == ByteArray.toList { data := #[(115 : UInt8)] }) = true then
       dn (((0 : Int), (0 : Int), (1 : Int), (0 : Int), (0 : Int), (1 : Int), true))
      else
       if (ByteArray.toList x == ByteArray.toList { data := #[(109 : UInt8), (105 : UInt8), (110 : UInt8)] }) = true then
        dn (((0 : Int), (0 : Int), (1 : Int), (0 : Int), (0 : Int), (60 : Int), true))
       else
        if (ByteArray.toList x == ByteArray.toList { data := #[(104 : UInt8)] }) = true then
         dn (((0 : Int), (0 : Int), (1 : Int), (0 : Int), (0 : Int), (3600 : Int), true))
        else
         if (ByteArray.toList x == ByteArray.toList { data := #[(100 : UInt8), (101 : UInt8), (103 : UInt8)] }) = true then
          dn (((0 : Int), (0 : Int), (0 : Int), (1 : Int), (0 : Int), (1 : Int), true))
         else
          if (ByteArray.toList x == ByteArray.toList { data := #[(75 : UInt8)] }) = true then
           dn (((0 : Int), (0 : Int), (0 : Int), (0 : Int), (1 : Int), (1 : Int), true))
          else
           if (ByteArray.toList x == ByteArray.toList { data := #[(87 : UInt8)] }) = true then
            dn (((1 : Int), (0 : Int), (-1 : Int), (0 : Int), (0 : Int), (1 : Int), true))
           else
            if (ByteArray.toList x == ByteArray.toList { data := #[(107 : UInt8), (87 : UInt8)] }) = true then
             dn (((1 : Int), (0 : Int), (-1 : Int), (0 : Int), (0 : Int), (1000 : Int), true))
            else
             if (ByteArray.toList x == ByteArray.toList { data := #[(66 : UInt8), (112 : UInt8), (115 : UInt8)] }) = true then
              dn (((0 : Int), (1 : Int), (-1 : Int), (0 : Int), (0 : Int), (1 : Int), true))
             else
              dn (((0 : Int), (0 : Int), (0 : Int), (0 : Int), (0 : Int), (0 : Int), false))
theorem n_RLookup {β : Type} (x : a_RLookup) (dn : g_RLookup → Option β) : t_RLookup x dn = (t_RLookup x some).bind dn := by
  unfold t_RLookup
  repeat' first | exact free_none | refine free_bind (fun z => ?_) | refine free_ite ?_ ?_ | refine free_sum (fun z => ?_) (fun z => ?_) | rfl
theorem r_RLookup (x : a_RLookup) : callK E5 ca0 lo0 69 (A_RLookup x).1 (A_RLookup x).2 K = t_RLookup x (fun z => some (.c (R_RLookup z))) := by kernel_rfl
theorem s_RLookup (q : Nat) (x : a_RLookup) (z : g_RLookup) (h : t_RLookup x some = some z) : SC E5 69 (A_RLookup x).1 (A_RLookup x).2 (R_RLookup z) := by
  refine SC.of hW5 hX5 ca0_sound lo0_sound ((r_RLookup x).trans ?_)
  rw [n_RLookup, h]; rfl
noncomputable def RLookup (q : Nat) (x : a_RLookup) : Option g_RLookup := t_RLookup x some
theorem sc_RLookup (q : Nat) : ∀ (x : a_RLookup) (z : g_RLookup), RLookup q x = some z → SC E5 69 (A_RLookup x).1 (A_RLookup x).2 (R_RLookup z) := fun x z h => s_RLookup q x z h
/-! ### rliteral (49) -/
abbrev a_rliteral : Type := Int × Int × ByteArray × Nat × (Nat → List V)
abbrev g_rliteral : Type := Int × Int × Int × Int × Int × Int
def A_rliteral : a_rliteral → List V × List (Option Chunk) := (fun x => (fun (nk : Int) (nn : Int) (ns : ByteArray) (nm : Nat) (nf : Nat → List V) => (([.agg [i64 nk, i64 nn, st ns, .ro 4 nm nf]] : List V), ([] : List (Option Chunk)))) x.1 x.2.1 x.2.2.1 x.2.2.2.1 x.2.2.2.2)
def d_rliteral (t : List V × List (Option Chunk)) : a_rliteral := ((vI ((vAg (t.1.getD 0 .junk)).getD 0 .junk)), (vI ((vAg (t.1.getD 0 .junk)).getD 1 .junk)), (vS ((vAg (t.1.getD 0 .junk)).getD 2 .junk)), (vRoN ((vAg (t.1.getD 0 .junk)).getD 3 .junk)), (vRoF ((vAg (t.1.getD 0 .junk)).getD 3 .junk)))
theorem i_rliteral : ∀ x y, A_rliteral x = A_rliteral y → x = y := fun x y h => (congrArg d_rliteral h :)
def R_rliteral : g_rliteral → CRes := (fun z => (fun (d0 : Int) (d1 : Int) (d2 : Int) (d3 : Int) (d4 : Int) (e : Int) => .ret (.tup [.agg [i64 d0, i64 d1, i64 d2, i64 d3, i64 d4], i64 e]) []) z.1 z.2.1 z.2.2.1 z.2.2.2.1 z.2.2.2.2.1 z.2.2.2.2.2 : (Int × Int × Int × Int × Int × Int) → CRes)
def x_rliteral (z : g_rliteral) (k : CRes → Option Ans) : Option Ans := k (R_rliteral z)
theorem xe_rliteral : ∀ z k, x_rliteral z k = k (R_rliteral z) := fun z k => rfl
def t_rliteral {β : Type} (c_RLookup : a_RLookup → Option g_RLookup) (x : a_rliteral) (dn : g_rliteral → Option β) : Option β :=
 if (!ByteArray.toList (x.2.2.1) == ByteArray.toList { data := #[] }) = true then
  (c_RLookup (x.2.2.1)).bind fun z1 =>
   if (!z1.2.2.2.2.2.2) = true then
    dn (((0 : Int), (0 : Int), (0 : Int), (0 : Int), (0 : Int), (10 : Int)))
   else
    if decide (x.2.1 < (0 : Int)) = true then
     dn (((0 : Int), (0 : Int), (0 : Int), (0 : Int), (0 : Int), (5 : Int)))
    else
     if z1.2.2.2.2.2.1 = (0 : Int) then
      none
     else
      if decide (x.2.1 > w (Int.tdiv (2147483647 : Int) (z1.2.2.2.2.2.1))) = true then
       dn (((0 : Int), (0 : Int), (0 : Int), (0 : Int), (0 : Int), (5 : Int)))
      else
       dn ((z1.1, z1.2.1, z1.2.2.1, z1.2.2.2.1, z1.2.2.2.2.1, (0 : Int)))
 else
  if decide (x.2.1 < (0 : Int)) = true then
   dn (((0 : Int), (0 : Int), (0 : Int), (0 : Int), (0 : Int), (5 : Int)))
  else
   if decide (x.2.1 > (2147483647 : Int)) = true then
    dn (((0 : Int), (0 : Int), (0 : Int), (0 : Int), (0 : Int), (5 : Int)))
   else
    dn (((0 : Int), (0 : Int), (0 : Int), (0 : Int), (0 : Int), (0 : Int)))
theorem n_rliteral {β : Type} (c_RLookup : a_RLookup → Option g_RLookup) (x : a_rliteral) (dn : g_rliteral → Option β) : t_rliteral c_RLookup x dn = (t_rliteral c_RLookup x some).bind dn := by
  unfold t_rliteral
  repeat' first | exact free_none | refine free_bind (fun z => ?_) | refine free_ite ?_ ?_ | refine free_sum (fun z => ?_) (fun z => ?_) | rfl
theorem r_rliteral (c_RLookup : a_RLookup → Option g_RLookup) (x : a_rliteral) : callK E5 (ftab 69 (fun _ _ => true) A_RLookup x_RLookup c_RLookup ca0) lo0 49 (A_rliteral x).1 (A_rliteral x).2 K = t_rliteral (fun x => viaF A_RLookup c_RLookup (A_RLookup x)) x (fun z => some (.c (R_rliteral z))) := by kernel_rfl
theorem s_rliteral (c_RLookup : a_RLookup → Option g_RLookup) (h_RLookup : ∀ x z, c_RLookup x = some z → SC E5 69 (A_RLookup x).1 (A_RLookup x).2 (R_RLookup z)) (q : Nat) (x : a_rliteral) (z : g_rliteral) (h : t_rliteral c_RLookup x some = some z) : SC E5 49 (A_rliteral x).1 (A_rliteral x).2 (R_rliteral z) := by
  refine SC.of hW5 hX5 (ftab_cons h_RLookup xe_RLookup ca0_sound) lo0_sound ((r_rliteral c_RLookup x).trans ?_)
  rw [via_eq i_RLookup c_RLookup, n_rliteral, h]; rfl
noncomputable def rliteral (q : Nat) (x : a_rliteral) : Option g_rliteral := t_rliteral (RLookup q) x some
theorem sc_rliteral (q : Nat) : ∀ (x : a_rliteral) (z : g_rliteral), rliteral q x = some z → SC E5 49 (A_rliteral x).1 (A_rliteral x).2 (R_rliteral z) := fun x z h => s_rliteral (RLookup q) (sc_RLookup q) q x z h
/-! ### RTimes (50) -/
abbrev a_RTimes : Type := Int × Int × Int × Int × Int × Int × Int × Int × Int × Int
abbrev g_RTimes : Type := Int × Int × Int × Int × Int
def A_RTimes : a_RTimes → List V × List (Option Chunk) := (fun x => (fun (d0 : Int) (d1 : Int) (d2 : Int) (d3 : Int) (d4 : Int) (f0 : Int) (f1 : Int) (f2 : Int) (f3 : Int) (f4 : Int) => (([.agg [i64 d0, i64 d1, i64 d2, i64 d3, i64 d4], .agg [i64 f0, i64 f1, i64 f2, i64 f3, i64 f4]] : List V), ([] : List (Option Chunk)))) x.1 x.2.1 x.2.2.1 x.2.2.2.1 x.2.2.2.2.1 x.2.2.2.2.2.1 x.2.2.2.2.2.2.1 x.2.2.2.2.2.2.2.1 x.2.2.2.2.2.2.2.2.1 x.2.2.2.2.2.2.2.2.2)
def d_RTimes (t : List V × List (Option Chunk)) : a_RTimes := ((vI ((vAg (t.1.getD 0 .junk)).getD 0 .junk)), (vI ((vAg (t.1.getD 0 .junk)).getD 1 .junk)), (vI ((vAg (t.1.getD 0 .junk)).getD 2 .junk)), (vI ((vAg (t.1.getD 0 .junk)).getD 3 .junk)), (vI ((vAg (t.1.getD 0 .junk)).getD 4 .junk)), (vI ((vAg (t.1.getD 1 .junk)).getD 0 .junk)), (vI ((vAg (t.1.getD 1 .junk)).getD 1 .junk)), (vI ((vAg (t.1.getD 1 .junk)).getD 2 .junk)), (vI ((vAg (t.1.getD 1 .junk)).getD 3 .junk)), (vI ((vAg (t.1.getD 1 .junk)).getD 4 .junk)))
theorem i_RTimes : ∀ x y, A_RTimes x = A_RTimes y → x = y := fun x y h => (congrArg d_RTimes h :)
def R_RTimes : g_RTimes → CRes := (fun z => (fun (d0 : Int) (d1 : Int) (d2 : Int) (d3 : Int) (d4 : Int) => .ret (.agg [i64 d0, i64 d1, i64 d2, i64 d3, i64 d4]) []) z.1 z.2.1 z.2.2.1 z.2.2.2.1 z.2.2.2.2 : (Int × Int × Int × Int × Int) → CRes)
def x_RTimes (z : g_RTimes) (k : CRes → Option Ans) : Option Ans := k (R_RTimes z)
theorem xe_RTimes : ∀ z k, x_RTimes z k = k (R_RTimes z) := fun z k => rfl
def t_RTimes {β : Type} (x : a_RTimes) (dn : g_RTimes → Option β) : Option β :=
 dn ((w (x.1 + x.2.2.2.2.2.1), w (x.2.1 + x.2.2.2.2.2.2.1), w (x.2.2.1 + x.2.2.2.2.2.2.2.1), w (x.2.2.2.1 + x.2.2.2.2.2.2.2.2.1), w (x.2.2.2.2.1 + x.2.2.2.2.2.2.2.2.2)))
theorem n_RTimes {β : Type} (x : a_RTimes) (dn : g_RTimes → Option β) : t_RTimes x dn = (t_RTimes x some).bind dn := by
  unfold t_RTimes
  repeat' first | exact free_none | refine free_bind (fun z => ?_) | refine free_ite ?_ ?_ | refine free_sum (fun z => ?_) (fun z => ?_) | rfl
theorem r_RTimes (x : a_RTimes) : callK E5 (callG E5 20) lo0 50 (A_RTimes x).1 (A_RTimes x).2 K = t_RTimes x (fun z => some (.c (R_RTimes z))) := by kernel_rfl
theorem s_RTimes (q : Nat) (x : a_RTimes) (z : g_RTimes) (h : t_RTimes x some = some z) : SC E5 50 (A_RTimes x).1 (A_RTimes x).2 (R_RTimes z) := by
  refine SC.of hW5 hX5 (sound_G hW5 hX5 20).1 lo0_sound ((r_RTimes x).trans ?_)
  rw [n_RTimes, h]; rfl
noncomputable def RTimes (q : Nat) (x : a_RTimes) : Option g_RTimes := t_RTimes x some
theorem sc_RTimes (q : Nat) : ∀ (x : a_RTimes) (z : g_RTimes), RTimes q x = some z → SC E5 50 (A_RTimes x).1 (A_RTimes x).2 (R_RTimes z) := fun x z h => s_RTimes q x z h
/-! ### ROver (51) -/
abbrev a_ROver : Type := Int × Int × Int × Int × Int × Int × Int × Int × Int × Int
abbrev g_ROver : Type := Int × Int × Int × Int × Int
def A_ROver : a_ROver → List V × List (Option Chunk) := (fun x => (fun (d0 : Int) (d1 : Int) (d2 : Int) (d3 : Int) (d4 : Int) (f0 : Int) (f1 : Int) (f2 : Int) (f3 : Int) (f4 : Int) => (([.agg [i64 d0, i64 d1, i64 d2, i64 d3, i64 d4], .agg [i64 f0, i64 f1, i64 f2, i64 f3, i64 f4]] : List V), ([] : List (Option Chunk)))) x.1 x.2.1 x.2.2.1 x.2.2.2.1 x.2.2.2.2.1 x.2.2.2.2.2.1 x.2.2.2.2.2.2.1 x.2.2.2.2.2.2.2.1 x.2.2.2.2.2.2.2.2.1 x.2.2.2.2.2.2.2.2.2)
def d_ROver (t : List V × List (Option Chunk)) : a_ROver := ((vI ((vAg (t.1.getD 0 .junk)).getD 0 .junk)), (vI ((vAg (t.1.getD 0 .junk)).getD 1 .junk)), (vI ((vAg (t.1.getD 0 .junk)).getD 2 .junk)), (vI ((vAg (t.1.getD 0 .junk)).getD 3 .junk)), (vI ((vAg (t.1.getD 0 .junk)).getD 4 .junk)), (vI ((vAg (t.1.getD 1 .junk)).getD 0 .junk)), (vI ((vAg (t.1.getD 1 .junk)).getD 1 .junk)), (vI ((vAg (t.1.getD 1 .junk)).getD 2 .junk)), (vI ((vAg (t.1.getD 1 .junk)).getD 3 .junk)), (vI ((vAg (t.1.getD 1 .junk)).getD 4 .junk)))
theorem i_ROver : ∀ x y, A_ROver x = A_ROver y → x = y := fun x y h => (congrArg d_ROver h :)
def R_ROver : g_ROver → CRes := (fun z => (fun (d0 : Int) (d1 : Int) (d2 : Int) (d3 : Int) (d4 : Int) => .ret (.agg [i64 d0, i64 d1, i64 d2, i64 d3, i64 d4]) []) z.1 z.2.1 z.2.2.1 z.2.2.2.1 z.2.2.2.2 : (Int × Int × Int × Int × Int) → CRes)
def x_ROver (z : g_ROver) (k : CRes → Option Ans) : Option Ans := k (R_ROver z)
theorem xe_ROver : ∀ z k, x_ROver z k = k (R_ROver z) := fun z k => rfl
def t_ROver {β : Type} (x : a_ROver) (dn : g_ROver → Option β) : Option β :=
 dn ((w (x.1 + w ((-1 : Int) * x.2.2.2.2.2.1)), w (x.2.1 + w ((-1 : Int) * x.2.2.2.2.2.2.1)), w (x.2.2.1 + w ((-1 : Int) * x.2.2.2.2.2.2.2.1)), w (x.2.2.2.1 + w ((-1 : Int) * x.2.2.2.2.2.2.2.2.1)), w (x.2.2.2.2.1 + w ((-1 : Int) * x.2.2.2.2.2.2.2.2.2))))
theorem n_ROver {β : Type} (x : a_ROver) (dn : g_ROver → Option β) : t_ROver x dn = (t_ROver x some).bind dn := by
  unfold t_ROver
  repeat' first | exact free_none | refine free_bind (fun z => ?_) | refine free_ite ?_ ?_ | refine free_sum (fun z => ?_) (fun z => ?_) | rfl
theorem r_ROver (x : a_ROver) : callK E5 (callG E5 20) lo0 51 (A_ROver x).1 (A_ROver x).2 K = t_ROver x (fun z => some (.c (R_ROver z))) := by kernel_rfl
theorem s_ROver (q : Nat) (x : a_ROver) (z : g_ROver) (h : t_ROver x some = some z) : SC E5 51 (A_ROver x).1 (A_ROver x).2 (R_ROver z) := by
  refine SC.of hW5 hX5 (sound_G hW5 hX5 20).1 lo0_sound ((r_ROver x).trans ?_)
  rw [n_ROver, h]; rfl
noncomputable def ROver (q : Nat) (x : a_ROver) : Option g_ROver := t_ROver x some
theorem sc_ROver (q : Nat) : ∀ (x : a_ROver) (z : g_ROver), ROver q x = some z → SC E5 51 (A_ROver x).1 (A_ROver x).2 (R_ROver z) := fun x z h => s_ROver q x z h
/-! ### rbinary (35) -/
abbrev a_rbinary : Type := ByteArray × Bool × Bool × Int × Int × Int × Int × Int × Int × Int × Int × Int × Int
abbrev g_rbinary : Type := Bool × Int × Int × Int × Int × Int × Int
def A_rbinary : a_rbinary → List V × List (Option Chunk) := (fun x => (fun (s : ByteArray) (x : Bool) (y : Bool) (d0 : Int) (d1 : Int) (d2 : Int) (d3 : Int) (d4 : Int) (f0 : Int) (f1 : Int) (f2 : Int) (f3 : Int) (f4 : Int) => (([st s, bo x, bo y, .agg [i64 d0, i64 d1, i64 d2, i64 d3, i64 d4], .agg [i64 f0, i64 f1, i64 f2, i64 f3, i64 f4]] : List V), ([] : List (Option Chunk)))) x.1 x.2.1 x.2.2.1 x.2.2.2.1 x.2.2.2.2.1 x.2.2.2.2.2.1 x.2.2.2.2.2.2.1 x.2.2.2.2.2.2.2.1 x.2.2.2.2.2.2.2.2.1 x.2.2.2.2.2.2.2.2.2.1 x.2.2.2.2.2.2.2.2.2.2.1 x.2.2.2.2.2.2.2.2.2.2.2.1 x.2.2.2.2.2.2.2.2.2.2.2.2)
def d_rbinary (t : List V × List (Option Chunk)) : a_rbinary := ((vS (t.1.getD 0 .junk)), (vB (t.1.getD 1 .junk)), (vB (t.1.getD 2 .junk)), (vI ((vAg (t.1.getD 3 .junk)).getD 0 .junk)), (vI ((vAg (t.1.getD 3 .junk)).getD 1 .junk)), (vI ((vAg (t.1.getD 3 .junk)).getD 2 .junk)), (vI ((vAg (t.1.getD 3 .junk)).getD 3 .junk)), (vI ((vAg (t.1.getD 3 .junk)).getD 4 .junk)), (vI ((vAg (t.1.getD 4 .junk)).getD 0 .junk)), (vI ((vAg (t.1.getD 4 .junk)).getD 1 .junk)), (vI ((vAg (t.1.getD 4 .junk)).getD 2 .junk)), (vI ((vAg (t.1.getD 4 .junk)).getD 3 .junk)), (vI ((vAg (t.1.getD 4 .junk)).getD 4 .junk)))
theorem i_rbinary : ∀ x y, A_rbinary x = A_rbinary y → x = y := fun x y h => (congrArg d_rbinary h :)
def R_rbinary : g_rbinary → CRes := (fun z => (fun (b : Bool) (d0 : Int) (d1 : Int) (d2 : Int) (d3 : Int) (d4 : Int) (e : Int) => .ret (.tup [bo b, .agg [i64 d0, i64 d1, i64 d2, i64 d3, i64 d4], i64 e]) []) z.1 z.2.1 z.2.2.1 z.2.2.2.1 z.2.2.2.2.1 z.2.2.2.2.2.1 z.2.2.2.2.2.2 : (Bool × Int × Int × Int × Int × Int × Int) → CRes)
def x_rbinary (z : g_rbinary) (k : CRes → Option Ans) : Option Ans := k (R_rbinary z)
theorem xe_rbinary : ∀ z k, x_rbinary z k = k (R_rbinary z) := fun z k => rfl
def t_rbinary {β : Type} (c_Operator : a_Operator → Option g_Operator) (c_radm : a_radm → Option g_radm) (c_RTimes : a_RTimes → Option g_RTimes) (c_ROver : a_ROver → Option g_ROver) (x : a_rbinary) (dn : g_rbinary → Option β) : Option β :=
 (c_Operator (x.1)).bind fun z1 =>
  if (z1 == (1 : Int)) = true then
   if (!x.2.1) = true then
    dn ((false, (0 : Int), (0 : Int), (0 : Int), (0 : Int), (0 : Int), (12 : Int)))
   else
    if (!x.2.2.1) = true then
     dn ((false, (0 : Int), (0 : Int), (0 : Int), (0 : Int), (0 : Int), (12 : Int)))
    else
     if (z1 != (1 : Int)) = true then
      if x.2.1 = true then
       dn ((false, (0 : Int), (0 : Int), (0 : Int), (0 : Int), (0 : Int), (12 : Int)))
      else
       if x.2.2.1 = true then
        dn ((false, (0 : Int), (0 : Int), (0 : Int), (0 : Int), (0 : Int), (12 : Int)))
       else
        if (z1 == (1 : Int)) = true then
         dn ((true, (0 : Int), (0 : Int), (0 : Int), (0 : Int), (0 : Int), (0 : Int)))
        else
         if (z1 == (3 : Int)) = true then
          (c_RTimes (x.2.2.2)).bind fun z12 =>
           if (ByteArray.toList (x.1) == ByteArray.toList { data := #[(47 : UInt8)] }) = true then
            (c_ROver (x.2.2.2)).bind fun z23 =>
             (c_radm z23).bind fun z29 =>
              if (!z29) = true then
               dn ((false, (0 : Int), (0 : Int), (0 : Int), (0 : Int), (0 : Int), (5 : Int)))
              else
               dn ((false, z23.1, z23.2.1, z23.2.2.1, z23.2.2.2.1, z23.2.2.2.2, (0 : Int)))
           else
            (c_radm z12).bind fun z35 =>
             if (!z35) = true then
              dn ((false, (0 : Int), (0 : Int), (0 : Int), (0 : Int), (0 : Int), (5 : Int)))
             else
              dn ((false, z12.1, z12.2.1, z12.2.2.1, z12.2.2.2.1, z12.2.2.2.2, (0 : Int)))
         else
          if (if true = true then !(x.2.2.2.1 == x.2.2.2.2.2.2.2.2.1 && (x.2.2.2.2.1 == x.2.2.2.2.2.2.2.2.2.1 && (x.2.2.2.2.2.1 == x.2.2.2.2.2.2.2.2.2.2.1 && (x.2.2.2.2.2.2.1 == x.2.2.2.2.2.2.2.2.2.2.2.1 && (x.2.2.2.2.2.2.2.1 == x.2.2.2.2.2.2.2.2.2.2.2.2 && true))))) else x.2.2.2.1 == x.2.2.2.2.2.2.2.2.1 && (x.2.2.2.2.1 == x.2.2.2.2.2.2.2.2.2.1 && (x.2.2.2.2.2.1 == x.2.2.2.2.2.2.2.2.2.2.1 && (x.2.2.2.2.2.2.1 == x.2.2.2.2.2.2.2.2.2.2.2.1 && (x.2.2.2.2.2.2.2.1 == x.2.2.2.2.2.2.2.2.2.2.2.2 && true))))) = true then
           dn ((false, (0 : Int), (0 : Int), (0 : Int), (0 : Int), (0 : Int), (10 : Int)))
          else
           if (z1 == (4 : Int)) = true then
            dn ((true, (0 : Int), (0 : Int), (0 : Int), (0 : Int), (0 : Int), (0 : Int)))
           else
            dn ((false, x.2.2.2.1, x.2.2.2.2.1, x.2.2.2.2.2.1, x.2.2.2.2.2.2.1, x.2.2.2.2.2.2.2.1, (0 : Int)))
     else
      if (z1 == (1 : Int)) = true then
       dn ((true, (0 : Int), (0 : Int), (0 : Int), (0 : Int), (0 : Int), (0 : Int)))
      else
       if (z1 == (3 : Int)) = true then
        (c_RTimes (x.2.2.2)).bind fun z46 =>
         if (ByteArray.toList (x.1) == ByteArray.toList { data := #[(47 : UInt8)] }) = true then
          (c_ROver (x.2.2.2)).bind fun z57 =>
           (c_radm z57).bind fun z63 =>
            if (!z63) = true then
             dn ((false, (0 : Int), (0 : Int), (0 : Int), (0 : Int), (0 : Int), (5 : Int)))
            else
             dn ((false, z57.1, z57.2.1, z57.2.2.1, z57.2.2.2.1, z57.2.2.2.2, (0 : Int)))
         else
          (c_radm z46).bind fun z69 =>
           if (!z69) = true then
            dn ((false, (0 : Int), (0 : Int), (0 : Int), (0 : Int), (0 : Int), (5 : Int)))
           else
            dn ((false, z46.1, z46.2.1, z46.2.2.1, z46.2.2.2.1, z46.2.2.2.2, (0 : Int)))
       else
        if (if true = true then !(x.2.2.2.1 == x.2.2.2.2.2.2.2.2.1 && (x.2.2.2.2.1 == x.2.2.2.2.2.2.2.2.2.1 && (x.2.2.2.2.2.1 == x.2.2.2.2.2.2.2.2.2.2.1 && (x.2.2.2.2.2.2.1 == x.2.2.2.2.2.2.2.2.2.2.2.1 && (x.2.2.2.2.2.2.2.1 == x.2.2.2.2.2.2.2.2.2.2.2.2 && true))))) else x.2.2.2.1 == x.2.2.2.2.2.2.2.2.1 && (x.2.2.2.2.1 == x.2.2.2.2.2.2.2.2.2.1 && (x.2.2.2.2.2.1 == x.2.2.2.2.2.2.2.2.2.2.1 && (x.2.2.2.2.2.2.1 == x.2.2.2.2.2.2.2.2.2.2.2.1 && (x.2.2.2.2.2.2.2.1 == x.2.2.2.2.2.2.2.2.2.2.2.2 && true))))) = true then
         dn ((false, (0 : Int), (0 : Int), (0 : Int), (0 : Int), (0 : Int), (10 : Int)))
        else
         if (z1 == (4 : Int)) = true then
          dn ((true, (0 : Int), (0 : Int), (0 : Int), (0 : Int), (0 : Int), (0 : Int)))
         else
          dn ((false, x.2.2.2.1, x.2.2.2.2.1, x.2.2.2.2.2.1, x.2.2.2.2.2.2.1, x.2.2.2.2.2.2.2.1, (0 : Int)))
  else
   if (z1 != (1 : Int)) = true then
    if x.2.1 = true then
     dn ((false, (0 : Int), (0 : Int), (0 : Int), (0 : Int), (0 : Int), (12 : Int)))
    else
     if x.2.2.1 = true then
      dn ((false, (0 : Int), (0 : Int), (0 : Int), (0 : Int), (0 : Int), (12 : Int)))
     else
      if (z1 == (1 : Int)) = true then
       dn ((true, (0 : Int), (0 : Int), (0 : Int), (0 : Int), (0 : Int), (0 : Int)))
      else
       if (z1 == (3 : Int)) = true then
        (c_RTimes (x.2.2.2)).bind fun z80 =>
         if (ByteArray.toList (x.1) == ByteArray.toList { data := #[(47 : UInt8)] }) = true then
          (c_ROver (x.2.2.2)).bind fun z91 =>
           (c_radm z91).bind fun z97 =>
            if (!z97) = true then
             dn ((false, (0 : Int), (0 : Int), (0 : Int), (0 : Int), (0 : Int), (5 : Int)))
            else
             dn ((false, z91.1, z91.2.1, z91.2.2.1, z91.2.2.2.1, z91.2.2.2.2, (0 : Int)))
         else
          (c_radm z80).bind fun z103 =>
           if (!z103) = true then
            dn ((false, (0 : Int), (0 : Int), (0 : Int), (0 : Int), (0 : Int), (5 : Int)))
           else
            dn ((false, z80.1, z80.2.1, z80.2.2.1, z80.2.2.2.1, z80.2.2.2.2, (0 : Int)))
       else
        if (if true = true then !(x.2.2.2.1 == x.2.2.2.2.2.2.2.2.1 && (x.2.2.2.2.1 == x.2.2.2.2.2.2.2.2.2.1 && (x.2.2.2.2.2.1 == x.2.2.2.2.2.2.2.2.2.2.1 && (x.2.2.2.2.2.2.1 == x.2.2.2.2.2.2.2.2.2.2.2.1 && (x.2.2.2.2.2.2.2.1 == x.2.2.2.2.2.2.2.2.2.2.2.2 && true))))) else x.2.2.2.1 == x.2.2.2.2.2.2.2.2.1 && (x.2.2.2.2.1 == x.2.2.2.2.2.2.2.2.2.1 && (x.2.2.2.2.2.1 == x.2.2.2.2.2.2.2.2.2.2.1 && (x.2.2.2.2.2.2.1 == x.2.2.2.2.2.2.2.2.2.2.2.1 && (x.2.2.2.2.2.2.2.1 == x.2.2.2.2.2.2.2.2.2.2.2.2 && true))))) = true then
         dn ((false, (0 : Int), (0 : Int), (0 : Int), (0 : Int), (0 : Int), (10 : Int)))
        else
         if (z1 == (4 : Int)) = true then
          dn ((true, (0 : Int), (0 : Int), (0 : Int), (0 : Int), (0 : Int), (0 : Int)))
         else
          dn ((false, x.2.2.2.1, x.2.2.2.2.1, x.2.2.2.2.2.1, x.2.2.2.2.2.2.1, x.2.2.2.2.2.2.2.1, (0 : Int)))
   else
    if (z1 == (1 : Int)) = true then
     dn ((true, (0 : Int), (0 : Int), (0 : Int), (0 : Int), (0 : Int), (0 : Int)))
    else
     if (z1 == (3 : Int)) = true then
      (c_RTimes (x.2.2.2)).bind fun z114 =>
       if (ByteArray.toList (x.1) == ByteArray.toList { data := #[(47 : UInt8)] }) = true then
        (c_ROver (x.2.2.2)).bind fun z125 =>
         (c_radm z125).bind fun z131 =>
          if (!z131) = true then
           dn ((false, (0 : Int), (0 : Int), (0 : Int), (0 : Int), (0 : Int), (5 : Int)))
          else
           dn ((false, z125.1, z125.2.1, z125.2.2.1, z125.2.2.2.1, z125.2.2.2.2, (0 : Int)))
       else
        (c_radm z114).bind fun z137 =>
         if (!z137) = true then
          dn ((false, (0 : Int), (0 : Int), (0 : Int), (0 : Int), (0 : Int), (5 : Int)))
         else
          dn ((false, z114.1, z114.2.1, z114.2.2.1, z114.2.2.2.1, z114.2.2.2.2, (0 : Int)))
     else
      if (if true = true then !(x.2.2.2.1 == x.2.2.2.2.2.2.2.2.1 && (x.2.2.2.2.1 == x.2.2.2.2.2.2.2.2.2.1 && (x.2.2.2.2.2.1 == x.2.2.2.2.2.2.2.2.2.2.1 && (x.2.2.2.2.2.2.1 == x.2.2.2.2.2.2.2.2.2.2.2.1 && (x.2.2.2.2.2.2.2.1 == x.2.2.2.2.2.2.2.2.2.2.2.2 && true))))) else x.2.2.2.1 == x.2.2.2.2.2.2.2.2.1 && (x.2.2.2.2.1 == x.2.2.2.2.2.2.2.2.2.1 && (x.2.2.2.2.2.1 == x.2.2.2.2.2.2.2.2.2.2.1 && (x.2.2.2.2.2.2.1 == x.2.2.2.2.2.2.2.2.2.2.2.1 && (x.2.2.2.2.2.2.2.1 == x.2.2.2.2.2.2.2.2.2.2.2.2 && true))))) = true then
       dn ((false, (0 : Int), (0 : Int), (0 : Int), (0 : Int), (0 : Int), (10 : Int)))
      else
       if (z1 == (4 : Int)) = true then
        dn ((true, (0 : Int), (0 : Int), (0 : Int), (0 : Int), (0 : Int), (0 : Int)))
       else
        dn ((false, x.2.2.2.1, x.2.2.2.2.1, x.2.2.2.2.2.1, x.2.2.2.2.2.2.1, x.2.2.2.2.2.2.2.1, (0 : Int)))
theorem n_rbinary {β : Type} (c_Operator : a_Operator → Option g_Operator) (c_radm : a_radm → Option g_radm) (c_RTimes : a_RTimes → Option g_RTimes) (c_ROver : a_ROver → Option g_ROver) (x : a_rbinary) (dn : g_rbinary → Option β) : t_rbinary c_Operator c_radm c_RTimes c_ROver x dn = (t_rbinary c_Operator c_radm c_RTimes c_ROver x some).bind dn := by
  unfold t_rbinary
  repeat' first | exact free_none | refine free_bind (fun z => ?_) | refine free_ite ?_ ?_ | refine free_sum (fun z => ?_) (fun z => ?_) | rfl
theorem r_rbinary (c_Operator : a_Operator → Option g_Operator) (c_radm : a_radm → Option g_radm) (c_RTimes : a_RTimes → Option g_RTimes) (c_ROver : a_ROver → Option g_ROver) (x : a_rbinary) : callK E5 (ftab 48 (fun _ _ => true) A_Operator x_Operator c_Operator (ftab 52 (fun _ _ => true) A_radm x_radm c_radm (ftab 50 (fun _ _ => true) A_RTimes x_RTimes c_RTimes (ftab 51 (fun _ _ => true) A_ROver x_ROver c_ROver ca0)))) lo0 35 (A_rbinary x).1 (A_rbinary x).2 K = t_rbinary (fun x => viaF A_Operator c_Operator (A_Operator x)) (fun x => viaF A_radm c_radm (A_radm x)) (fun x => viaF A_RTimes c_RTimes (A_RTimes x)) (fun x => viaF A_ROver c_ROver (A_ROver x)) x (fun z => some (.c (R_rbinary z))) := by kernel_rfl
theorem s_rbinary (c_Operator : a_Operator → Option g_Operator) (h_Operator : ∀ x z, c_Operator x = some z → SC E5 48 (A_Operator x).1 (A_Operator x).2 (R_Operator z)) (c_radm : a_radm → Option g_radm) (h_radm : ∀ x z, c_radm x = some z → SC E5 52 (A_radm x).1 (A_radm x).2 (R_radm z)) (c_RTimes : a_RTimes → Option g_RTimes) (h_RTimes : ∀ x z, c_RTimes x = some z → SC E5 50 (A_RTimes x).1 (A_RTimes x).2 (R_RTimes z)) (c_ROver : a_ROver → Option g_ROver) (h_ROver : ∀ x z, c_ROver x = some z → SC E5 51 (A_ROver x).1 (A_ROver x).2 (R_ROver z)) (q : Nat) (x : a_rbinary) (z : g_rbinary) (h : t_rbinary c_Operator c_radm c_RTimes c_ROver x some = some z) : SC E5 35 (A_rbinary x).1 (A_rbinary x).2 (R_rbinary z) := by
  refine SC.of hW5 hX5 (ftab_cons h_Operator xe_Operator (ftab_cons h_radm xe_radm (ftab_cons h_RTimes xe_RTimes (ftab_cons h_ROver xe_ROver ca0_sound)))) lo0_sound ((r_rbinary c_Operator c_radm c_RTimes c_ROver x).trans ?_)
  rw [via_eq i_Operator c_Operator, via_eq i_radm c_radm, via_eq i_RTimes c_RTimes, via_eq i_ROver c_ROver, n_rbinary, h]; rfl
noncomputable def rbinary (q : Nat) (x : a_rbinary) : Option g_rbinary := t_rbinary (Operator q) (radm q) (RTimes q) (ROver q) x some
theorem sc_rbinary (q : Nat) : ∀ (x : a_rbinary) (z : g_rbinary), rbinary q x = some z → SC E5 35 (A_rbinary x).1 (A_rbinary x).2 (R_rbinary z) := fun x z h => s_rbinary (Operator q) (sc_Operator q) (radm q) (sc_radm q) (RTimes q) (sc_RTimes q) (ROver q) (sc_ROver q) q x z h
/-! ### RTele (16) -/
abbrev a_RTele : Type := ByteArray
abbrev g_RTele : Type := Int × Int × Int × Int × Int × Int × Bool
def A_RTele : a_RTele → List V × List (Option Chunk) := (fun x => (fun (s : ByteArray) => (([st s] : List V), ([] : List (Option Chunk)))) x)
def d_RTele (t : List V × List (Option Chunk)) : a_RTele := ((vS (t.1.getD 0 .junk)))
theorem i_RTele : ∀ x y, A_RTele x = A_RTele y → x = y := fun x y h => (congrArg d_RTele h :)
def R_RTele : g_RTele → CRes := (fun z => (fun (k : Int) (d0 : Int) (d1 : Int) (d2 : Int) (d3 : Int) (d4 : Int) (b : Bool) => .ret (.tup [i64 k, .agg [i64 d0, i64 d1, i64 d2, i64 d3, i64 d4], bo b]) []) z.1 z.2.1 z.2.2.1 z.2.2.2.1 z.2.2.2.2.1 z.2.2.2.2.2.1 z.2.2.2.2.2.2 : (Int × Int × Int × Int × Int × Int × Bool) → CRes)
def x_RTele (z : g_RTele) (k : CRes → Option Ans) : Option Ans := k (R_RTele z)
theorem xe_RTele : ∀ z k, x_RTele z k = k (R_RTele z) := fun z k => rfl
def t_RTele {β : Type} (x : a_RTele) (dn : g_RTele → Option β) : Option β :=
 if (ByteArray.toList x == ByteArray.toList { data := #[(98 : UInt8), (97 : UInt8), (116 : UInt8), (116 : UInt8), (101 : UInt8), (114 : UInt8), (121 : UInt8)] }) = true then
  dn (((0 : Int), (1 : Int), (0 : Int), (0 : Int), (0 : Int), (0 : Int), true))
 else
  if (ByteArray.toList x == ByteArray.toList { data := #[(104 : UInt8), (101 : UInt8), (97 : UInt8), (116 : UInt8)] }) = true then
   dn (((1 : Int), (0 : Int), (0 : Int), (0 : Int), (0 : Int), (1 : Int), true))
  else
   if (ByteArray.toList x == ByteArray.toList { data := #[(97 : UInt8), (110 : UInt8), (103 : UInt8), (108 : UInt8), (101 : UInt8)] }) = true then
    dn (((2 : Int), (0 : Int), (0 : Int), (0 : Int), (1 : Int), (0 : Int), true))
   else
    if (ByteArray.toList x == ByteArray.toList { data := #[(110 : UInt8), (111 : UInt8), (119 : UInt8)] }) = true then
     dn (((3 : Int), (0 : Int), (0 : Int), (1 : Int), (0 : Int), (0 : Int), true))
    else
     if (ByteArray.toList x == ByteArray.toList { data := #[(109 : UInt8), (111 : UInt8), (100 : UInt8), (101 : UInt8)] }) = true then
      dn (((4 : Int), (0 : Int), (0 : Int), (0 : Int), (0 : Int), (0 : Int), true))
     else
      if (ByteArray.toList x == ByteArray.toList { data := #[(102 : UInt8), (114 : UInt8), (101 : UInt8), (101 : UInt8)] }) = true then
       dn (((5 : Int), (0 : Int), (1 : Int), (0 : Int), (0 : Int), (0 : Int), true))
      else
       dn (((0 : Int), (0 : Int), (0 : Int), (0 : Int), (0 : Int), (0 : Int), false))
theorem n_RTele {β : Type} (x : a_RTele) (dn : g_RTele → Option β) : t_RTele x dn = (t_RTele x some).bind dn := by
  unfold t_RTele
  repeat' first | exact free_none | refine free_bind (fun z => ?_) | refine free_ite ?_ ?_ | refine free_sum (fun z => ?_) (fun z => ?_) | rfl
theorem r_RTele (x : a_RTele) : callK E5 ca0 lo0 16 (A_RTele x).1 (A_RTele x).2 K = t_RTele x (fun z => some (.c (R_RTele z))) := by kernel_rfl
theorem s_RTele (q : Nat) (x : a_RTele) (z : g_RTele) (h : t_RTele x some = some z) : SC E5 16 (A_RTele x).1 (A_RTele x).2 (R_RTele z) := by
  refine SC.of hW5 hX5 ca0_sound lo0_sound ((r_RTele x).trans ?_)
  rw [n_RTele, h]; rfl
noncomputable def RTele (q : Nat) (x : a_RTele) : Option g_RTele := t_RTele x some
theorem sc_RTele (q : Nat) : ∀ (x : a_RTele) (z : g_RTele), RTele q x = some z → SC E5 16 (A_RTele x).1 (A_RTele x).2 (R_RTele z) := fun x z h => s_RTele q x z h
end Go.Proofs.YtniogljhkjbcgaaDoor
