/- Texts joined. -/
import Derived.Test.YthkioinnobiieaaGreatDoorQE
/- Instructions, lifted. -/
namespace Go.Proofs.YthkioinnobiieaaGreatDoor
open Go Go.Am Go.Proofs
set_option linter.unusedSimpArgs false
set_option linter.unusedVariables false
set_option maxRecDepth 100000
theorem lift1 {a g : Type} (A : a → List V × List (Option Chunk)) (R : g → CRes) (t : {β : Type} → a → (g → Option β) → Option β) {f : FuncId} (hr : ∀ x, callK E8 (callG E8 20) lo0 f (A x).1 (A x).2 K = t x (fun z => some (.c (R z)))) (hn : ∀ (x : a) (dn : g → Option Ans), t x dn = (t x some).bind dn) : ∀ (x : a) (z : g), t x some = some z → SC E8 f (A x).1 (A x).2 (R z) := fun x z h => by
 refine SC.of hW8 hX8 (sound_G hW8 hX8 20).1 lo0_sound ((hr x).trans ?_)
 rw [hn, h]; rfl
abbrev a_CloneI : Type := Nat × (Nat → Int)
abbrev g_CloneI : Type := Nat × (Nat → Int)
def A_CloneI : a_CloneI → List V × List (Option Chunk) := (fun x => (fun (n : Nat) (y : Nat → Int) => (([.ro 1 n (fun j => [i64 (y j)])] : List V), ([] : List (Option Chunk)))) x.1 x.2)
def d_CloneI (t : List V × List (Option Chunk)) : a_CloneI := ((vRoN (t.1.getD 0 .junk)), (fun j => (vI ((vRoF (t.1.getD 0 .junk) j).getD 0 .junk))))
theorem i_CloneI : ∀ x y, A_CloneI x = A_CloneI y → x = y := fun x y h => (congrArg d_CloneI h :)
def R_CloneI : g_CloneI → CRes := (fun z => (fun (n : Nat) (y : Nat → Int) => .ret (.sl 0 1 0 n) [some (.row 3 1 n (fun j => [i64 (y j)]))]) z.1 z.2 : (Nat × (Nat → Int)) → CRes)
def x_CloneI (z : g_CloneI) (k : CRes → Option Ans) : Option Ans := k (R_CloneI z)
theorem xe_CloneI : ∀ z k, x_CloneI z k = k (R_CloneI z) := fun z k => rfl
noncomputable def CloneI (q : Nat) (x : a_CloneI) : Option g_CloneI := if x.1 ≤ 1000 then some x else none
theorem sc_CloneI (q : Nat) : ∀ (x : a_CloneI) (z : g_CloneI), CloneI q x = some z → SC E8 35 (A_CloneI x).1 (A_CloneI x).2 (R_CloneI z) := by
 rintro ⟨n, y⟩ z h
 unfold CloneI at h
 split at h
 ·rename_i hn
  cases h
  have hn : n ≤ 1000 := hn
  exact clone_sc (E := E8) (L := []) (x := .ro 1 n (fun j => [i64 (y j)])) (by decide) clone35 rfl (.inl rfl) (by unfold roomBound; omega) (by unfold Go.maxLen; omega)
 ·cases h
abbrev a_CloneL : Type := Nat × (Nat → Int) × (Nat → Int)
abbrev g_CloneL : Type := Nat × (Nat → Int) × (Nat → Int)
def A_CloneL : a_CloneL → List V × List (Option Chunk) := (fun x => (fun (n : Nat) (y : Nat → Int) (z : Nat → Int) => (([.ro 2 n (fun j => [i64 (y j), i64 (z j)])] : List V), ([] : List (Option Chunk)))) x.1 x.2.1 x.2.2)
def d_CloneL (t : List V × List (Option Chunk)) : a_CloneL := ((vRoN (t.1.getD 0 .junk)), (fun j => (vI ((vRoF (t.1.getD 0 .junk) j).getD 0 .junk))), (fun j => (vI ((vRoF (t.1.getD 0 .junk) j).getD 1 .junk))))
theorem i_CloneL : ∀ x y, A_CloneL x = A_CloneL y → x = y := fun x y h => (congrArg d_CloneL h :)
def R_CloneL : g_CloneL → CRes := (fun z => (fun (n : Nat) (y : Nat → Int) (z : Nat → Int) => .ret (.sl 0 2 0 n) [some (.row 81 2 n (fun j => [i64 (y j), i64 (z j)]))]) z.1 z.2.1 z.2.2 : (Nat × (Nat → Int) × (Nat → Int)) → CRes)
def x_CloneL (z : g_CloneL) (k : CRes → Option Ans) : Option Ans := k (R_CloneL z)
theorem xe_CloneL : ∀ z k, x_CloneL z k = k (R_CloneL z) := fun z k => rfl
noncomputable def CloneL (q : Nat) (x : a_CloneL) : Option g_CloneL := if x.1 ≤ 1000 then some x else none
theorem sc_CloneL (q : Nat) : ∀ (x : a_CloneL) (z : g_CloneL), CloneL q x = some z → SC E8 36 (A_CloneL x).1 (A_CloneL x).2 (R_CloneL z) := by
 rintro ⟨n, y, z⟩ z h
 unfold CloneL at h
 split at h
 ·rename_i hn
  cases h
  have hn : n ≤ 1000 := hn
  exact clone_sc (E := E8) (L := []) (x := .ro 2 n (fun j => [i64 (y j), i64 (z j)])) (by decide) clone36 rfl (.inl rfl) (by unfold roomBound; omega) (by unfold Go.maxLen; omega)
 ·cases h
abbrev a_pushZ : Type := Int × Int × Int × Int × Int × Nat × (Nat → Int) × Nat × Nat × (Nat → Int) × Nat × Nat × (Nat → Int) × (Nat → Int) × Int × Int × Int × Int × Int × Int × Int × Int
abbrev g_pushZ : Type := (Int × Nat × Int × Int × Int × Int × Int × Int × (Nat → Int) × Nat × (Nat → Int) × Nat × (Nat → Int) × (Nat → Int)) ⊕ (Int × Int × Int × Int × Nat × Nat × Nat × Int × Int × Int × Int × Int × Int × Int × Int × (Nat → Int) × Nat × (Nat → Int) × (Nat → Int) × (Nat → Int))
def A_pushZ : a_pushZ → List V × List (Option Chunk) := (fun x => (fun (k : Int) (pc : Int) (sp : Int) (us : Int) (ti : Int) (vn : Nat) (vf : Nat → Int) (sk : Nat) (sn : Nat) (sf : Nat → Int) (lk : Nat) (ln : Nat) (la : Nat → Int) (lb : Nat → Int) (stt : Int) (cde : Int) (t0 : Int) (t1 : Int) (t2 : Int) (t3 : Int) (t4 : Int) (t5 : Int) => (([.ptr 0 0, i64 k] : List V), ([some (.blk [i64 pc, i64 sp, i64 us, i64 ti, .sl 1 1 0 vn, .sl 2 1 0 sk, .sl 3 2 0 lk, i64 stt, i64 cde, i64 t0, i64 t1, i64 t2, i64 t3, i64 t4, i64 t5, .fn 37 [.ptr 4 0], bo false]), some (.row 3 1 vn (fun j => [i64 (vf j)])), some (.row 3 1 sn (fun j => [i64 (sf j)])), some (.row 81 2 ln (fun j => [i64 (la j), i64 (lb j)])), some (.blk [nilS])] : List (Option Chunk)))) x.1 x.2.1 x.2.2.1 x.2.2.2.1 x.2.2.2.2.1 x.2.2.2.2.2.1 x.2.2.2.2.2.2.1 x.2.2.2.2.2.2.2.1 x.2.2.2.2.2.2.2.2.1 x.2.2.2.2.2.2.2.2.2.1 x.2.2.2.2.2.2.2.2.2.2.1 x.2.2.2.2.2.2.2.2.2.2.2.1 x.2.2.2.2.2.2.2.2.2.2.2.2.1 x.2.2.2.2.2.2.2.2.2.2.2.2.2.1 x.2.2.2.2.2.2.2.2.2.2.2.2.2.2.1 x.2.2.2.2.2.2.2.2.2.2.2.2.2.2.2.1 x.2.2.2.2.2.2.2.2.2.2.2.2.2.2.2.2.1 x.2.2.2.2.2.2.2.2.2.2.2.2.2.2.2.2.2.1 x.2.2.2.2.2.2.2.2.2.2.2.2.2.2.2.2.2.2.1 x.2.2.2.2.2.2.2.2.2.2.2.2.2.2.2.2.2.2.2.1 x.2.2.2.2.2.2.2.2.2.2.2.2.2.2.2.2.2.2.2.2.1 x.2.2.2.2.2.2.2.2.2.2.2.2.2.2.2.2.2.2.2.2.2)
def d_pushZ (t : List V × List (Option Chunk)) : a_pushZ := ((vI (t.1.getD 1 .junk)), (vI ((chB (t.2.getD 0 none)).getD 0 .junk)), (vI ((chB (t.2.getD 0 none)).getD 1 .junk)), (vI ((chB (t.2.getD 0 none)).getD 2 .junk)), (vI ((chB (t.2.getD 0 none)).getD 3 .junk)), (vSlN ((chB (t.2.getD 0 none)).getD 4 .junk)), (fun j => (vI (((chF (t.2.getD 1 none)) j).getD 0 .junk))), (vSlN ((chB (t.2.getD 0 none)).getD 5 .junk)), (chN (t.2.getD 2 none)), (fun j => (vI (((chF (t.2.getD 2 none)) j).getD 0 .junk))), (vSlN ((chB (t.2.getD 0 none)).getD 6 .junk)), (chN (t.2.getD 3 none)), (fun j => (vI (((chF (t.2.getD 3 none)) j).getD 0 .junk))), (fun j => (vI (((chF (t.2.getD 3 none)) j).getD 1 .junk))), (vI ((chB (t.2.getD 0 none)).getD 7 .junk)), (vI ((chB (t.2.getD 0 none)).getD 8 .junk)), (vI ((chB (t.2.getD 0 none)).getD 9 .junk)), (vI ((chB (t.2.getD 0 none)).getD 10 .junk)), (vI ((chB (t.2.getD 0 none)).getD 11 .junk)), (vI ((chB (t.2.getD 0 none)).getD 12 .junk)), (vI ((chB (t.2.getD 0 none)).getD 13 .junk)), (vI ((chB (t.2.getD 0 none)).getD 14 .junk)))
theorem i_pushZ : ∀ x y, A_pushZ x = A_pushZ y → x = y := fun x y h => (congrArg d_pushZ h :)
def uz0 {γ : Type} (x : Int × Nat × Int × Int × Int × Int × Int × Int × (Nat → Int) × Nat × (Nat → Int) × Nat × (Nat → Int) × (Nat → Int)) (f : Int → Nat → Int → Int → Int → Int → Int → Int → (Nat → Int) → Nat → (Nat → Int) → Nat → (Nat → Int) → (Nat → Int) → γ) : γ := f x.1 x.2.1 x.2.2.1 x.2.2.2.1 x.2.2.2.2.1 x.2.2.2.2.2.1 x.2.2.2.2.2.2.1 x.2.2.2.2.2.2.2.1 x.2.2.2.2.2.2.2.2.1 x.2.2.2.2.2.2.2.2.2.1 x.2.2.2.2.2.2.2.2.2.2.1 x.2.2.2.2.2.2.2.2.2.2.2.1 x.2.2.2.2.2.2.2.2.2.2.2.2.1 x.2.2.2.2.2.2.2.2.2.2.2.2.2
def rz0 : (Int × Nat × Int × Int × Int × Int × Int × Int × (Nat → Int) × Nat × (Nat → Int) × Nat × (Nat → Int) × (Nat → Int)) → CRes := fun z => uz0 z fun p0 p1 p2 p3 p4 p5 p6 p7 p8 p9 p10 p11 p12 p13 =>  CRes.ret (V.tup []) [some (Chunk.blk [i64 p0, i64 (0 : Int), i64 (-1 : Int), i64 (-1 : Int), V.sl 1 1 0 p1, nilS, nilS, i64 (2 : Int), i64 (1002 : Int), i64 p2, i64 p3, i64 p4, i64 p5, i64 p6, i64 p7, V.fn 37 [V.ptr 4 0], bo true]), some (Chunk.row 3 1 p1 fun (j : Nat) => [i64 (p8 j)]), some (Chunk.row 3 1 p9 fun (j : Nat) => [i64 (p10 j)]), some (Chunk.row 81 2 p11 fun (j : Nat) => [i64 (p12 j), i64 (p13 j)]), some (Chunk.blk [nilS])]
def rz1 : (Int × Int × Int × Int × Nat × Nat × Nat × Int × Int × Int × Int × Int × Int × Int × Int × (Nat → Int) × Nat × (Nat → Int) × (Nat → Int) × (Nat → Int)) → CRes := fun z => CRes.ret (V.tup []) [some (Chunk.blk [i64 (z.1), i64 (z.2.1), i64 (z.2.2.1), i64 (z.2.2.2.1), V.sl 1 1 0 (z.2.2.2.2.1), V.sl 5 1 0 (z.2.2.2.2.2.1), V.sl 3 2 0 (z.2.2.2.2.2.2.1), i64 (z.2.2.2.2.2.2.2.1), i64 (z.2.2.2.2.2.2.2.2.1), i64 (z.2.2.2.2.2.2.2.2.2.1), i64 (z.2.2.2.2.2.2.2.2.2.2.1), i64 (z.2.2.2.2.2.2.2.2.2.2.2.1), i64 (z.2.2.2.2.2.2.2.2.2.2.2.2.1), i64 (z.2.2.2.2.2.2.2.2.2.2.2.2.2.1), i64 (z.2.2.2.2.2.2.2.2.2.2.2.2.2.2.1), V.fn 37 [V.ptr 4 0], bo false]), some (Chunk.row 3 1 (z.2.2.2.2.1) fun (j : Nat) => [i64 (z.2.2.2.2.2.2.2.2.2.2.2.2.2.2.2.1 j)]), none, some (Chunk.row 81 2 (z.2.2.2.2.2.2.2.2.2.2.2.2.2.2.2.2.1) fun (j : Nat) => [i64 (z.2.2.2.2.2.2.2.2.2.2.2.2.2.2.2.2.2.1 j), i64 (z.2.2.2.2.2.2.2.2.2.2.2.2.2.2.2.2.2.2.1 j)]), some (Chunk.blk [nilS]), some (Chunk.row 3 1 (z.2.2.2.2.2.1) fun (j : Nat) => [i64 (z.2.2.2.2.2.2.2.2.2.2.2.2.2.2.2.2.2.2.2 j)])]
def R_pushZ : g_pushZ → CRes := Sum.elim rz0 rz1
def x_pushZ (z : g_pushZ) (k : CRes → Option Ans) : Option Ans := Sum.elim (fun za => k (R_pushZ (.inl za))) (fun zb => k (R_pushZ (.inr zb))) z
theorem xe_pushZ : ∀ z k, x_pushZ z k = k (R_pushZ z) := fun z k => by
 rcases z with z | z <;> rfl
def ux2 {γ : Type} (x : Int × Int × Int × Int × Int × Nat × (Nat → Int) × Nat × Nat × (Nat → Int) × Nat × Nat × (Nat → Int) × (Nat → Int) × Int × Int × Int × Int × Int × Int × Int × Int) (f : Int → Int → Int → Int → Int → Nat → (Nat → Int) → Nat → Nat → (Nat → Int) → Nat → Nat → (Nat → Int) → (Nat → Int) → Int → Int → Int → Int → Int → Int → Int → Int → γ) : γ := f x.1 x.2.1 x.2.2.1 x.2.2.2.1 x.2.2.2.2.1 x.2.2.2.2.2.1 x.2.2.2.2.2.2.1 x.2.2.2.2.2.2.2.1 x.2.2.2.2.2.2.2.2.1 x.2.2.2.2.2.2.2.2.2.1 x.2.2.2.2.2.2.2.2.2.2.1 x.2.2.2.2.2.2.2.2.2.2.2.1 x.2.2.2.2.2.2.2.2.2.2.2.2.1 x.2.2.2.2.2.2.2.2.2.2.2.2.2.1 x.2.2.2.2.2.2.2.2.2.2.2.2.2.2.1 x.2.2.2.2.2.2.2.2.2.2.2.2.2.2.2.1 x.2.2.2.2.2.2.2.2.2.2.2.2.2.2.2.2.1 x.2.2.2.2.2.2.2.2.2.2.2.2.2.2.2.2.2.1 x.2.2.2.2.2.2.2.2.2.2.2.2.2.2.2.2.2.2.1 x.2.2.2.2.2.2.2.2.2.2.2.2.2.2.2.2.2.2.2.1 x.2.2.2.2.2.2.2.2.2.2.2.2.2.2.2.2.2.2.2.2.1 x.2.2.2.2.2.2.2.2.2.2.2.2.2.2.2.2.2.2.2.2.2
def t_pushZ {β : Type} (x : a_pushZ) (dn : g_pushZ → Option β) : Option β :=
 ux2 x fun p0 p1 p2 p3 p4 p5 p6 p7 p8 p9 p10 p11 p12 p13 p14 p15 p16 p17 p18 p19 p20 p21 =>
 if decide (p0 < (-2147483647)) = true then
 dn (.inl ((p1, p5, p16, p17, p18, p19, p20, p21, p6, p8, p9, p11, p12, p13)))
 else
 if decide (p0 > 2147483647) = true then
 dn (.inl ((p1, p5, p16, p17, p18, p19, p20, p21, p6, p8, p9, p11, p12, p13)))
 else
 if (p7 + 1) * 8 ≤ roomBound ∧ p7 + 1 ≤ maxLen ∧ p7 ≤ p8 then
 dn (.inr ((w (p1 + 1), p2, p3, p4, p5, p7 + 1, p10, p14, p15, p16, p17, p18, p19, p20, p21, p6, p11, p12, p13, fun (j : Nat) => if j < p7 then p9 j else p0)))
 else
 none
noncomputable def pushZ (q : Nat) (x : a_pushZ) : Option g_pushZ := t_pushZ x some
theorem sc_pushZ (q : Nat) : ∀ (x : a_pushZ) (z : g_pushZ), pushZ q x = some z → SC E8 51 (A_pushZ x).1 (A_pushZ x).2 (R_pushZ z) :=
 lift1 A_pushZ R_pushZ t_pushZ (fun x => by kernel_rfl) fun x dn => by
 unfold t_pushZ ux2
 repeat' first | exact free_none | refine free_ite ?_ ?_ | rfl
abbrev a_pushA : Type := Int × Int × Int × Int × Int × Nat × (Nat → Int) × Nat × Nat × (Nat → Int) × Nat × Nat × (Nat → Int) × (Nat → Int) × Int × Int × Int × Int × Int × Int × Int × Int × Nat × (Nat → Int) × (Nat → Int) × (Nat → Int)
abbrev g_pushA : Type := (Int × Nat × Int × Int × Int × Int × Int × Int × (Nat → Int) × Nat × (Nat → Int) × Nat × (Nat → Int) × (Nat → Int) × Nat × (Nat → Int) × (Nat → Int) × (Nat → Int)) ⊕ (Int × Int × Int × Int × Nat × Nat × Nat × Int × Int × Int × Int × Int × Int × Int × Int × (Nat → Int) × Nat × (Nat → Int) × (Nat → Int) × Nat × (Nat → Int) × (Nat → Int) × (Nat → Int) × (Nat → Int))
def A_pushA : a_pushA → List V × List (Option Chunk) := (fun x => (fun (k : Int) (pc : Int) (sp : Int) (us : Int) (ti : Int) (vn : Nat) (vf : Nat → Int) (sk : Nat) (sn : Nat) (sf : Nat → Int) (lk : Nat) (ln : Nat) (la : Nat → Int) (lb : Nat → Int) (stt : Int) (cde : Int) (t0 : Int) (t1 : Int) (t2 : Int) (t3 : Int) (t4 : Int) (t5 : Int) (an : Nat) (ax : Nat → Int) (ay : Nat → Int) (az : Nat → Int) => (([.ptr 0 0, i64 k] : List V), ([some (.blk [i64 pc, i64 sp, i64 us, i64 ti, .sl 1 1 0 vn, .sl 2 1 0 sk, .sl 3 2 0 lk, i64 stt, i64 cde, i64 t0, i64 t1, i64 t2, i64 t3, i64 t4, i64 t5, .fn 37 [.ptr 4 0], bo false]), some (.row 3 1 vn (fun j => [i64 (vf j)])), some (.row 3 1 sn (fun j => [i64 (sf j)])), some (.row 81 2 ln (fun j => [i64 (la j), i64 (lb j)])), some (.blk [.sl 5 3 0 an]), some (.row 51 3 an (fun j => [i64 (ax j), i64 (ay j), i64 (az j)]))] : List (Option Chunk)))) x.1 x.2.1 x.2.2.1 x.2.2.2.1 x.2.2.2.2.1 x.2.2.2.2.2.1 x.2.2.2.2.2.2.1 x.2.2.2.2.2.2.2.1 x.2.2.2.2.2.2.2.2.1 x.2.2.2.2.2.2.2.2.2.1 x.2.2.2.2.2.2.2.2.2.2.1 x.2.2.2.2.2.2.2.2.2.2.2.1 x.2.2.2.2.2.2.2.2.2.2.2.2.1 x.2.2.2.2.2.2.2.2.2.2.2.2.2.1 x.2.2.2.2.2.2.2.2.2.2.2.2.2.2.1 x.2.2.2.2.2.2.2.2.2.2.2.2.2.2.2.1 x.2.2.2.2.2.2.2.2.2.2.2.2.2.2.2.2.1 x.2.2.2.2.2.2.2.2.2.2.2.2.2.2.2.2.2.1 x.2.2.2.2.2.2.2.2.2.2.2.2.2.2.2.2.2.2.1 x.2.2.2.2.2.2.2.2.2.2.2.2.2.2.2.2.2.2.2.1 x.2.2.2.2.2.2.2.2.2.2.2.2.2.2.2.2.2.2.2.2.1 x.2.2.2.2.2.2.2.2.2.2.2.2.2.2.2.2.2.2.2.2.2.1 x.2.2.2.2.2.2.2.2.2.2.2.2.2.2.2.2.2.2.2.2.2.2.1 x.2.2.2.2.2.2.2.2.2.2.2.2.2.2.2.2.2.2.2.2.2.2.2.1 x.2.2.2.2.2.2.2.2.2.2.2.2.2.2.2.2.2.2.2.2.2.2.2.2.1 x.2.2.2.2.2.2.2.2.2.2.2.2.2.2.2.2.2.2.2.2.2.2.2.2.2)
def d_pushA (t : List V × List (Option Chunk)) : a_pushA := ((vI (t.1.getD 1 .junk)), (vI ((chB (t.2.getD 0 none)).getD 0 .junk)), (vI ((chB (t.2.getD 0 none)).getD 1 .junk)), (vI ((chB (t.2.getD 0 none)).getD 2 .junk)), (vI ((chB (t.2.getD 0 none)).getD 3 .junk)), (vSlN ((chB (t.2.getD 0 none)).getD 4 .junk)), (fun j => (vI (((chF (t.2.getD 1 none)) j).getD 0 .junk))), (vSlN ((chB (t.2.getD 0 none)).getD 5 .junk)), (chN (t.2.getD 2 none)), (fun j => (vI (((chF (t.2.getD 2 none)) j).getD 0 .junk))), (vSlN ((chB (t.2.getD 0 none)).getD 6 .junk)), (chN (t.2.getD 3 none)), (fun j => (vI (((chF (t.2.getD 3 none)) j).getD 0 .junk))), (fun j => (vI (((chF (t.2.getD 3 none)) j).getD 1 .junk))), (vI ((chB (t.2.getD 0 none)).getD 7 .junk)), (vI ((chB (t.2.getD 0 none)).getD 8 .junk)), (vI ((chB (t.2.getD 0 none)).getD 9 .junk)), (vI ((chB (t.2.getD 0 none)).getD 10 .junk)), (vI ((chB (t.2.getD 0 none)).getD 11 .junk)), (vI ((chB (t.2.getD 0 none)).getD 12 .junk)), (vI ((chB (t.2.getD 0 none)).getD 13 .junk)), (vI ((chB (t.2.getD 0 none)).getD 14 .junk)), (vSlN ((chB (t.2.getD 4 none)).getD 0 .junk)), (fun j => (vI (((chF (t.2.getD 5 none)) j).getD 0 .junk))), (fun j => (vI (((chF (t.2.getD 5 none)) j).getD 1 .junk))), (fun j => (vI (((chF (t.2.getD 5 none)) j).getD 2 .junk))))
theorem i_pushA : ∀ x y, A_pushA x = A_pushA y → x = y := fun x y h => (congrArg d_pushA h :)
def uz3 {γ : Type} (x : Int × Nat × Int × Int × Int × Int × Int × Int × (Nat → Int) × Nat × (Nat → Int) × Nat × (Nat → Int) × (Nat → Int) × Nat × (Nat → Int) × (Nat → Int) × (Nat → Int)) (f : Int → Nat → Int → Int → Int → Int → Int → Int → (Nat → Int) → Nat → (Nat → Int) → Nat → (Nat → Int) → (Nat → Int) → Nat → (Nat → Int) → (Nat → Int) → (Nat → Int) → γ) : γ := f x.1 x.2.1 x.2.2.1 x.2.2.2.1 x.2.2.2.2.1 x.2.2.2.2.2.1 x.2.2.2.2.2.2.1 x.2.2.2.2.2.2.2.1 x.2.2.2.2.2.2.2.2.1 x.2.2.2.2.2.2.2.2.2.1 x.2.2.2.2.2.2.2.2.2.2.1 x.2.2.2.2.2.2.2.2.2.2.2.1 x.2.2.2.2.2.2.2.2.2.2.2.2.1 x.2.2.2.2.2.2.2.2.2.2.2.2.2.1 x.2.2.2.2.2.2.2.2.2.2.2.2.2.2.1 x.2.2.2.2.2.2.2.2.2.2.2.2.2.2.2.1 x.2.2.2.2.2.2.2.2.2.2.2.2.2.2.2.2.1 x.2.2.2.2.2.2.2.2.2.2.2.2.2.2.2.2.2
def rz2 : (Int × Nat × Int × Int × Int × Int × Int × Int × (Nat → Int) × Nat × (Nat → Int) × Nat × (Nat → Int) × (Nat → Int) × Nat × (Nat → Int) × (Nat → Int) × (Nat → Int)) → CRes := fun z => uz3 z fun p0 p1 p2 p3 p4 p5 p6 p7 p8 p9 p10 p11 p12 p13 p14 p15 p16 p17 =>  CRes.ret (V.tup []) [some (Chunk.blk [i64 p0, i64 (0 : Int), i64 (-1 : Int), i64 (-1 : Int), V.sl 1 1 0 p1, nilS, nilS, i64 (2 : Int), i64 (1002 : Int), i64 p2, i64 p3, i64 p4, i64 p5, i64 p6, i64 p7, V.fn 37 [V.ptr 4 0], bo true]), some (Chunk.row 3 1 p1 fun (j : Nat) => [i64 (p8 j)]), some (Chunk.row 3 1 p9 fun (j : Nat) => [i64 (p10 j)]), some (Chunk.row 81 2 p11 fun (j : Nat) => [i64 (p12 j), i64 (p13 j)]), some (Chunk.blk [V.sl 5 3 0 p14]), some (Chunk.row 51 3 p14 fun (j : Nat) => [i64 (p15 j), i64 (p16 j), i64 (p17 j)])]
def rz3 : (Int × Int × Int × Int × Nat × Nat × Nat × Int × Int × Int × Int × Int × Int × Int × Int × (Nat → Int) × Nat × (Nat → Int) × (Nat → Int) × Nat × (Nat → Int) × (Nat → Int) × (Nat → Int) × (Nat → Int)) → CRes := fun z => CRes.ret (V.tup []) [some (Chunk.blk [i64 (z.1), i64 (z.2.1), i64 (z.2.2.1), i64 (z.2.2.2.1), V.sl 1 1 0 (z.2.2.2.2.1), V.sl 6 1 0 (z.2.2.2.2.2.1), V.sl 3 2 0 (z.2.2.2.2.2.2.1), i64 (z.2.2.2.2.2.2.2.1), i64 (z.2.2.2.2.2.2.2.2.1), i64 (z.2.2.2.2.2.2.2.2.2.1), i64 (z.2.2.2.2.2.2.2.2.2.2.1), i64 (z.2.2.2.2.2.2.2.2.2.2.2.1), i64 (z.2.2.2.2.2.2.2.2.2.2.2.2.1), i64 (z.2.2.2.2.2.2.2.2.2.2.2.2.2.1), i64 (z.2.2.2.2.2.2.2.2.2.2.2.2.2.2.1), V.fn 37 [V.ptr 4 0], bo false]), some (Chunk.row 3 1 (z.2.2.2.2.1) fun (j : Nat) => [i64 (z.2.2.2.2.2.2.2.2.2.2.2.2.2.2.2.1 j)]), none, some (Chunk.row 81 2 (z.2.2.2.2.2.2.2.2.2.2.2.2.2.2.2.2.1) fun (j : Nat) => [i64 (z.2.2.2.2.2.2.2.2.2.2.2.2.2.2.2.2.2.1 j), i64 (z.2.2.2.2.2.2.2.2.2.2.2.2.2.2.2.2.2.2.1 j)]), some (Chunk.blk [V.sl 5 3 0 (z.2.2.2.2.2.2.2.2.2.2.2.2.2.2.2.2.2.2.2.1)]), some (Chunk.row 51 3 (z.2.2.2.2.2.2.2.2.2.2.2.2.2.2.2.2.2.2.2.1) fun (j : Nat) => [i64 (z.2.2.2.2.2.2.2.2.2.2.2.2.2.2.2.2.2.2.2.2.1 j), i64 (z.2.2.2.2.2.2.2.2.2.2.2.2.2.2.2.2.2.2.2.2.2.1 j), i64 (z.2.2.2.2.2.2.2.2.2.2.2.2.2.2.2.2.2.2.2.2.2.2.1 j)]), some (Chunk.row 3 1 (z.2.2.2.2.2.1) fun (j : Nat) => [i64 (z.2.2.2.2.2.2.2.2.2.2.2.2.2.2.2.2.2.2.2.2.2.2.2 j)])]
def R_pushA : g_pushA → CRes := Sum.elim rz2 rz3
def x_pushA (z : g_pushA) (k : CRes → Option Ans) : Option Ans := Sum.elim (fun za => k (R_pushA (.inl za))) (fun zb => k (R_pushA (.inr zb))) z
theorem xe_pushA : ∀ z k, x_pushA z k = k (R_pushA z) := fun z k => by
 rcases z with z | z <;> rfl
def ux5 {γ : Type} (x : Int × Int × Int × Int × Int × Nat × (Nat → Int) × Nat × Nat × (Nat → Int) × Nat × Nat × (Nat → Int) × (Nat → Int) × Int × Int × Int × Int × Int × Int × Int × Int × Nat × (Nat → Int) × (Nat → Int) × (Nat → Int)) (f : Int → Int → Int → Int → Int → Nat → (Nat → Int) → Nat → Nat → (Nat → Int) → Nat → Nat → (Nat → Int) → (Nat → Int) → Int → Int → Int → Int → Int → Int → Int → Int → Nat → (Nat → Int) → (Nat → Int) → (Nat → Int) → γ) : γ := f x.1 x.2.1 x.2.2.1 x.2.2.2.1 x.2.2.2.2.1 x.2.2.2.2.2.1 x.2.2.2.2.2.2.1 x.2.2.2.2.2.2.2.1 x.2.2.2.2.2.2.2.2.1 x.2.2.2.2.2.2.2.2.2.1 x.2.2.2.2.2.2.2.2.2.2.1 x.2.2.2.2.2.2.2.2.2.2.2.1 x.2.2.2.2.2.2.2.2.2.2.2.2.1 x.2.2.2.2.2.2.2.2.2.2.2.2.2.1 x.2.2.2.2.2.2.2.2.2.2.2.2.2.2.1 x.2.2.2.2.2.2.2.2.2.2.2.2.2.2.2.1 x.2.2.2.2.2.2.2.2.2.2.2.2.2.2.2.2.1 x.2.2.2.2.2.2.2.2.2.2.2.2.2.2.2.2.2.1 x.2.2.2.2.2.2.2.2.2.2.2.2.2.2.2.2.2.2.1 x.2.2.2.2.2.2.2.2.2.2.2.2.2.2.2.2.2.2.2.1 x.2.2.2.2.2.2.2.2.2.2.2.2.2.2.2.2.2.2.2.2.1 x.2.2.2.2.2.2.2.2.2.2.2.2.2.2.2.2.2.2.2.2.2.1 x.2.2.2.2.2.2.2.2.2.2.2.2.2.2.2.2.2.2.2.2.2.2.1 x.2.2.2.2.2.2.2.2.2.2.2.2.2.2.2.2.2.2.2.2.2.2.2.1 x.2.2.2.2.2.2.2.2.2.2.2.2.2.2.2.2.2.2.2.2.2.2.2.2.1 x.2.2.2.2.2.2.2.2.2.2.2.2.2.2.2.2.2.2.2.2.2.2.2.2.2
def t_pushA {β : Type} (x : a_pushA) (dn : g_pushA → Option β) : Option β :=
 ux5 x fun p0 p1 p2 p3 p4 p5 p6 p7 p8 p9 p10 p11 p12 p13 p14 p15 p16 p17 p18 p19 p20 p21 p22 p23 p24 p25 =>
 if decide (p0 < (-2147483647)) = true then
 dn (.inl ((p1, p5, p16, p17, p18, p19, p20, p21, p6, p8, p9, p11, p12, p13, (p22, p23, p24, p25))))
 else
 if decide (p0 > 2147483647) = true then
 dn (.inl ((p1, p5, p16, p17, p18, p19, p20, p21, p6, p8, p9, p11, p12, p13, (p22, p23, p24, p25))))
 else
 if (p7 + 1) * 8 ≤ roomBound ∧ p7 + 1 ≤ maxLen ∧ p7 ≤ p8 then
 dn (.inr ((w (p1 + 1), p2, p3, p4, p5, p7 + 1, p10, p14, p15, p16, p17, p18, p19, p20, p21, p6, p11, p12, p13, p22, p23, p24, p25, fun (j : Nat) => if j < p7 then p9 j else p0)))
 else
 none
noncomputable def pushA (q : Nat) (x : a_pushA) : Option g_pushA := t_pushA x some
theorem sc_pushA (q : Nat) : ∀ (x : a_pushA) (z : g_pushA), pushA q x = some z → SC E8 51 (A_pushA x).1 (A_pushA x).2 (R_pushA z) :=
 lift1 A_pushA R_pushA t_pushA (fun x => by kernel_rfl) fun x dn => by
 unfold t_pushA ux5
 repeat' first | exact free_none | refine free_ite ?_ ?_ | rfl
def t_loadZ {β : Type} (x : a_pushZ) (dn : g_pushZ → Option β) : Option β :=
 ux2 x fun p0 p1 p2 p3 p4 p5 p6 p7 p8 p9 p10 p11 p12 p13 p14 p15 p16 p17 p18 p19 p20 p21 =>
 if 0 ≤ p0 ∧ p0 < (p5 : Int) then
 if 0 + Int.toNat p0 < p5 ∧ 1 = 1 then
 if decide (p6 (0 + Int.toNat p0) < (-2147483647)) = true then
 dn (.inl ((p1, p5, p16, p17, p18, p19, p20, p21, p6, p8, p9, p11, p12, p13)))
 else
 if decide (p6 (0 + Int.toNat p0) > 2147483647) = true then
 dn (.inl ((p1, p5, p16, p17, p18, p19, p20, p21, p6, p8, p9, p11, p12, p13)))
 else
 if (p7 + 1) * 8 ≤ roomBound ∧ p7 + 1 ≤ maxLen ∧ p7 ≤ p8 then
 dn (.inr ((w (p1 + 1), p2, p3, p4, p5, p7 + 1, p10, p14, p15, p16, p17, p18, p19, p20, p21, p6, p11, p12, p13, fun (j : Nat) => if j < p7 then p9 j else p6 (0 + Int.toNat p0))))
 else
 none
 else
 none
 else
 none
noncomputable def loadZ (q : Nat) (x : a_pushZ) : Option g_pushZ := t_loadZ x some
theorem sc_loadZ (q : Nat) : ∀ (x : a_pushZ) (z : g_pushZ), loadZ q x = some z → SC E8 52 (A_pushZ x).1 (A_pushZ x).2 (R_pushZ z) :=
 lift1 A_pushZ R_pushZ t_loadZ (fun x => by kernel_rfl) fun x dn => by
 unfold t_loadZ ux2
 repeat' first | exact free_none | refine free_ite ?_ ?_ | rfl
def t_loadA {β : Type} (x : a_pushA) (dn : g_pushA → Option β) : Option β :=
 ux5 x fun p0 p1 p2 p3 p4 p5 p6 p7 p8 p9 p10 p11 p12 p13 p14 p15 p16 p17 p18 p19 p20 p21 p22 p23 p24 p25 =>
 if 0 ≤ p0 ∧ p0 < (p5 : Int) then
 if 0 + Int.toNat p0 < p5 ∧ 1 = 1 then
 if decide (p6 (0 + Int.toNat p0) < (-2147483647)) = true then
 dn (.inl ((p1, p5, p16, p17, p18, p19, p20, p21, p6, p8, p9, p11, p12, p13, (p22, p23, p24, p25))))
 else
 if decide (p6 (0 + Int.toNat p0) > 2147483647) = true then
 dn (.inl ((p1, p5, p16, p17, p18, p19, p20, p21, p6, p8, p9, p11, p12, p13, (p22, p23, p24, p25))))
 else
 if (p7 + 1) * 8 ≤ roomBound ∧ p7 + 1 ≤ maxLen ∧ p7 ≤ p8 then
 dn (.inr ((w (p1 + 1), p2, p3, p4, p5, p7 + 1, p10, p14, p15, p16, p17, p18, p19, p20, p21, p6, p11, p12, p13, p22, p23, p24, p25, fun (j : Nat) => if j < p7 then p9 j else p6 (0 + Int.toNat p0))))
 else
 none
 else
 none
 else
 none
noncomputable def loadA (q : Nat) (x : a_pushA) : Option g_pushA := t_loadA x some
theorem sc_loadA (q : Nat) : ∀ (x : a_pushA) (z : g_pushA), loadA q x = some z → SC E8 52 (A_pushA x).1 (A_pushA x).2 (R_pushA z) :=
 lift1 A_pushA R_pushA t_loadA (fun x => by kernel_rfl) fun x dn => by
 unfold t_loadA ux5
 repeat' first | exact free_none | refine free_ite ?_ ?_ | rfl
abbrev g_storeZ : Type := Int × Int × Int × Int × Nat × Nat × Nat × Int × Int × Int × Int × Int × Int × Int × Int × (Nat → Int) × Nat × (Nat → Int) × Nat × (Nat → Int) × (Nat → Int)
def rz4 : (Int × Int × Int × Int × Nat × Nat × Nat × Int × Int × Int × Int × Int × Int × Int × Int × (Nat → Int) × Nat × (Nat → Int) × Nat × (Nat → Int) × (Nat → Int)) → CRes := fun z => CRes.ret (V.tup []) [some (Chunk.blk [i64 (z.1), i64 (z.2.1), i64 (z.2.2.1), i64 (z.2.2.2.1), V.sl 1 1 0 (z.2.2.2.2.1), V.sl 2 1 0 (z.2.2.2.2.2.1), V.sl 3 2 0 (z.2.2.2.2.2.2.1), i64 (z.2.2.2.2.2.2.2.1), i64 (z.2.2.2.2.2.2.2.2.1), i64 (z.2.2.2.2.2.2.2.2.2.1), i64 (z.2.2.2.2.2.2.2.2.2.2.1), i64 (z.2.2.2.2.2.2.2.2.2.2.2.1), i64 (z.2.2.2.2.2.2.2.2.2.2.2.2.1), i64 (z.2.2.2.2.2.2.2.2.2.2.2.2.2.1), i64 (z.2.2.2.2.2.2.2.2.2.2.2.2.2.2.1), V.fn 37 [V.ptr 4 0], bo false]), some (Chunk.row 3 1 (z.2.2.2.2.1) fun (j : Nat) => [i64 (z.2.2.2.2.2.2.2.2.2.2.2.2.2.2.2.1 j)]), some (Chunk.row 3 1 (z.2.2.2.2.2.2.2.2.2.2.2.2.2.2.2.2.1) fun (j : Nat) => [i64 (z.2.2.2.2.2.2.2.2.2.2.2.2.2.2.2.2.2.1 j)]), some (Chunk.row 81 2 (z.2.2.2.2.2.2.2.2.2.2.2.2.2.2.2.2.2.2.1) fun (j : Nat) => [i64 (z.2.2.2.2.2.2.2.2.2.2.2.2.2.2.2.2.2.2.2.1 j), i64 (z.2.2.2.2.2.2.2.2.2.2.2.2.2.2.2.2.2.2.2.2 j)]), some (Chunk.blk [nilS])]
def R_storeZ : g_storeZ → CRes := rz4
def x_storeZ (z : g_storeZ) (k : CRes → Option Ans) : Option Ans := k (R_storeZ z)
theorem xe_storeZ : ∀ z k, x_storeZ z k = k (R_storeZ z) := fun z k => rfl
def t_storeZ {β : Type} (x : a_pushZ) (dn : g_storeZ → Option β) : Option β :=
 ux2 x fun p0 p1 p2 p3 p4 p5 p6 p7 p8 p9 p10 p11 p12 p13 p14 p15 p16 p17 p18 p19 p20 p21 =>
 if 0 ≤ w ((p7 : Int) - 1) ∧ w ((p7 : Int) - 1) < (p7 : Int) then
 if 0 + Int.toNat (w ((p7 : Int) - 1)) < p8 ∧ 1 = 1 then
 if (0 : Int) ≤ (0 : Int) ∧ 0 ≤ w ((p7 : Int) - 1) ∧ w ((p7 : Int) - 1) ≤ (p7 : Int) then
 if 1 = 1 ∧ 1 = 1 ∧ 0 = 0 ∧ p5 = p5 then
 if 0 ≤ p0 ∧ p0 < (p5 : Int) then
 if 0 + Int.toNat p0 < p5 ∧ 1 = 1 then
 dn ((w (p1 + 1), p2, p3, p4, p5, Int.toNat (w ((p7 : Int) - 1)) - 0, p10, p14, p15, p16, p17, p18, p19, p20, p21, fun (j : Nat) => if j = 0 + Int.toNat p0 then p9 (0 + Int.toNat (w ((p7 : Int) - 1))) else p6 j, p8, p9, p11, p12, p13))
 else
 none
 else
 none
 else
 none
 else
 none
 else
 none
 else
 none
noncomputable def storeZ (q : Nat) (x : a_pushZ) : Option g_storeZ := t_storeZ x some
theorem sc_storeZ (q : Nat) : ∀ (x : a_pushZ) (z : g_storeZ), storeZ q x = some z → SC E8 53 (A_pushZ x).1 (A_pushZ x).2 (R_storeZ z) :=
 lift1 A_pushZ R_storeZ t_storeZ (fun x => by kernel_rfl) fun x dn => by
 unfold t_storeZ ux2
 repeat' first | exact free_none | refine free_ite ?_ ?_ | rfl
abbrev g_storeA : Type := Int × Int × Int × Int × Nat × Nat × Nat × Int × Int × Int × Int × Int × Int × Int × Int × (Nat → Int) × Nat × (Nat → Int) × Nat × (Nat → Int) × (Nat → Int) × Nat × (Nat → Int) × (Nat → Int) × (Nat → Int)
def uz7 {γ : Type} (x : Int × Int × Int × Int × Nat × Nat × Nat × Int × Int × Int × Int × Int × Int × Int × Int × (Nat → Int) × Nat × (Nat → Int) × Nat × (Nat → Int) × (Nat → Int) × Nat × (Nat → Int) × (Nat → Int) × (Nat → Int)) (f : Int → Int → Int → Int → Nat → Nat → Nat → Int → Int → Int → Int → Int → Int → Int → Int → (Nat → Int) → Nat → (Nat → Int) → Nat → (Nat → Int) → (Nat → Int) → Nat → (Nat → Int) → (Nat → Int) → (Nat → Int) → γ) : γ := f x.1 x.2.1 x.2.2.1 x.2.2.2.1 x.2.2.2.2.1 x.2.2.2.2.2.1 x.2.2.2.2.2.2.1 x.2.2.2.2.2.2.2.1 x.2.2.2.2.2.2.2.2.1 x.2.2.2.2.2.2.2.2.2.1 x.2.2.2.2.2.2.2.2.2.2.1 x.2.2.2.2.2.2.2.2.2.2.2.1 x.2.2.2.2.2.2.2.2.2.2.2.2.1 x.2.2.2.2.2.2.2.2.2.2.2.2.2.1 x.2.2.2.2.2.2.2.2.2.2.2.2.2.2.1 x.2.2.2.2.2.2.2.2.2.2.2.2.2.2.2.1 x.2.2.2.2.2.2.2.2.2.2.2.2.2.2.2.2.1 x.2.2.2.2.2.2.2.2.2.2.2.2.2.2.2.2.2.1 x.2.2.2.2.2.2.2.2.2.2.2.2.2.2.2.2.2.2.1 x.2.2.2.2.2.2.2.2.2.2.2.2.2.2.2.2.2.2.2.1 x.2.2.2.2.2.2.2.2.2.2.2.2.2.2.2.2.2.2.2.2.1 x.2.2.2.2.2.2.2.2.2.2.2.2.2.2.2.2.2.2.2.2.2.1 x.2.2.2.2.2.2.2.2.2.2.2.2.2.2.2.2.2.2.2.2.2.2.1 x.2.2.2.2.2.2.2.2.2.2.2.2.2.2.2.2.2.2.2.2.2.2.2.1 x.2.2.2.2.2.2.2.2.2.2.2.2.2.2.2.2.2.2.2.2.2.2.2.2
def rz5 : (Int × Int × Int × Int × Nat × Nat × Nat × Int × Int × Int × Int × Int × Int × Int × Int × (Nat → Int) × Nat × (Nat → Int) × Nat × (Nat → Int) × (Nat → Int) × Nat × (Nat → Int) × (Nat → Int) × (Nat → Int)) → CRes := fun z => uz7 z fun p0 p1 p2 p3 p4 p5 p6 p7 p8 p9 p10 p11 p12 p13 p14 p15 p16 p17 p18 p19 p20 p21 p22 p23 p24 =>  CRes.ret (V.tup []) [some (Chunk.blk [i64 p0, i64 p1, i64 p2, i64 p3, V.sl 1 1 0 p4, V.sl 2 1 0 p5, V.sl 3 2 0 p6, i64 p7, i64 p8, i64 p9, i64 p10, i64 p11, i64 p12, i64 p13, i64 p14, V.fn 37 [V.ptr 4 0], bo false]), some (Chunk.row 3 1 p4 fun (j : Nat) => [i64 (p15 j)]), some (Chunk.row 3 1 p16 fun (j : Nat) => [i64 (p17 j)]), some (Chunk.row 81 2 p18 fun (j : Nat) => [i64 (p19 j), i64 (p20 j)]), some (Chunk.blk [V.sl 5 3 0 p21]), some (Chunk.row 51 3 p21 fun (j : Nat) => [i64 (p22 j), i64 (p23 j), i64 (p24 j)])]
def R_storeA : g_storeA → CRes := rz5
def x_storeA (z : g_storeA) (k : CRes → Option Ans) : Option Ans := k (R_storeA z)
theorem xe_storeA : ∀ z k, x_storeA z k = k (R_storeA z) := fun z k => rfl
def t_storeA {β : Type} (x : a_pushA) (dn : g_storeA → Option β) : Option β :=
 ux5 x fun p0 p1 p2 p3 p4 p5 p6 p7 p8 p9 p10 p11 p12 p13 p14 p15 p16 p17 p18 p19 p20 p21 p22 p23 p24 p25 =>
 if 0 ≤ w ((p7 : Int) - 1) ∧ w ((p7 : Int) - 1) < (p7 : Int) then
 if 0 + Int.toNat (w ((p7 : Int) - 1)) < p8 ∧ 1 = 1 then
 if (0 : Int) ≤ (0 : Int) ∧ 0 ≤ w ((p7 : Int) - 1) ∧ w ((p7 : Int) - 1) ≤ (p7 : Int) then
 if 1 = 1 ∧ 1 = 1 ∧ 0 = 0 ∧ p5 = p5 then
 if 0 ≤ p0 ∧ p0 < (p5 : Int) then
 if 0 + Int.toNat p0 < p5 ∧ 1 = 1 then
 dn ((w (p1 + 1), p2, p3, p4, p5, Int.toNat (w ((p7 : Int) - 1)) - 0, p10, p14, p15, p16, p17, p18, p19, p20, p21, fun (j : Nat) => if j = 0 + Int.toNat p0 then p9 (0 + Int.toNat (w ((p7 : Int) - 1))) else p6 j, p8, p9, p11, p12, p13, (p22, p23, p24, p25)))
 else
 none
 else
 none
 else
 none
 else
 none
 else
 none
 else
 none
noncomputable def storeA (q : Nat) (x : a_pushA) : Option g_storeA := t_storeA x some
theorem sc_storeA (q : Nat) : ∀ (x : a_pushA) (z : g_storeA), storeA q x = some z → SC E8 53 (A_pushA x).1 (A_pushA x).2 (R_storeA z) :=
 lift1 A_pushA R_storeA t_storeA (fun x => by kernel_rfl) fun x dn => by
 unfold t_storeA ux5
 repeat' first | exact free_none | refine free_ite ?_ ?_ | rfl
def t_seeZ {β : Type} (x : a_pushZ) (dn : g_pushZ → Option β) : Option β :=
 ux2 x fun p0 p1 p2 p3 p4 p5 p6 p7 p8 p9 p10 p11 p12 p13 p14 p15 p16 p17 p18 p19 p20 p21 =>
 if p0 = 0 then
 if decide (p16 < (-2147483647)) = true then
 dn (.inl ((p1, p5, p16, p17, p18, p19, p20, p21, p6, p8, p9, p11, p12, p13)))
 else
 if decide (p16 > 2147483647) = true then
 dn (.inl ((p1, p5, p16, p17, p18, p19, p20, p21, p6, p8, p9, p11, p12, p13)))
 else
 if (p7 + 1) * 8 ≤ roomBound ∧ p7 + 1 ≤ maxLen ∧ p7 ≤ p8 then
 dn (.inr ((w (p1 + 1), p2, p3, p4, p5, p7 + 1, p10, p14, p15, p16, p17, p18, p19, p20, p21, p6, p11, p12, p13, fun (j : Nat) => if j < p7 then p9 j else p16)))
 else
 none
 else
 if p0 = 1 then
 if decide (p17 < (-2147483647)) = true then
 dn (.inl ((p1, p5, p16, p17, p18, p19, p20, p21, p6, p8, p9, p11, p12, p13)))
 else
 if decide (p17 > 2147483647) = true then
 dn (.inl ((p1, p5, p16, p17, p18, p19, p20, p21, p6, p8, p9, p11, p12, p13)))
 else
 if (p7 + 1) * 8 ≤ roomBound ∧ p7 + 1 ≤ maxLen ∧ p7 ≤ p8 then
 dn (.inr ((w (p1 + 1), p2, p3, p4, p5, p7 + 1, p10, p14, p15, p16, p17, p18, p19, p20, p21, p6, p11, p12, p13, fun (j : Nat) => if j < p7 then p9 j else p17)))
 else
 none
 else
 if p0 = 2 then
 if decide (p18 < (-2147483647)) = true then
 dn (.inl ((p1, p5, p16, p17, p18, p19, p20, p21, p6, p8, p9, p11, p12, p13)))
 else
 if decide (p18 > 2147483647) = true then
 dn (.inl ((p1, p5, p16, p17, p18, p19, p20, p21, p6, p8, p9, p11, p12, p13)))
 else
 if (p7 + 1) * 8 ≤ roomBound ∧ p7 + 1 ≤ maxLen ∧ p7 ≤ p8 then
 dn (.inr ((w (p1 + 1), p2, p3, p4, p5, p7 + 1, p10, p14, p15, p16, p17, p18, p19, p20, p21, p6, p11, p12, p13, fun (j : Nat) => if j < p7 then p9 j else p18)))
 else
 none
 else
 if p0 = 3 then
 if decide (p19 < (-2147483647)) = true then
 dn (.inl ((p1, p5, p16, p17, p18, p19, p20, p21, p6, p8, p9, p11, p12, p13)))
 else
 if decide (p19 > 2147483647) = true then
 dn (.inl ((p1, p5, p16, p17, p18, p19, p20, p21, p6, p8, p9, p11, p12, p13)))
 else
 if (p7 + 1) * 8 ≤ roomBound ∧ p7 + 1 ≤ maxLen ∧ p7 ≤ p8 then
 dn (.inr ((w (p1 + 1), p2, p3, p4, p5, p7 + 1, p10, p14, p15, p16, p17, p18, p19, p20, p21, p6, p11, p12, p13, fun (j : Nat) => if j < p7 then p9 j else p19)))
 else
 none
 else
 if p0 = 4 then
 if decide (p20 < (-2147483647)) = true then
 dn (.inl ((p1, p5, p16, p17, p18, p19, p20, p21, p6, p8, p9, p11, p12, p13)))
 else
 if decide (p20 > 2147483647) = true then
 dn (.inl ((p1, p5, p16, p17, p18, p19, p20, p21, p6, p8, p9, p11, p12, p13)))
 else
 if (p7 + 1) * 8 ≤ roomBound ∧ p7 + 1 ≤ maxLen ∧ p7 ≤ p8 then
 dn (.inr ((w (p1 + 1), p2, p3, p4, p5, p7 + 1, p10, p14, p15, p16, p17, p18, p19, p20, p21, p6, p11, p12, p13, fun (j : Nat) => if j < p7 then p9 j else p20)))
 else
 none
 else
 if p0 = 5 then
 if decide (p21 < (-2147483647)) = true then
 dn (.inl ((p1, p5, p16, p17, p18, p19, p20, p21, p6, p8, p9, p11, p12, p13)))
 else
 if decide (p21 > 2147483647) = true then
 dn (.inl ((p1, p5, p16, p17, p18, p19, p20, p21, p6, p8, p9, p11, p12, p13)))
 else
 if (p7 + 1) * 8 ≤ roomBound ∧ p7 + 1 ≤ maxLen ∧ p7 ≤ p8 then
 dn (.inr ((w (p1 + 1), p2, p3, p4, p5, p7 + 1, p10, p14, p15, p16, p17, p18, p19, p20, p21, p6, p11, p12, p13, fun (j : Nat) => if j < p7 then p9 j else p21)))
 else
 none
 else
 none
noncomputable def seeZ (q : Nat) (x : a_pushZ) : Option g_pushZ := t_seeZ x some
theorem sc_seeZ (q : Nat) : ∀ (x : a_pushZ) (z : g_pushZ), seeZ q x = some z → SC E8 54 (A_pushZ x).1 (A_pushZ x).2 (R_pushZ z) :=
 lift1 A_pushZ R_pushZ t_seeZ (fun x => by kernel_rfl) fun x dn => by
 unfold t_seeZ ux2
 repeat' first | exact free_none | refine free_ite ?_ ?_ | rfl
def t_seeA {β : Type} (x : a_pushA) (dn : g_pushA → Option β) : Option β :=
 ux5 x fun p0 p1 p2 p3 p4 p5 p6 p7 p8 p9 p10 p11 p12 p13 p14 p15 p16 p17 p18 p19 p20 p21 p22 p23 p24 p25 =>
 if p0 = 0 then
 if decide (p16 < (-2147483647)) = true then
 dn (.inl ((p1, p5, p16, p17, p18, p19, p20, p21, p6, p8, p9, p11, p12, p13, (p22, p23, p24, p25))))
 else
 if decide (p16 > 2147483647) = true then
 dn (.inl ((p1, p5, p16, p17, p18, p19, p20, p21, p6, p8, p9, p11, p12, p13, (p22, p23, p24, p25))))
 else
 if (p7 + 1) * 8 ≤ roomBound ∧ p7 + 1 ≤ maxLen ∧ p7 ≤ p8 then
 dn (.inr ((w (p1 + 1), p2, p3, p4, p5, p7 + 1, p10, p14, p15, p16, p17, p18, p19, p20, p21, p6, p11, p12, p13, p22, p23, p24, p25, fun (j : Nat) => if j < p7 then p9 j else p16)))
 else
 none
 else
 if p0 = 1 then
 if decide (p17 < (-2147483647)) = true then
 dn (.inl ((p1, p5, p16, p17, p18, p19, p20, p21, p6, p8, p9, p11, p12, p13, (p22, p23, p24, p25))))
 else
 if decide (p17 > 2147483647) = true then
 dn (.inl ((p1, p5, p16, p17, p18, p19, p20, p21, p6, p8, p9, p11, p12, p13, (p22, p23, p24, p25))))
 else
 if (p7 + 1) * 8 ≤ roomBound ∧ p7 + 1 ≤ maxLen ∧ p7 ≤ p8 then
 dn (.inr ((w (p1 + 1), p2, p3, p4, p5, p7 + 1, p10, p14, p15, p16, p17, p18, p19, p20, p21, p6, p11, p12, p13, p22, p23, p24, p25, fun (j : Nat) => if j < p7 then p9 j else p17)))
 else
 none
 else
 if p0 = 2 then
 if decide (p18 < (-2147483647)) = true then
 dn (.inl ((p1, p5, p16, p17, p18, p19, p20, p21, p6, p8, p9, p11, p12, p13, (p22, p23, p24, p25))))
 else
 if decide (p18 > 2147483647) = true then
 dn (.inl ((p1, p5, p16, p17, p18, p19, p20, p21, p6, p8, p9, p11, p12, p13, (p22, p23, p24, p25))))
 else
 if (p7 + 1) * 8 ≤ roomBound ∧ p7 + 1 ≤ maxLen ∧ p7 ≤ p8 then
 dn (.inr ((w (p1 + 1), p2, p3, p4, p5, p7 + 1, p10, p14, p15, p16, p17, p18, p19, p20, p21, p6, p11, p12, p13, p22, p23, p24, p25, fun (j : Nat) => if j < p7 then p9 j else p18)))
 else
 none
 else
 if p0 = 3 then
 if decide (p19 < (-2147483647)) = true then
 dn (.inl ((p1, p5, p16, p17, p18, p19, p20, p21, p6, p8, p9, p11, p12, p13, (p22, p23, p24, p25))))
 else
 if decide (p19 > 2147483647) = true then
 dn (.inl ((p1, p5, p16, p17, p18, p19, p20, p21, p6, p8, p9, p11, p12, p13, (p22, p23, p24, p25))))
 else
 if (p7 + 1) * 8 ≤ roomBound ∧ p7 + 1 ≤ maxLen ∧ p7 ≤ p8 then
 dn (.inr ((w (p1 + 1), p2, p3, p4, p5, p7 + 1, p10, p14, p15, p16, p17, p18, p19, p20, p21, p6, p11, p12, p13, p22, p23, p24, p25, fun (j : Nat) => if j < p7 then p9 j else p19)))
 else
 none
 else
 if p0 = 4 then
 if decide (p20 < (-2147483647)) = true then
 dn (.inl ((p1, p5, p16, p17, p18, p19, p20, p21, p6, p8, p9, p11, p12, p13, (p22, p23, p24, p25))))
 else
 if decide (p20 > 2147483647) = true then
 dn (.inl ((p1, p5, p16, p17, p18, p19, p20, p21, p6, p8, p9, p11, p12, p13, (p22, p23, p24, p25))))
 else
 if (p7 + 1) * 8 ≤ roomBound ∧ p7 + 1 ≤ maxLen ∧ p7 ≤ p8 then
 dn (.inr ((w (p1 + 1), p2, p3, p4, p5, p7 + 1, p10, p14, p15, p16, p17, p18, p19, p20, p21, p6, p11, p12, p13, p22, p23, p24, p25, fun (j : Nat) => if j < p7 then p9 j else p20)))
 else
 none
 else
 if p0 = 5 then
 if decide (p21 < (-2147483647)) = true then
 dn (.inl ((p1, p5, p16, p17, p18, p19, p20, p21, p6, p8, p9, p11, p12, p13, (p22, p23, p24, p25))))
 else
 if decide (p21 > 2147483647) = true then
 dn (.inl ((p1, p5, p16, p17, p18, p19, p20, p21, p6, p8, p9, p11, p12, p13, (p22, p23, p24, p25))))
 else
 if (p7 + 1) * 8 ≤ roomBound ∧ p7 + 1 ≤ maxLen ∧ p7 ≤ p8 then
 dn (.inr ((w (p1 + 1), p2, p3, p4, p5, p7 + 1, p10, p14, p15, p16, p17, p18, p19, p20, p21, p6, p11, p12, p13, p22, p23, p24, p25, fun (j : Nat) => if j < p7 then p9 j else p21)))
 else
 none
 else
 none
noncomputable def seeA (q : Nat) (x : a_pushA) : Option g_pushA := t_seeA x some
theorem sc_seeA (q : Nat) : ∀ (x : a_pushA) (z : g_pushA), seeA q x = some z → SC E8 54 (A_pushA x).1 (A_pushA x).2 (R_pushA z) :=
 lift1 A_pushA R_pushA t_seeA (fun x => by kernel_rfl) fun x dn => by
 unfold t_seeA ux5
 repeat' first | exact free_none | refine free_ite ?_ ?_ | rfl
def t_addZ {β : Type} (x : a_pushZ) (dn : g_pushZ → Option β) : Option β :=
 ux2 x fun p0 p1 p2 p3 p4 p5 p6 p7 p8 p9 p10 p11 p12 p13 p14 p15 p16 p17 p18 p19 p20 p21 =>
 if 0 ≤ w ((p7 : Int) - 1) ∧ w ((p7 : Int) - 1) < (p7 : Int) then
 if 0 + Int.toNat (w ((p7 : Int) - 1)) < p8 ∧ 1 = 1 then
 if (0 : Int) ≤ (0 : Int) ∧ 0 ≤ w ((p7 : Int) - 1) ∧ w ((p7 : Int) - 1) ≤ (p7 : Int) then
 if 0 ≤ w (((Int.toNat (w ((p7 : Int) - 1)) - 0 : Nat) : Int) - 1) ∧ w (((Int.toNat (w ((p7 : Int) - 1)) - 0 : Nat) : Int) - 1) < ((Int.toNat (w ((p7 : Int) - 1)) - 0 : Nat) : Int) then
 if 0 + Int.toNat (w (((Int.toNat (w ((p7 : Int) - 1)) - 0 : Nat) : Int) - 1)) < p8 ∧ 1 = 1 then
 if (0 : Int) ≤ (0 : Int) ∧ 0 ≤ w (((Int.toNat (w ((p7 : Int) - 1)) - 0 : Nat) : Int) - 1) ∧ w (((Int.toNat (w ((p7 : Int) - 1)) - 0 : Nat) : Int) - 1) ≤ ((Int.toNat (w ((p7 : Int) - 1)) - 0 : Nat) : Int) then
 if decide (w (p9 (0 + Int.toNat (w (((Int.toNat (w ((p7 : Int) - 1)) - 0 : Nat) : Int) - 1))) + p9 (0 + Int.toNat (w ((p7 : Int) - 1)))) < (-2147483647)) = true then
 dn (.inl ((p1, p5, p16, p17, p18, p19, p20, p21, p6, p8, p9, p11, p12, p13)))
 else
 if decide (w (p9 (0 + Int.toNat (w (((Int.toNat (w ((p7 : Int) - 1)) - 0 : Nat) : Int) - 1))) + p9 (0 + Int.toNat (w ((p7 : Int) - 1)))) > 2147483647) = true then
 dn (.inl ((p1, p5, p16, p17, p18, p19, p20, p21, p6, p8, p9, p11, p12, p13)))
 else
 if (Int.toNat (w (((Int.toNat (w ((p7 : Int) - 1)) - 0 : Nat) : Int) - 1)) - 0 + 1) * 8 ≤ roomBound ∧ Int.toNat (w (((Int.toNat (w ((p7 : Int) - 1)) - 0 : Nat) : Int) - 1)) - 0 + 1 ≤ maxLen ∧ Int.toNat (w (((Int.toNat (w ((p7 : Int) - 1)) - 0 : Nat) : Int) - 1)) - 0 ≤ p8 then
 dn (.inr ((w (p1 + 1), p2, p3, p4, p5, Int.toNat (w (((Int.toNat (w ((p7 : Int) - 1)) - 0 : Nat) : Int) - 1)) - 0 + 1, p10, p14, p15, p16, p17, p18, p19, p20, p21, p6, p11, p12, p13, fun (j : Nat) => if j < Int.toNat (w (((Int.toNat (w ((p7 : Int) - 1)) - 0 : Nat) : Int) - 1)) - 0 then p9 j else w (p9 (0 + Int.toNat (w (((Int.toNat (w ((p7 : Int) - 1)) - 0 : Nat) : Int) - 1))) + p9 (0 + Int.toNat (w ((p7 : Int) - 1)))))))
 else
 none
 else
 none
 else
 none
 else
 none
 else
 none
 else
 none
 else
 none
noncomputable def addZ (q : Nat) (x : a_pushZ) : Option g_pushZ := t_addZ x some
theorem sc_addZ (q : Nat) : ∀ (x : a_pushZ) (z : g_pushZ), addZ q x = some z → SC E8 55 (A_pushZ x).1 (A_pushZ x).2 (R_pushZ z) :=
 lift1 A_pushZ R_pushZ t_addZ (fun x => by kernel_rfl) fun x dn => by
 unfold t_addZ ux2
 repeat' first | exact free_none | refine free_ite ?_ ?_ | rfl
def t_addA {β : Type} (x : a_pushA) (dn : g_pushA → Option β) : Option β :=
 ux5 x fun p0 p1 p2 p3 p4 p5 p6 p7 p8 p9 p10 p11 p12 p13 p14 p15 p16 p17 p18 p19 p20 p21 p22 p23 p24 p25 =>
 if 0 ≤ w ((p7 : Int) - 1) ∧ w ((p7 : Int) - 1) < (p7 : Int) then
 if 0 + Int.toNat (w ((p7 : Int) - 1)) < p8 ∧ 1 = 1 then
 if (0 : Int) ≤ (0 : Int) ∧ 0 ≤ w ((p7 : Int) - 1) ∧ w ((p7 : Int) - 1) ≤ (p7 : Int) then
 if 0 ≤ w (((Int.toNat (w ((p7 : Int) - 1)) - 0 : Nat) : Int) - 1) ∧ w (((Int.toNat (w ((p7 : Int) - 1)) - 0 : Nat) : Int) - 1) < ((Int.toNat (w ((p7 : Int) - 1)) - 0 : Nat) : Int) then
 if 0 + Int.toNat (w (((Int.toNat (w ((p7 : Int) - 1)) - 0 : Nat) : Int) - 1)) < p8 ∧ 1 = 1 then
 if (0 : Int) ≤ (0 : Int) ∧ 0 ≤ w (((Int.toNat (w ((p7 : Int) - 1)) - 0 : Nat) : Int) - 1) ∧ w (((Int.toNat (w ((p7 : Int) - 1)) - 0 : Nat) : Int) - 1) ≤ ((Int.toNat (w ((p7 : Int) - 1)) - 0 : Nat) : Int) then
 if decide (w (p9 (0 + Int.toNat (w (((Int.toNat (w ((p7 : Int) - 1)) - 0 : Nat) : Int) - 1))) + p9 (0 + Int.toNat (w ((p7 : Int) - 1)))) < (-2147483647)) = true then
 dn (.inl ((p1, p5, p16, p17, p18, p19, p20, p21, p6, p8, p9, p11, p12, p13, (p22, p23, p24, p25))))
 else
 if decide (w (p9 (0 + Int.toNat (w (((Int.toNat (w ((p7 : Int) - 1)) - 0 : Nat) : Int) - 1))) + p9 (0 + Int.toNat (w ((p7 : Int) - 1)))) > 2147483647) = true then
 dn (.inl ((p1, p5, p16, p17, p18, p19, p20, p21, p6, p8, p9, p11, p12, p13, (p22, p23, p24, p25))))
 else
 if (Int.toNat (w (((Int.toNat (w ((p7 : Int) - 1)) - 0 : Nat) : Int) - 1)) - 0 + 1) * 8 ≤ roomBound ∧ Int.toNat (w (((Int.toNat (w ((p7 : Int) - 1)) - 0 : Nat) : Int) - 1)) - 0 + 1 ≤ maxLen ∧ Int.toNat (w (((Int.toNat (w ((p7 : Int) - 1)) - 0 : Nat) : Int) - 1)) - 0 ≤ p8 then
 dn (.inr ((w (p1 + 1), p2, p3, p4, p5, Int.toNat (w (((Int.toNat (w ((p7 : Int) - 1)) - 0 : Nat) : Int) - 1)) - 0 + 1, p10, p14, p15, p16, p17, p18, p19, p20, p21, p6, p11, p12, p13, p22, p23, p24, p25, fun (j : Nat) => if j < Int.toNat (w (((Int.toNat (w ((p7 : Int) - 1)) - 0 : Nat) : Int) - 1)) - 0 then p9 j else w (p9 (0 + Int.toNat (w (((Int.toNat (w ((p7 : Int) - 1)) - 0 : Nat) : Int) - 1))) + p9 (0 + Int.toNat (w ((p7 : Int) - 1)))))))
 else
 none
 else
 none
 else
 none
 else
 none
 else
 none
 else
 none
 else
 none
noncomputable def addA (q : Nat) (x : a_pushA) : Option g_pushA := t_addA x some
theorem sc_addA (q : Nat) : ∀ (x : a_pushA) (z : g_pushA), addA q x = some z → SC E8 55 (A_pushA x).1 (A_pushA x).2 (R_pushA z) :=
 lift1 A_pushA R_pushA t_addA (fun x => by kernel_rfl) fun x dn => by
 unfold t_addA ux5
 repeat' first | exact free_none | refine free_ite ?_ ?_ | rfl
def t_subZ {β : Type} (x : a_pushZ) (dn : g_pushZ → Option β) : Option β :=
 ux2 x fun p0 p1 p2 p3 p4 p5 p6 p7 p8 p9 p10 p11 p12 p13 p14 p15 p16 p17 p18 p19 p20 p21 =>
 if 0 ≤ w ((p7 : Int) - 1) ∧ w ((p7 : Int) - 1) < (p7 : Int) then
 if 0 + Int.toNat (w ((p7 : Int) - 1)) < p8 ∧ 1 = 1 then
 if (0 : Int) ≤ (0 : Int) ∧ 0 ≤ w ((p7 : Int) - 1) ∧ w ((p7 : Int) - 1) ≤ (p7 : Int) then
 if 0 ≤ w (((Int.toNat (w ((p7 : Int) - 1)) - 0 : Nat) : Int) - 1) ∧ w (((Int.toNat (w ((p7 : Int) - 1)) - 0 : Nat) : Int) - 1) < ((Int.toNat (w ((p7 : Int) - 1)) - 0 : Nat) : Int) then
 if 0 + Int.toNat (w (((Int.toNat (w ((p7 : Int) - 1)) - 0 : Nat) : Int) - 1)) < p8 ∧ 1 = 1 then
 if (0 : Int) ≤ (0 : Int) ∧ 0 ≤ w (((Int.toNat (w ((p7 : Int) - 1)) - 0 : Nat) : Int) - 1) ∧ w (((Int.toNat (w ((p7 : Int) - 1)) - 0 : Nat) : Int) - 1) ≤ ((Int.toNat (w ((p7 : Int) - 1)) - 0 : Nat) : Int) then
 if decide (w (p9 (0 + Int.toNat (w (((Int.toNat (w ((p7 : Int) - 1)) - 0 : Nat) : Int) - 1))) - p9 (0 + Int.toNat (w ((p7 : Int) - 1)))) < (-2147483647)) = true then
 dn (.inl ((p1, p5, p16, p17, p18, p19, p20, p21, p6, p8, p9, p11, p12, p13)))
 else
 if decide (w (p9 (0 + Int.toNat (w (((Int.toNat (w ((p7 : Int) - 1)) - 0 : Nat) : Int) - 1))) - p9 (0 + Int.toNat (w ((p7 : Int) - 1)))) > 2147483647) = true then
 dn (.inl ((p1, p5, p16, p17, p18, p19, p20, p21, p6, p8, p9, p11, p12, p13)))
 else
 if (Int.toNat (w (((Int.toNat (w ((p7 : Int) - 1)) - 0 : Nat) : Int) - 1)) - 0 + 1) * 8 ≤ roomBound ∧ Int.toNat (w (((Int.toNat (w ((p7 : Int) - 1)) - 0 : Nat) : Int) - 1)) - 0 + 1 ≤ maxLen ∧ Int.toNat (w (((Int.toNat (w ((p7 : Int) - 1)) - 0 : Nat) : Int) - 1)) - 0 ≤ p8 then
 dn (.inr ((w (p1 + 1), p2, p3, p4, p5, Int.toNat (w (((Int.toNat (w ((p7 : Int) - 1)) - 0 : Nat) : Int) - 1)) - 0 + 1, p10, p14, p15, p16, p17, p18, p19, p20, p21, p6, p11, p12, p13, fun (j : Nat) => if j < Int.toNat (w (((Int.toNat (w ((p7 : Int) - 1)) - 0 : Nat) : Int) - 1)) - 0 then p9 j else w (p9 (0 + Int.toNat (w (((Int.toNat (w ((p7 : Int) - 1)) - 0 : Nat) : Int) - 1))) - p9 (0 + Int.toNat (w ((p7 : Int) - 1)))))))
 else
 none
 else
 none
 else
 none
 else
 none
 else
 none
 else
 none
 else
 none
noncomputable def subZ (q : Nat) (x : a_pushZ) : Option g_pushZ := t_subZ x some
theorem sc_subZ (q : Nat) : ∀ (x : a_pushZ) (z : g_pushZ), subZ q x = some z → SC E8 56 (A_pushZ x).1 (A_pushZ x).2 (R_pushZ z) :=
 lift1 A_pushZ R_pushZ t_subZ (fun x => by kernel_rfl) fun x dn => by
 unfold t_subZ ux2
 repeat' first | exact free_none | refine free_ite ?_ ?_ | rfl
def t_subA {β : Type} (x : a_pushA) (dn : g_pushA → Option β) : Option β :=
 ux5 x fun p0 p1 p2 p3 p4 p5 p6 p7 p8 p9 p10 p11 p12 p13 p14 p15 p16 p17 p18 p19 p20 p21 p22 p23 p24 p25 =>
 if 0 ≤ w ((p7 : Int) - 1) ∧ w ((p7 : Int) - 1) < (p7 : Int) then
 if 0 + Int.toNat (w ((p7 : Int) - 1)) < p8 ∧ 1 = 1 then
 if (0 : Int) ≤ (0 : Int) ∧ 0 ≤ w ((p7 : Int) - 1) ∧ w ((p7 : Int) - 1) ≤ (p7 : Int) then
 if 0 ≤ w (((Int.toNat (w ((p7 : Int) - 1)) - 0 : Nat) : Int) - 1) ∧ w (((Int.toNat (w ((p7 : Int) - 1)) - 0 : Nat) : Int) - 1) < ((Int.toNat (w ((p7 : Int) - 1)) - 0 : Nat) : Int) then
 if 0 + Int.toNat (w (((Int.toNat (w ((p7 : Int) - 1)) - 0 : Nat) : Int) - 1)) < p8 ∧ 1 = 1 then
 if (0 : Int) ≤ (0 : Int) ∧ 0 ≤ w (((Int.toNat (w ((p7 : Int) - 1)) - 0 : Nat) : Int) - 1) ∧ w (((Int.toNat (w ((p7 : Int) - 1)) - 0 : Nat) : Int) - 1) ≤ ((Int.toNat (w ((p7 : Int) - 1)) - 0 : Nat) : Int) then
 if decide (w (p9 (0 + Int.toNat (w (((Int.toNat (w ((p7 : Int) - 1)) - 0 : Nat) : Int) - 1))) - p9 (0 + Int.toNat (w ((p7 : Int) - 1)))) < (-2147483647)) = true then
 dn (.inl ((p1, p5, p16, p17, p18, p19, p20, p21, p6, p8, p9, p11, p12, p13, (p22, p23, p24, p25))))
 else
 if decide (w (p9 (0 + Int.toNat (w (((Int.toNat (w ((p7 : Int) - 1)) - 0 : Nat) : Int) - 1))) - p9 (0 + Int.toNat (w ((p7 : Int) - 1)))) > 2147483647) = true then
 dn (.inl ((p1, p5, p16, p17, p18, p19, p20, p21, p6, p8, p9, p11, p12, p13, (p22, p23, p24, p25))))
 else
 if (Int.toNat (w (((Int.toNat (w ((p7 : Int) - 1)) - 0 : Nat) : Int) - 1)) - 0 + 1) * 8 ≤ roomBound ∧ Int.toNat (w (((Int.toNat (w ((p7 : Int) - 1)) - 0 : Nat) : Int) - 1)) - 0 + 1 ≤ maxLen ∧ Int.toNat (w (((Int.toNat (w ((p7 : Int) - 1)) - 0 : Nat) : Int) - 1)) - 0 ≤ p8 then
 dn (.inr ((w (p1 + 1), p2, p3, p4, p5, Int.toNat (w (((Int.toNat (w ((p7 : Int) - 1)) - 0 : Nat) : Int) - 1)) - 0 + 1, p10, p14, p15, p16, p17, p18, p19, p20, p21, p6, p11, p12, p13, p22, p23, p24, p25, fun (j : Nat) => if j < Int.toNat (w (((Int.toNat (w ((p7 : Int) - 1)) - 0 : Nat) : Int) - 1)) - 0 then p9 j else w (p9 (0 + Int.toNat (w (((Int.toNat (w ((p7 : Int) - 1)) - 0 : Nat) : Int) - 1))) - p9 (0 + Int.toNat (w ((p7 : Int) - 1)))))))
 else
 none
 else
 none
 else
 none
 else
 none
 else
 none
 else
 none
 else
 none
noncomputable def subA (q : Nat) (x : a_pushA) : Option g_pushA := t_subA x some
theorem sc_subA (q : Nat) : ∀ (x : a_pushA) (z : g_pushA), subA q x = some z → SC E8 56 (A_pushA x).1 (A_pushA x).2 (R_pushA z) :=
 lift1 A_pushA R_pushA t_subA (fun x => by kernel_rfl) fun x dn => by
 unfold t_subA ux5
 repeat' first | exact free_none | refine free_ite ?_ ?_ | rfl
def t_mulZ {β : Type} (x : a_pushZ) (dn : g_pushZ → Option β) : Option β :=
 ux2 x fun p0 p1 p2 p3 p4 p5 p6 p7 p8 p9 p10 p11 p12 p13 p14 p15 p16 p17 p18 p19 p20 p21 =>
 if 0 ≤ w ((p7 : Int) - 1) ∧ w ((p7 : Int) - 1) < (p7 : Int) then
 if 0 + Int.toNat (w ((p7 : Int) - 1)) < p8 ∧ 1 = 1 then
 if (0 : Int) ≤ (0 : Int) ∧ 0 ≤ w ((p7 : Int) - 1) ∧ w ((p7 : Int) - 1) ≤ (p7 : Int) then
 if 0 ≤ w (((Int.toNat (w ((p7 : Int) - 1)) - 0 : Nat) : Int) - 1) ∧ w (((Int.toNat (w ((p7 : Int) - 1)) - 0 : Nat) : Int) - 1) < ((Int.toNat (w ((p7 : Int) - 1)) - 0 : Nat) : Int) then
 if 0 + Int.toNat (w (((Int.toNat (w ((p7 : Int) - 1)) - 0 : Nat) : Int) - 1)) < p8 ∧ 1 = 1 then
 if (0 : Int) ≤ (0 : Int) ∧ 0 ≤ w (((Int.toNat (w ((p7 : Int) - 1)) - 0 : Nat) : Int) - 1) ∧ w (((Int.toNat (w ((p7 : Int) - 1)) - 0 : Nat) : Int) - 1) ≤ ((Int.toNat (w ((p7 : Int) - 1)) - 0 : Nat) : Int) then
 if decide (w (p9 (0 + Int.toNat (w (((Int.toNat (w ((p7 : Int) - 1)) - 0 : Nat) : Int) - 1))) * p9 (0 + Int.toNat (w ((p7 : Int) - 1)))) < (-2147483647)) = true then
 dn (.inl ((p1, p5, p16, p17, p18, p19, p20, p21, p6, p8, p9, p11, p12, p13)))
 else
 if decide (w (p9 (0 + Int.toNat (w (((Int.toNat (w ((p7 : Int) - 1)) - 0 : Nat) : Int) - 1))) * p9 (0 + Int.toNat (w ((p7 : Int) - 1)))) > 2147483647) = true then
 dn (.inl ((p1, p5, p16, p17, p18, p19, p20, p21, p6, p8, p9, p11, p12, p13)))
 else
 if (Int.toNat (w (((Int.toNat (w ((p7 : Int) - 1)) - 0 : Nat) : Int) - 1)) - 0 + 1) * 8 ≤ roomBound ∧ Int.toNat (w (((Int.toNat (w ((p7 : Int) - 1)) - 0 : Nat) : Int) - 1)) - 0 + 1 ≤ maxLen ∧ Int.toNat (w (((Int.toNat (w ((p7 : Int) - 1)) - 0 : Nat) : Int) - 1)) - 0 ≤ p8 then
 dn (.inr ((w (p1 + 1), p2, p3, p4, p5, Int.toNat (w (((Int.toNat (w ((p7 : Int) - 1)) - 0 : Nat) : Int) - 1)) - 0 + 1, p10, p14, p15, p16, p17, p18, p19, p20, p21, p6, p11, p12, p13, fun (j : Nat) => if j < Int.toNat (w (((Int.toNat (w ((p7 : Int) - 1)) - 0 : Nat) : Int) - 1)) - 0 then p9 j else w (p9 (0 + Int.toNat (w (((Int.toNat (w ((p7 : Int) - 1)) - 0 : Nat) : Int) - 1))) * p9 (0 + Int.toNat (w ((p7 : Int) - 1)))))))
 else
 none
 else
 none
 else
 none
 else
 none
 else
 none
 else
 none
 else
 none
noncomputable def mulZ (q : Nat) (x : a_pushZ) : Option g_pushZ := t_mulZ x some
theorem sc_mulZ (q : Nat) : ∀ (x : a_pushZ) (z : g_pushZ), mulZ q x = some z → SC E8 57 (A_pushZ x).1 (A_pushZ x).2 (R_pushZ z) :=
 lift1 A_pushZ R_pushZ t_mulZ (fun x => by kernel_rfl) fun x dn => by
 unfold t_mulZ ux2
 repeat' first | exact free_none | refine free_ite ?_ ?_ | rfl
def t_mulA {β : Type} (x : a_pushA) (dn : g_pushA → Option β) : Option β :=
 ux5 x fun p0 p1 p2 p3 p4 p5 p6 p7 p8 p9 p10 p11 p12 p13 p14 p15 p16 p17 p18 p19 p20 p21 p22 p23 p24 p25 =>
 if 0 ≤ w ((p7 : Int) - 1) ∧ w ((p7 : Int) - 1) < (p7 : Int) then
 if 0 + Int.toNat (w ((p7 : Int) - 1)) < p8 ∧ 1 = 1 then
 if (0 : Int) ≤ (0 : Int) ∧ 0 ≤ w ((p7 : Int) - 1) ∧ w ((p7 : Int) - 1) ≤ (p7 : Int) then
 if 0 ≤ w (((Int.toNat (w ((p7 : Int) - 1)) - 0 : Nat) : Int) - 1) ∧ w (((Int.toNat (w ((p7 : Int) - 1)) - 0 : Nat) : Int) - 1) < ((Int.toNat (w ((p7 : Int) - 1)) - 0 : Nat) : Int) then
 if 0 + Int.toNat (w (((Int.toNat (w ((p7 : Int) - 1)) - 0 : Nat) : Int) - 1)) < p8 ∧ 1 = 1 then
 if (0 : Int) ≤ (0 : Int) ∧ 0 ≤ w (((Int.toNat (w ((p7 : Int) - 1)) - 0 : Nat) : Int) - 1) ∧ w (((Int.toNat (w ((p7 : Int) - 1)) - 0 : Nat) : Int) - 1) ≤ ((Int.toNat (w ((p7 : Int) - 1)) - 0 : Nat) : Int) then
 if decide (w (p9 (0 + Int.toNat (w (((Int.toNat (w ((p7 : Int) - 1)) - 0 : Nat) : Int) - 1))) * p9 (0 + Int.toNat (w ((p7 : Int) - 1)))) < (-2147483647)) = true then
 dn (.inl ((p1, p5, p16, p17, p18, p19, p20, p21, p6, p8, p9, p11, p12, p13, (p22, p23, p24, p25))))
 else
 if decide (w (p9 (0 + Int.toNat (w (((Int.toNat (w ((p7 : Int) - 1)) - 0 : Nat) : Int) - 1))) * p9 (0 + Int.toNat (w ((p7 : Int) - 1)))) > 2147483647) = true then
 dn (.inl ((p1, p5, p16, p17, p18, p19, p20, p21, p6, p8, p9, p11, p12, p13, (p22, p23, p24, p25))))
 else
 if (Int.toNat (w (((Int.toNat (w ((p7 : Int) - 1)) - 0 : Nat) : Int) - 1)) - 0 + 1) * 8 ≤ roomBound ∧ Int.toNat (w (((Int.toNat (w ((p7 : Int) - 1)) - 0 : Nat) : Int) - 1)) - 0 + 1 ≤ maxLen ∧ Int.toNat (w (((Int.toNat (w ((p7 : Int) - 1)) - 0 : Nat) : Int) - 1)) - 0 ≤ p8 then
 dn (.inr ((w (p1 + 1), p2, p3, p4, p5, Int.toNat (w (((Int.toNat (w ((p7 : Int) - 1)) - 0 : Nat) : Int) - 1)) - 0 + 1, p10, p14, p15, p16, p17, p18, p19, p20, p21, p6, p11, p12, p13, p22, p23, p24, p25, fun (j : Nat) => if j < Int.toNat (w (((Int.toNat (w ((p7 : Int) - 1)) - 0 : Nat) : Int) - 1)) - 0 then p9 j else w (p9 (0 + Int.toNat (w (((Int.toNat (w ((p7 : Int) - 1)) - 0 : Nat) : Int) - 1))) * p9 (0 + Int.toNat (w ((p7 : Int) - 1)))))))
 else
 none
 else
 none
 else
 none
 else
 none
 else
 none
 else
 none
 else
 none
noncomputable def mulA (q : Nat) (x : a_pushA) : Option g_pushA := t_mulA x some
theorem sc_mulA (q : Nat) : ∀ (x : a_pushA) (z : g_pushA), mulA q x = some z → SC E8 57 (A_pushA x).1 (A_pushA x).2 (R_pushA z) :=
 lift1 A_pushA R_pushA t_mulA (fun x => by kernel_rfl) fun x dn => by
 unfold t_mulA ux5
 repeat' first | exact free_none | refine free_ite ?_ ?_ | rfl
def t_divZ {β : Type} (x : a_pushZ) (dn : g_pushZ → Option β) : Option β :=
 ux2 x fun p0 p1 p2 p3 p4 p5 p6 p7 p8 p9 p10 p11 p12 p13 p14 p15 p16 p17 p18 p19 p20 p21 =>
 if 0 ≤ w ((p7 : Int) - 1) ∧ w ((p7 : Int) - 1) < (p7 : Int) then
 if 0 + Int.toNat (w ((p7 : Int) - 1)) < p8 ∧ 1 = 1 then
 if (p9 (0 + Int.toNat (w ((p7 : Int) - 1))) == 0) = true then
 dn (.inl ((p1, p5, p16, p17, p18, p19, p20, p21, p6, p8, p9, p11, p12, p13)))
 else
 if 0 ≤ w ((p7 : Int) - 1) ∧ w ((p7 : Int) - 1) < (p7 : Int) then
 if 0 + Int.toNat (w ((p7 : Int) - 1)) < p8 ∧ 1 = 1 then
 if (0 : Int) ≤ (0 : Int) ∧ 0 ≤ w ((p7 : Int) - 1) ∧ w ((p7 : Int) - 1) ≤ (p7 : Int) then
 if 0 ≤ w (((Int.toNat (w ((p7 : Int) - 1)) - 0 : Nat) : Int) - 1) ∧ w (((Int.toNat (w ((p7 : Int) - 1)) - 0 : Nat) : Int) - 1) < ((Int.toNat (w ((p7 : Int) - 1)) - 0 : Nat) : Int) then
 if 0 + Int.toNat (w (((Int.toNat (w ((p7 : Int) - 1)) - 0 : Nat) : Int) - 1)) < p8 ∧ 1 = 1 then
 if (0 : Int) ≤ (0 : Int) ∧ 0 ≤ w (((Int.toNat (w ((p7 : Int) - 1)) - 0 : Nat) : Int) - 1) ∧ w (((Int.toNat (w ((p7 : Int) - 1)) - 0 : Nat) : Int) - 1) ≤ ((Int.toNat (w ((p7 : Int) - 1)) - 0 : Nat) : Int) then
 if p9 (0 + Int.toNat (w ((p7 : Int) - 1))) = 0 then
 none
 else
 if p9 (0 + Int.toNat (w ((p7 : Int) - 1))) = 0 then
 none
 else
 if (Int.tmod (p9 (0 + Int.toNat (w (((Int.toNat (w ((p7 : Int) - 1)) - 0 : Nat) : Int) - 1)))) (p9 (0 + Int.toNat (w ((p7 : Int) - 1)))) != 0) = true then
 if (!decide (p9 (0 + Int.toNat (w (((Int.toNat (w ((p7 : Int) - 1)) - 0 : Nat) : Int) - 1))) < 0) == decide (p9 (0 + Int.toNat (w ((p7 : Int) - 1))) < 0)) = true then
 if decide (w (w (Int.tdiv (p9 (0 + Int.toNat (w (((Int.toNat (w ((p7 : Int) - 1)) - 0 : Nat) : Int) - 1)))) (p9 (0 + Int.toNat (w ((p7 : Int) - 1))))) - 1) < (-2147483647)) = true then
 dn (.inl ((p1, p5, p16, p17, p18, p19, p20, p21, p6, p8, p9, p11, p12, p13)))
 else
 if decide (w (w (Int.tdiv (p9 (0 + Int.toNat (w (((Int.toNat (w ((p7 : Int) - 1)) - 0 : Nat) : Int) - 1)))) (p9 (0 + Int.toNat (w ((p7 : Int) - 1))))) - 1) > 2147483647) = true then
 dn (.inl ((p1, p5, p16, p17, p18, p19, p20, p21, p6, p8, p9, p11, p12, p13)))
 else
 if (Int.toNat (w (((Int.toNat (w ((p7 : Int) - 1)) - 0 : Nat) : Int) - 1)) - 0 + 1) * 8 ≤ roomBound ∧ Int.toNat (w (((Int.toNat (w ((p7 : Int) - 1)) - 0 : Nat) : Int) - 1)) - 0 + 1 ≤ maxLen ∧ Int.toNat (w (((Int.toNat (w ((p7 : Int) - 1)) - 0 : Nat) : Int) - 1)) - 0 ≤ p8 then
 dn (.inr ((w (p1 + 1), p2, p3, p4, p5, Int.toNat (w (((Int.toNat (w ((p7 : Int) - 1)) - 0 : Nat) : Int) - 1)) - 0 + 1, p10, p14, p15, p16, p17, p18, p19, p20, p21, p6, p11, p12, p13, fun (j : Nat) => if j < Int.toNat (w (((Int.toNat (w ((p7 : Int) - 1)) - 0 : Nat) : Int) - 1)) - 0 then p9 j else w (w (Int.tdiv (p9 (0 + Int.toNat (w (((Int.toNat (w ((p7 : Int) - 1)) - 0 : Nat) : Int) - 1)))) (p9 (0 + Int.toNat (w ((p7 : Int) - 1))))) - 1))))
 else
 none
 else
 if decide (w (Int.tdiv (p9 (0 + Int.toNat (w (((Int.toNat (w ((p7 : Int) - 1)) - 0 : Nat) : Int) - 1)))) (p9 (0 + Int.toNat (w ((p7 : Int) - 1))))) < (-2147483647)) = true then
 dn (.inl ((p1, p5, p16, p17, p18, p19, p20, p21, p6, p8, p9, p11, p12, p13)))
 else
 if decide (w (Int.tdiv (p9 (0 + Int.toNat (w (((Int.toNat (w ((p7 : Int) - 1)) - 0 : Nat) : Int) - 1)))) (p9 (0 + Int.toNat (w ((p7 : Int) - 1))))) > 2147483647) = true then
 dn (.inl ((p1, p5, p16, p17, p18, p19, p20, p21, p6, p8, p9, p11, p12, p13)))
 else
 if (Int.toNat (w (((Int.toNat (w ((p7 : Int) - 1)) - 0 : Nat) : Int) - 1)) - 0 + 1) * 8 ≤ roomBound ∧ Int.toNat (w (((Int.toNat (w ((p7 : Int) - 1)) - 0 : Nat) : Int) - 1)) - 0 + 1 ≤ maxLen ∧ Int.toNat (w (((Int.toNat (w ((p7 : Int) - 1)) - 0 : Nat) : Int) - 1)) - 0 ≤ p8 then
 dn (.inr ((w (p1 + 1), p2, p3, p4, p5, Int.toNat (w (((Int.toNat (w ((p7 : Int) - 1)) - 0 : Nat) : Int) - 1)) - 0 + 1, p10, p14, p15, p16, p17, p18, p19, p20, p21, p6, p11, p12, p13, fun (j : Nat) => if j < Int.toNat (w (((Int.toNat (w ((p7 : Int) - 1)) - 0 : Nat) : Int) - 1)) - 0 then p9 j else w (Int.tdiv (p9 (0 + Int.toNat (w (((Int.toNat (w ((p7 : Int) - 1)) - 0 : Nat) : Int) - 1)))) (p9 (0 + Int.toNat (w ((p7 : Int) - 1))))))))
 else
 none
 else
 if decide (w (Int.tdiv (p9 (0 + Int.toNat (w (((Int.toNat (w ((p7 : Int) - 1)) - 0 : Nat) : Int) - 1)))) (p9 (0 + Int.toNat (w ((p7 : Int) - 1))))) < (-2147483647)) = true then
 dn (.inl ((p1, p5, p16, p17, p18, p19, p20, p21, p6, p8, p9, p11, p12, p13)))
 else
 if decide (w (Int.tdiv (p9 (0 + Int.toNat (w (((Int.toNat (w ((p7 : Int) - 1)) - 0 : Nat) : Int) - 1)))) (p9 (0 + Int.toNat (w ((p7 : Int) - 1))))) > 2147483647) = true then
 dn (.inl ((p1, p5, p16, p17, p18, p19, p20, p21, p6, p8, p9, p11, p12, p13)))
 else
 if (Int.toNat (w (((Int.toNat (w ((p7 : Int) - 1)) - 0 : Nat) : Int) - 1)) - 0 + 1) * 8 ≤ roomBound ∧ Int.toNat (w (((Int.toNat (w ((p7 : Int) - 1)) - 0 : Nat) : Int) - 1)) - 0 + 1 ≤ maxLen ∧ Int.toNat (w (((Int.toNat (w ((p7 : Int) - 1)) - 0 : Nat) : Int) - 1)) - 0 ≤ p8 then
 dn (.inr ((w (p1 + 1), p2, p3, p4, p5, Int.toNat (w (((Int.toNat (w ((p7 : Int) - 1)) - 0 : Nat) : Int) - 1)) - 0 + 1, p10, p14, p15, p16, p17, p18, p19, p20, p21, p6, p11, p12, p13, fun (j : Nat) => if j < Int.toNat (w (((Int.toNat (w ((p7 : Int) - 1)) - 0 : Nat) : Int) - 1)) - 0 then p9 j else w (Int.tdiv (p9 (0 + Int.toNat (w (((Int.toNat (w ((p7 : Int) - 1)) - 0 : Nat) : Int) - 1)))) (p9 (0 + Int.toNat (w ((p7 : Int) - 1))))))))
 else
 none
 else
 none
 else
 none
 else
 none
 else
 none
 else
 none
 else
 none
 else
 none
 else
 none
noncomputable def divZ (q : Nat) (x : a_pushZ) : Option g_pushZ := t_divZ x some
theorem sc_divZ (q : Nat) : ∀ (x : a_pushZ) (z : g_pushZ), divZ q x = some z → SC E8 58 (A_pushZ x).1 (A_pushZ x).2 (R_pushZ z) :=
 lift1 A_pushZ R_pushZ t_divZ (fun x => by kernel_rfl) fun x dn => by
 unfold t_divZ ux2
 repeat' first | exact free_none | refine free_ite ?_ ?_ | rfl
def t_divA {β : Type} (x : a_pushA) (dn : g_pushA → Option β) : Option β :=
 ux5 x fun p0 p1 p2 p3 p4 p5 p6 p7 p8 p9 p10 p11 p12 p13 p14 p15 p16 p17 p18 p19 p20 p21 p22 p23 p24 p25 =>
 if 0 ≤ w ((p7 : Int) - 1) ∧ w ((p7 : Int) - 1) < (p7 : Int) then
 if 0 + Int.toNat (w ((p7 : Int) - 1)) < p8 ∧ 1 = 1 then
 if (p9 (0 + Int.toNat (w ((p7 : Int) - 1))) == 0) = true then
 dn (.inl ((p1, p5, p16, p17, p18, p19, p20, p21, p6, p8, p9, p11, p12, p13, (p22, p23, p24, p25))))
 else
 if 0 ≤ w ((p7 : Int) - 1) ∧ w ((p7 : Int) - 1) < (p7 : Int) then
 if 0 + Int.toNat (w ((p7 : Int) - 1)) < p8 ∧ 1 = 1 then
 if (0 : Int) ≤ (0 : Int) ∧ 0 ≤ w ((p7 : Int) - 1) ∧ w ((p7 : Int) - 1) ≤ (p7 : Int) then
 if 0 ≤ w (((Int.toNat (w ((p7 : Int) - 1)) - 0 : Nat) : Int) - 1) ∧ w (((Int.toNat (w ((p7 : Int) - 1)) - 0 : Nat) : Int) - 1) < ((Int.toNat (w ((p7 : Int) - 1)) - 0 : Nat) : Int) then
 if 0 + Int.toNat (w (((Int.toNat (w ((p7 : Int) - 1)) - 0 : Nat) : Int) - 1)) < p8 ∧ 1 = 1 then
 if (0 : Int) ≤ (0 : Int) ∧ 0 ≤ w (((Int.toNat (w ((p7 : Int) - 1)) - 0 : Nat) : Int) - 1) ∧ w (((Int.toNat (w ((p7 : Int) - 1)) - 0 : Nat) : Int) - 1) ≤ ((Int.toNat (w ((p7 : Int) - 1)) - 0 : Nat) : Int) then
 if p9 (0 + Int.toNat (w ((p7 : Int) - 1))) = 0 then
 none
 else
 if p9 (0 + Int.toNat (w ((p7 : Int) - 1))) = 0 then
 none
 else
 if (Int.tmod (p9 (0 + Int.toNat (w (((Int.toNat (w ((p7 : Int) - 1)) - 0 : Nat) : Int) - 1)))) (p9 (0 + Int.toNat (w ((p7 : Int) - 1)))) != 0) = true then
 if (!decide (p9 (0 + Int.toNat (w (((Int.toNat (w ((p7 : Int) - 1)) - 0 : Nat) : Int) - 1))) < 0) == decide (p9 (0 + Int.toNat (w ((p7 : Int) - 1))) < 0)) = true then
 if decide (w (w (Int.tdiv (p9 (0 + Int.toNat (w (((Int.toNat (w ((p7 : Int) - 1)) - 0 : Nat) : Int) - 1)))) (p9 (0 + Int.toNat (w ((p7 : Int) - 1))))) - 1) < (-2147483647)) = true then
 dn (.inl ((p1, p5, p16, p17, p18, p19, p20, p21, p6, p8, p9, p11, p12, p13, (p22, p23, p24, p25))))
 else
 if decide (w (w (Int.tdiv (p9 (0 + Int.toNat (w (((Int.toNat (w ((p7 : Int) - 1)) - 0 : Nat) : Int) - 1)))) (p9 (0 + Int.toNat (w ((p7 : Int) - 1))))) - 1) > 2147483647) = true then
 dn (.inl ((p1, p5, p16, p17, p18, p19, p20, p21, p6, p8, p9, p11, p12, p13, (p22, p23, p24, p25))))
 else
 if (Int.toNat (w (((Int.toNat (w ((p7 : Int) - 1)) - 0 : Nat) : Int) - 1)) - 0 + 1) * 8 ≤ roomBound ∧ Int.toNat (w (((Int.toNat (w ((p7 : Int) - 1)) - 0 : Nat) : Int) - 1)) - 0 + 1 ≤ maxLen ∧ Int.toNat (w (((Int.toNat (w ((p7 : Int) - 1)) - 0 : Nat) : Int) - 1)) - 0 ≤ p8 then
 dn (.inr ((w (p1 + 1), p2, p3, p4, p5, Int.toNat (w (((Int.toNat (w ((p7 : Int) - 1)) - 0 : Nat) : Int) - 1)) - 0 + 1, p10, p14, p15, p16, p17, p18, p19, p20, p21, p6, p11, p12, p13, p22, p23, p24, p25, fun (j : Nat) => if j < Int.toNat (w (((Int.toNat (w ((p7 : Int) - 1)) - 0 : Nat) : Int) - 1)) - 0 then p9 j else w (w (Int.tdiv (p9 (0 + Int.toNat (w (((Int.toNat (w ((p7 : Int) - 1)) - 0 : Nat) : Int) - 1)))) (p9 (0 + Int.toNat (w ((p7 : Int) - 1))))) - 1))))
 else
 none
 else
 if decide (w (Int.tdiv (p9 (0 + Int.toNat (w (((Int.toNat (w ((p7 : Int) - 1)) - 0 : Nat) : Int) - 1)))) (p9 (0 + Int.toNat (w ((p7 : Int) - 1))))) < (-2147483647)) = true then
 dn (.inl ((p1, p5, p16, p17, p18, p19, p20, p21, p6, p8, p9, p11, p12, p13, (p22, p23, p24, p25))))
 else
 if decide (w (Int.tdiv (p9 (0 + Int.toNat (w (((Int.toNat (w ((p7 : Int) - 1)) - 0 : Nat) : Int) - 1)))) (p9 (0 + Int.toNat (w ((p7 : Int) - 1))))) > 2147483647) = true then
 dn (.inl ((p1, p5, p16, p17, p18, p19, p20, p21, p6, p8, p9, p11, p12, p13, (p22, p23, p24, p25))))
 else
 if (Int.toNat (w (((Int.toNat (w ((p7 : Int) - 1)) - 0 : Nat) : Int) - 1)) - 0 + 1) * 8 ≤ roomBound ∧ Int.toNat (w (((Int.toNat (w ((p7 : Int) - 1)) - 0 : Nat) : Int) - 1)) - 0 + 1 ≤ maxLen ∧ Int.toNat (w (((Int.toNat (w ((p7 : Int) - 1)) - 0 : Nat) : Int) - 1)) - 0 ≤ p8 then
 dn (.inr ((w (p1 + 1), p2, p3, p4, p5, Int.toNat (w (((Int.toNat (w ((p7 : Int) - 1)) - 0 : Nat) : Int) - 1)) - 0 + 1, p10, p14, p15, p16, p17, p18, p19, p20, p21, p6, p11, p12, p13, p22, p23, p24, p25, fun (j : Nat) => if j < Int.toNat (w (((Int.toNat (w ((p7 : Int) - 1)) - 0 : Nat) : Int) - 1)) - 0 then p9 j else w (Int.tdiv (p9 (0 + Int.toNat (w (((Int.toNat (w ((p7 : Int) - 1)) - 0 : Nat) : Int) - 1)))) (p9 (0 + Int.toNat (w ((p7 : Int) - 1))))))))
 else
 none
 else
 if decide (w (Int.tdiv (p9 (0 + Int.toNat (w (((Int.toNat (w ((p7 : Int) - 1)) - 0 : Nat) : Int) - 1)))) (p9 (0 + Int.toNat (w ((p7 : Int) - 1))))) < (-2147483647)) = true then
 dn (.inl ((p1, p5, p16, p17, p18, p19, p20, p21, p6, p8, p9, p11, p12, p13, (p22, p23, p24, p25))))
 else
 if decide (w (Int.tdiv (p9 (0 + Int.toNat (w (((Int.toNat (w ((p7 : Int) - 1)) - 0 : Nat) : Int) - 1)))) (p9 (0 + Int.toNat (w ((p7 : Int) - 1))))) > 2147483647) = true then
 dn (.inl ((p1, p5, p16, p17, p18, p19, p20, p21, p6, p8, p9, p11, p12, p13, (p22, p23, p24, p25))))
 else
 if (Int.toNat (w (((Int.toNat (w ((p7 : Int) - 1)) - 0 : Nat) : Int) - 1)) - 0 + 1) * 8 ≤ roomBound ∧ Int.toNat (w (((Int.toNat (w ((p7 : Int) - 1)) - 0 : Nat) : Int) - 1)) - 0 + 1 ≤ maxLen ∧ Int.toNat (w (((Int.toNat (w ((p7 : Int) - 1)) - 0 : Nat) : Int) - 1)) - 0 ≤ p8 then
 dn (.inr ((w (p1 + 1), p2, p3, p4, p5, Int.toNat (w (((Int.toNat (w ((p7 : Int) - 1)) - 0 : Nat) : Int) - 1)) - 0 + 1, p10, p14, p15, p16, p17, p18, p19, p20, p21, p6, p11, p12, p13, p22, p23, p24, p25, fun (j : Nat) => if j < Int.toNat (w (((Int.toNat (w ((p7 : Int) - 1)) - 0 : Nat) : Int) - 1)) - 0 then p9 j else w (Int.tdiv (p9 (0 + Int.toNat (w (((Int.toNat (w ((p7 : Int) - 1)) - 0 : Nat) : Int) - 1)))) (p9 (0 + Int.toNat (w ((p7 : Int) - 1))))))))
 else
 none
 else
 none
 else
 none
 else
 none
 else
 none
 else
 none
 else
 none
 else
 none
 else
 none
noncomputable def divA (q : Nat) (x : a_pushA) : Option g_pushA := t_divA x some
theorem sc_divA (q : Nat) : ∀ (x : a_pushA) (z : g_pushA), divA q x = some z → SC E8 58 (A_pushA x).1 (A_pushA x).2 (R_pushA z) :=
 lift1 A_pushA R_pushA t_divA (fun x => by kernel_rfl) fun x dn => by
 unfold t_divA ux5
 repeat' first | exact free_none | refine free_ite ?_ ?_ | rfl
def t_negZ {β : Type} (x : a_pushZ) (dn : g_pushZ → Option β) : Option β :=
 ux2 x fun p0 p1 p2 p3 p4 p5 p6 p7 p8 p9 p10 p11 p12 p13 p14 p15 p16 p17 p18 p19 p20 p21 =>
 if 0 ≤ w ((p7 : Int) - 1) ∧ w ((p7 : Int) - 1) < (p7 : Int) then
 if 0 + Int.toNat (w ((p7 : Int) - 1)) < p8 ∧ 1 = 1 then
 if (0 : Int) ≤ (0 : Int) ∧ 0 ≤ w ((p7 : Int) - 1) ∧ w ((p7 : Int) - 1) ≤ (p7 : Int) then
 if decide (w (0 - p9 (0 + Int.toNat (w ((p7 : Int) - 1)))) < (-2147483647)) = true then
 dn (.inl ((p1, p5, p16, p17, p18, p19, p20, p21, p6, p8, p9, p11, p12, p13)))
 else
 if decide (w (0 - p9 (0 + Int.toNat (w ((p7 : Int) - 1)))) > 2147483647) = true then
 dn (.inl ((p1, p5, p16, p17, p18, p19, p20, p21, p6, p8, p9, p11, p12, p13)))
 else
 if (Int.toNat (w ((p7 : Int) - 1)) - 0 + 1) * 8 ≤ roomBound ∧ Int.toNat (w ((p7 : Int) - 1)) - 0 + 1 ≤ maxLen ∧ Int.toNat (w ((p7 : Int) - 1)) - 0 ≤ p8 then
 dn (.inr ((w (p1 + 1), p2, p3, p4, p5, Int.toNat (w ((p7 : Int) - 1)) - 0 + 1, p10, p14, p15, p16, p17, p18, p19, p20, p21, p6, p11, p12, p13, fun (j : Nat) => if j < Int.toNat (w ((p7 : Int) - 1)) - 0 then p9 j else w (0 - p9 (0 + Int.toNat (w ((p7 : Int) - 1)))))))
 else
 none
 else
 none
 else
 none
 else
 none
noncomputable def negZ (q : Nat) (x : a_pushZ) : Option g_pushZ := t_negZ x some
theorem sc_negZ (q : Nat) : ∀ (x : a_pushZ) (z : g_pushZ), negZ q x = some z → SC E8 59 (A_pushZ x).1 (A_pushZ x).2 (R_pushZ z) :=
 lift1 A_pushZ R_pushZ t_negZ (fun x => by kernel_rfl) fun x dn => by
 unfold t_negZ ux2
 repeat' first | exact free_none | refine free_ite ?_ ?_ | rfl
def t_negA {β : Type} (x : a_pushA) (dn : g_pushA → Option β) : Option β :=
 ux5 x fun p0 p1 p2 p3 p4 p5 p6 p7 p8 p9 p10 p11 p12 p13 p14 p15 p16 p17 p18 p19 p20 p21 p22 p23 p24 p25 =>
 if 0 ≤ w ((p7 : Int) - 1) ∧ w ((p7 : Int) - 1) < (p7 : Int) then
 if 0 + Int.toNat (w ((p7 : Int) - 1)) < p8 ∧ 1 = 1 then
 if (0 : Int) ≤ (0 : Int) ∧ 0 ≤ w ((p7 : Int) - 1) ∧ w ((p7 : Int) - 1) ≤ (p7 : Int) then
 if decide (w (0 - p9 (0 + Int.toNat (w ((p7 : Int) - 1)))) < (-2147483647)) = true then
 dn (.inl ((p1, p5, p16, p17, p18, p19, p20, p21, p6, p8, p9, p11, p12, p13, (p22, p23, p24, p25))))
 else
 if decide (w (0 - p9 (0 + Int.toNat (w ((p7 : Int) - 1)))) > 2147483647) = true then
 dn (.inl ((p1, p5, p16, p17, p18, p19, p20, p21, p6, p8, p9, p11, p12, p13, (p22, p23, p24, p25))))
 else
 if (Int.toNat (w ((p7 : Int) - 1)) - 0 + 1) * 8 ≤ roomBound ∧ Int.toNat (w ((p7 : Int) - 1)) - 0 + 1 ≤ maxLen ∧ Int.toNat (w ((p7 : Int) - 1)) - 0 ≤ p8 then
 dn (.inr ((w (p1 + 1), p2, p3, p4, p5, Int.toNat (w ((p7 : Int) - 1)) - 0 + 1, p10, p14, p15, p16, p17, p18, p19, p20, p21, p6, p11, p12, p13, p22, p23, p24, p25, fun (j : Nat) => if j < Int.toNat (w ((p7 : Int) - 1)) - 0 then p9 j else w (0 - p9 (0 + Int.toNat (w ((p7 : Int) - 1)))))))
 else
 none
 else
 none
 else
 none
 else
 none
noncomputable def negA (q : Nat) (x : a_pushA) : Option g_pushA := t_negA x some
theorem sc_negA (q : Nat) : ∀ (x : a_pushA) (z : g_pushA), negA q x = some z → SC E8 59 (A_pushA x).1 (A_pushA x).2 (R_pushA z) :=
 lift1 A_pushA R_pushA t_negA (fun x => by kernel_rfl) fun x dn => by
 unfold t_negA ux5
 repeat' first | exact free_none | refine free_ite ?_ ?_ | rfl
abbrev g_lessZ : Type := Int × Int × Int × Int × Nat × Nat × Nat × Int × Int × Int × Int × Int × Int × Int × Int × (Nat → Int) × Nat × (Nat → Int) × (Nat → Int) × (Nat → Int)
def R_lessZ : g_lessZ → CRes := rz1
def x_lessZ (z : g_lessZ) (k : CRes → Option Ans) : Option Ans := k (R_lessZ z)
theorem xe_lessZ : ∀ z k, x_lessZ z k = k (R_lessZ z) := fun z k => rfl
def t_lessZ {β : Type} (x : a_pushZ) (dn : g_lessZ → Option β) : Option β :=
 ux2 x fun p0 p1 p2 p3 p4 p5 p6 p7 p8 p9 p10 p11 p12 p13 p14 p15 p16 p17 p18 p19 p20 p21 =>
 if 0 ≤ w ((p7 : Int) - 1) ∧ w ((p7 : Int) - 1) < (p7 : Int) then
 if 0 + Int.toNat (w ((p7 : Int) - 1)) < p8 ∧ 1 = 1 then
 if (0 : Int) ≤ (0 : Int) ∧ 0 ≤ w ((p7 : Int) - 1) ∧ w ((p7 : Int) - 1) ≤ (p7 : Int) then
 if 0 ≤ w (((Int.toNat (w ((p7 : Int) - 1)) - 0 : Nat) : Int) - 1) ∧ w (((Int.toNat (w ((p7 : Int) - 1)) - 0 : Nat) : Int) - 1) < ((Int.toNat (w ((p7 : Int) - 1)) - 0 : Nat) : Int) then
 if 0 + Int.toNat (w (((Int.toNat (w ((p7 : Int) - 1)) - 0 : Nat) : Int) - 1)) < p8 ∧ 1 = 1 then
 if (0 : Int) ≤ (0 : Int) ∧ 0 ≤ w (((Int.toNat (w ((p7 : Int) - 1)) - 0 : Nat) : Int) - 1) ∧ w (((Int.toNat (w ((p7 : Int) - 1)) - 0 : Nat) : Int) - 1) ≤ ((Int.toNat (w ((p7 : Int) - 1)) - 0 : Nat) : Int) then
 if decide (p9 (0 + Int.toNat (w (((Int.toNat (w ((p7 : Int) - 1)) - 0 : Nat) : Int) - 1))) < p9 (0 + Int.toNat (w ((p7 : Int) - 1)))) = true then
 if (Int.toNat (w (((Int.toNat (w ((p7 : Int) - 1)) - 0 : Nat) : Int) - 1)) - 0 + 1) * 8 ≤ roomBound ∧ Int.toNat (w (((Int.toNat (w ((p7 : Int) - 1)) - 0 : Nat) : Int) - 1)) - 0 + 1 ≤ maxLen ∧ Int.toNat (w (((Int.toNat (w ((p7 : Int) - 1)) - 0 : Nat) : Int) - 1)) - 0 ≤ p8 then
 dn ((w (p1 + 1), p2, p3, p4, p5, Int.toNat (w (((Int.toNat (w ((p7 : Int) - 1)) - 0 : Nat) : Int) - 1)) - 0 + 1, p10, p14, p15, p16, p17, p18, p19, p20, p21, p6, p11, p12, p13, fun (j : Nat) => if j < Int.toNat (w (((Int.toNat (w ((p7 : Int) - 1)) - 0 : Nat) : Int) - 1)) - 0 then p9 j else 1))
 else
 none
 else
 if (Int.toNat (w (((Int.toNat (w ((p7 : Int) - 1)) - 0 : Nat) : Int) - 1)) - 0 + 1) * 8 ≤ roomBound ∧ Int.toNat (w (((Int.toNat (w ((p7 : Int) - 1)) - 0 : Nat) : Int) - 1)) - 0 + 1 ≤ maxLen ∧ Int.toNat (w (((Int.toNat (w ((p7 : Int) - 1)) - 0 : Nat) : Int) - 1)) - 0 ≤ p8 then
 dn ((w (p1 + 1), p2, p3, p4, p5, Int.toNat (w (((Int.toNat (w ((p7 : Int) - 1)) - 0 : Nat) : Int) - 1)) - 0 + 1, p10, p14, p15, p16, p17, p18, p19, p20, p21, p6, p11, p12, p13, fun (j : Nat) => if j < Int.toNat (w (((Int.toNat (w ((p7 : Int) - 1)) - 0 : Nat) : Int) - 1)) - 0 then p9 j else 0))
 else
 none
 else
 none
 else
 none
 else
 none
 else
 none
 else
 none
 else
 none
noncomputable def lessZ (q : Nat) (x : a_pushZ) : Option g_lessZ := t_lessZ x some
theorem sc_lessZ (q : Nat) : ∀ (x : a_pushZ) (z : g_lessZ), lessZ q x = some z → SC E8 60 (A_pushZ x).1 (A_pushZ x).2 (R_lessZ z) :=
 lift1 A_pushZ R_lessZ t_lessZ (fun x => by kernel_rfl) fun x dn => by
 unfold t_lessZ ux2
 repeat' first | exact free_none | refine free_ite ?_ ?_ | rfl
abbrev g_lessA : Type := Int × Int × Int × Int × Nat × Nat × Nat × Int × Int × Int × Int × Int × Int × Int × Int × (Nat → Int) × Nat × (Nat → Int) × (Nat → Int) × Nat × (Nat → Int) × (Nat → Int) × (Nat → Int) × (Nat → Int)
def R_lessA : g_lessA → CRes := rz3
def x_lessA (z : g_lessA) (k : CRes → Option Ans) : Option Ans := k (R_lessA z)
theorem xe_lessA : ∀ z k, x_lessA z k = k (R_lessA z) := fun z k => rfl
def t_lessA {β : Type} (x : a_pushA) (dn : g_lessA → Option β) : Option β :=
 ux5 x fun p0 p1 p2 p3 p4 p5 p6 p7 p8 p9 p10 p11 p12 p13 p14 p15 p16 p17 p18 p19 p20 p21 p22 p23 p24 p25 =>
 if 0 ≤ w ((p7 : Int) - 1) ∧ w ((p7 : Int) - 1) < (p7 : Int) then
 if 0 + Int.toNat (w ((p7 : Int) - 1)) < p8 ∧ 1 = 1 then
 if (0 : Int) ≤ (0 : Int) ∧ 0 ≤ w ((p7 : Int) - 1) ∧ w ((p7 : Int) - 1) ≤ (p7 : Int) then
 if 0 ≤ w (((Int.toNat (w ((p7 : Int) - 1)) - 0 : Nat) : Int) - 1) ∧ w (((Int.toNat (w ((p7 : Int) - 1)) - 0 : Nat) : Int) - 1) < ((Int.toNat (w ((p7 : Int) - 1)) - 0 : Nat) : Int) then
 if 0 + Int.toNat (w (((Int.toNat (w ((p7 : Int) - 1)) - 0 : Nat) : Int) - 1)) < p8 ∧ 1 = 1 then
 if (0 : Int) ≤ (0 : Int) ∧ 0 ≤ w (((Int.toNat (w ((p7 : Int) - 1)) - 0 : Nat) : Int) - 1) ∧ w (((Int.toNat (w ((p7 : Int) - 1)) - 0 : Nat) : Int) - 1) ≤ ((Int.toNat (w ((p7 : Int) - 1)) - 0 : Nat) : Int) then
 if decide (p9 (0 + Int.toNat (w (((Int.toNat (w ((p7 : Int) - 1)) - 0 : Nat) : Int) - 1))) < p9 (0 + Int.toNat (w ((p7 : Int) - 1)))) = true then
 if (Int.toNat (w (((Int.toNat (w ((p7 : Int) - 1)) - 0 : Nat) : Int) - 1)) - 0 + 1) * 8 ≤ roomBound ∧ Int.toNat (w (((Int.toNat (w ((p7 : Int) - 1)) - 0 : Nat) : Int) - 1)) - 0 + 1 ≤ maxLen ∧ Int.toNat (w (((Int.toNat (w ((p7 : Int) - 1)) - 0 : Nat) : Int) - 1)) - 0 ≤ p8 then
 dn ((w (p1 + 1), p2, p3, p4, p5, Int.toNat (w (((Int.toNat (w ((p7 : Int) - 1)) - 0 : Nat) : Int) - 1)) - 0 + 1, p10, p14, p15, p16, p17, p18, p19, p20, p21, p6, p11, p12, p13, p22, p23, p24, p25, fun (j : Nat) => if j < Int.toNat (w (((Int.toNat (w ((p7 : Int) - 1)) - 0 : Nat) : Int) - 1)) - 0 then p9 j else 1))
 else
 none
 else
 if (Int.toNat (w (((Int.toNat (w ((p7 : Int) - 1)) - 0 : Nat) : Int) - 1)) - 0 + 1) * 8 ≤ roomBound ∧ Int.toNat (w (((Int.toNat (w ((p7 : Int) - 1)) - 0 : Nat) : Int) - 1)) - 0 + 1 ≤ maxLen ∧ Int.toNat (w (((Int.toNat (w ((p7 : Int) - 1)) - 0 : Nat) : Int) - 1)) - 0 ≤ p8 then
 dn ((w (p1 + 1), p2, p3, p4, p5, Int.toNat (w (((Int.toNat (w ((p7 : Int) - 1)) - 0 : Nat) : Int) - 1)) - 0 + 1, p10, p14, p15, p16, p17, p18, p19, p20, p21, p6, p11, p12, p13, p22, p23, p24, p25, fun (j : Nat) => if j < Int.toNat (w (((Int.toNat (w ((p7 : Int) - 1)) - 0 : Nat) : Int) - 1)) - 0 then p9 j else 0))
 else
 none
 else
 none
 else
 none
 else
 none
 else
 none
 else
 none
 else
 none
noncomputable def lessA (q : Nat) (x : a_pushA) : Option g_lessA := t_lessA x some
theorem sc_lessA (q : Nat) : ∀ (x : a_pushA) (z : g_lessA), lessA q x = some z → SC E8 60 (A_pushA x).1 (A_pushA x).2 (R_lessA z) :=
 lift1 A_pushA R_lessA t_lessA (fun x => by kernel_rfl) fun x dn => by
 unfold t_lessA ux5
 repeat' first | exact free_none | refine free_ite ?_ ?_ | rfl
def t_atMostZ {β : Type} (x : a_pushZ) (dn : g_lessZ → Option β) : Option β :=
 ux2 x fun p0 p1 p2 p3 p4 p5 p6 p7 p8 p9 p10 p11 p12 p13 p14 p15 p16 p17 p18 p19 p20 p21 =>
 if 0 ≤ w ((p7 : Int) - 1) ∧ w ((p7 : Int) - 1) < (p7 : Int) then
 if 0 + Int.toNat (w ((p7 : Int) - 1)) < p8 ∧ 1 = 1 then
 if (0 : Int) ≤ (0 : Int) ∧ 0 ≤ w ((p7 : Int) - 1) ∧ w ((p7 : Int) - 1) ≤ (p7 : Int) then
 if 0 ≤ w (((Int.toNat (w ((p7 : Int) - 1)) - 0 : Nat) : Int) - 1) ∧ w (((Int.toNat (w ((p7 : Int) - 1)) - 0 : Nat) : Int) - 1) < ((Int.toNat (w ((p7 : Int) - 1)) - 0 : Nat) : Int) then
 if 0 + Int.toNat (w (((Int.toNat (w ((p7 : Int) - 1)) - 0 : Nat) : Int) - 1)) < p8 ∧ 1 = 1 then
 if (0 : Int) ≤ (0 : Int) ∧ 0 ≤ w (((Int.toNat (w ((p7 : Int) - 1)) - 0 : Nat) : Int) - 1) ∧ w (((Int.toNat (w ((p7 : Int) - 1)) - 0 : Nat) : Int) - 1) ≤ ((Int.toNat (w ((p7 : Int) - 1)) - 0 : Nat) : Int) then
 if decide (p9 (0 + Int.toNat (w (((Int.toNat (w ((p7 : Int) - 1)) - 0 : Nat) : Int) - 1))) ≤ p9 (0 + Int.toNat (w ((p7 : Int) - 1)))) = true then
 if (Int.toNat (w (((Int.toNat (w ((p7 : Int) - 1)) - 0 : Nat) : Int) - 1)) - 0 + 1) * 8 ≤ roomBound ∧ Int.toNat (w (((Int.toNat (w ((p7 : Int) - 1)) - 0 : Nat) : Int) - 1)) - 0 + 1 ≤ maxLen ∧ Int.toNat (w (((Int.toNat (w ((p7 : Int) - 1)) - 0 : Nat) : Int) - 1)) - 0 ≤ p8 then
 dn ((w (p1 + 1), p2, p3, p4, p5, Int.toNat (w (((Int.toNat (w ((p7 : Int) - 1)) - 0 : Nat) : Int) - 1)) - 0 + 1, p10, p14, p15, p16, p17, p18, p19, p20, p21, p6, p11, p12, p13, fun (j : Nat) => if j < Int.toNat (w (((Int.toNat (w ((p7 : Int) - 1)) - 0 : Nat) : Int) - 1)) - 0 then p9 j else 1))
 else
 none
 else
 if (Int.toNat (w (((Int.toNat (w ((p7 : Int) - 1)) - 0 : Nat) : Int) - 1)) - 0 + 1) * 8 ≤ roomBound ∧ Int.toNat (w (((Int.toNat (w ((p7 : Int) - 1)) - 0 : Nat) : Int) - 1)) - 0 + 1 ≤ maxLen ∧ Int.toNat (w (((Int.toNat (w ((p7 : Int) - 1)) - 0 : Nat) : Int) - 1)) - 0 ≤ p8 then
 dn ((w (p1 + 1), p2, p3, p4, p5, Int.toNat (w (((Int.toNat (w ((p7 : Int) - 1)) - 0 : Nat) : Int) - 1)) - 0 + 1, p10, p14, p15, p16, p17, p18, p19, p20, p21, p6, p11, p12, p13, fun (j : Nat) => if j < Int.toNat (w (((Int.toNat (w ((p7 : Int) - 1)) - 0 : Nat) : Int) - 1)) - 0 then p9 j else 0))
 else
 none
 else
 none
 else
 none
 else
 none
 else
 none
 else
 none
 else
 none
noncomputable def atMostZ (q : Nat) (x : a_pushZ) : Option g_lessZ := t_atMostZ x some
theorem sc_atMostZ (q : Nat) : ∀ (x : a_pushZ) (z : g_lessZ), atMostZ q x = some z → SC E8 61 (A_pushZ x).1 (A_pushZ x).2 (R_lessZ z) :=
 lift1 A_pushZ R_lessZ t_atMostZ (fun x => by kernel_rfl) fun x dn => by
 unfold t_atMostZ ux2
 repeat' first | exact free_none | refine free_ite ?_ ?_ | rfl
def t_atMostA {β : Type} (x : a_pushA) (dn : g_lessA → Option β) : Option β :=
 ux5 x fun p0 p1 p2 p3 p4 p5 p6 p7 p8 p9 p10 p11 p12 p13 p14 p15 p16 p17 p18 p19 p20 p21 p22 p23 p24 p25 =>
 if 0 ≤ w ((p7 : Int) - 1) ∧ w ((p7 : Int) - 1) < (p7 : Int) then
 if 0 + Int.toNat (w ((p7 : Int) - 1)) < p8 ∧ 1 = 1 then
 if (0 : Int) ≤ (0 : Int) ∧ 0 ≤ w ((p7 : Int) - 1) ∧ w ((p7 : Int) - 1) ≤ (p7 : Int) then
 if 0 ≤ w (((Int.toNat (w ((p7 : Int) - 1)) - 0 : Nat) : Int) - 1) ∧ w (((Int.toNat (w ((p7 : Int) - 1)) - 0 : Nat) : Int) - 1) < ((Int.toNat (w ((p7 : Int) - 1)) - 0 : Nat) : Int) then
 if 0 + Int.toNat (w (((Int.toNat (w ((p7 : Int) - 1)) - 0 : Nat) : Int) - 1)) < p8 ∧ 1 = 1 then
 if (0 : Int) ≤ (0 : Int) ∧ 0 ≤ w (((Int.toNat (w ((p7 : Int) - 1)) - 0 : Nat) : Int) - 1) ∧ w (((Int.toNat (w ((p7 : Int) - 1)) - 0 : Nat) : Int) - 1) ≤ ((Int.toNat (w ((p7 : Int) - 1)) - 0 : Nat) : Int) then
 if decide (p9 (0 + Int.toNat (w (((Int.toNat (w ((p7 : Int) - 1)) - 0 : Nat) : Int) - 1))) ≤ p9 (0 + Int.toNat (w ((p7 : Int) - 1)))) = true then
 if (Int.toNat (w (((Int.toNat (w ((p7 : Int) - 1)) - 0 : Nat) : Int) - 1)) - 0 + 1) * 8 ≤ roomBound ∧ Int.toNat (w (((Int.toNat (w ((p7 : Int) - 1)) - 0 : Nat) : Int) - 1)) - 0 + 1 ≤ maxLen ∧ Int.toNat (w (((Int.toNat (w ((p7 : Int) - 1)) - 0 : Nat) : Int) - 1)) - 0 ≤ p8 then
 dn ((w (p1 + 1), p2, p3, p4, p5, Int.toNat (w (((Int.toNat (w ((p7 : Int) - 1)) - 0 : Nat) : Int) - 1)) - 0 + 1, p10, p14, p15, p16, p17, p18, p19, p20, p21, p6, p11, p12, p13, p22, p23, p24, p25, fun (j : Nat) => if j < Int.toNat (w (((Int.toNat (w ((p7 : Int) - 1)) - 0 : Nat) : Int) - 1)) - 0 then p9 j else 1))
 else
 none
 else
 if (Int.toNat (w (((Int.toNat (w ((p7 : Int) - 1)) - 0 : Nat) : Int) - 1)) - 0 + 1) * 8 ≤ roomBound ∧ Int.toNat (w (((Int.toNat (w ((p7 : Int) - 1)) - 0 : Nat) : Int) - 1)) - 0 + 1 ≤ maxLen ∧ Int.toNat (w (((Int.toNat (w ((p7 : Int) - 1)) - 0 : Nat) : Int) - 1)) - 0 ≤ p8 then
 dn ((w (p1 + 1), p2, p3, p4, p5, Int.toNat (w (((Int.toNat (w ((p7 : Int) - 1)) - 0 : Nat) : Int) - 1)) - 0 + 1, p10, p14, p15, p16, p17, p18, p19, p20, p21, p6, p11, p12, p13, p22, p23, p24, p25, fun (j : Nat) => if j < Int.toNat (w (((Int.toNat (w ((p7 : Int) - 1)) - 0 : Nat) : Int) - 1)) - 0 then p9 j else 0))
 else
 none
 else
 none
 else
 none
 else
 none
 else
 none
 else
 none
 else
 none
noncomputable def atMostA (q : Nat) (x : a_pushA) : Option g_lessA := t_atMostA x some
theorem sc_atMostA (q : Nat) : ∀ (x : a_pushA) (z : g_lessA), atMostA q x = some z → SC E8 61 (A_pushA x).1 (A_pushA x).2 (R_lessA z) :=
 lift1 A_pushA R_lessA t_atMostA (fun x => by kernel_rfl) fun x dn => by
 unfold t_atMostA ux5
 repeat' first | exact free_none | refine free_ite ?_ ?_ | rfl
def t_equalZ {β : Type} (x : a_pushZ) (dn : g_lessZ → Option β) : Option β :=
 ux2 x fun p0 p1 p2 p3 p4 p5 p6 p7 p8 p9 p10 p11 p12 p13 p14 p15 p16 p17 p18 p19 p20 p21 =>
 if 0 ≤ w ((p7 : Int) - 1) ∧ w ((p7 : Int) - 1) < (p7 : Int) then
 if 0 + Int.toNat (w ((p7 : Int) - 1)) < p8 ∧ 1 = 1 then
 if (0 : Int) ≤ (0 : Int) ∧ 0 ≤ w ((p7 : Int) - 1) ∧ w ((p7 : Int) - 1) ≤ (p7 : Int) then
 if 0 ≤ w (((Int.toNat (w ((p7 : Int) - 1)) - 0 : Nat) : Int) - 1) ∧ w (((Int.toNat (w ((p7 : Int) - 1)) - 0 : Nat) : Int) - 1) < ((Int.toNat (w ((p7 : Int) - 1)) - 0 : Nat) : Int) then
 if 0 + Int.toNat (w (((Int.toNat (w ((p7 : Int) - 1)) - 0 : Nat) : Int) - 1)) < p8 ∧ 1 = 1 then
 if (0 : Int) ≤ (0 : Int) ∧ 0 ≤ w (((Int.toNat (w ((p7 : Int) - 1)) - 0 : Nat) : Int) - 1) ∧ w (((Int.toNat (w ((p7 : Int) - 1)) - 0 : Nat) : Int) - 1) ≤ ((Int.toNat (w ((p7 : Int) - 1)) - 0 : Nat) : Int) then
 if (p9 (0 + Int.toNat (w (((Int.toNat (w ((p7 : Int) - 1)) - 0 : Nat) : Int) - 1))) == p9 (0 + Int.toNat (w ((p7 : Int) - 1)))) = true then
 if (Int.toNat (w (((Int.toNat (w ((p7 : Int) - 1)) - 0 : Nat) : Int) - 1)) - 0 + 1) * 8 ≤ roomBound ∧ Int.toNat (w (((Int.toNat (w ((p7 : Int) - 1)) - 0 : Nat) : Int) - 1)) - 0 + 1 ≤ maxLen ∧ Int.toNat (w (((Int.toNat (w ((p7 : Int) - 1)) - 0 : Nat) : Int) - 1)) - 0 ≤ p8 then
 dn ((w (p1 + 1), p2, p3, p4, p5, Int.toNat (w (((Int.toNat (w ((p7 : Int) - 1)) - 0 : Nat) : Int) - 1)) - 0 + 1, p10, p14, p15, p16, p17, p18, p19, p20, p21, p6, p11, p12, p13, fun (j : Nat) => if j < Int.toNat (w (((Int.toNat (w ((p7 : Int) - 1)) - 0 : Nat) : Int) - 1)) - 0 then p9 j else 1))
 else
 none
 else
 if (Int.toNat (w (((Int.toNat (w ((p7 : Int) - 1)) - 0 : Nat) : Int) - 1)) - 0 + 1) * 8 ≤ roomBound ∧ Int.toNat (w (((Int.toNat (w ((p7 : Int) - 1)) - 0 : Nat) : Int) - 1)) - 0 + 1 ≤ maxLen ∧ Int.toNat (w (((Int.toNat (w ((p7 : Int) - 1)) - 0 : Nat) : Int) - 1)) - 0 ≤ p8 then
 dn ((w (p1 + 1), p2, p3, p4, p5, Int.toNat (w (((Int.toNat (w ((p7 : Int) - 1)) - 0 : Nat) : Int) - 1)) - 0 + 1, p10, p14, p15, p16, p17, p18, p19, p20, p21, p6, p11, p12, p13, fun (j : Nat) => if j < Int.toNat (w (((Int.toNat (w ((p7 : Int) - 1)) - 0 : Nat) : Int) - 1)) - 0 then p9 j else 0))
 else
 none
 else
 none
 else
 none
 else
 none
 else
 none
 else
 none
 else
 none
noncomputable def equalZ (q : Nat) (x : a_pushZ) : Option g_lessZ := t_equalZ x some
theorem sc_equalZ (q : Nat) : ∀ (x : a_pushZ) (z : g_lessZ), equalZ q x = some z → SC E8 62 (A_pushZ x).1 (A_pushZ x).2 (R_lessZ z) :=
 lift1 A_pushZ R_lessZ t_equalZ (fun x => by kernel_rfl) fun x dn => by
 unfold t_equalZ ux2
 repeat' first | exact free_none | refine free_ite ?_ ?_ | rfl
def t_equalA {β : Type} (x : a_pushA) (dn : g_lessA → Option β) : Option β :=
 ux5 x fun p0 p1 p2 p3 p4 p5 p6 p7 p8 p9 p10 p11 p12 p13 p14 p15 p16 p17 p18 p19 p20 p21 p22 p23 p24 p25 =>
 if 0 ≤ w ((p7 : Int) - 1) ∧ w ((p7 : Int) - 1) < (p7 : Int) then
 if 0 + Int.toNat (w ((p7 : Int) - 1)) < p8 ∧ 1 = 1 then
 if (0 : Int) ≤ (0 : Int) ∧ 0 ≤ w ((p7 : Int) - 1) ∧ w ((p7 : Int) - 1) ≤ (p7 : Int) then
 if 0 ≤ w (((Int.toNat (w ((p7 : Int) - 1)) - 0 : Nat) : Int) - 1) ∧ w (((Int.toNat (w ((p7 : Int) - 1)) - 0 : Nat) : Int) - 1) < ((Int.toNat (w ((p7 : Int) - 1)) - 0 : Nat) : Int) then
 if 0 + Int.toNat (w (((Int.toNat (w ((p7 : Int) - 1)) - 0 : Nat) : Int) - 1)) < p8 ∧ 1 = 1 then
 if (0 : Int) ≤ (0 : Int) ∧ 0 ≤ w (((Int.toNat (w ((p7 : Int) - 1)) - 0 : Nat) : Int) - 1) ∧ w (((Int.toNat (w ((p7 : Int) - 1)) - 0 : Nat) : Int) - 1) ≤ ((Int.toNat (w ((p7 : Int) - 1)) - 0 : Nat) : Int) then
 if (p9 (0 + Int.toNat (w (((Int.toNat (w ((p7 : Int) - 1)) - 0 : Nat) : Int) - 1))) == p9 (0 + Int.toNat (w ((p7 : Int) - 1)))) = true then
 if (Int.toNat (w (((Int.toNat (w ((p7 : Int) - 1)) - 0 : Nat) : Int) - 1)) - 0 + 1) * 8 ≤ roomBound ∧ Int.toNat (w (((Int.toNat (w ((p7 : Int) - 1)) - 0 : Nat) : Int) - 1)) - 0 + 1 ≤ maxLen ∧ Int.toNat (w (((Int.toNat (w ((p7 : Int) - 1)) - 0 : Nat) : Int) - 1)) - 0 ≤ p8 then
 dn ((w (p1 + 1), p2, p3, p4, p5, Int.toNat (w (((Int.toNat (w ((p7 : Int) - 1)) - 0 : Nat) : Int) - 1)) - 0 + 1, p10, p14, p15, p16, p17, p18, p19, p20, p21, p6, p11, p12, p13, p22, p23, p24, p25, fun (j : Nat) => if j < Int.toNat (w (((Int.toNat (w ((p7 : Int) - 1)) - 0 : Nat) : Int) - 1)) - 0 then p9 j else 1))
 else
 none
 else
 if (Int.toNat (w (((Int.toNat (w ((p7 : Int) - 1)) - 0 : Nat) : Int) - 1)) - 0 + 1) * 8 ≤ roomBound ∧ Int.toNat (w (((Int.toNat (w ((p7 : Int) - 1)) - 0 : Nat) : Int) - 1)) - 0 + 1 ≤ maxLen ∧ Int.toNat (w (((Int.toNat (w ((p7 : Int) - 1)) - 0 : Nat) : Int) - 1)) - 0 ≤ p8 then
 dn ((w (p1 + 1), p2, p3, p4, p5, Int.toNat (w (((Int.toNat (w ((p7 : Int) - 1)) - 0 : Nat) : Int) - 1)) - 0 + 1, p10, p14, p15, p16, p17, p18, p19, p20, p21, p6, p11, p12, p13, p22, p23, p24, p25, fun (j : Nat) => if j < Int.toNat (w (((Int.toNat (w ((p7 : Int) - 1)) - 0 : Nat) : Int) - 1)) - 0 then p9 j else 0))
 else
 none
 else
 none
 else
 none
 else
 none
 else
 none
 else
 none
 else
 none
noncomputable def equalA (q : Nat) (x : a_pushA) : Option g_lessA := t_equalA x some
theorem sc_equalA (q : Nat) : ∀ (x : a_pushA) (z : g_lessA), equalA q x = some z → SC E8 62 (A_pushA x).1 (A_pushA x).2 (R_lessA z) :=
 lift1 A_pushA R_lessA t_equalA (fun x => by kernel_rfl) fun x dn => by
 unfold t_equalA ux5
 repeat' first | exact free_none | refine free_ite ?_ ?_ | rfl
def t_notZ {β : Type} (x : a_pushZ) (dn : g_lessZ → Option β) : Option β :=
 ux2 x fun p0 p1 p2 p3 p4 p5 p6 p7 p8 p9 p10 p11 p12 p13 p14 p15 p16 p17 p18 p19 p20 p21 =>
 if 0 ≤ w ((p7 : Int) - 1) ∧ w ((p7 : Int) - 1) < (p7 : Int) then
 if 0 + Int.toNat (w ((p7 : Int) - 1)) < p8 ∧ 1 = 1 then
 if (0 : Int) ≤ (0 : Int) ∧ 0 ≤ w ((p7 : Int) - 1) ∧ w ((p7 : Int) - 1) ≤ (p7 : Int) then
 if (p9 (0 + Int.toNat (w ((p7 : Int) - 1))) == 0) = true then
 if (Int.toNat (w ((p7 : Int) - 1)) - 0 + 1) * 8 ≤ roomBound ∧ Int.toNat (w ((p7 : Int) - 1)) - 0 + 1 ≤ maxLen ∧ Int.toNat (w ((p7 : Int) - 1)) - 0 ≤ p8 then
 dn ((w (p1 + 1), p2, p3, p4, p5, Int.toNat (w ((p7 : Int) - 1)) - 0 + 1, p10, p14, p15, p16, p17, p18, p19, p20, p21, p6, p11, p12, p13, fun (j : Nat) => if j < Int.toNat (w ((p7 : Int) - 1)) - 0 then p9 j else 1))
 else
 none
 else
 if (Int.toNat (w ((p7 : Int) - 1)) - 0 + 1) * 8 ≤ roomBound ∧ Int.toNat (w ((p7 : Int) - 1)) - 0 + 1 ≤ maxLen ∧ Int.toNat (w ((p7 : Int) - 1)) - 0 ≤ p8 then
 dn ((w (p1 + 1), p2, p3, p4, p5, Int.toNat (w ((p7 : Int) - 1)) - 0 + 1, p10, p14, p15, p16, p17, p18, p19, p20, p21, p6, p11, p12, p13, fun (j : Nat) => if j < Int.toNat (w ((p7 : Int) - 1)) - 0 then p9 j else 0))
 else
 none
 else
 none
 else
 none
 else
 none
noncomputable def notZ (q : Nat) (x : a_pushZ) : Option g_lessZ := t_notZ x some
theorem sc_notZ (q : Nat) : ∀ (x : a_pushZ) (z : g_lessZ), notZ q x = some z → SC E8 63 (A_pushZ x).1 (A_pushZ x).2 (R_lessZ z) :=
 lift1 A_pushZ R_lessZ t_notZ (fun x => by kernel_rfl) fun x dn => by
 unfold t_notZ ux2
 repeat' first | exact free_none | refine free_ite ?_ ?_ | rfl
def t_notA {β : Type} (x : a_pushA) (dn : g_lessA → Option β) : Option β :=
 ux5 x fun p0 p1 p2 p3 p4 p5 p6 p7 p8 p9 p10 p11 p12 p13 p14 p15 p16 p17 p18 p19 p20 p21 p22 p23 p24 p25 =>
 if 0 ≤ w ((p7 : Int) - 1) ∧ w ((p7 : Int) - 1) < (p7 : Int) then
 if 0 + Int.toNat (w ((p7 : Int) - 1)) < p8 ∧ 1 = 1 then
 if (0 : Int) ≤ (0 : Int) ∧ 0 ≤ w ((p7 : Int) - 1) ∧ w ((p7 : Int) - 1) ≤ (p7 : Int) then
 if (p9 (0 + Int.toNat (w ((p7 : Int) - 1))) == 0) = true then
 if (Int.toNat (w ((p7 : Int) - 1)) - 0 + 1) * 8 ≤ roomBound ∧ Int.toNat (w ((p7 : Int) - 1)) - 0 + 1 ≤ maxLen ∧ Int.toNat (w ((p7 : Int) - 1)) - 0 ≤ p8 then
 dn ((w (p1 + 1), p2, p3, p4, p5, Int.toNat (w ((p7 : Int) - 1)) - 0 + 1, p10, p14, p15, p16, p17, p18, p19, p20, p21, p6, p11, p12, p13, p22, p23, p24, p25, fun (j : Nat) => if j < Int.toNat (w ((p7 : Int) - 1)) - 0 then p9 j else 1))
 else
 none
 else
 if (Int.toNat (w ((p7 : Int) - 1)) - 0 + 1) * 8 ≤ roomBound ∧ Int.toNat (w ((p7 : Int) - 1)) - 0 + 1 ≤ maxLen ∧ Int.toNat (w ((p7 : Int) - 1)) - 0 ≤ p8 then
 dn ((w (p1 + 1), p2, p3, p4, p5, Int.toNat (w ((p7 : Int) - 1)) - 0 + 1, p10, p14, p15, p16, p17, p18, p19, p20, p21, p6, p11, p12, p13, p22, p23, p24, p25, fun (j : Nat) => if j < Int.toNat (w ((p7 : Int) - 1)) - 0 then p9 j else 0))
 else
 none
 else
 none
 else
 none
 else
 none
noncomputable def notA (q : Nat) (x : a_pushA) : Option g_lessA := t_notA x some
theorem sc_notA (q : Nat) : ∀ (x : a_pushA) (z : g_lessA), notA q x = some z → SC E8 63 (A_pushA x).1 (A_pushA x).2 (R_lessA z) :=
 lift1 A_pushA R_lessA t_notA (fun x => by kernel_rfl) fun x dn => by
 unfold t_notA ux5
 repeat' first | exact free_none | refine free_ite ?_ ?_ | rfl
def t_jumpZ {β : Type} (x : a_pushZ) (dn : g_storeZ → Option β) : Option β :=
 ux2 x fun p0 p1 p2 p3 p4 p5 p6 p7 p8 p9 p10 p11 p12 p13 p14 p15 p16 p17 p18 p19 p20 p21 =>
 dn ((p0, p2, p3, p4, p5, p7, p10, p14, p15, p16, p17, p18, p19, p20, p21, p6, p8, p9, p11, p12, p13))
noncomputable def jumpZ (q : Nat) (x : a_pushZ) : Option g_storeZ := t_jumpZ x some
theorem sc_jumpZ (q : Nat) : ∀ (x : a_pushZ) (z : g_storeZ), jumpZ q x = some z → SC E8 64 (A_pushZ x).1 (A_pushZ x).2 (R_storeZ z) :=
 lift1 A_pushZ R_storeZ t_jumpZ (fun x => by kernel_rfl) fun x dn => by
 unfold t_jumpZ ux2
 repeat' first | exact free_none | refine free_ite ?_ ?_ | rfl
def t_jumpA {β : Type} (x : a_pushA) (dn : g_storeA → Option β) : Option β :=
 ux5 x fun p0 p1 p2 p3 p4 p5 p6 p7 p8 p9 p10 p11 p12 p13 p14 p15 p16 p17 p18 p19 p20 p21 p22 p23 p24 p25 =>
 dn ((p0, p2, p3, p4, p5, p7, p10, p14, p15, p16, p17, p18, p19, p20, p21, p6, p8, p9, p11, p12, p13, (p22, p23, p24, p25)))
noncomputable def jumpA (q : Nat) (x : a_pushA) : Option g_storeA := t_jumpA x some
theorem sc_jumpA (q : Nat) : ∀ (x : a_pushA) (z : g_storeA), jumpA q x = some z → SC E8 64 (A_pushA x).1 (A_pushA x).2 (R_storeA z) :=
 lift1 A_pushA R_storeA t_jumpA (fun x => by kernel_rfl) fun x dn => by
 unfold t_jumpA ux5
 repeat' first | exact free_none | refine free_ite ?_ ?_ | rfl
def t_unlessZ {β : Type} (x : a_pushZ) (dn : g_storeZ → Option β) : Option β :=
 ux2 x fun p0 p1 p2 p3 p4 p5 p6 p7 p8 p9 p10 p11 p12 p13 p14 p15 p16 p17 p18 p19 p20 p21 =>
 if 0 ≤ w ((p7 : Int) - 1) ∧ w ((p7 : Int) - 1) < (p7 : Int) then
 if 0 + Int.toNat (w ((p7 : Int) - 1)) < p8 ∧ 1 = 1 then
 if (0 : Int) ≤ (0 : Int) ∧ 0 ≤ w ((p7 : Int) - 1) ∧ w ((p7 : Int) - 1) ≤ (p7 : Int) then
 if (p9 (0 + Int.toNat (w ((p7 : Int) - 1))) == 0) = true then
 dn ((p0, p2, p3, p4, p5, Int.toNat (w ((p7 : Int) - 1)) - 0, p10, p14, p15, p16, p17, p18, p19, p20, p21, p6, p8, p9, p11, p12, p13))
 else
 dn ((w (p1 + 1), p2, p3, p4, p5, Int.toNat (w ((p7 : Int) - 1)) - 0, p10, p14, p15, p16, p17, p18, p19, p20, p21, p6, p8, p9, p11, p12, p13))
 else
 none
 else
 none
 else
 none
noncomputable def unlessZ (q : Nat) (x : a_pushZ) : Option g_storeZ := t_unlessZ x some
theorem sc_unlessZ (q : Nat) : ∀ (x : a_pushZ) (z : g_storeZ), unlessZ q x = some z → SC E8 65 (A_pushZ x).1 (A_pushZ x).2 (R_storeZ z) :=
 lift1 A_pushZ R_storeZ t_unlessZ (fun x => by kernel_rfl) fun x dn => by
 unfold t_unlessZ ux2
 repeat' first | exact free_none | refine free_ite ?_ ?_ | rfl
def t_unlessA {β : Type} (x : a_pushA) (dn : g_storeA → Option β) : Option β :=
 ux5 x fun p0 p1 p2 p3 p4 p5 p6 p7 p8 p9 p10 p11 p12 p13 p14 p15 p16 p17 p18 p19 p20 p21 p22 p23 p24 p25 =>
 if 0 ≤ w ((p7 : Int) - 1) ∧ w ((p7 : Int) - 1) < (p7 : Int) then
 if 0 + Int.toNat (w ((p7 : Int) - 1)) < p8 ∧ 1 = 1 then
 if (0 : Int) ≤ (0 : Int) ∧ 0 ≤ w ((p7 : Int) - 1) ∧ w ((p7 : Int) - 1) ≤ (p7 : Int) then
 if (p9 (0 + Int.toNat (w ((p7 : Int) - 1))) == 0) = true then
 dn ((p0, p2, p3, p4, p5, Int.toNat (w ((p7 : Int) - 1)) - 0, p10, p14, p15, p16, p17, p18, p19, p20, p21, p6, p8, p9, p11, p12, p13, (p22, p23, p24, p25)))
 else
 dn ((w (p1 + 1), p2, p3, p4, p5, Int.toNat (w ((p7 : Int) - 1)) - 0, p10, p14, p15, p16, p17, p18, p19, p20, p21, p6, p8, p9, p11, p12, p13, (p22, p23, p24, p25)))
 else
 none
 else
 none
 else
 none
noncomputable def unlessA (q : Nat) (x : a_pushA) : Option g_storeA := t_unlessA x some
theorem sc_unlessA (q : Nat) : ∀ (x : a_pushA) (z : g_storeA), unlessA q x = some z → SC E8 65 (A_pushA x).1 (A_pushA x).2 (R_storeA z) :=
 lift1 A_pushA R_storeA t_unlessA (fun x => by kernel_rfl) fun x dn => by
 unfold t_unlessA ux5
 repeat' first | exact free_none | refine free_ite ?_ ?_ | rfl
def rz6 : (Int × Int × Int × Int × Nat × Nat × Nat × Int × Int × Int × Int × Int × Int × Int × Int × (Nat → Int) × Nat × (Nat → Int) × (Nat → Int) × (Nat → Int)) → CRes := fun z => CRes.ret (V.tup []) [some (Chunk.blk [i64 (z.1), i64 (z.2.1), i64 (z.2.2.1), i64 (z.2.2.2.1), V.sl 1 1 0 (z.2.2.2.2.1), V.sl 2 1 0 (z.2.2.2.2.2.1), V.sl 5 2 0 (z.2.2.2.2.2.2.1), i64 (z.2.2.2.2.2.2.2.1), i64 (z.2.2.2.2.2.2.2.2.1), i64 (z.2.2.2.2.2.2.2.2.2.1), i64 (z.2.2.2.2.2.2.2.2.2.2.1), i64 (z.2.2.2.2.2.2.2.2.2.2.2.1), i64 (z.2.2.2.2.2.2.2.2.2.2.2.2.1), i64 (z.2.2.2.2.2.2.2.2.2.2.2.2.2.1), i64 (z.2.2.2.2.2.2.2.2.2.2.2.2.2.2.1), V.fn 37 [V.ptr 4 0], bo false]), some (Chunk.row 3 1 (z.2.2.2.2.1) fun (j : Nat) => [i64 (z.2.2.2.2.2.2.2.2.2.2.2.2.2.2.2.1 j)]), some (Chunk.row 3 1 (z.2.2.2.2.2.2.2.2.2.2.2.2.2.2.2.2.1) fun (j : Nat) => [i64 (z.2.2.2.2.2.2.2.2.2.2.2.2.2.2.2.2.2.1 j)]), none, some (Chunk.blk [nilS]), some (Chunk.row 81 2 (z.2.2.2.2.2.2.1) fun (j : Nat) => [i64 (z.2.2.2.2.2.2.2.2.2.2.2.2.2.2.2.2.2.2.1 j), i64 (z.2.2.2.2.2.2.2.2.2.2.2.2.2.2.2.2.2.2.2 j)])]
def R_repeat_Z : g_lessZ → CRes := rz6
def x_repeat_Z (z : g_lessZ) (k : CRes → Option Ans) : Option Ans := k (R_repeat_Z z)
theorem xe_repeat_Z : ∀ z k, x_repeat_Z z k = k (R_repeat_Z z) := fun z k => rfl
def t_repeat_Z {β : Type} (x : a_pushZ) (dn : g_lessZ → Option β) : Option β :=
 ux2 x fun p0 p1 p2 p3 p4 p5 p6 p7 p8 p9 p10 p11 p12 p13 p14 p15 p16 p17 p18 p19 p20 p21 =>
 if (p10 + 1) * 16 ≤ roomBound ∧ p10 + 1 ≤ maxLen ∧ p10 ≤ p11 then
 dn ((w (p1 + 1), p2, p3, p4, p5, p7, p10 + 1, p14, p15, p16, p17, p18, p19, p20, p21, p6, p8, p9, fun (j : Nat) => if j < p10 then p12 j else w (p1 + 1), fun (j : Nat) => if j < p10 then p13 j else p0))
 else
 none
noncomputable def repeat_Z (q : Nat) (x : a_pushZ) : Option g_lessZ := t_repeat_Z x some
theorem sc_repeat_Z (q : Nat) : ∀ (x : a_pushZ) (z : g_lessZ), repeat_Z q x = some z → SC E8 66 (A_pushZ x).1 (A_pushZ x).2 (R_repeat_Z z) :=
 lift1 A_pushZ R_repeat_Z t_repeat_Z (fun x => by kernel_rfl) fun x dn => by
 unfold t_repeat_Z ux2
 repeat' first | exact free_none | refine free_ite ?_ ?_ | rfl
abbrev g_repeat_A : Type := Int × Int × Int × Int × Nat × Nat × Nat × Int × Int × Int × Int × Int × Int × Int × Int × (Nat → Int) × Nat × (Nat → Int) × Nat × (Nat → Int) × (Nat → Int) × (Nat → Int) × (Nat → Int) × (Nat → Int)
def rz7 : (Int × Int × Int × Int × Nat × Nat × Nat × Int × Int × Int × Int × Int × Int × Int × Int × (Nat → Int) × Nat × (Nat → Int) × Nat × (Nat → Int) × (Nat → Int) × (Nat → Int) × (Nat → Int) × (Nat → Int)) → CRes := fun z => CRes.ret (V.tup []) [some (Chunk.blk [i64 (z.1), i64 (z.2.1), i64 (z.2.2.1), i64 (z.2.2.2.1), V.sl 1 1 0 (z.2.2.2.2.1), V.sl 2 1 0 (z.2.2.2.2.2.1), V.sl 6 2 0 (z.2.2.2.2.2.2.1), i64 (z.2.2.2.2.2.2.2.1), i64 (z.2.2.2.2.2.2.2.2.1), i64 (z.2.2.2.2.2.2.2.2.2.1), i64 (z.2.2.2.2.2.2.2.2.2.2.1), i64 (z.2.2.2.2.2.2.2.2.2.2.2.1), i64 (z.2.2.2.2.2.2.2.2.2.2.2.2.1), i64 (z.2.2.2.2.2.2.2.2.2.2.2.2.2.1), i64 (z.2.2.2.2.2.2.2.2.2.2.2.2.2.2.1), V.fn 37 [V.ptr 4 0], bo false]), some (Chunk.row 3 1 (z.2.2.2.2.1) fun (j : Nat) => [i64 (z.2.2.2.2.2.2.2.2.2.2.2.2.2.2.2.1 j)]), some (Chunk.row 3 1 (z.2.2.2.2.2.2.2.2.2.2.2.2.2.2.2.2.1) fun (j : Nat) => [i64 (z.2.2.2.2.2.2.2.2.2.2.2.2.2.2.2.2.2.1 j)]), none, some (Chunk.blk [V.sl 5 3 0 (z.2.2.2.2.2.2.2.2.2.2.2.2.2.2.2.2.2.2.1)]), some (Chunk.row 51 3 (z.2.2.2.2.2.2.2.2.2.2.2.2.2.2.2.2.2.2.1) fun (j : Nat) => [i64 (z.2.2.2.2.2.2.2.2.2.2.2.2.2.2.2.2.2.2.2.1 j), i64 (z.2.2.2.2.2.2.2.2.2.2.2.2.2.2.2.2.2.2.2.2.1 j), i64 (z.2.2.2.2.2.2.2.2.2.2.2.2.2.2.2.2.2.2.2.2.2.1 j)]), some (Chunk.row 81 2 (z.2.2.2.2.2.2.1) fun (j : Nat) => [i64 (z.2.2.2.2.2.2.2.2.2.2.2.2.2.2.2.2.2.2.2.2.2.2.1 j), i64 (z.2.2.2.2.2.2.2.2.2.2.2.2.2.2.2.2.2.2.2.2.2.2.2 j)])]
def R_repeat_A : g_repeat_A → CRes := rz7
def x_repeat_A (z : g_repeat_A) (k : CRes → Option Ans) : Option Ans := k (R_repeat_A z)
theorem xe_repeat_A : ∀ z k, x_repeat_A z k = k (R_repeat_A z) := fun z k => rfl
def t_repeat_A {β : Type} (x : a_pushA) (dn : g_repeat_A → Option β) : Option β :=
 ux5 x fun p0 p1 p2 p3 p4 p5 p6 p7 p8 p9 p10 p11 p12 p13 p14 p15 p16 p17 p18 p19 p20 p21 p22 p23 p24 p25 =>
 if (p10 + 1) * 16 ≤ roomBound ∧ p10 + 1 ≤ maxLen ∧ p10 ≤ p11 then
 dn ((w (p1 + 1), p2, p3, p4, p5, p7, p10 + 1, p14, p15, p16, p17, p18, p19, p20, p21, p6, p8, p9, p22, p23, p24, p25, fun (j : Nat) => if j < p10 then p12 j else w (p1 + 1), fun (j : Nat) => if j < p10 then p13 j else p0))
 else
 none
noncomputable def repeat_A (q : Nat) (x : a_pushA) : Option g_repeat_A := t_repeat_A x some
theorem sc_repeat_A (q : Nat) : ∀ (x : a_pushA) (z : g_repeat_A), repeat_A q x = some z → SC E8 66 (A_pushA x).1 (A_pushA x).2 (R_repeat_A z) :=
 lift1 A_pushA R_repeat_A t_repeat_A (fun x => by kernel_rfl) fun x dn => by
 unfold t_repeat_A ux5
 repeat' first | exact free_none | refine free_ite ?_ ?_ | rfl
def t_nextZ {β : Type} (x : a_pushZ) (dn : g_storeZ → Option β) : Option β :=
 ux2 x fun p0 p1 p2 p3 p4 p5 p6 p7 p8 p9 p10 p11 p12 p13 p14 p15 p16 p17 p18 p19 p20 p21 =>
 if 0 ≤ w ((p10 : Int) - 1) ∧ w ((p10 : Int) - 1) < (p10 : Int) then
 if 0 + Int.toNat (w ((p10 : Int) - 1)) < p11 ∧ 2 = 2 then
 if 0 ≤ w ((p10 : Int) - 1) ∧ w ((p10 : Int) - 1) < (p10 : Int) then
 if 0 + Int.toNat (w ((p10 : Int) - 1)) < p11 ∧ 2 = 2 then
 if 0 ≤ w ((p10 : Int) - 1) ∧ w ((p10 : Int) - 1) < (p10 : Int) then
 if 0 + Int.toNat (w ((p10 : Int) - 1)) < p11 ∧ 2 = 2 then
 if decide ((if 0 + Int.toNat (w ((p10 : Int) - 1)) = 0 + Int.toNat (w ((p10 : Int) - 1)) then w (p13 (0 + Int.toNat (w ((p10 : Int) - 1))) - 1) else p13 (0 + Int.toNat (w ((p10 : Int) - 1)))) > 0) = true then
 if 0 ≤ w ((p10 : Int) - 1) ∧ w ((p10 : Int) - 1) < (p10 : Int) then
 if 0 + Int.toNat (w ((p10 : Int) - 1)) < p11 ∧ 2 = 2 then
 dn ((p12 (0 + Int.toNat (w ((p10 : Int) - 1))), p2, p3, p4, p5, p7, p10, p14, p15, p16, p17, p18, p19, p20, p21, p6, p8, p9, p11, p12, fun (j : Nat) => if j = 0 + Int.toNat (w ((p10 : Int) - 1)) then w (p13 (0 + Int.toNat (w ((p10 : Int) - 1))) - 1) else p13 j))
 else
 none
 else
 none
 else
 if (0 : Int) ≤ (0 : Int) ∧ 0 ≤ w ((p10 : Int) - 1) ∧ w ((p10 : Int) - 1) ≤ (p10 : Int) then
 dn ((w (p1 + 1), p2, p3, p4, p5, p7, Int.toNat (w ((p10 : Int) - 1)) - 0, p14, p15, p16, p17, p18, p19, p20, p21, p6, p8, p9, p11, p12, fun (j : Nat) => if j = 0 + Int.toNat (w ((p10 : Int) - 1)) then w (p13 (0 + Int.toNat (w ((p10 : Int) - 1))) - 1) else p13 j))
 else
 none
 else
 none
 else
 none
 else
 none
 else
 none
 else
 none
 else
 none
noncomputable def nextZ (q : Nat) (x : a_pushZ) : Option g_storeZ := t_nextZ x some
theorem sc_nextZ (q : Nat) : ∀ (x : a_pushZ) (z : g_storeZ), nextZ q x = some z → SC E8 67 (A_pushZ x).1 (A_pushZ x).2 (R_storeZ z) :=
 lift1 A_pushZ R_storeZ t_nextZ (fun x => by kernel_rfl) fun x dn => by
 unfold t_nextZ ux2
 repeat' first | exact free_none | refine free_ite ?_ ?_ | rfl
def t_nextA {β : Type} (x : a_pushA) (dn : g_storeA → Option β) : Option β :=
 ux5 x fun p0 p1 p2 p3 p4 p5 p6 p7 p8 p9 p10 p11 p12 p13 p14 p15 p16 p17 p18 p19 p20 p21 p22 p23 p24 p25 =>
 if 0 ≤ w ((p10 : Int) - 1) ∧ w ((p10 : Int) - 1) < (p10 : Int) then
 if 0 + Int.toNat (w ((p10 : Int) - 1)) < p11 ∧ 2 = 2 then
 if 0 ≤ w ((p10 : Int) - 1) ∧ w ((p10 : Int) - 1) < (p10 : Int) then
 if 0 + Int.toNat (w ((p10 : Int) - 1)) < p11 ∧ 2 = 2 then
 if 0 ≤ w ((p10 : Int) - 1) ∧ w ((p10 : Int) - 1) < (p10 : Int) then
 if 0 + Int.toNat (w ((p10 : Int) - 1)) < p11 ∧ 2 = 2 then
 if decide ((if 0 + Int.toNat (w ((p10 : Int) - 1)) = 0 + Int.toNat (w ((p10 : Int) - 1)) then w (p13 (0 + Int.toNat (w ((p10 : Int) - 1))) - 1) else p13 (0 + Int.toNat (w ((p10 : Int) - 1)))) > 0) = true then
 if 0 ≤ w ((p10 : Int) - 1) ∧ w ((p10 : Int) - 1) < (p10 : Int) then
 if 0 + Int.toNat (w ((p10 : Int) - 1)) < p11 ∧ 2 = 2 then
 dn ((p12 (0 + Int.toNat (w ((p10 : Int) - 1))), p2, p3, p4, p5, p7, p10, p14, p15, p16, p17, p18, p19, p20, p21, p6, p8, p9, p11, p12, fun (j : Nat) => if j = 0 + Int.toNat (w ((p10 : Int) - 1)) then w (p13 (0 + Int.toNat (w ((p10 : Int) - 1))) - 1) else p13 j, (p22, p23, p24, p25)))
 else
 none
 else
 none
 else
 if (0 : Int) ≤ (0 : Int) ∧ 0 ≤ w ((p10 : Int) - 1) ∧ w ((p10 : Int) - 1) ≤ (p10 : Int) then
 dn ((w (p1 + 1), p2, p3, p4, p5, p7, Int.toNat (w ((p10 : Int) - 1)) - 0, p14, p15, p16, p17, p18, p19, p20, p21, p6, p8, p9, p11, p12, fun (j : Nat) => if j = 0 + Int.toNat (w ((p10 : Int) - 1)) then w (p13 (0 + Int.toNat (w ((p10 : Int) - 1))) - 1) else p13 j, (p22, p23, p24, p25)))
 else
 none
 else
 none
 else
 none
 else
 none
 else
 none
 else
 none
 else
 none
noncomputable def nextA (q : Nat) (x : a_pushA) : Option g_storeA := t_nextA x some
theorem sc_nextA (q : Nat) : ∀ (x : a_pushA) (z : g_storeA), nextA q x = some z → SC E8 67 (A_pushA x).1 (A_pushA x).2 (R_storeA z) :=
 lift1 A_pushA R_storeA t_nextA (fun x => by kernel_rfl) fun x dn => by
 unfold t_nextA ux5
 repeat' first | exact free_none | refine free_ite ?_ ?_ | rfl
abbrev g_waitZ : Type := (Int × Int × Int × Int × Nat × Nat × Nat × Int × Int × Int × Int × Int × Int × Int × Int × (Nat → Int) × Nat × (Nat → Int) × Nat × (Nat → Int) × (Nat → Int)) ⊕ (Int × Int × Int × Int × Nat × Nat × Nat × Int × Int × Int × Int × Int × Int × Int × Int × (Nat → Int) × Nat × (Nat → Int) × Nat × (Nat → Int) × (Nat → Int))
def rz8 : (Int × Int × Int × Int × Nat × Nat × Nat × Int × Int × Int × Int × Int × Int × Int × Int × (Nat → Int) × Nat × (Nat → Int) × Nat × (Nat → Int) × (Nat → Int)) → CRes := fun z => CRes.ret (V.tup []) [some (Chunk.blk [i64 (z.1), i64 (z.2.1), i64 (z.2.2.1), i64 (z.2.2.2.1), V.sl 1 1 0 (z.2.2.2.2.1), V.sl 2 1 0 (z.2.2.2.2.2.1), V.sl 3 2 0 (z.2.2.2.2.2.2.1), i64 (z.2.2.2.2.2.2.2.1), i64 (z.2.2.2.2.2.2.2.2.1), i64 (z.2.2.2.2.2.2.2.2.2.1), i64 (z.2.2.2.2.2.2.2.2.2.2.1), i64 (z.2.2.2.2.2.2.2.2.2.2.2.1), i64 (z.2.2.2.2.2.2.2.2.2.2.2.2.1), i64 (z.2.2.2.2.2.2.2.2.2.2.2.2.2.1), i64 (z.2.2.2.2.2.2.2.2.2.2.2.2.2.2.1), V.fn 37 [V.ptr 4 0], bo true]), some (Chunk.row 3 1 (z.2.2.2.2.1) fun (j : Nat) => [i64 (z.2.2.2.2.2.2.2.2.2.2.2.2.2.2.2.1 j)]), some (Chunk.row 3 1 (z.2.2.2.2.2.2.2.2.2.2.2.2.2.2.2.2.1) fun (j : Nat) => [i64 (z.2.2.2.2.2.2.2.2.2.2.2.2.2.2.2.2.2.1 j)]), some (Chunk.row 81 2 (z.2.2.2.2.2.2.2.2.2.2.2.2.2.2.2.2.2.2.1) fun (j : Nat) => [i64 (z.2.2.2.2.2.2.2.2.2.2.2.2.2.2.2.2.2.2.2.1 j), i64 (z.2.2.2.2.2.2.2.2.2.2.2.2.2.2.2.2.2.2.2.2 j)]), some (Chunk.blk [nilS])]
def R_waitZ : g_waitZ → CRes := Sum.elim rz8 rz4
def x_waitZ (z : g_waitZ) (k : CRes → Option Ans) : Option Ans := Sum.elim (fun za => k (R_waitZ (.inl za))) (fun zb => k (R_waitZ (.inr zb))) z
theorem xe_waitZ : ∀ z k, x_waitZ z k = k (R_waitZ z) := fun z k => by
 rcases z with z | z <;> rfl
def t_waitZ {β : Type} (x : a_pushZ) (dn : g_waitZ → Option β) : Option β :=
 ux2 x fun p0 p1 p2 p3 p4 p5 p6 p7 p8 p9 p10 p11 p12 p13 p14 p15 p16 p17 p18 p19 p20 p21 =>
 if decide (p0 > 0) = true then
 dn (.inl ((w (p1 + 1), w (p0 - 1), p3, p4, p5, p7, p10, p14, p15, p16, p17, p18, p19, p20, p21, p6, p8, p9, p11, p12, p13)))
 else
 dn (.inr ((w (p1 + 1), p2, p3, p4, p5, p7, p10, p14, p15, p16, p17, p18, p19, p20, p21, p6, p8, p9, p11, p12, p13)))
noncomputable def waitZ (q : Nat) (x : a_pushZ) : Option g_waitZ := t_waitZ x some
theorem sc_waitZ (q : Nat) : ∀ (x : a_pushZ) (z : g_waitZ), waitZ q x = some z → SC E8 68 (A_pushZ x).1 (A_pushZ x).2 (R_waitZ z) :=
 lift1 A_pushZ R_waitZ t_waitZ (fun x => by kernel_rfl) fun x dn => by
 unfold t_waitZ ux2
 repeat' first | exact free_none | refine free_ite ?_ ?_ | rfl
abbrev g_waitA : Type := (Int × Int × Int × Int × Nat × Nat × Nat × Int × Int × Int × Int × Int × Int × Int × Int × (Nat → Int) × Nat × (Nat → Int) × Nat × (Nat → Int) × (Nat → Int) × Nat × (Nat → Int) × (Nat → Int) × (Nat → Int)) ⊕ (Int × Int × Int × Int × Nat × Nat × Nat × Int × Int × Int × Int × Int × Int × Int × Int × (Nat → Int) × Nat × (Nat → Int) × Nat × (Nat → Int) × (Nat → Int) × Nat × (Nat → Int) × (Nat → Int) × (Nat → Int))
def rz9 : (Int × Int × Int × Int × Nat × Nat × Nat × Int × Int × Int × Int × Int × Int × Int × Int × (Nat → Int) × Nat × (Nat → Int) × Nat × (Nat → Int) × (Nat → Int) × Nat × (Nat → Int) × (Nat → Int) × (Nat → Int)) → CRes := fun z => uz7 z fun p0 p1 p2 p3 p4 p5 p6 p7 p8 p9 p10 p11 p12 p13 p14 p15 p16 p17 p18 p19 p20 p21 p22 p23 p24 =>  CRes.ret (V.tup []) [some (Chunk.blk [i64 p0, i64 p1, i64 p2, i64 p3, V.sl 1 1 0 p4, V.sl 2 1 0 p5, V.sl 3 2 0 p6, i64 p7, i64 p8, i64 p9, i64 p10, i64 p11, i64 p12, i64 p13, i64 p14, V.fn 37 [V.ptr 4 0], bo true]), some (Chunk.row 3 1 p4 fun (j : Nat) => [i64 (p15 j)]), some (Chunk.row 3 1 p16 fun (j : Nat) => [i64 (p17 j)]), some (Chunk.row 81 2 p18 fun (j : Nat) => [i64 (p19 j), i64 (p20 j)]), some (Chunk.blk [V.sl 5 3 0 p21]), some (Chunk.row 51 3 p21 fun (j : Nat) => [i64 (p22 j), i64 (p23 j), i64 (p24 j)])]
def R_waitA : g_waitA → CRes := Sum.elim rz9 rz5
def x_waitA (z : g_waitA) (k : CRes → Option Ans) : Option Ans := Sum.elim (fun za => k (R_waitA (.inl za))) (fun zb => k (R_waitA (.inr zb))) z
theorem xe_waitA : ∀ z k, x_waitA z k = k (R_waitA z) := fun z k => by
 rcases z with z | z <;> rfl
def t_waitA {β : Type} (x : a_pushA) (dn : g_waitA → Option β) : Option β :=
 ux5 x fun p0 p1 p2 p3 p4 p5 p6 p7 p8 p9 p10 p11 p12 p13 p14 p15 p16 p17 p18 p19 p20 p21 p22 p23 p24 p25 =>
 if decide (p0 > 0) = true then
 dn (.inl ((w (p1 + 1), w (p0 - 1), p3, p4, p5, p7, p10, p14, p15, p16, p17, p18, p19, p20, p21, p6, p8, p9, p11, p12, p13, (p22, p23, p24, p25))))
 else
 dn (.inr ((w (p1 + 1), p2, p3, p4, p5, p7, p10, p14, p15, p16, p17, p18, p19, p20, p21, p6, p8, p9, p11, p12, p13, (p22, p23, p24, p25))))
noncomputable def waitA (q : Nat) (x : a_pushA) : Option g_waitA := t_waitA x some
theorem sc_waitA (q : Nat) : ∀ (x : a_pushA) (z : g_waitA), waitA q x = some z → SC E8 68 (A_pushA x).1 (A_pushA x).2 (R_waitA z) :=
 lift1 A_pushA R_waitA t_waitA (fun x => by kernel_rfl) fun x dn => by
 unfold t_waitA ux5
 repeat' first | exact free_none | refine free_ite ?_ ?_ | rfl
def t_deadlineZ {β : Type} (x : a_pushZ) (dn : g_storeZ → Option β) : Option β :=
 ux2 x fun p0 p1 p2 p3 p4 p5 p6 p7 p8 p9 p10 p11 p12 p13 p14 p15 p16 p17 p18 p19 p20 p21 =>
 dn ((w (p1 + 1), p2, p3, p0, p5, p7, p10, p14, p15, p16, p17, p18, p19, p20, p21, p6, p8, p9, p11, p12, p13))
noncomputable def deadlineZ (q : Nat) (x : a_pushZ) : Option g_storeZ := t_deadlineZ x some
theorem sc_deadlineZ (q : Nat) : ∀ (x : a_pushZ) (z : g_storeZ), deadlineZ q x = some z → SC E8 69 (A_pushZ x).1 (A_pushZ x).2 (R_storeZ z) :=
 lift1 A_pushZ R_storeZ t_deadlineZ (fun x => by kernel_rfl) fun x dn => by
 unfold t_deadlineZ ux2
 repeat' first | exact free_none | refine free_ite ?_ ?_ | rfl
def t_deadlineA {β : Type} (x : a_pushA) (dn : g_storeA → Option β) : Option β :=
 ux5 x fun p0 p1 p2 p3 p4 p5 p6 p7 p8 p9 p10 p11 p12 p13 p14 p15 p16 p17 p18 p19 p20 p21 p22 p23 p24 p25 =>
 dn ((w (p1 + 1), p2, p3, p0, p5, p7, p10, p14, p15, p16, p17, p18, p19, p20, p21, p6, p8, p9, p11, p12, p13, (p22, p23, p24, p25)))
noncomputable def deadlineA (q : Nat) (x : a_pushA) : Option g_storeA := t_deadlineA x some
theorem sc_deadlineA (q : Nat) : ∀ (x : a_pushA) (z : g_storeA), deadlineA q x = some z → SC E8 69 (A_pushA x).1 (A_pushA x).2 (R_storeA z) :=
 lift1 A_pushA R_storeA t_deadlineA (fun x => by kernel_rfl) fun x dn => by
 unfold t_deadlineA ux5
 repeat' first | exact free_none | refine free_ite ?_ ?_ | rfl
abbrev g_pollZ : Type := (Int × Int × Int × Nat × Nat × Nat × Int × Int × Int × Int × Int × Int × Int × Int × (Nat → Int) × Nat × (Nat → Int) × Nat × (Nat → Int) × (Nat → Int)) ⊕ (Int × Nat × Int × Int × Int × Int × Int × Int × (Nat → Int) × Nat × (Nat → Int) × Nat × (Nat → Int) × (Nat → Int)) ⊕ (Int × Int × Int × Int × Nat × Nat × Nat × Int × Int × Int × Int × Int × Int × Int × Int × (Nat → Int) × Nat × (Nat → Int) × Nat × (Nat → Int) × (Nat → Int))
def rz10 : (Int × Int × Int × Nat × Nat × Nat × Int × Int × Int × Int × Int × Int × Int × Int × (Nat → Int) × Nat × (Nat → Int) × Nat × (Nat → Int) × (Nat → Int)) → CRes := fun z => CRes.ret (V.tup []) [some (Chunk.blk [i64 (z.1), i64 (z.2.1), i64 (z.2.2.1), i64 (-1 : Int), V.sl 1 1 0 (z.2.2.2.1), V.sl 2 1 0 (z.2.2.2.2.1), V.sl 3 2 0 (z.2.2.2.2.2.1), i64 (z.2.2.2.2.2.2.1), i64 (z.2.2.2.2.2.2.2.1), i64 (z.2.2.2.2.2.2.2.2.1), i64 (z.2.2.2.2.2.2.2.2.2.1), i64 (z.2.2.2.2.2.2.2.2.2.2.1), i64 (z.2.2.2.2.2.2.2.2.2.2.2.1), i64 (z.2.2.2.2.2.2.2.2.2.2.2.2.1), i64 (z.2.2.2.2.2.2.2.2.2.2.2.2.2.1), V.fn 37 [V.ptr 4 0], bo false]), some (Chunk.row 3 1 (z.2.2.2.1) fun (j : Nat) => [i64 (z.2.2.2.2.2.2.2.2.2.2.2.2.2.2.1 j)]), some (Chunk.row 3 1 (z.2.2.2.2.2.2.2.2.2.2.2.2.2.2.2.1) fun (j : Nat) => [i64 (z.2.2.2.2.2.2.2.2.2.2.2.2.2.2.2.2.1 j)]), some (Chunk.row 81 2 (z.2.2.2.2.2.2.2.2.2.2.2.2.2.2.2.2.2.1) fun (j : Nat) => [i64 (z.2.2.2.2.2.2.2.2.2.2.2.2.2.2.2.2.2.2.1 j), i64 (z.2.2.2.2.2.2.2.2.2.2.2.2.2.2.2.2.2.2.2 j)]), some (Chunk.blk [nilS])]
def rz11 : (Int × Nat × Int × Int × Int × Int × Int × Int × (Nat → Int) × Nat × (Nat → Int) × Nat × (Nat → Int) × (Nat → Int)) → CRes := fun z => uz0 z fun p0 p1 p2 p3 p4 p5 p6 p7 p8 p9 p10 p11 p12 p13 =>  CRes.ret (V.tup []) [some (Chunk.blk [i64 p0, i64 (0 : Int), i64 (-1 : Int), i64 (-1 : Int), V.sl 1 1 0 p1, nilS, nilS, i64 (2 : Int), i64 (1001 : Int), i64 p2, i64 p3, i64 p4, i64 p5, i64 p6, i64 p7, V.fn 37 [V.ptr 4 0], bo true]), some (Chunk.row 3 1 p1 fun (j : Nat) => [i64 (p8 j)]), some (Chunk.row 3 1 p9 fun (j : Nat) => [i64 (p10 j)]), some (Chunk.row 81 2 p11 fun (j : Nat) => [i64 (p12 j), i64 (p13 j)]), some (Chunk.blk [nilS])]
def R_pollZ : g_pollZ → CRes := Sum.elim rz10 (Sum.elim rz11 rz8)
def x_pollZ (z : g_pollZ) (k : CRes → Option Ans) : Option Ans := Sum.elim (fun za => k (R_pollZ (.inl za))) (fun zb => Sum.elim (fun zba => k (R_pollZ (.inr (.inl zba)))) (fun zbb => k (R_pollZ (.inr (.inr zbb)))) zb) z
theorem xe_pollZ : ∀ z k, x_pollZ z k = k (R_pollZ z) := fun z k => by
 rcases z with z | z | z <;> rfl
def t_pollZ {β : Type} (x : a_pushZ) (dn : g_pollZ → Option β) : Option β :=
 ux2 x fun p0 p1 p2 p3 p4 p5 p6 p7 p8 p9 p10 p11 p12 p13 p14 p15 p16 p17 p18 p19 p20 p21 =>
 if 0 ≤ w ((p7 : Int) - 1) ∧ w ((p7 : Int) - 1) < (p7 : Int) then
 if 0 + Int.toNat (w ((p7 : Int) - 1)) < p8 ∧ 1 = 1 then
 if (0 : Int) ≤ (0 : Int) ∧ 0 ≤ w ((p7 : Int) - 1) ∧ w ((p7 : Int) - 1) ≤ (p7 : Int) then
 if (p9 (0 + Int.toNat (w ((p7 : Int) - 1))) != 0) = true then
 dn (.inl ((w (p1 + 1), p2, p3, p5, Int.toNat (w ((p7 : Int) - 1)) - 0, p10, p14, p15, p16, p17, p18, p19, p20, p21, p6, p8, p9, p11, p12, p13)))
 else
 if (p4 == 0) = true then
 dn (.inr (.inl ((p1, p5, p16, p17, p18, p19, p20, p21, p6, p8, p9, p11, p12, p13))))
 else
 dn (.inr (.inr ((p0, p2, p3, w (p4 - 1), p5, Int.toNat (w ((p7 : Int) - 1)) - 0, p10, p14, p15, p16, p17, p18, p19, p20, p21, p6, p8, p9, p11, p12, p13))))
 else
 none
 else
 none
 else
 none
noncomputable def pollZ (q : Nat) (x : a_pushZ) : Option g_pollZ := t_pollZ x some
theorem sc_pollZ (q : Nat) : ∀ (x : a_pushZ) (z : g_pollZ), pollZ q x = some z → SC E8 70 (A_pushZ x).1 (A_pushZ x).2 (R_pollZ z) :=
 lift1 A_pushZ R_pollZ t_pollZ (fun x => by kernel_rfl) fun x dn => by
 unfold t_pollZ ux2
 repeat' first | exact free_none | refine free_ite ?_ ?_ | rfl
abbrev g_pollA : Type := (Int × Int × Int × Nat × Nat × Nat × Int × Int × Int × Int × Int × Int × Int × Int × (Nat → Int) × Nat × (Nat → Int) × Nat × (Nat → Int) × (Nat → Int) × Nat × (Nat → Int) × (Nat → Int) × (Nat → Int)) ⊕ (Int × Nat × Int × Int × Int × Int × Int × Int × (Nat → Int) × Nat × (Nat → Int) × Nat × (Nat → Int) × (Nat → Int) × Nat × (Nat → Int) × (Nat → Int) × (Nat → Int)) ⊕ (Int × Int × Int × Int × Nat × Nat × Nat × Int × Int × Int × Int × Int × Int × Int × Int × (Nat → Int) × Nat × (Nat → Int) × Nat × (Nat → Int) × (Nat → Int) × Nat × (Nat → Int) × (Nat → Int) × (Nat → Int))
def rz12 : (Int × Int × Int × Nat × Nat × Nat × Int × Int × Int × Int × Int × Int × Int × Int × (Nat → Int) × Nat × (Nat → Int) × Nat × (Nat → Int) × (Nat → Int) × Nat × (Nat → Int) × (Nat → Int) × (Nat → Int)) → CRes := fun z => CRes.ret (V.tup []) [some (Chunk.blk [i64 (z.1), i64 (z.2.1), i64 (z.2.2.1), i64 (-1 : Int), V.sl 1 1 0 (z.2.2.2.1), V.sl 2 1 0 (z.2.2.2.2.1), V.sl 3 2 0 (z.2.2.2.2.2.1), i64 (z.2.2.2.2.2.2.1), i64 (z.2.2.2.2.2.2.2.1), i64 (z.2.2.2.2.2.2.2.2.1), i64 (z.2.2.2.2.2.2.2.2.2.1), i64 (z.2.2.2.2.2.2.2.2.2.2.1), i64 (z.2.2.2.2.2.2.2.2.2.2.2.1), i64 (z.2.2.2.2.2.2.2.2.2.2.2.2.1), i64 (z.2.2.2.2.2.2.2.2.2.2.2.2.2.1), V.fn 37 [V.ptr 4 0], bo false]), some (Chunk.row 3 1 (z.2.2.2.1) fun (j : Nat) => [i64 (z.2.2.2.2.2.2.2.2.2.2.2.2.2.2.1 j)]), some (Chunk.row 3 1 (z.2.2.2.2.2.2.2.2.2.2.2.2.2.2.2.1) fun (j : Nat) => [i64 (z.2.2.2.2.2.2.2.2.2.2.2.2.2.2.2.2.1 j)]), some (Chunk.row 81 2 (z.2.2.2.2.2.2.2.2.2.2.2.2.2.2.2.2.2.1) fun (j : Nat) => [i64 (z.2.2.2.2.2.2.2.2.2.2.2.2.2.2.2.2.2.2.1 j), i64 (z.2.2.2.2.2.2.2.2.2.2.2.2.2.2.2.2.2.2.2.1 j)]), some (Chunk.blk [V.sl 5 3 0 (z.2.2.2.2.2.2.2.2.2.2.2.2.2.2.2.2.2.2.2.2.1)]), some (Chunk.row 51 3 (z.2.2.2.2.2.2.2.2.2.2.2.2.2.2.2.2.2.2.2.2.1) fun (j : Nat) => [i64 (z.2.2.2.2.2.2.2.2.2.2.2.2.2.2.2.2.2.2.2.2.2.1 j), i64 (z.2.2.2.2.2.2.2.2.2.2.2.2.2.2.2.2.2.2.2.2.2.2.1 j), i64 (z.2.2.2.2.2.2.2.2.2.2.2.2.2.2.2.2.2.2.2.2.2.2.2 j)])]
def rz13 : (Int × Nat × Int × Int × Int × Int × Int × Int × (Nat → Int) × Nat × (Nat → Int) × Nat × (Nat → Int) × (Nat → Int) × Nat × (Nat → Int) × (Nat → Int) × (Nat → Int)) → CRes := fun z => uz3 z fun p0 p1 p2 p3 p4 p5 p6 p7 p8 p9 p10 p11 p12 p13 p14 p15 p16 p17 =>  CRes.ret (V.tup []) [some (Chunk.blk [i64 p0, i64 (0 : Int), i64 (-1 : Int), i64 (-1 : Int), V.sl 1 1 0 p1, nilS, nilS, i64 (2 : Int), i64 (1001 : Int), i64 p2, i64 p3, i64 p4, i64 p5, i64 p6, i64 p7, V.fn 37 [V.ptr 4 0], bo true]), some (Chunk.row 3 1 p1 fun (j : Nat) => [i64 (p8 j)]), some (Chunk.row 3 1 p9 fun (j : Nat) => [i64 (p10 j)]), some (Chunk.row 81 2 p11 fun (j : Nat) => [i64 (p12 j), i64 (p13 j)]), some (Chunk.blk [V.sl 5 3 0 p14]), some (Chunk.row 51 3 p14 fun (j : Nat) => [i64 (p15 j), i64 (p16 j), i64 (p17 j)])]
def R_pollA : g_pollA → CRes := Sum.elim rz12 (Sum.elim rz13 rz9)
def x_pollA (z : g_pollA) (k : CRes → Option Ans) : Option Ans := Sum.elim (fun za => k (R_pollA (.inl za))) (fun zb => Sum.elim (fun zba => k (R_pollA (.inr (.inl zba)))) (fun zbb => k (R_pollA (.inr (.inr zbb)))) zb) z
theorem xe_pollA : ∀ z k, x_pollA z k = k (R_pollA z) := fun z k => by
 rcases z with z | z | z <;> rfl
def t_pollA {β : Type} (x : a_pushA) (dn : g_pollA → Option β) : Option β :=
 ux5 x fun p0 p1 p2 p3 p4 p5 p6 p7 p8 p9 p10 p11 p12 p13 p14 p15 p16 p17 p18 p19 p20 p21 p22 p23 p24 p25 =>
 if 0 ≤ w ((p7 : Int) - 1) ∧ w ((p7 : Int) - 1) < (p7 : Int) then
 if 0 + Int.toNat (w ((p7 : Int) - 1)) < p8 ∧ 1 = 1 then
 if (0 : Int) ≤ (0 : Int) ∧ 0 ≤ w ((p7 : Int) - 1) ∧ w ((p7 : Int) - 1) ≤ (p7 : Int) then
 if (p9 (0 + Int.toNat (w ((p7 : Int) - 1))) != 0) = true then
 dn (.inl ((w (p1 + 1), p2, p3, p5, Int.toNat (w ((p7 : Int) - 1)) - 0, p10, p14, p15, p16, p17, p18, p19, p20, p21, p6, p8, p9, p11, p12, p13, (p22, p23, p24, p25))))
 else
 if (p4 == 0) = true then
 dn (.inr (.inl ((p1, p5, p16, p17, p18, p19, p20, p21, p6, p8, p9, p11, p12, p13, (p22, p23, p24, p25)))))
 else
 dn (.inr (.inr ((p0, p2, p3, w (p4 - 1), p5, Int.toNat (w ((p7 : Int) - 1)) - 0, p10, p14, p15, p16, p17, p18, p19, p20, p21, p6, p8, p9, p11, p12, p13, (p22, p23, p24, p25)))))
 else
 none
 else
 none
 else
 none
noncomputable def pollA (q : Nat) (x : a_pushA) : Option g_pollA := t_pollA x some
theorem sc_pollA (q : Nat) : ∀ (x : a_pushA) (z : g_pollA), pollA q x = some z → SC E8 70 (A_pushA x).1 (A_pushA x).2 (R_pollA z) :=
 lift1 A_pushA R_pollA t_pollA (fun x => by kernel_rfl) fun x dn => by
 unfold t_pollA ux5
 repeat' first | exact free_none | refine free_ite ?_ ?_ | rfl
abbrev g_require_Z : Type := (Int × Nat × Int × Int × Int × Int × Int × Int × (Nat → Int) × Nat × (Nat → Int) × Nat × (Nat → Int) × (Nat → Int)) ⊕ (Int × Int × Int × Int × Nat × Nat × Nat × Int × Int × Int × Int × Int × Int × Int × Int × (Nat → Int) × Nat × (Nat → Int) × Nat × (Nat → Int) × (Nat → Int))
def rz14 : (Int × Nat × Int × Int × Int × Int × Int × Int × (Nat → Int) × Nat × (Nat → Int) × Nat × (Nat → Int) × (Nat → Int)) → CRes := fun z => uz0 z fun p0 p1 p2 p3 p4 p5 p6 p7 p8 p9 p10 p11 p12 p13 =>  CRes.ret (V.tup []) [some (Chunk.blk [i64 p0, i64 (0 : Int), i64 (-1 : Int), i64 (-1 : Int), V.sl 1 1 0 p1, nilS, nilS, i64 (2 : Int), i64 (1000 : Int), i64 p2, i64 p3, i64 p4, i64 p5, i64 p6, i64 p7, V.fn 37 [V.ptr 4 0], bo true]), some (Chunk.row 3 1 p1 fun (j : Nat) => [i64 (p8 j)]), some (Chunk.row 3 1 p9 fun (j : Nat) => [i64 (p10 j)]), some (Chunk.row 81 2 p11 fun (j : Nat) => [i64 (p12 j), i64 (p13 j)]), some (Chunk.blk [nilS])]
def R_require_Z : g_require_Z → CRes := Sum.elim rz14 rz4
def x_require_Z (z : g_require_Z) (k : CRes → Option Ans) : Option Ans := Sum.elim (fun za => k (R_require_Z (.inl za))) (fun zb => k (R_require_Z (.inr zb))) z
theorem xe_require_Z : ∀ z k, x_require_Z z k = k (R_require_Z z) := fun z k => by
 rcases z with z | z <;> rfl
def t_require_Z {β : Type} (x : a_pushZ) (dn : g_require_Z → Option β) : Option β :=
 ux2 x fun p0 p1 p2 p3 p4 p5 p6 p7 p8 p9 p10 p11 p12 p13 p14 p15 p16 p17 p18 p19 p20 p21 =>
 if 0 ≤ w ((p7 : Int) - 1) ∧ w ((p7 : Int) - 1) < (p7 : Int) then
 if 0 + Int.toNat (w ((p7 : Int) - 1)) < p8 ∧ 1 = 1 then
 if (0 : Int) ≤ (0 : Int) ∧ 0 ≤ w ((p7 : Int) - 1) ∧ w ((p7 : Int) - 1) ≤ (p7 : Int) then
 if (p9 (0 + Int.toNat (w ((p7 : Int) - 1))) == 0) = true then
 dn (.inl ((p1, p5, p16, p17, p18, p19, p20, p21, p6, p8, p9, p11, p12, p13)))
 else
 dn (.inr ((w (p1 + 1), p2, p3, p4, p5, Int.toNat (w ((p7 : Int) - 1)) - 0, p10, p14, p15, p16, p17, p18, p19, p20, p21, p6, p8, p9, p11, p12, p13)))
 else
 none
 else
 none
 else
 none
noncomputable def require_Z (q : Nat) (x : a_pushZ) : Option g_require_Z := t_require_Z x some
theorem sc_require_Z (q : Nat) : ∀ (x : a_pushZ) (z : g_require_Z), require_Z q x = some z → SC E8 71 (A_pushZ x).1 (A_pushZ x).2 (R_require_Z z) :=
 lift1 A_pushZ R_require_Z t_require_Z (fun x => by kernel_rfl) fun x dn => by
 unfold t_require_Z ux2
 repeat' first | exact free_none | refine free_ite ?_ ?_ | rfl
abbrev g_require_A : Type := (Int × Nat × Int × Int × Int × Int × Int × Int × (Nat → Int) × Nat × (Nat → Int) × Nat × (Nat → Int) × (Nat → Int) × Nat × (Nat → Int) × (Nat → Int) × (Nat → Int)) ⊕ (Int × Int × Int × Int × Nat × Nat × Nat × Int × Int × Int × Int × Int × Int × Int × Int × (Nat → Int) × Nat × (Nat → Int) × Nat × (Nat → Int) × (Nat → Int) × Nat × (Nat → Int) × (Nat → Int) × (Nat → Int))
def rz15 : (Int × Nat × Int × Int × Int × Int × Int × Int × (Nat → Int) × Nat × (Nat → Int) × Nat × (Nat → Int) × (Nat → Int) × Nat × (Nat → Int) × (Nat → Int) × (Nat → Int)) → CRes := fun z => uz3 z fun p0 p1 p2 p3 p4 p5 p6 p7 p8 p9 p10 p11 p12 p13 p14 p15 p16 p17 =>  CRes.ret (V.tup []) [some (Chunk.blk [i64 p0, i64 (0 : Int), i64 (-1 : Int), i64 (-1 : Int), V.sl 1 1 0 p1, nilS, nilS, i64 (2 : Int), i64 (1000 : Int), i64 p2, i64 p3, i64 p4, i64 p5, i64 p6, i64 p7, V.fn 37 [V.ptr 4 0], bo true]), some (Chunk.row 3 1 p1 fun (j : Nat) => [i64 (p8 j)]), some (Chunk.row 3 1 p9 fun (j : Nat) => [i64 (p10 j)]), some (Chunk.row 81 2 p11 fun (j : Nat) => [i64 (p12 j), i64 (p13 j)]), some (Chunk.blk [V.sl 5 3 0 p14]), some (Chunk.row 51 3 p14 fun (j : Nat) => [i64 (p15 j), i64 (p16 j), i64 (p17 j)])]
def R_require_A : g_require_A → CRes := Sum.elim rz15 rz5
def x_require_A (z : g_require_A) (k : CRes → Option Ans) : Option Ans := Sum.elim (fun za => k (R_require_A (.inl za))) (fun zb => k (R_require_A (.inr zb))) z
theorem xe_require_A : ∀ z k, x_require_A z k = k (R_require_A z) := fun z k => by
 rcases z with z | z <;> rfl
def t_require_A {β : Type} (x : a_pushA) (dn : g_require_A → Option β) : Option β :=
 ux5 x fun p0 p1 p2 p3 p4 p5 p6 p7 p8 p9 p10 p11 p12 p13 p14 p15 p16 p17 p18 p19 p20 p21 p22 p23 p24 p25 =>
 if 0 ≤ w ((p7 : Int) - 1) ∧ w ((p7 : Int) - 1) < (p7 : Int) then
 if 0 + Int.toNat (w ((p7 : Int) - 1)) < p8 ∧ 1 = 1 then
 if (0 : Int) ≤ (0 : Int) ∧ 0 ≤ w ((p7 : Int) - 1) ∧ w ((p7 : Int) - 1) ≤ (p7 : Int) then
 if (p9 (0 + Int.toNat (w ((p7 : Int) - 1))) == 0) = true then
 dn (.inl ((p1, p5, p16, p17, p18, p19, p20, p21, p6, p8, p9, p11, p12, p13, (p22, p23, p24, p25))))
 else
 dn (.inr ((w (p1 + 1), p2, p3, p4, p5, Int.toNat (w ((p7 : Int) - 1)) - 0, p10, p14, p15, p16, p17, p18, p19, p20, p21, p6, p8, p9, p11, p12, p13, (p22, p23, p24, p25))))
 else
 none
 else
 none
 else
 none
noncomputable def require_A (q : Nat) (x : a_pushA) : Option g_require_A := t_require_A x some
theorem sc_require_A (q : Nat) : ∀ (x : a_pushA) (z : g_require_A), require_A q x = some z → SC E8 71 (A_pushA x).1 (A_pushA x).2 (R_require_A z) :=
 lift1 A_pushA R_require_A t_require_A (fun x => by kernel_rfl) fun x dn => by
 unfold t_require_A ux5
 repeat' first | exact free_none | refine free_ite ?_ ?_ | rfl
abbrev g_pointZ : Type := Int × Int × Int × Int × Nat × Nat × Nat × Int × Int × Int × Int × Int × Int × Int × Int × (Nat → Int) × Nat × (Nat → Int) × Nat × (Nat → Int) × (Nat → Int) × (Nat → Int)
def uz11 {γ : Type} (x : Int × Int × Int × Int × Nat × Nat × Nat × Int × Int × Int × Int × Int × Int × Int × Int × (Nat → Int) × Nat × (Nat → Int) × Nat × (Nat → Int) × (Nat → Int) × (Nat → Int)) (f : Int → Int → Int → Int → Nat → Nat → Nat → Int → Int → Int → Int → Int → Int → Int → Int → (Nat → Int) → Nat → (Nat → Int) → Nat → (Nat → Int) → (Nat → Int) → (Nat → Int) → γ) : γ := f x.1 x.2.1 x.2.2.1 x.2.2.2.1 x.2.2.2.2.1 x.2.2.2.2.2.1 x.2.2.2.2.2.2.1 x.2.2.2.2.2.2.2.1 x.2.2.2.2.2.2.2.2.1 x.2.2.2.2.2.2.2.2.2.1 x.2.2.2.2.2.2.2.2.2.2.1 x.2.2.2.2.2.2.2.2.2.2.2.1 x.2.2.2.2.2.2.2.2.2.2.2.2.1 x.2.2.2.2.2.2.2.2.2.2.2.2.2.1 x.2.2.2.2.2.2.2.2.2.2.2.2.2.2.1 x.2.2.2.2.2.2.2.2.2.2.2.2.2.2.2.1 x.2.2.2.2.2.2.2.2.2.2.2.2.2.2.2.2.1 x.2.2.2.2.2.2.2.2.2.2.2.2.2.2.2.2.2.1 x.2.2.2.2.2.2.2.2.2.2.2.2.2.2.2.2.2.2.1 x.2.2.2.2.2.2.2.2.2.2.2.2.2.2.2.2.2.2.2.1 x.2.2.2.2.2.2.2.2.2.2.2.2.2.2.2.2.2.2.2.2.1 x.2.2.2.2.2.2.2.2.2.2.2.2.2.2.2.2.2.2.2.2.2
def rz16 : (Int × Int × Int × Int × Nat × Nat × Nat × Int × Int × Int × Int × Int × Int × Int × Int × (Nat → Int) × Nat × (Nat → Int) × Nat × (Nat → Int) × (Nat → Int) × (Nat → Int)) → CRes := fun z => uz11 z fun p0 p1 p2 p3 p4 p5 p6 p7 p8 p9 p10 p11 p12 p13 p14 p15 p16 p17 p18 p19 p20 p21 =>  CRes.ret (V.tup []) [some (Chunk.blk [i64 p0, i64 p1, i64 p2, i64 p3, V.sl 1 1 0 p4, V.sl 2 1 0 p5, V.sl 3 2 0 p6, i64 p7, i64 p8, i64 p9, i64 p10, i64 p11, i64 p12, i64 p13, i64 p14, V.fn 37 [V.ptr 4 0], bo true]), some (Chunk.row 3 1 p4 fun (j : Nat) => [i64 (p15 j)]), some (Chunk.row 3 1 p16 fun (j : Nat) => [i64 (p17 j)]), some (Chunk.row 81 2 p18 fun (j : Nat) => [i64 (p19 j), i64 (p20 j)]), some (Chunk.blk [V.sl 5 3 0 1]), some (Chunk.row 51 3 1 fun (j : Nat) => [i64 (1 : Int), i64 (p21 j), i64 (0 : Int)])]
def R_pointZ : g_pointZ → CRes := rz16
def x_pointZ (z : g_pointZ) (k : CRes → Option Ans) : Option Ans := k (R_pointZ z)
theorem xe_pointZ : ∀ z k, x_pointZ z k = k (R_pointZ z) := fun z k => rfl
def t_pointZ {β : Type} (x : a_pushZ) (dn : g_pointZ → Option β) : Option β :=
 ux2 x fun p0 p1 p2 p3 p4 p5 p6 p7 p8 p9 p10 p11 p12 p13 p14 p15 p16 p17 p18 p19 p20 p21 =>
 if 0 ≤ w ((p7 : Int) - 1) ∧ w ((p7 : Int) - 1) < (p7 : Int) then
 if 0 + Int.toNat (w ((p7 : Int) - 1)) < p8 ∧ 1 = 1 then
 if (0 : Int) ≤ (0 : Int) ∧ 0 ≤ w ((p7 : Int) - 1) ∧ w ((p7 : Int) - 1) ≤ (p7 : Int) then
 dn ((w (p1 + 1), p2, p3, p4, p5, Int.toNat (w ((p7 : Int) - 1)) - 0, p10, p14, p15, p16, p17, p18, p19, p20, p21, p6, p8, p9, p11, p12, p13, fun (j : Nat) => p9 (0 + Int.toNat (w ((p7 : Int) - 1)))))
 else
 none
 else
 none
 else
 none
noncomputable def pointZ (q : Nat) (x : a_pushZ) : Option g_pointZ := t_pointZ x some
theorem sc_pointZ (q : Nat) : ∀ (x : a_pushZ) (z : g_pointZ), pointZ q x = some z → SC E8 72 (A_pushZ x).1 (A_pushZ x).2 (R_pointZ z) :=
 lift1 A_pushZ R_pointZ t_pointZ (fun x => by kernel_rfl) fun x dn => by
 unfold t_pointZ ux2
 repeat' first | exact free_none | refine free_ite ?_ ?_ | rfl
def rz17 : (Int × Int × Int × Int × Nat × Nat × Nat × Int × Int × Int × Int × Int × Int × Int × Int × (Nat → Int) × Nat × (Nat → Int) × Nat × (Nat → Int) × (Nat → Int) × Nat × (Nat → Int) × (Nat → Int) × (Nat → Int)) → CRes := fun z => uz7 z fun p0 p1 p2 p3 p4 p5 p6 p7 p8 p9 p10 p11 p12 p13 p14 p15 p16 p17 p18 p19 p20 p21 p22 p23 p24 =>  CRes.ret (V.tup []) [some (Chunk.blk [i64 p0, i64 p1, i64 p2, i64 p3, V.sl 1 1 0 p4, V.sl 2 1 0 p5, V.sl 3 2 0 p6, i64 p7, i64 p8, i64 p9, i64 p10, i64 p11, i64 p12, i64 p13, i64 p14, V.fn 37 [V.ptr 4 0], bo true]), some (Chunk.row 3 1 p4 fun (j : Nat) => [i64 (p15 j)]), some (Chunk.row 3 1 p16 fun (j : Nat) => [i64 (p17 j)]), some (Chunk.row 81 2 p18 fun (j : Nat) => [i64 (p19 j), i64 (p20 j)]), some (Chunk.blk [V.sl 6 3 0 p21]), none, some (Chunk.row 51 3 p21 fun (j : Nat) => [i64 (p22 j), i64 (p23 j), i64 (p24 j)])]
def R_pointA : g_storeA → CRes := rz17
def x_pointA (z : g_storeA) (k : CRes → Option Ans) : Option Ans := k (R_pointA z)
theorem xe_pointA : ∀ z k, x_pointA z k = k (R_pointA z) := fun z k => rfl
def t_pointA {β : Type} (x : a_pushA) (dn : g_storeA → Option β) : Option β :=
 ux5 x fun p0 p1 p2 p3 p4 p5 p6 p7 p8 p9 p10 p11 p12 p13 p14 p15 p16 p17 p18 p19 p20 p21 p22 p23 p24 p25 =>
 if 0 ≤ w ((p7 : Int) - 1) ∧ w ((p7 : Int) - 1) < (p7 : Int) then
 if 0 + Int.toNat (w ((p7 : Int) - 1)) < p8 ∧ 1 = 1 then
 if (0 : Int) ≤ (0 : Int) ∧ 0 ≤ w ((p7 : Int) - 1) ∧ w ((p7 : Int) - 1) ≤ (p7 : Int) then
 if (p22 + 1) * 24 ≤ roomBound ∧ p22 + 1 ≤ maxLen ∧ p22 ≤ p22 then
 dn ((w (p1 + 1), p2, p3, p4, p5, Int.toNat (w ((p7 : Int) - 1)) - 0, p10, p14, p15, p16, p17, p18, p19, p20, p21, p6, p8, p9, p11, p12, p13, p22 + 1, fun (j : Nat) => if j < p22 then p23 j else 1, fun (j : Nat) => if j < p22 then p24 j else p9 (0 + Int.toNat (w ((p7 : Int) - 1))), fun (j : Nat) => if j < p22 then p25 j else 0))
 else
 none
 else
 none
 else
 none
 else
 none
noncomputable def pointA (q : Nat) (x : a_pushA) : Option g_storeA := t_pointA x some
theorem sc_pointA (q : Nat) : ∀ (x : a_pushA) (z : g_storeA), pointA q x = some z → SC E8 72 (A_pushA x).1 (A_pushA x).2 (R_pointA z) :=
 lift1 A_pushA R_pointA t_pointA (fun x => by kernel_rfl) fun x dn => by
 unfold t_pointA ux5
 repeat' first | exact free_none | refine free_ite ?_ ?_ | rfl
abbrev g_use_Z : Type := (Int × Int × Int × Int × Nat × Nat × Nat × Int × Int × Int × Int × Int × Int × Int × Int × (Nat → Int) × Nat × (Nat → Int) × Nat × (Nat → Int) × (Nat → Int) × (Nat → Int)) ⊕ (Int × Int × Int × Int × Nat × Nat × Nat × Int × Int × Int × Int × Int × Int × Int × Int × (Nat → Int) × Nat × (Nat → Int) × Nat × (Nat → Int) × (Nat → Int)) ⊕ (Int × Int × Int × Int × Nat × Nat × Nat × Int × Int × Int × Int × Int × Int × Int × Int × (Nat → Int) × Nat × (Nat → Int) × Nat × (Nat → Int) × (Nat → Int) × (Nat → Int)) ⊕ (Int × Int × Int × Int × Nat × Nat × Nat × Int × Int × Int × Int × Int × Int × Int × Int × (Nat → Int) × Nat × (Nat → Int) × Nat × (Nat → Int) × (Nat → Int))
def rz18 : (Int × Int × Int × Int × Nat × Nat × Nat × Int × Int × Int × Int × Int × Int × Int × Int × (Nat → Int) × Nat × (Nat → Int) × Nat × (Nat → Int) × (Nat → Int) × (Nat → Int)) → CRes := fun z => uz11 z fun p0 p1 p2 p3 p4 p5 p6 p7 p8 p9 p10 p11 p12 p13 p14 p15 p16 p17 p18 p19 p20 p21 =>  CRes.ret (V.tup []) [some (Chunk.blk [i64 p0, i64 p1, i64 p2, i64 p3, V.sl 1 1 0 p4, V.sl 2 1 0 p5, V.sl 3 2 0 p6, i64 p7, i64 p8, i64 p9, i64 p10, i64 p11, i64 p12, i64 p13, i64 p14, V.fn 37 [V.ptr 4 0], bo true]), some (Chunk.row 3 1 p4 fun (j : Nat) => [i64 (p15 j)]), some (Chunk.row 3 1 p16 fun (j : Nat) => [i64 (p17 j)]), some (Chunk.row 81 2 p18 fun (j : Nat) => [i64 (p19 j), i64 (p20 j)]), some (Chunk.blk [V.sl 5 3 0 1]), some (Chunk.row 51 3 1 fun (j : Nat) => [i64 (2 : Int), i64 (p21 j), i64 (0 : Int)])]
def rz19 : (Int × Int × Int × Int × Nat × Nat × Nat × Int × Int × Int × Int × Int × Int × Int × Int × (Nat → Int) × Nat × (Nat → Int) × Nat × (Nat → Int) × (Nat → Int) × (Nat → Int)) → CRes := fun z => uz11 z fun p0 p1 p2 p3 p4 p5 p6 p7 p8 p9 p10 p11 p12 p13 p14 p15 p16 p17 p18 p19 p20 p21 =>  CRes.ret (V.tup []) [some (Chunk.blk [i64 p0, i64 p1, i64 p2, i64 p3, V.sl 1 1 0 p4, V.sl 2 1 0 p5, V.sl 3 2 0 p6, i64 p7, i64 p8, i64 p9, i64 p10, i64 p11, i64 p12, i64 p13, i64 p14, V.fn 37 [V.ptr 4 0], bo false]), some (Chunk.row 3 1 p4 fun (j : Nat) => [i64 (p15 j)]), some (Chunk.row 3 1 p16 fun (j : Nat) => [i64 (p17 j)]), some (Chunk.row 81 2 p18 fun (j : Nat) => [i64 (p19 j), i64 (p20 j)]), some (Chunk.blk [V.sl 5 3 0 1]), some (Chunk.row 51 3 1 fun (j : Nat) => [i64 (2 : Int), i64 (p21 j), i64 (0 : Int)])]
def R_use_Z : g_use_Z → CRes := Sum.elim rz18 (Sum.elim rz8 (Sum.elim rz19 rz4))
def x_use_Z (z : g_use_Z) (k : CRes → Option Ans) : Option Ans := Sum.elim (fun za => k (R_use_Z (.inl za))) (fun zb => Sum.elim (fun zba => k (R_use_Z (.inr (.inl zba)))) (fun zbb => Sum.elim (fun zbba => k (R_use_Z (.inr (.inr (.inl zbba))))) (fun zbbb => k (R_use_Z (.inr (.inr (.inr zbbb))))) zbb) zb) z
theorem xe_use_Z : ∀ z k, x_use_Z z k = k (R_use_Z z) := fun z k => by
 rcases z with z | z | z | z <;> rfl
def t_use_Z {β : Type} (x : a_pushZ) (dn : g_use_Z → Option β) : Option β :=
 ux2 x fun p0 p1 p2 p3 p4 p5 p6 p7 p8 p9 p10 p11 p12 p13 p14 p15 p16 p17 p18 p19 p20 p21 =>
 if decide (Int.tmod p0 (1000000 : Int) > (0 : Int)) = true then
 if decide (Int.tmod p0 (1000000 : Int) > (0 : Int)) = true then
 if decide (w (Int.tmod p0 (1000000 : Int) - (1 : Int)) > 0) = true then
 dn (.inl ((w (p1 + 1), w (Int.tmod p0 (1000000 : Int) - (1 : Int)), w (Int.tdiv p0 1000000), p4, p5, p7, p10, p14, p15, p16, p17, p18, p19, p20, p21, p6, p8, p9, p11, p12, p13, fun (j : Nat) => w (Int.tdiv p0 1000000))))
 else
 dn (.inl ((w (p1 + 1), w (Int.tmod p0 (1000000 : Int) - (1 : Int)), p3, p4, p5, p7, p10, p14, p15, p16, p17, p18, p19, p20, p21, p6, p8, p9, p11, p12, p13, fun (j : Nat) => w (Int.tdiv p0 1000000))))
 else
 if decide (w (Int.tmod p0 (1000000 : Int) - (1 : Int)) > 0) = true then
 dn (.inr (.inl ((w (p1 + 1), w (Int.tmod p0 (1000000 : Int) - (1 : Int)), w (Int.tdiv p0 1000000), p4, p5, p7, p10, p14, p15, p16, p17, p18, p19, p20, p21, p6, p8, p9, p11, p12, p13))))
 else
 dn (.inr (.inl ((w (p1 + 1), w (Int.tmod p0 (1000000 : Int) - (1 : Int)), p3, p4, p5, p7, p10, p14, p15, p16, p17, p18, p19, p20, p21, p6, p8, p9, p11, p12, p13))))
 else
 if decide (Int.tmod p0 (1000000 : Int) > (0 : Int)) = true then
 if decide (p2 > 0) = true then
 dn (.inr (.inr (.inl ((w (p1 + 1), p2, w (Int.tdiv p0 1000000), p4, p5, p7, p10, p14, p15, p16, p17, p18, p19, p20, p21, p6, p8, p9, p11, p12, p13, fun (j : Nat) => w (Int.tdiv p0 1000000))))))
 else
 dn (.inr (.inr (.inl ((w (p1 + 1), p2, p3, p4, p5, p7, p10, p14, p15, p16, p17, p18, p19, p20, p21, p6, p8, p9, p11, p12, p13, fun (j : Nat) => w (Int.tdiv p0 1000000))))))
 else
 if decide (p2 > 0) = true then
 dn (.inr (.inr (.inr ((w (p1 + 1), p2, w (Int.tdiv p0 1000000), p4, p5, p7, p10, p14, p15, p16, p17, p18, p19, p20, p21, p6, p8, p9, p11, p12, p13)))))
 else
 dn (.inr (.inr (.inr ((w (p1 + 1), p2, p3, p4, p5, p7, p10, p14, p15, p16, p17, p18, p19, p20, p21, p6, p8, p9, p11, p12, p13)))))
noncomputable def use_Z (q : Nat) (x : a_pushZ) : Option g_use_Z := t_use_Z x some
theorem sc_use_Z (q : Nat) : ∀ (x : a_pushZ) (z : g_use_Z), use_Z q x = some z → SC E8 73 (A_pushZ x).1 (A_pushZ x).2 (R_use_Z z) :=
 lift1 A_pushZ R_use_Z t_use_Z (fun x => by kernel_rfl) fun x dn => by
 unfold t_use_Z ux2
 repeat' first | exact free_none | refine free_ite ?_ ?_ | rfl
abbrev g_use_A : Type := (Int × Int × Int × Int × Nat × Nat × Nat × Int × Int × Int × Int × Int × Int × Int × Int × (Nat → Int) × Nat × (Nat → Int) × Nat × (Nat → Int) × (Nat → Int) × Nat × (Nat → Int) × (Nat → Int) × (Nat → Int)) ⊕ (Int × Int × Int × Int × Nat × Nat × Nat × Int × Int × Int × Int × Int × Int × Int × Int × (Nat → Int) × Nat × (Nat → Int) × Nat × (Nat → Int) × (Nat → Int) × Nat × (Nat → Int) × (Nat → Int) × (Nat → Int)) ⊕ (Int × Int × Int × Int × Nat × Nat × Nat × Int × Int × Int × Int × Int × Int × Int × Int × (Nat → Int) × Nat × (Nat → Int) × Nat × (Nat → Int) × (Nat → Int) × Nat × (Nat → Int) × (Nat → Int) × (Nat → Int)) ⊕ (Int × Int × Int × Int × Nat × Nat × Nat × Int × Int × Int × Int × Int × Int × Int × Int × (Nat → Int) × Nat × (Nat → Int) × Nat × (Nat → Int) × (Nat → Int) × Nat × (Nat → Int) × (Nat → Int) × (Nat → Int))
def rz20 : (Int × Int × Int × Int × Nat × Nat × Nat × Int × Int × Int × Int × Int × Int × Int × Int × (Nat → Int) × Nat × (Nat → Int) × Nat × (Nat → Int) × (Nat → Int) × Nat × (Nat → Int) × (Nat → Int) × (Nat → Int)) → CRes := fun z => uz7 z fun p0 p1 p2 p3 p4 p5 p6 p7 p8 p9 p10 p11 p12 p13 p14 p15 p16 p17 p18 p19 p20 p21 p22 p23 p24 =>  CRes.ret (V.tup []) [some (Chunk.blk [i64 p0, i64 p1, i64 p2, i64 p3, V.sl 1 1 0 p4, V.sl 2 1 0 p5, V.sl 3 2 0 p6, i64 p7, i64 p8, i64 p9, i64 p10, i64 p11, i64 p12, i64 p13, i64 p14, V.fn 37 [V.ptr 4 0], bo false]), some (Chunk.row 3 1 p4 fun (j : Nat) => [i64 (p15 j)]), some (Chunk.row 3 1 p16 fun (j : Nat) => [i64 (p17 j)]), some (Chunk.row 81 2 p18 fun (j : Nat) => [i64 (p19 j), i64 (p20 j)]), some (Chunk.blk [V.sl 6 3 0 p21]), none, some (Chunk.row 51 3 p21 fun (j : Nat) => [i64 (p22 j), i64 (p23 j), i64 (p24 j)])]
def R_use_A : g_use_A → CRes := Sum.elim rz17 (Sum.elim rz9 (Sum.elim rz20 rz5))
def x_use_A (z : g_use_A) (k : CRes → Option Ans) : Option Ans := Sum.elim (fun za => k (R_use_A (.inl za))) (fun zb => Sum.elim (fun zba => k (R_use_A (.inr (.inl zba)))) (fun zbb => Sum.elim (fun zbba => k (R_use_A (.inr (.inr (.inl zbba))))) (fun zbbb => k (R_use_A (.inr (.inr (.inr zbbb))))) zbb) zb) z
theorem xe_use_A : ∀ z k, x_use_A z k = k (R_use_A z) := fun z k => by
 rcases z with z | z | z | z <;> rfl
def t_use_A {β : Type} (x : a_pushA) (dn : g_use_A → Option β) : Option β :=
 ux5 x fun p0 p1 p2 p3 p4 p5 p6 p7 p8 p9 p10 p11 p12 p13 p14 p15 p16 p17 p18 p19 p20 p21 p22 p23 p24 p25 =>
 if decide (Int.tmod p0 (1000000 : Int) > (0 : Int)) = true then
 if decide (Int.tmod p0 (1000000 : Int) > (0 : Int)) = true then
 if (p22 + 1) * 24 ≤ roomBound ∧ p22 + 1 ≤ maxLen ∧ p22 ≤ p22 then
 if decide (w (Int.tmod p0 (1000000 : Int) - (1 : Int)) > 0) = true then
 dn (.inl ((w (p1 + 1), w (Int.tmod p0 (1000000 : Int) - (1 : Int)), w (Int.tdiv p0 1000000), p4, p5, p7, p10, p14, p15, p16, p17, p18, p19, p20, p21, p6, p8, p9, p11, p12, p13, p22 + 1, fun (j : Nat) => if j < p22 then p23 j else 2, fun (j : Nat) => if j < p22 then p24 j else w (Int.tdiv p0 1000000), fun (j : Nat) => if j < p22 then p25 j else 0)))
 else
 dn (.inl ((w (p1 + 1), w (Int.tmod p0 (1000000 : Int) - (1 : Int)), p3, p4, p5, p7, p10, p14, p15, p16, p17, p18, p19, p20, p21, p6, p8, p9, p11, p12, p13, p22 + 1, fun (j : Nat) => if j < p22 then p23 j else 2, fun (j : Nat) => if j < p22 then p24 j else w (Int.tdiv p0 1000000), fun (j : Nat) => if j < p22 then p25 j else 0)))
 else
 none
 else
 if decide (w (Int.tmod p0 (1000000 : Int) - (1 : Int)) > 0) = true then
 dn (.inr (.inl ((w (p1 + 1), w (Int.tmod p0 (1000000 : Int) - (1 : Int)), w (Int.tdiv p0 1000000), p4, p5, p7, p10, p14, p15, p16, p17, p18, p19, p20, p21, p6, p8, p9, p11, p12, p13, (p22, p23, p24, p25)))))
 else
 dn (.inr (.inl ((w (p1 + 1), w (Int.tmod p0 (1000000 : Int) - (1 : Int)), p3, p4, p5, p7, p10, p14, p15, p16, p17, p18, p19, p20, p21, p6, p8, p9, p11, p12, p13, (p22, p23, p24, p25)))))
 else
 if decide (Int.tmod p0 (1000000 : Int) > (0 : Int)) = true then
 if (p22 + 1) * 24 ≤ roomBound ∧ p22 + 1 ≤ maxLen ∧ p22 ≤ p22 then
 if decide (p2 > 0) = true then
 dn (.inr (.inr (.inl ((w (p1 + 1), p2, w (Int.tdiv p0 1000000), p4, p5, p7, p10, p14, p15, p16, p17, p18, p19, p20, p21, p6, p8, p9, p11, p12, p13, p22 + 1, fun (j : Nat) => if j < p22 then p23 j else 2, fun (j : Nat) => if j < p22 then p24 j else w (Int.tdiv p0 1000000), fun (j : Nat) => if j < p22 then p25 j else 0)))))
 else
 dn (.inr (.inr (.inl ((w (p1 + 1), p2, p3, p4, p5, p7, p10, p14, p15, p16, p17, p18, p19, p20, p21, p6, p8, p9, p11, p12, p13, p22 + 1, fun (j : Nat) => if j < p22 then p23 j else 2, fun (j : Nat) => if j < p22 then p24 j else w (Int.tdiv p0 1000000), fun (j : Nat) => if j < p22 then p25 j else 0)))))
 else
 none
 else
 if decide (p2 > 0) = true then
 dn (.inr (.inr (.inr ((w (p1 + 1), p2, w (Int.tdiv p0 1000000), p4, p5, p7, p10, p14, p15, p16, p17, p18, p19, p20, p21, p6, p8, p9, p11, p12, p13, (p22, p23, p24, p25))))))
 else
 dn (.inr (.inr (.inr ((w (p1 + 1), p2, p3, p4, p5, p7, p10, p14, p15, p16, p17, p18, p19, p20, p21, p6, p8, p9, p11, p12, p13, (p22, p23, p24, p25))))))
noncomputable def use_A (q : Nat) (x : a_pushA) : Option g_use_A := t_use_A x some
theorem sc_use_A (q : Nat) : ∀ (x : a_pushA) (z : g_use_A), use_A q x = some z → SC E8 73 (A_pushA x).1 (A_pushA x).2 (R_use_A z) :=
 lift1 A_pushA R_use_A t_use_A (fun x => by kernel_rfl) fun x dn => by
 unfold t_use_A ux5
 repeat' first | exact free_none | refine free_ite ?_ ?_ | rfl
abbrev g_sendZ : Type := Int × Int × Int × Int × Nat × Nat × Nat × Int × Int × Int × Int × Int × Int × Int × Int × (Nat → Int) × Nat × (Nat → Int) × Nat × (Nat → Int) × (Nat → Int) × (Nat → Int) × (Nat → Int)
def rz21 : (Int × Int × Int × Int × Nat × Nat × Nat × Int × Int × Int × Int × Int × Int × Int × Int × (Nat → Int) × Nat × (Nat → Int) × Nat × (Nat → Int) × (Nat → Int) × (Nat → Int) × (Nat → Int)) → CRes := fun z => CRes.ret (V.tup []) [some (Chunk.blk [i64 (z.1), i64 (z.2.1), i64 (z.2.2.1), i64 (z.2.2.2.1), V.sl 1 1 0 (z.2.2.2.2.1), V.sl 2 1 0 (z.2.2.2.2.2.1), V.sl 3 2 0 (z.2.2.2.2.2.2.1), i64 (z.2.2.2.2.2.2.2.1), i64 (z.2.2.2.2.2.2.2.2.1), i64 (z.2.2.2.2.2.2.2.2.2.1), i64 (z.2.2.2.2.2.2.2.2.2.2.1), i64 (z.2.2.2.2.2.2.2.2.2.2.2.1), i64 (z.2.2.2.2.2.2.2.2.2.2.2.2.1), i64 (z.2.2.2.2.2.2.2.2.2.2.2.2.2.1), i64 (z.2.2.2.2.2.2.2.2.2.2.2.2.2.2.1), V.fn 37 [V.ptr 4 0], bo false]), some (Chunk.row 3 1 (z.2.2.2.2.1) fun (j : Nat) => [i64 (z.2.2.2.2.2.2.2.2.2.2.2.2.2.2.2.1 j)]), some (Chunk.row 3 1 (z.2.2.2.2.2.2.2.2.2.2.2.2.2.2.2.2.1) fun (j : Nat) => [i64 (z.2.2.2.2.2.2.2.2.2.2.2.2.2.2.2.2.2.1 j)]), some (Chunk.row 81 2 (z.2.2.2.2.2.2.2.2.2.2.2.2.2.2.2.2.2.2.1) fun (j : Nat) => [i64 (z.2.2.2.2.2.2.2.2.2.2.2.2.2.2.2.2.2.2.2.1 j), i64 (z.2.2.2.2.2.2.2.2.2.2.2.2.2.2.2.2.2.2.2.2.1 j)]), some (Chunk.blk [V.sl 5 3 0 1]), some (Chunk.row 51 3 1 fun (j : Nat) => [i64 (3 : Int), i64 (z.2.2.2.2.2.2.2.2.2.2.2.2.2.2.2.2.2.2.2.2.2.1 j), i64 (z.2.2.2.2.2.2.2.2.2.2.2.2.2.2.2.2.2.2.2.2.2.2 j)])]
def R_sendZ : g_sendZ → CRes := rz21
def x_sendZ (z : g_sendZ) (k : CRes → Option Ans) : Option Ans := k (R_sendZ z)
theorem xe_sendZ : ∀ z k, x_sendZ z k = k (R_sendZ z) := fun z k => rfl
def t_sendZ {β : Type} (x : a_pushZ) (dn : g_sendZ → Option β) : Option β :=
 ux2 x fun p0 p1 p2 p3 p4 p5 p6 p7 p8 p9 p10 p11 p12 p13 p14 p15 p16 p17 p18 p19 p20 p21 =>
 dn ((w (p1 + 1), p2, p3, p4, p5, p7, p10, p14, p15, p16, p17, p18, p19, p20, p21, p6, p8, p9, p11, p12, p13, fun (j : Nat) => w (Int.tdiv p0 8), fun (j : Nat) => Int.tmod p0 8))
noncomputable def sendZ (q : Nat) (x : a_pushZ) : Option g_sendZ := t_sendZ x some
theorem sc_sendZ (q : Nat) : ∀ (x : a_pushZ) (z : g_sendZ), sendZ q x = some z → SC E8 74 (A_pushZ x).1 (A_pushZ x).2 (R_sendZ z) :=
 lift1 A_pushZ R_sendZ t_sendZ (fun x => by kernel_rfl) fun x dn => by
 unfold t_sendZ ux2
 repeat' first | exact free_none | refine free_ite ?_ ?_ | rfl
def R_sendA : g_storeA → CRes := rz20
def x_sendA (z : g_storeA) (k : CRes → Option Ans) : Option Ans := k (R_sendA z)
theorem xe_sendA : ∀ z k, x_sendA z k = k (R_sendA z) := fun z k => rfl
def t_sendA {β : Type} (x : a_pushA) (dn : g_storeA → Option β) : Option β :=
 ux5 x fun p0 p1 p2 p3 p4 p5 p6 p7 p8 p9 p10 p11 p12 p13 p14 p15 p16 p17 p18 p19 p20 p21 p22 p23 p24 p25 =>
 if (p22 + 1) * 24 ≤ roomBound ∧ p22 + 1 ≤ maxLen ∧ p22 ≤ p22 then
 dn ((w (p1 + 1), p2, p3, p4, p5, p7, p10, p14, p15, p16, p17, p18, p19, p20, p21, p6, p8, p9, p11, p12, p13, p22 + 1, fun (j : Nat) => if j < p22 then p23 j else 3, fun (j : Nat) => if j < p22 then p24 j else w (Int.tdiv p0 8), fun (j : Nat) => if j < p22 then p25 j else Int.tmod p0 8))
 else
 none
noncomputable def sendA (q : Nat) (x : a_pushA) : Option g_storeA := t_sendA x some
theorem sc_sendA (q : Nat) : ∀ (x : a_pushA) (z : g_storeA), sendA q x = some z → SC E8 74 (A_pushA x).1 (A_pushA x).2 (R_sendA z) :=
 lift1 A_pushA R_sendA t_sendA (fun x => by kernel_rfl) fun x dn => by
 unfold t_sendA ux5
 repeat' first | exact free_none | refine free_ite ?_ ?_ | rfl
def rz22 : (Int × Int × Int × Int × Nat × Nat × Nat × Int × Int × Int × Int × Int × Int × Int × Int × (Nat → Int) × Nat × (Nat → Int) × Nat × (Nat → Int) × (Nat → Int) × (Nat → Int)) → CRes := fun z => uz11 z fun p0 p1 p2 p3 p4 p5 p6 p7 p8 p9 p10 p11 p12 p13 p14 p15 p16 p17 p18 p19 p20 p21 =>  CRes.ret (V.tup []) [some (Chunk.blk [i64 p0, i64 p1, i64 p2, i64 p3, V.sl 1 1 0 p4, V.sl 2 1 0 p5, V.sl 3 2 0 p6, i64 p7, i64 p8, i64 p9, i64 p10, i64 p11, i64 p12, i64 p13, i64 p14, V.fn 37 [V.ptr 4 0], bo false]), some (Chunk.row 3 1 p4 fun (j : Nat) => [i64 (p15 j)]), some (Chunk.row 3 1 p16 fun (j : Nat) => [i64 (p17 j)]), some (Chunk.row 81 2 p18 fun (j : Nat) => [i64 (p19 j), i64 (p20 j)]), some (Chunk.blk [V.sl 5 3 0 1]), some (Chunk.row 51 3 1 fun (j : Nat) => [i64 (4 : Int), i64 (p21 j), i64 (0 : Int)])]
def R_keep_Z : g_pointZ → CRes := rz22
def x_keep_Z (z : g_pointZ) (k : CRes → Option Ans) : Option Ans := k (R_keep_Z z)
theorem xe_keep_Z : ∀ z k, x_keep_Z z k = k (R_keep_Z z) := fun z k => rfl
def t_keep_Z {β : Type} (x : a_pushZ) (dn : g_pointZ → Option β) : Option β :=
 ux2 x fun p0 p1 p2 p3 p4 p5 p6 p7 p8 p9 p10 p11 p12 p13 p14 p15 p16 p17 p18 p19 p20 p21 =>
 dn ((w (p1 + 1), p2, p3, p4, p5, p7, p10, p14, p15, p16, p17, p18, p19, p20, p21, p6, p8, p9, p11, p12, p13, fun (j : Nat) => p0))
noncomputable def keep_Z (q : Nat) (x : a_pushZ) : Option g_pointZ := t_keep_Z x some
theorem sc_keep_Z (q : Nat) : ∀ (x : a_pushZ) (z : g_pointZ), keep_Z q x = some z → SC E8 75 (A_pushZ x).1 (A_pushZ x).2 (R_keep_Z z) :=
 lift1 A_pushZ R_keep_Z t_keep_Z (fun x => by kernel_rfl) fun x dn => by
 unfold t_keep_Z ux2
 repeat' first | exact free_none | refine free_ite ?_ ?_ | rfl
def t_keep_A {β : Type} (x : a_pushA) (dn : g_storeA → Option β) : Option β :=
 ux5 x fun p0 p1 p2 p3 p4 p5 p6 p7 p8 p9 p10 p11 p12 p13 p14 p15 p16 p17 p18 p19 p20 p21 p22 p23 p24 p25 =>
 if (p22 + 1) * 24 ≤ roomBound ∧ p22 + 1 ≤ maxLen ∧ p22 ≤ p22 then
 dn ((w (p1 + 1), p2, p3, p4, p5, p7, p10, p14, p15, p16, p17, p18, p19, p20, p21, p6, p8, p9, p11, p12, p13, p22 + 1, fun (j : Nat) => if j < p22 then p23 j else 4, fun (j : Nat) => if j < p22 then p24 j else p0, fun (j : Nat) => if j < p22 then p25 j else 0))
 else
 none
noncomputable def keep_A (q : Nat) (x : a_pushA) : Option g_storeA := t_keep_A x some
theorem sc_keep_A (q : Nat) : ∀ (x : a_pushA) (z : g_storeA), keep_A q x = some z → SC E8 75 (A_pushA x).1 (A_pushA x).2 (R_sendA z) :=
 lift1 A_pushA R_sendA t_keep_A (fun x => by kernel_rfl) fun x dn => by
 unfold t_keep_A ux5
 repeat' first | exact free_none | refine free_ite ?_ ?_ | rfl
def rz23 : (Int × Int × Int × Int × Nat × Nat × Nat × Int × Int × Int × Int × Int × Int × Int × Int × (Nat → Int) × Nat × (Nat → Int) × Nat × (Nat → Int) × (Nat → Int) × (Nat → Int)) → CRes := fun z => uz11 z fun p0 p1 p2 p3 p4 p5 p6 p7 p8 p9 p10 p11 p12 p13 p14 p15 p16 p17 p18 p19 p20 p21 =>  CRes.ret (V.tup []) [some (Chunk.blk [i64 p0, i64 p1, i64 p2, i64 p3, V.sl 1 1 0 p4, V.sl 2 1 0 p5, V.sl 3 2 0 p6, i64 p7, i64 p8, i64 p9, i64 p10, i64 p11, i64 p12, i64 p13, i64 p14, V.fn 37 [V.ptr 4 0], bo false]), some (Chunk.row 3 1 p4 fun (j : Nat) => [i64 (p15 j)]), some (Chunk.row 3 1 p16 fun (j : Nat) => [i64 (p17 j)]), some (Chunk.row 81 2 p18 fun (j : Nat) => [i64 (p19 j), i64 (p20 j)]), some (Chunk.blk [V.sl 5 3 0 1]), some (Chunk.row 51 3 1 fun (j : Nat) => [i64 (5 : Int), i64 (p21 j), i64 (0 : Int)])]
def R_eventZ : g_pointZ → CRes := rz23
def x_eventZ (z : g_pointZ) (k : CRes → Option Ans) : Option Ans := k (R_eventZ z)
theorem xe_eventZ : ∀ z k, x_eventZ z k = k (R_eventZ z) := fun z k => rfl
def t_eventZ {β : Type} (x : a_pushZ) (dn : g_pointZ → Option β) : Option β :=
 ux2 x fun p0 p1 p2 p3 p4 p5 p6 p7 p8 p9 p10 p11 p12 p13 p14 p15 p16 p17 p18 p19 p20 p21 =>
 dn ((w (p1 + 1), p2, p3, p4, p5, p7, p10, p14, p15, p16, p17, p18, p19, p20, p21, p6, p8, p9, p11, p12, p13, fun (j : Nat) => p0))
noncomputable def eventZ (q : Nat) (x : a_pushZ) : Option g_pointZ := t_eventZ x some
theorem sc_eventZ (q : Nat) : ∀ (x : a_pushZ) (z : g_pointZ), eventZ q x = some z → SC E8 76 (A_pushZ x).1 (A_pushZ x).2 (R_eventZ z) :=
 lift1 A_pushZ R_eventZ t_eventZ (fun x => by kernel_rfl) fun x dn => by
 unfold t_eventZ ux2
 repeat' first | exact free_none | refine free_ite ?_ ?_ | rfl
def t_eventA {β : Type} (x : a_pushA) (dn : g_storeA → Option β) : Option β :=
 ux5 x fun p0 p1 p2 p3 p4 p5 p6 p7 p8 p9 p10 p11 p12 p13 p14 p15 p16 p17 p18 p19 p20 p21 p22 p23 p24 p25 =>
 if (p22 + 1) * 24 ≤ roomBound ∧ p22 + 1 ≤ maxLen ∧ p22 ≤ p22 then
 dn ((w (p1 + 1), p2, p3, p4, p5, p7, p10, p14, p15, p16, p17, p18, p19, p20, p21, p6, p8, p9, p11, p12, p13, p22 + 1, fun (j : Nat) => if j < p22 then p23 j else 5, fun (j : Nat) => if j < p22 then p24 j else p0, fun (j : Nat) => if j < p22 then p25 j else 0))
 else
 none
noncomputable def eventA (q : Nat) (x : a_pushA) : Option g_storeA := t_eventA x some
theorem sc_eventA (q : Nat) : ∀ (x : a_pushA) (z : g_storeA), eventA q x = some z → SC E8 76 (A_pushA x).1 (A_pushA x).2 (R_sendA z) :=
 lift1 A_pushA R_sendA t_eventA (fun x => by kernel_rfl) fun x dn => by
 unfold t_eventA ux5
 repeat' first | exact free_none | refine free_ite ?_ ?_ | rfl
abbrev g_abortZ : Type := Int × Nat × Int × Int × Int × Int × Int × Int × Int × (Nat → Int) × Nat × (Nat → Int) × Nat × (Nat → Int) × (Nat → Int)
def rz24 : (Int × Nat × Int × Int × Int × Int × Int × Int × Int × (Nat → Int) × Nat × (Nat → Int) × Nat × (Nat → Int) × (Nat → Int)) → CRes := fun z => CRes.ret (V.tup []) [some (Chunk.blk [i64 (z.1), i64 (0 : Int), i64 (-1 : Int), i64 (-1 : Int), V.sl 1 1 0 (z.2.1), nilS, nilS, i64 (2 : Int), i64 (z.2.2.1), i64 (z.2.2.2.1), i64 (z.2.2.2.2.1), i64 (z.2.2.2.2.2.1), i64 (z.2.2.2.2.2.2.1), i64 (z.2.2.2.2.2.2.2.1), i64 (z.2.2.2.2.2.2.2.2.1), V.fn 37 [V.ptr 4 0], bo true]), some (Chunk.row 3 1 (z.2.1) fun (j : Nat) => [i64 (z.2.2.2.2.2.2.2.2.2.1 j)]), some (Chunk.row 3 1 (z.2.2.2.2.2.2.2.2.2.2.1) fun (j : Nat) => [i64 (z.2.2.2.2.2.2.2.2.2.2.2.1 j)]), some (Chunk.row 81 2 (z.2.2.2.2.2.2.2.2.2.2.2.2.1) fun (j : Nat) => [i64 (z.2.2.2.2.2.2.2.2.2.2.2.2.2.1 j), i64 (z.2.2.2.2.2.2.2.2.2.2.2.2.2.2 j)]), some (Chunk.blk [nilS])]
def R_abortZ : g_abortZ → CRes := rz24
def x_abortZ (z : g_abortZ) (k : CRes → Option Ans) : Option Ans := k (R_abortZ z)
theorem xe_abortZ : ∀ z k, x_abortZ z k = k (R_abortZ z) := fun z k => rfl
def t_abortZ {β : Type} (x : a_pushZ) (dn : g_abortZ → Option β) : Option β :=
 ux2 x fun p0 p1 p2 p3 p4 p5 p6 p7 p8 p9 p10 p11 p12 p13 p14 p15 p16 p17 p18 p19 p20 p21 =>
 dn ((p1, p5, p0, p16, p17, p18, p19, p20, p21, p6, p8, p9, p11, p12, p13))
noncomputable def abortZ (q : Nat) (x : a_pushZ) : Option g_abortZ := t_abortZ x some
theorem sc_abortZ (q : Nat) : ∀ (x : a_pushZ) (z : g_abortZ), abortZ q x = some z → SC E8 77 (A_pushZ x).1 (A_pushZ x).2 (R_abortZ z) :=
 lift1 A_pushZ R_abortZ t_abortZ (fun x => by kernel_rfl) fun x dn => by
 unfold t_abortZ ux2
 repeat' first | exact free_none | refine free_ite ?_ ?_ | rfl
abbrev g_abortA : Type := Int × Nat × Int × Int × Int × Int × Int × Int × Int × (Nat → Int) × Nat × (Nat → Int) × Nat × (Nat → Int) × (Nat → Int) × Nat × (Nat → Int) × (Nat → Int) × (Nat → Int)
def rz25 : (Int × Nat × Int × Int × Int × Int × Int × Int × Int × (Nat → Int) × Nat × (Nat → Int) × Nat × (Nat → Int) × (Nat → Int) × Nat × (Nat → Int) × (Nat → Int) × (Nat → Int)) → CRes := fun z => CRes.ret (V.tup []) [some (Chunk.blk [i64 (z.1), i64 (0 : Int), i64 (-1 : Int), i64 (-1 : Int), V.sl 1 1 0 (z.2.1), nilS, nilS, i64 (2 : Int), i64 (z.2.2.1), i64 (z.2.2.2.1), i64 (z.2.2.2.2.1), i64 (z.2.2.2.2.2.1), i64 (z.2.2.2.2.2.2.1), i64 (z.2.2.2.2.2.2.2.1), i64 (z.2.2.2.2.2.2.2.2.1), V.fn 37 [V.ptr 4 0], bo true]), some (Chunk.row 3 1 (z.2.1) fun (j : Nat) => [i64 (z.2.2.2.2.2.2.2.2.2.1 j)]), some (Chunk.row 3 1 (z.2.2.2.2.2.2.2.2.2.2.1) fun (j : Nat) => [i64 (z.2.2.2.2.2.2.2.2.2.2.2.1 j)]), some (Chunk.row 81 2 (z.2.2.2.2.2.2.2.2.2.2.2.2.1) fun (j : Nat) => [i64 (z.2.2.2.2.2.2.2.2.2.2.2.2.2.1 j), i64 (z.2.2.2.2.2.2.2.2.2.2.2.2.2.2.1 j)]), some (Chunk.blk [V.sl 5 3 0 (z.2.2.2.2.2.2.2.2.2.2.2.2.2.2.2.1)]), some (Chunk.row 51 3 (z.2.2.2.2.2.2.2.2.2.2.2.2.2.2.2.1) fun (j : Nat) => [i64 (z.2.2.2.2.2.2.2.2.2.2.2.2.2.2.2.2.1 j), i64 (z.2.2.2.2.2.2.2.2.2.2.2.2.2.2.2.2.2.1 j), i64 (z.2.2.2.2.2.2.2.2.2.2.2.2.2.2.2.2.2.2 j)])]
def R_abortA : g_abortA → CRes := rz25
def x_abortA (z : g_abortA) (k : CRes → Option Ans) : Option Ans := k (R_abortA z)
theorem xe_abortA : ∀ z k, x_abortA z k = k (R_abortA z) := fun z k => rfl
def t_abortA {β : Type} (x : a_pushA) (dn : g_abortA → Option β) : Option β :=
 ux5 x fun p0 p1 p2 p3 p4 p5 p6 p7 p8 p9 p10 p11 p12 p13 p14 p15 p16 p17 p18 p19 p20 p21 p22 p23 p24 p25 =>
 dn ((p1, p5, p0, p16, p17, p18, p19, p20, p21, p6, p8, p9, p11, p12, p13, (p22, p23, p24, p25)))
noncomputable def abortA (q : Nat) (x : a_pushA) : Option g_abortA := t_abortA x some
theorem sc_abortA (q : Nat) : ∀ (x : a_pushA) (z : g_abortA), abortA q x = some z → SC E8 77 (A_pushA x).1 (A_pushA x).2 (R_abortA z) :=
 lift1 A_pushA R_abortA t_abortA (fun x => by kernel_rfl) fun x dn => by
 unfold t_abortA ux5
 repeat' first | exact free_none | refine free_ite ?_ ?_ | rfl
abbrev g_stopZ : Type := Int × Nat × Int × Int × Int × Int × Int × Int × (Nat → Int) × Nat × (Nat → Int) × Nat × (Nat → Int) × (Nat → Int)
def rz26 : (Int × Nat × Int × Int × Int × Int × Int × Int × (Nat → Int) × Nat × (Nat → Int) × Nat × (Nat → Int) × (Nat → Int)) → CRes := fun z => uz0 z fun p0 p1 p2 p3 p4 p5 p6 p7 p8 p9 p10 p11 p12 p13 =>  CRes.ret (V.tup []) [some (Chunk.blk [i64 p0, i64 (0 : Int), i64 (-1 : Int), i64 (-1 : Int), V.sl 1 1 0 p1, nilS, nilS, i64 (1 : Int), i64 (0 : Int), i64 p2, i64 p3, i64 p4, i64 p5, i64 p6, i64 p7, V.fn 37 [V.ptr 4 0], bo true]), some (Chunk.row 3 1 p1 fun (j : Nat) => [i64 (p8 j)]), some (Chunk.row 3 1 p9 fun (j : Nat) => [i64 (p10 j)]), some (Chunk.row 81 2 p11 fun (j : Nat) => [i64 (p12 j), i64 (p13 j)]), some (Chunk.blk [nilS])]
def R_stopZ : g_stopZ → CRes := rz26
def x_stopZ (z : g_stopZ) (k : CRes → Option Ans) : Option Ans := k (R_stopZ z)
theorem xe_stopZ : ∀ z k, x_stopZ z k = k (R_stopZ z) := fun z k => rfl
def t_stopZ {β : Type} (x : a_pushZ) (dn : g_stopZ → Option β) : Option β :=
 ux2 x fun p0 p1 p2 p3 p4 p5 p6 p7 p8 p9 p10 p11 p12 p13 p14 p15 p16 p17 p18 p19 p20 p21 =>
 dn ((p1, p5, p16, p17, p18, p19, p20, p21, p6, p8, p9, p11, p12, p13))
noncomputable def stopZ (q : Nat) (x : a_pushZ) : Option g_stopZ := t_stopZ x some
theorem sc_stopZ (q : Nat) : ∀ (x : a_pushZ) (z : g_stopZ), stopZ q x = some z → SC E8 78 (A_pushZ x).1 (A_pushZ x).2 (R_stopZ z) :=
 lift1 A_pushZ R_stopZ t_stopZ (fun x => by kernel_rfl) fun x dn => by
 unfold t_stopZ ux2
 repeat' first | exact free_none | refine free_ite ?_ ?_ | rfl
abbrev g_stopA : Type := Int × Nat × Int × Int × Int × Int × Int × Int × (Nat → Int) × Nat × (Nat → Int) × Nat × (Nat → Int) × (Nat → Int) × Nat × (Nat → Int) × (Nat → Int) × (Nat → Int)
def rz27 : (Int × Nat × Int × Int × Int × Int × Int × Int × (Nat → Int) × Nat × (Nat → Int) × Nat × (Nat → Int) × (Nat → Int) × Nat × (Nat → Int) × (Nat → Int) × (Nat → Int)) → CRes := fun z => uz3 z fun p0 p1 p2 p3 p4 p5 p6 p7 p8 p9 p10 p11 p12 p13 p14 p15 p16 p17 =>  CRes.ret (V.tup []) [some (Chunk.blk [i64 p0, i64 (0 : Int), i64 (-1 : Int), i64 (-1 : Int), V.sl 1 1 0 p1, nilS, nilS, i64 (1 : Int), i64 (0 : Int), i64 p2, i64 p3, i64 p4, i64 p5, i64 p6, i64 p7, V.fn 37 [V.ptr 4 0], bo true]), some (Chunk.row 3 1 p1 fun (j : Nat) => [i64 (p8 j)]), some (Chunk.row 3 1 p9 fun (j : Nat) => [i64 (p10 j)]), some (Chunk.row 81 2 p11 fun (j : Nat) => [i64 (p12 j), i64 (p13 j)]), some (Chunk.blk [V.sl 5 3 0 p14]), some (Chunk.row 51 3 p14 fun (j : Nat) => [i64 (p15 j), i64 (p16 j), i64 (p17 j)])]
def R_stopA : g_stopA → CRes := rz27
def x_stopA (z : g_stopA) (k : CRes → Option Ans) : Option Ans := k (R_stopA z)
theorem xe_stopA : ∀ z k, x_stopA z k = k (R_stopA z) := fun z k => rfl
def t_stopA {β : Type} (x : a_pushA) (dn : g_stopA → Option β) : Option β :=
 ux5 x fun p0 p1 p2 p3 p4 p5 p6 p7 p8 p9 p10 p11 p12 p13 p14 p15 p16 p17 p18 p19 p20 p21 p22 p23 p24 p25 =>
 dn ((p1, p5, p16, p17, p18, p19, p20, p21, p6, p8, p9, p11, p12, p13, (p22, p23, p24, p25)))
noncomputable def stopA (q : Nat) (x : a_pushA) : Option g_stopA := t_stopA x some
theorem sc_stopA (q : Nat) : ∀ (x : a_pushA) (z : g_stopA), stopA q x = some z → SC E8 78 (A_pushA x).1 (A_pushA x).2 (R_stopA z) :=
 lift1 A_pushA R_stopA t_stopA (fun x => by kernel_rfl) fun x dn => by
 unfold t_stopA ux5
 repeat' first | exact free_none | refine free_ite ?_ ?_ | rfl
abbrev a_finishZ : Type := Int × Int × Int × Int × Int × Int × Nat × (Nat → Int) × Nat × Nat × (Nat → Int) × Nat × Nat × (Nat → Int) × (Nat → Int) × Int × Int × Int × Int × Int × Int × Int × Int
abbrev g_finishZ : Type := Int × Nat × Int × Int × Int × Int × Int × Int × Int × Int × (Nat → Int) × Nat × (Nat → Int) × Nat × (Nat → Int) × (Nat → Int)
def A_finishZ : a_finishZ → List V × List (Option Chunk) := (fun x => (fun (k2 : Int) (k : Int) (pc : Int) (sp : Int) (us : Int) (ti : Int) (vn : Nat) (vf : Nat → Int) (sk : Nat) (sn : Nat) (sf : Nat → Int) (lk : Nat) (ln : Nat) (la : Nat → Int) (lb : Nat → Int) (stt : Int) (cde : Int) (t0 : Int) (t1 : Int) (t2 : Int) (t3 : Int) (t4 : Int) (t5 : Int) => (([.ptr 0 0, i64 k, i64 k2] : List V), ([some (.blk [i64 pc, i64 sp, i64 us, i64 ti, .sl 1 1 0 vn, .sl 2 1 0 sk, .sl 3 2 0 lk, i64 stt, i64 cde, i64 t0, i64 t1, i64 t2, i64 t3, i64 t4, i64 t5, .fn 37 [.ptr 4 0], bo false]), some (.row 3 1 vn (fun j => [i64 (vf j)])), some (.row 3 1 sn (fun j => [i64 (sf j)])), some (.row 81 2 ln (fun j => [i64 (la j), i64 (lb j)])), some (.blk [nilS])] : List (Option Chunk)))) x.1 x.2.1 x.2.2.1 x.2.2.2.1 x.2.2.2.2.1 x.2.2.2.2.2.1 x.2.2.2.2.2.2.1 x.2.2.2.2.2.2.2.1 x.2.2.2.2.2.2.2.2.1 x.2.2.2.2.2.2.2.2.2.1 x.2.2.2.2.2.2.2.2.2.2.1 x.2.2.2.2.2.2.2.2.2.2.2.1 x.2.2.2.2.2.2.2.2.2.2.2.2.1 x.2.2.2.2.2.2.2.2.2.2.2.2.2.1 x.2.2.2.2.2.2.2.2.2.2.2.2.2.2.1 x.2.2.2.2.2.2.2.2.2.2.2.2.2.2.2.1 x.2.2.2.2.2.2.2.2.2.2.2.2.2.2.2.2.1 x.2.2.2.2.2.2.2.2.2.2.2.2.2.2.2.2.2.1 x.2.2.2.2.2.2.2.2.2.2.2.2.2.2.2.2.2.2.1 x.2.2.2.2.2.2.2.2.2.2.2.2.2.2.2.2.2.2.2.1 x.2.2.2.2.2.2.2.2.2.2.2.2.2.2.2.2.2.2.2.2.1 x.2.2.2.2.2.2.2.2.2.2.2.2.2.2.2.2.2.2.2.2.2.1 x.2.2.2.2.2.2.2.2.2.2.2.2.2.2.2.2.2.2.2.2.2.2)
def d_finishZ (t : List V × List (Option Chunk)) : a_finishZ := ((vI (t.1.getD 2 .junk)), (vI (t.1.getD 1 .junk)), (vI ((chB (t.2.getD 0 none)).getD 0 .junk)), (vI ((chB (t.2.getD 0 none)).getD 1 .junk)), (vI ((chB (t.2.getD 0 none)).getD 2 .junk)), (vI ((chB (t.2.getD 0 none)).getD 3 .junk)), (vSlN ((chB (t.2.getD 0 none)).getD 4 .junk)), (fun j => (vI (((chF (t.2.getD 1 none)) j).getD 0 .junk))), (vSlN ((chB (t.2.getD 0 none)).getD 5 .junk)), (chN (t.2.getD 2 none)), (fun j => (vI (((chF (t.2.getD 2 none)) j).getD 0 .junk))), (vSlN ((chB (t.2.getD 0 none)).getD 6 .junk)), (chN (t.2.getD 3 none)), (fun j => (vI (((chF (t.2.getD 3 none)) j).getD 0 .junk))), (fun j => (vI (((chF (t.2.getD 3 none)) j).getD 1 .junk))), (vI ((chB (t.2.getD 0 none)).getD 7 .junk)), (vI ((chB (t.2.getD 0 none)).getD 8 .junk)), (vI ((chB (t.2.getD 0 none)).getD 9 .junk)), (vI ((chB (t.2.getD 0 none)).getD 10 .junk)), (vI ((chB (t.2.getD 0 none)).getD 11 .junk)), (vI ((chB (t.2.getD 0 none)).getD 12 .junk)), (vI ((chB (t.2.getD 0 none)).getD 13 .junk)), (vI ((chB (t.2.getD 0 none)).getD 14 .junk)))
theorem i_finishZ : ∀ x y, A_finishZ x = A_finishZ y → x = y := fun x y h => (congrArg d_finishZ h :)
def rz28 : (Int × Nat × Int × Int × Int × Int × Int × Int × Int × Int × (Nat → Int) × Nat × (Nat → Int) × Nat × (Nat → Int) × (Nat → Int)) → CRes := fun z => CRes.ret (V.tup []) [some (Chunk.blk [i64 (z.1), i64 (0 : Int), i64 (-1 : Int), i64 (-1 : Int), V.sl 1 1 0 (z.2.1), nilS, nilS, i64 (z.2.2.1), i64 (z.2.2.2.1), i64 (z.2.2.2.2.1), i64 (z.2.2.2.2.2.1), i64 (z.2.2.2.2.2.2.1), i64 (z.2.2.2.2.2.2.2.1), i64 (z.2.2.2.2.2.2.2.2.1), i64 (z.2.2.2.2.2.2.2.2.2.1), V.fn 37 [V.ptr 4 0], bo true]), some (Chunk.row 3 1 (z.2.1) fun (j : Nat) => [i64 (z.2.2.2.2.2.2.2.2.2.2.1 j)]), some (Chunk.row 3 1 (z.2.2.2.2.2.2.2.2.2.2.2.1) fun (j : Nat) => [i64 (z.2.2.2.2.2.2.2.2.2.2.2.2.1 j)]), some (Chunk.row 81 2 (z.2.2.2.2.2.2.2.2.2.2.2.2.2.1) fun (j : Nat) => [i64 (z.2.2.2.2.2.2.2.2.2.2.2.2.2.2.1 j), i64 (z.2.2.2.2.2.2.2.2.2.2.2.2.2.2.2 j)]), some (Chunk.blk [nilS])]
def R_finishZ : g_finishZ → CRes := rz28
def x_finishZ (z : g_finishZ) (k : CRes → Option Ans) : Option Ans := k (R_finishZ z)
theorem xe_finishZ : ∀ z k, x_finishZ z k = k (R_finishZ z) := fun z k => rfl
def ux16 {γ : Type} (x : Int × Int × Int × Int × Int × Int × Nat × (Nat → Int) × Nat × Nat × (Nat → Int) × Nat × Nat × (Nat → Int) × (Nat → Int) × Int × Int × Int × Int × Int × Int × Int × Int) (f : Int → Int → Int → Int → Int → Int → Nat → (Nat → Int) → Nat → Nat → (Nat → Int) → Nat → Nat → (Nat → Int) → (Nat → Int) → Int → Int → Int → Int → Int → Int → Int → Int → γ) : γ := f x.1 x.2.1 x.2.2.1 x.2.2.2.1 x.2.2.2.2.1 x.2.2.2.2.2.1 x.2.2.2.2.2.2.1 x.2.2.2.2.2.2.2.1 x.2.2.2.2.2.2.2.2.1 x.2.2.2.2.2.2.2.2.2.1 x.2.2.2.2.2.2.2.2.2.2.1 x.2.2.2.2.2.2.2.2.2.2.2.1 x.2.2.2.2.2.2.2.2.2.2.2.2.1 x.2.2.2.2.2.2.2.2.2.2.2.2.2.1 x.2.2.2.2.2.2.2.2.2.2.2.2.2.2.1 x.2.2.2.2.2.2.2.2.2.2.2.2.2.2.2.1 x.2.2.2.2.2.2.2.2.2.2.2.2.2.2.2.2.1 x.2.2.2.2.2.2.2.2.2.2.2.2.2.2.2.2.2.1 x.2.2.2.2.2.2.2.2.2.2.2.2.2.2.2.2.2.2.1 x.2.2.2.2.2.2.2.2.2.2.2.2.2.2.2.2.2.2.2.1 x.2.2.2.2.2.2.2.2.2.2.2.2.2.2.2.2.2.2.2.2.1 x.2.2.2.2.2.2.2.2.2.2.2.2.2.2.2.2.2.2.2.2.2.1 x.2.2.2.2.2.2.2.2.2.2.2.2.2.2.2.2.2.2.2.2.2.2
def t_finishZ {β : Type} (x : a_finishZ) (dn : g_finishZ → Option β) : Option β :=
 ux16 x fun p0 p1 p2 p3 p4 p5 p6 p7 p8 p9 p10 p11 p12 p13 p14 p15 p16 p17 p18 p19 p20 p21 p22 =>
 dn ((p2, p6, p1, p0, p17, p18, p19, p20, p21, p22, p7, p9, p10, p12, p13, p14))
noncomputable def finishZ (q : Nat) (x : a_finishZ) : Option g_finishZ := t_finishZ x some
theorem sc_finishZ (q : Nat) : ∀ (x : a_finishZ) (z : g_finishZ), finishZ q x = some z → SC E8 40 (A_finishZ x).1 (A_finishZ x).2 (R_finishZ z) :=
 lift1 A_finishZ R_finishZ t_finishZ (fun x => by kernel_rfl) fun x dn => by
 unfold t_finishZ ux16
 repeat' first | exact free_none | refine free_ite ?_ ?_ | rfl
abbrev a_finishA : Type := Int × Int × Int × Int × Int × Int × Nat × (Nat → Int) × Nat × Nat × (Nat → Int) × Nat × Nat × (Nat → Int) × (Nat → Int) × Int × Int × Int × Int × Int × Int × Int × Int × Nat × (Nat → Int) × (Nat → Int) × (Nat → Int)
abbrev g_finishA : Type := Int × Nat × Int × Int × Int × Int × Int × Int × Int × Int × (Nat → Int) × Nat × (Nat → Int) × Nat × (Nat → Int) × (Nat → Int) × Nat × (Nat → Int) × (Nat → Int) × (Nat → Int)
def A_finishA : a_finishA → List V × List (Option Chunk) := (fun x => (fun (k2 : Int) (k : Int) (pc : Int) (sp : Int) (us : Int) (ti : Int) (vn : Nat) (vf : Nat → Int) (sk : Nat) (sn : Nat) (sf : Nat → Int) (lk : Nat) (ln : Nat) (la : Nat → Int) (lb : Nat → Int) (stt : Int) (cde : Int) (t0 : Int) (t1 : Int) (t2 : Int) (t3 : Int) (t4 : Int) (t5 : Int) (an : Nat) (ax : Nat → Int) (ay : Nat → Int) (az : Nat → Int) => (([.ptr 0 0, i64 k, i64 k2] : List V), ([some (.blk [i64 pc, i64 sp, i64 us, i64 ti, .sl 1 1 0 vn, .sl 2 1 0 sk, .sl 3 2 0 lk, i64 stt, i64 cde, i64 t0, i64 t1, i64 t2, i64 t3, i64 t4, i64 t5, .fn 37 [.ptr 4 0], bo false]), some (.row 3 1 vn (fun j => [i64 (vf j)])), some (.row 3 1 sn (fun j => [i64 (sf j)])), some (.row 81 2 ln (fun j => [i64 (la j), i64 (lb j)])), some (.blk [.sl 5 3 0 an]), some (.row 51 3 an (fun j => [i64 (ax j), i64 (ay j), i64 (az j)]))] : List (Option Chunk)))) x.1 x.2.1 x.2.2.1 x.2.2.2.1 x.2.2.2.2.1 x.2.2.2.2.2.1 x.2.2.2.2.2.2.1 x.2.2.2.2.2.2.2.1 x.2.2.2.2.2.2.2.2.1 x.2.2.2.2.2.2.2.2.2.1 x.2.2.2.2.2.2.2.2.2.2.1 x.2.2.2.2.2.2.2.2.2.2.2.1 x.2.2.2.2.2.2.2.2.2.2.2.2.1 x.2.2.2.2.2.2.2.2.2.2.2.2.2.1 x.2.2.2.2.2.2.2.2.2.2.2.2.2.2.1 x.2.2.2.2.2.2.2.2.2.2.2.2.2.2.2.1 x.2.2.2.2.2.2.2.2.2.2.2.2.2.2.2.2.1 x.2.2.2.2.2.2.2.2.2.2.2.2.2.2.2.2.2.1 x.2.2.2.2.2.2.2.2.2.2.2.2.2.2.2.2.2.2.1 x.2.2.2.2.2.2.2.2.2.2.2.2.2.2.2.2.2.2.2.1 x.2.2.2.2.2.2.2.2.2.2.2.2.2.2.2.2.2.2.2.2.1 x.2.2.2.2.2.2.2.2.2.2.2.2.2.2.2.2.2.2.2.2.2.1 x.2.2.2.2.2.2.2.2.2.2.2.2.2.2.2.2.2.2.2.2.2.2.1 x.2.2.2.2.2.2.2.2.2.2.2.2.2.2.2.2.2.2.2.2.2.2.2.1 x.2.2.2.2.2.2.2.2.2.2.2.2.2.2.2.2.2.2.2.2.2.2.2.2.1 x.2.2.2.2.2.2.2.2.2.2.2.2.2.2.2.2.2.2.2.2.2.2.2.2.2.1 x.2.2.2.2.2.2.2.2.2.2.2.2.2.2.2.2.2.2.2.2.2.2.2.2.2.2)
def d_finishA (t : List V × List (Option Chunk)) : a_finishA := ((vI (t.1.getD 2 .junk)), (vI (t.1.getD 1 .junk)), (vI ((chB (t.2.getD 0 none)).getD 0 .junk)), (vI ((chB (t.2.getD 0 none)).getD 1 .junk)), (vI ((chB (t.2.getD 0 none)).getD 2 .junk)), (vI ((chB (t.2.getD 0 none)).getD 3 .junk)), (vSlN ((chB (t.2.getD 0 none)).getD 4 .junk)), (fun j => (vI (((chF (t.2.getD 1 none)) j).getD 0 .junk))), (vSlN ((chB (t.2.getD 0 none)).getD 5 .junk)), (chN (t.2.getD 2 none)), (fun j => (vI (((chF (t.2.getD 2 none)) j).getD 0 .junk))), (vSlN ((chB (t.2.getD 0 none)).getD 6 .junk)), (chN (t.2.getD 3 none)), (fun j => (vI (((chF (t.2.getD 3 none)) j).getD 0 .junk))), (fun j => (vI (((chF (t.2.getD 3 none)) j).getD 1 .junk))), (vI ((chB (t.2.getD 0 none)).getD 7 .junk)), (vI ((chB (t.2.getD 0 none)).getD 8 .junk)), (vI ((chB (t.2.getD 0 none)).getD 9 .junk)), (vI ((chB (t.2.getD 0 none)).getD 10 .junk)), (vI ((chB (t.2.getD 0 none)).getD 11 .junk)), (vI ((chB (t.2.getD 0 none)).getD 12 .junk)), (vI ((chB (t.2.getD 0 none)).getD 13 .junk)), (vI ((chB (t.2.getD 0 none)).getD 14 .junk)), (vSlN ((chB (t.2.getD 4 none)).getD 0 .junk)), (fun j => (vI (((chF (t.2.getD 5 none)) j).getD 0 .junk))), (fun j => (vI (((chF (t.2.getD 5 none)) j).getD 1 .junk))), (fun j => (vI (((chF (t.2.getD 5 none)) j).getD 2 .junk))))
theorem i_finishA : ∀ x y, A_finishA x = A_finishA y → x = y := fun x y h => (congrArg d_finishA h :)
def rz29 : (Int × Nat × Int × Int × Int × Int × Int × Int × Int × Int × (Nat → Int) × Nat × (Nat → Int) × Nat × (Nat → Int) × (Nat → Int) × Nat × (Nat → Int) × (Nat → Int) × (Nat → Int)) → CRes := fun z => CRes.ret (V.tup []) [some (Chunk.blk [i64 (z.1), i64 (0 : Int), i64 (-1 : Int), i64 (-1 : Int), V.sl 1 1 0 (z.2.1), nilS, nilS, i64 (z.2.2.1), i64 (z.2.2.2.1), i64 (z.2.2.2.2.1), i64 (z.2.2.2.2.2.1), i64 (z.2.2.2.2.2.2.1), i64 (z.2.2.2.2.2.2.2.1), i64 (z.2.2.2.2.2.2.2.2.1), i64 (z.2.2.2.2.2.2.2.2.2.1), V.fn 37 [V.ptr 4 0], bo true]), some (Chunk.row 3 1 (z.2.1) fun (j : Nat) => [i64 (z.2.2.2.2.2.2.2.2.2.2.1 j)]), some (Chunk.row 3 1 (z.2.2.2.2.2.2.2.2.2.2.2.1) fun (j : Nat) => [i64 (z.2.2.2.2.2.2.2.2.2.2.2.2.1 j)]), some (Chunk.row 81 2 (z.2.2.2.2.2.2.2.2.2.2.2.2.2.1) fun (j : Nat) => [i64 (z.2.2.2.2.2.2.2.2.2.2.2.2.2.2.1 j), i64 (z.2.2.2.2.2.2.2.2.2.2.2.2.2.2.2.1 j)]), some (Chunk.blk [V.sl 5 3 0 (z.2.2.2.2.2.2.2.2.2.2.2.2.2.2.2.2.1)]), some (Chunk.row 51 3 (z.2.2.2.2.2.2.2.2.2.2.2.2.2.2.2.2.1) fun (j : Nat) => [i64 (z.2.2.2.2.2.2.2.2.2.2.2.2.2.2.2.2.2.1 j), i64 (z.2.2.2.2.2.2.2.2.2.2.2.2.2.2.2.2.2.2.1 j), i64 (z.2.2.2.2.2.2.2.2.2.2.2.2.2.2.2.2.2.2.2 j)])]
def R_finishA : g_finishA → CRes := rz29
def x_finishA (z : g_finishA) (k : CRes → Option Ans) : Option Ans := k (R_finishA z)
theorem xe_finishA : ∀ z k, x_finishA z k = k (R_finishA z) := fun z k => rfl
def ux18 {γ : Type} (x : Int × Int × Int × Int × Int × Int × Nat × (Nat → Int) × Nat × Nat × (Nat → Int) × Nat × Nat × (Nat → Int) × (Nat → Int) × Int × Int × Int × Int × Int × Int × Int × Int × Nat × (Nat → Int) × (Nat → Int) × (Nat → Int)) (f : Int → Int → Int → Int → Int → Int → Nat → (Nat → Int) → Nat → Nat → (Nat → Int) → Nat → Nat → (Nat → Int) → (Nat → Int) → Int → Int → Int → Int → Int → Int → Int → Int → Nat → (Nat → Int) → (Nat → Int) → (Nat → Int) → γ) : γ := f x.1 x.2.1 x.2.2.1 x.2.2.2.1 x.2.2.2.2.1 x.2.2.2.2.2.1 x.2.2.2.2.2.2.1 x.2.2.2.2.2.2.2.1 x.2.2.2.2.2.2.2.2.1 x.2.2.2.2.2.2.2.2.2.1 x.2.2.2.2.2.2.2.2.2.2.1 x.2.2.2.2.2.2.2.2.2.2.2.1 x.2.2.2.2.2.2.2.2.2.2.2.2.1 x.2.2.2.2.2.2.2.2.2.2.2.2.2.1 x.2.2.2.2.2.2.2.2.2.2.2.2.2.2.1 x.2.2.2.2.2.2.2.2.2.2.2.2.2.2.2.1 x.2.2.2.2.2.2.2.2.2.2.2.2.2.2.2.2.1 x.2.2.2.2.2.2.2.2.2.2.2.2.2.2.2.2.2.1 x.2.2.2.2.2.2.2.2.2.2.2.2.2.2.2.2.2.2.1 x.2.2.2.2.2.2.2.2.2.2.2.2.2.2.2.2.2.2.2.1 x.2.2.2.2.2.2.2.2.2.2.2.2.2.2.2.2.2.2.2.2.1 x.2.2.2.2.2.2.2.2.2.2.2.2.2.2.2.2.2.2.2.2.2.1 x.2.2.2.2.2.2.2.2.2.2.2.2.2.2.2.2.2.2.2.2.2.2.1 x.2.2.2.2.2.2.2.2.2.2.2.2.2.2.2.2.2.2.2.2.2.2.2.1 x.2.2.2.2.2.2.2.2.2.2.2.2.2.2.2.2.2.2.2.2.2.2.2.2.1 x.2.2.2.2.2.2.2.2.2.2.2.2.2.2.2.2.2.2.2.2.2.2.2.2.2.1 x.2.2.2.2.2.2.2.2.2.2.2.2.2.2.2.2.2.2.2.2.2.2.2.2.2.2
def t_finishA {β : Type} (x : a_finishA) (dn : g_finishA → Option β) : Option β :=
 ux18 x fun p0 p1 p2 p3 p4 p5 p6 p7 p8 p9 p10 p11 p12 p13 p14 p15 p16 p17 p18 p19 p20 p21 p22 p23 p24 p25 p26 =>
 dn ((p2, p6, p1, p0, p17, p18, p19, p20, p21, p22, p7, p9, p10, p12, p13, p14, (p23, p24, p25, p26)))
noncomputable def finishA (q : Nat) (x : a_finishA) : Option g_finishA := t_finishA x some
theorem sc_finishA (q : Nat) : ∀ (x : a_finishA) (z : g_finishA), finishA q x = some z → SC E8 40 (A_finishA x).1 (A_finishA x).2 (R_finishA z) :=
 lift1 A_finishA R_finishA t_finishA (fun x => by kernel_rfl) fun x dn => by
 unfold t_finishA ux18
 repeat' first | exact free_none | refine free_ite ?_ ?_ | rfl
abbrev a_sleepZ : Type := Int × Int × Int × Int × Nat × (Nat → Int) × Nat × Nat × (Nat → Int) × Nat × Nat × (Nat → Int) × (Nat → Int) × Int × Int × Int × Int × Int × Int × Int × Int
abbrev g_sleepZ : Type := (Int × Int × Int × Nat × Nat × Nat × Int × Int × Int × Int × Int × Int × Int × Int × (Nat → Int) × Nat × (Nat → Int) × Nat × (Nat → Int) × (Nat → Int) × (Nat → Int) × Int) ⊕ (Int × Int × Int × Nat × Nat × Nat × Int × Int × Int × Int × Int × Int × Int × Int × (Nat → Int) × Nat × (Nat → Int) × Nat × (Nat → Int) × (Nat → Int) × Int)
def A_sleepZ : a_sleepZ → List V × List (Option Chunk) := (fun x => (fun (pc : Int) (sp : Int) (us : Int) (ti : Int) (vn : Nat) (vf : Nat → Int) (sk : Nat) (sn : Nat) (sf : Nat → Int) (lk : Nat) (ln : Nat) (la : Nat → Int) (lb : Nat → Int) (stt : Int) (cde : Int) (t0 : Int) (t1 : Int) (t2 : Int) (t3 : Int) (t4 : Int) (t5 : Int) => (([.ptr 0 0] : List V), ([some (.blk [i64 pc, i64 sp, i64 us, i64 ti, .sl 1 1 0 vn, .sl 2 1 0 sk, .sl 3 2 0 lk, i64 stt, i64 cde, i64 t0, i64 t1, i64 t2, i64 t3, i64 t4, i64 t5, .fn 37 [.ptr 4 0], bo false]), some (.row 3 1 vn (fun j => [i64 (vf j)])), some (.row 3 1 sn (fun j => [i64 (sf j)])), some (.row 81 2 ln (fun j => [i64 (la j), i64 (lb j)])), some (.blk [nilS])] : List (Option Chunk)))) x.1 x.2.1 x.2.2.1 x.2.2.2.1 x.2.2.2.2.1 x.2.2.2.2.2.1 x.2.2.2.2.2.2.1 x.2.2.2.2.2.2.2.1 x.2.2.2.2.2.2.2.2.1 x.2.2.2.2.2.2.2.2.2.1 x.2.2.2.2.2.2.2.2.2.2.1 x.2.2.2.2.2.2.2.2.2.2.2.1 x.2.2.2.2.2.2.2.2.2.2.2.2.1 x.2.2.2.2.2.2.2.2.2.2.2.2.2.1 x.2.2.2.2.2.2.2.2.2.2.2.2.2.2.1 x.2.2.2.2.2.2.2.2.2.2.2.2.2.2.2.1 x.2.2.2.2.2.2.2.2.2.2.2.2.2.2.2.2.1 x.2.2.2.2.2.2.2.2.2.2.2.2.2.2.2.2.2.1 x.2.2.2.2.2.2.2.2.2.2.2.2.2.2.2.2.2.2.1 x.2.2.2.2.2.2.2.2.2.2.2.2.2.2.2.2.2.2.2.1 x.2.2.2.2.2.2.2.2.2.2.2.2.2.2.2.2.2.2.2.2)
def d_sleepZ (t : List V × List (Option Chunk)) : a_sleepZ := ((vI ((chB (t.2.getD 0 none)).getD 0 .junk)), (vI ((chB (t.2.getD 0 none)).getD 1 .junk)), (vI ((chB (t.2.getD 0 none)).getD 2 .junk)), (vI ((chB (t.2.getD 0 none)).getD 3 .junk)), (vSlN ((chB (t.2.getD 0 none)).getD 4 .junk)), (fun j => (vI (((chF (t.2.getD 1 none)) j).getD 0 .junk))), (vSlN ((chB (t.2.getD 0 none)).getD 5 .junk)), (chN (t.2.getD 2 none)), (fun j => (vI (((chF (t.2.getD 2 none)) j).getD 0 .junk))), (vSlN ((chB (t.2.getD 0 none)).getD 6 .junk)), (chN (t.2.getD 3 none)), (fun j => (vI (((chF (t.2.getD 3 none)) j).getD 0 .junk))), (fun j => (vI (((chF (t.2.getD 3 none)) j).getD 1 .junk))), (vI ((chB (t.2.getD 0 none)).getD 7 .junk)), (vI ((chB (t.2.getD 0 none)).getD 8 .junk)), (vI ((chB (t.2.getD 0 none)).getD 9 .junk)), (vI ((chB (t.2.getD 0 none)).getD 10 .junk)), (vI ((chB (t.2.getD 0 none)).getD 11 .junk)), (vI ((chB (t.2.getD 0 none)).getD 12 .junk)), (vI ((chB (t.2.getD 0 none)).getD 13 .junk)), (vI ((chB (t.2.getD 0 none)).getD 14 .junk)))
theorem i_sleepZ : ∀ x y, A_sleepZ x = A_sleepZ y → x = y := fun x y h => (congrArg d_sleepZ h :)
def rz30 : (Int × Int × Int × Nat × Nat × Nat × Int × Int × Int × Int × Int × Int × Int × Int × (Nat → Int) × Nat × (Nat → Int) × Nat × (Nat → Int) × (Nat → Int) × (Nat → Int) × Int) → CRes := fun z => CRes.ret (V.tup []) [some (Chunk.blk [i64 (z.1), i64 (z.2.1), i64 (z.2.2.2.2.2.2.2.2.2.2.2.2.2.2.2.2.2.2.2.2.2), i64 (z.2.2.1), V.sl 1 1 0 (z.2.2.2.1), V.sl 2 1 0 (z.2.2.2.2.1), V.sl 3 2 0 (z.2.2.2.2.2.1), i64 (z.2.2.2.2.2.2.1), i64 (z.2.2.2.2.2.2.2.1), i64 (z.2.2.2.2.2.2.2.2.1), i64 (z.2.2.2.2.2.2.2.2.2.1), i64 (z.2.2.2.2.2.2.2.2.2.2.1), i64 (z.2.2.2.2.2.2.2.2.2.2.2.1), i64 (z.2.2.2.2.2.2.2.2.2.2.2.2.1), i64 (z.2.2.2.2.2.2.2.2.2.2.2.2.2.1), V.fn 37 [V.ptr 4 0], bo false]), some (Chunk.row 3 1 (z.2.2.2.1) fun (j : Nat) => [i64 (z.2.2.2.2.2.2.2.2.2.2.2.2.2.2.1 j)]), some (Chunk.row 3 1 (z.2.2.2.2.2.2.2.2.2.2.2.2.2.2.2.1) fun (j : Nat) => [i64 (z.2.2.2.2.2.2.2.2.2.2.2.2.2.2.2.2.1 j)]), some (Chunk.row 81 2 (z.2.2.2.2.2.2.2.2.2.2.2.2.2.2.2.2.2.1) fun (j : Nat) => [i64 (z.2.2.2.2.2.2.2.2.2.2.2.2.2.2.2.2.2.2.1 j), i64 (z.2.2.2.2.2.2.2.2.2.2.2.2.2.2.2.2.2.2.2.1 j)]), some (Chunk.blk [V.sl 5 3 0 1]), some (Chunk.row 51 3 1 fun (j : Nat) => [i64 (2 : Int), i64 (z.2.2.2.2.2.2.2.2.2.2.2.2.2.2.2.2.2.2.2.2.1 j), i64 (0 : Int)])]
def rz31 : (Int × Int × Int × Nat × Nat × Nat × Int × Int × Int × Int × Int × Int × Int × Int × (Nat → Int) × Nat × (Nat → Int) × Nat × (Nat → Int) × (Nat → Int) × Int) → CRes := fun z => CRes.ret (V.tup []) [some (Chunk.blk [i64 (z.1), i64 (z.2.1), i64 (z.2.2.2.2.2.2.2.2.2.2.2.2.2.2.2.2.2.2.2.2), i64 (z.2.2.1), V.sl 1 1 0 (z.2.2.2.1), V.sl 2 1 0 (z.2.2.2.2.1), V.sl 3 2 0 (z.2.2.2.2.2.1), i64 (z.2.2.2.2.2.2.1), i64 (z.2.2.2.2.2.2.2.1), i64 (z.2.2.2.2.2.2.2.2.1), i64 (z.2.2.2.2.2.2.2.2.2.1), i64 (z.2.2.2.2.2.2.2.2.2.2.1), i64 (z.2.2.2.2.2.2.2.2.2.2.2.1), i64 (z.2.2.2.2.2.2.2.2.2.2.2.2.1), i64 (z.2.2.2.2.2.2.2.2.2.2.2.2.2.1), V.fn 37 [V.ptr 4 0], bo false]), some (Chunk.row 3 1 (z.2.2.2.1) fun (j : Nat) => [i64 (z.2.2.2.2.2.2.2.2.2.2.2.2.2.2.1 j)]), some (Chunk.row 3 1 (z.2.2.2.2.2.2.2.2.2.2.2.2.2.2.2.1) fun (j : Nat) => [i64 (z.2.2.2.2.2.2.2.2.2.2.2.2.2.2.2.2.1 j)]), some (Chunk.row 81 2 (z.2.2.2.2.2.2.2.2.2.2.2.2.2.2.2.2.2.1) fun (j : Nat) => [i64 (z.2.2.2.2.2.2.2.2.2.2.2.2.2.2.2.2.2.2.1 j), i64 (z.2.2.2.2.2.2.2.2.2.2.2.2.2.2.2.2.2.2.2.1 j)]), some (Chunk.blk [nilS])]
def R_sleepZ : g_sleepZ → CRes := Sum.elim rz30 rz31
def x_sleepZ (z : g_sleepZ) (k : CRes → Option Ans) : Option Ans := Sum.elim (fun za => k (R_sleepZ (.inl za))) (fun zb => k (R_sleepZ (.inr zb))) z
theorem xe_sleepZ : ∀ z k, x_sleepZ z k = k (R_sleepZ z) := fun z k => by
 rcases z with z | z <;> rfl
def ux21 {γ : Type} (x : Int × Int × Int × Int × Nat × (Nat → Int) × Nat × Nat × (Nat → Int) × Nat × Nat × (Nat → Int) × (Nat → Int) × Int × Int × Int × Int × Int × Int × Int × Int) (f : Int → Int → Int → Int → Nat → (Nat → Int) → Nat → Nat → (Nat → Int) → Nat → Nat → (Nat → Int) → (Nat → Int) → Int → Int → Int → Int → Int → Int → Int → Int → γ) : γ := f x.1 x.2.1 x.2.2.1 x.2.2.2.1 x.2.2.2.2.1 x.2.2.2.2.2.1 x.2.2.2.2.2.2.1 x.2.2.2.2.2.2.2.1 x.2.2.2.2.2.2.2.2.1 x.2.2.2.2.2.2.2.2.2.1 x.2.2.2.2.2.2.2.2.2.2.1 x.2.2.2.2.2.2.2.2.2.2.2.1 x.2.2.2.2.2.2.2.2.2.2.2.2.1 x.2.2.2.2.2.2.2.2.2.2.2.2.2.1 x.2.2.2.2.2.2.2.2.2.2.2.2.2.2.1 x.2.2.2.2.2.2.2.2.2.2.2.2.2.2.2.1 x.2.2.2.2.2.2.2.2.2.2.2.2.2.2.2.2.1 x.2.2.2.2.2.2.2.2.2.2.2.2.2.2.2.2.2.1 x.2.2.2.2.2.2.2.2.2.2.2.2.2.2.2.2.2.2.1 x.2.2.2.2.2.2.2.2.2.2.2.2.2.2.2.2.2.2.2.1 x.2.2.2.2.2.2.2.2.2.2.2.2.2.2.2.2.2.2.2.2
def t_sleepZ {β : Type} (x : a_sleepZ) (dn : g_sleepZ → Option β) : Option β :=
 ux21 x fun p0 p1 p2 p3 p4 p5 p6 p7 p8 p9 p10 p11 p12 p13 p14 p15 p16 p17 p18 p19 p20 =>
 if (p2 != (-1)) = true then
 if (w (p1 - 1) == 0) = true then
 dn (.inl ((p0, w (p1 - 1), p3, p4, p6, p9, p13, p14, p15, p16, p17, p18, p19, p20, p5, p7, p8, p10, p11, p12, fun (j : Nat) => p2, (-1))))
 else
 dn (.inl ((p0, w (p1 - 1), p3, p4, p6, p9, p13, p14, p15, p16, p17, p18, p19, p20, p5, p7, p8, p10, p11, p12, fun (j : Nat) => p2, p2)))
 else
 if (w (p1 - 1) == 0) = true then
 dn (.inr ((p0, w (p1 - 1), p3, p4, p6, p9, p13, p14, p15, p16, p17, p18, p19, p20, p5, p7, p8, p10, p11, p12, (-1))))
 else
 dn (.inr ((p0, w (p1 - 1), p3, p4, p6, p9, p13, p14, p15, p16, p17, p18, p19, p20, p5, p7, p8, p10, p11, p12, p2)))
noncomputable def sleepZ (q : Nat) (x : a_sleepZ) : Option g_sleepZ := t_sleepZ x some
theorem sc_sleepZ (q : Nat) : ∀ (x : a_sleepZ) (z : g_sleepZ), sleepZ q x = some z → SC E8 38 (A_sleepZ x).1 (A_sleepZ x).2 (R_sleepZ z) :=
 lift1 A_sleepZ R_sleepZ t_sleepZ (fun x => by kernel_rfl) fun x dn => by
 unfold t_sleepZ ux21
 repeat' first | exact free_none | refine free_ite ?_ ?_ | rfl
def ux23 {γ : Type} (x : Int × Int × Int × Int × Nat × (Nat → Int) × Nat × Nat × (Nat → Int) × Nat × Nat × (Nat → Int) × (Nat → Int) × Int × Int × Int × Int × Int × Int × Int × Int × Nat × (Nat → Int) × (Nat → Int) × (Nat → Int)) (f : Int → Int → Int → Int → Nat → (Nat → Int) → Nat → Nat → (Nat → Int) → Nat → Nat → (Nat → Int) → (Nat → Int) → Int → Int → Int → Int → Int → Int → Int → Int → Nat → (Nat → Int) → (Nat → Int) → (Nat → Int) → γ) : γ := f x.1 x.2.1 x.2.2.1 x.2.2.2.1 x.2.2.2.2.1 x.2.2.2.2.2.1 x.2.2.2.2.2.2.1 x.2.2.2.2.2.2.2.1 x.2.2.2.2.2.2.2.2.1 x.2.2.2.2.2.2.2.2.2.1 x.2.2.2.2.2.2.2.2.2.2.1 x.2.2.2.2.2.2.2.2.2.2.2.1 x.2.2.2.2.2.2.2.2.2.2.2.2.1 x.2.2.2.2.2.2.2.2.2.2.2.2.2.1 x.2.2.2.2.2.2.2.2.2.2.2.2.2.2.1 x.2.2.2.2.2.2.2.2.2.2.2.2.2.2.2.1 x.2.2.2.2.2.2.2.2.2.2.2.2.2.2.2.2.1 x.2.2.2.2.2.2.2.2.2.2.2.2.2.2.2.2.2.1 x.2.2.2.2.2.2.2.2.2.2.2.2.2.2.2.2.2.2.1 x.2.2.2.2.2.2.2.2.2.2.2.2.2.2.2.2.2.2.2.1 x.2.2.2.2.2.2.2.2.2.2.2.2.2.2.2.2.2.2.2.2.1 x.2.2.2.2.2.2.2.2.2.2.2.2.2.2.2.2.2.2.2.2.2.1 x.2.2.2.2.2.2.2.2.2.2.2.2.2.2.2.2.2.2.2.2.2.2.1 x.2.2.2.2.2.2.2.2.2.2.2.2.2.2.2.2.2.2.2.2.2.2.2.1 x.2.2.2.2.2.2.2.2.2.2.2.2.2.2.2.2.2.2.2.2.2.2.2.2
end Go.Proofs.YthkioinnobiieaaGreatDoor
