/- Texts joined. -/
import Derived.Test.YthkioinnobiieaaGreatDoorQF
import Derived.Test.YthkioinnobiieaaGreatDoorQE
/- vm.Step, lifted. -/
namespace Go.Proofs.YthkioinnobiieaaGreatDoor
open Go Go.Am Go.Proofs
set_option linter.unusedSimpArgs false
set_option linter.unusedVariables false
set_option maxRecDepth 100000
abbrev a_Step : Type := ByteArray × Int × Int × Nat × (Nat → Int) × (Nat → Int) × Int × Int × Int × Int × Nat × (Nat → Int) × Nat × (Nat → Int) × Nat × (Nat → Int) × (Nat → Int) × Int × Int × Int × Int × Int × Int × Int × Int
abbrev g_Step : Type := (Int × Int × Int × Int × Nat × Nat × Nat × Int × Int × (Nat → Int) × (Nat → Int) × (Nat → Int) × (Nat → Int) × Nat × Nat) ⊕ (Int × Int × Int × Int × Nat × Nat × Nat × Int × Int × (Nat → Int) × Nat × (Nat → Int) × Nat × (Nat → Int) × (Nat → Int) × (Nat → Int) × Nat × (Nat → Int) × (Nat → Int)) ⊕ (Int × Nat × Int × Int × (Nat → Int)) ⊕ (Int × Nat × Int × Int × Nat × (Nat → Int) × (Nat → Int) × (Nat → Int) × (Nat → Int))
def A_Step : a_Step → List V × List (Option Chunk) := (fun x => (fun (nm : ByteArray) (ps : Int) (vs : Int) (n : Nat) (op : Nat → Int) (ar : Nat → Int) (pc : Int) (sp : Int) (us : Int) (ti : Int) (vn : Nat) (vf : Nat → Int) (sn : Nat) (sf : Nat → Int) (ln : Nat) (la : Nat → Int) (lb : Nat → Int) (stt : Int) (cde : Int) (t0 : Int) (t1 : Int) (t2 : Int) (t3 : Int) (t4 : Int) (t5 : Int) => (([.agg [st nm, i64 ps, i64 vs, .ro 2 n (fun j => [i64 (op j), i64 (ar j)])], .agg [i64 pc, i64 sp, i64 us, i64 ti, .ro 1 vn (fun j => [i64 (vf j)]), .ro 1 sn (fun j => [i64 (sf j)]), .ro 2 ln (fun j => [i64 (la j), i64 (lb j)]), i64 stt, i64 cde], .agg [i64 t0, i64 t1, i64 t2, i64 t3, i64 t4, i64 t5]] : List V), ([] : List (Option Chunk)))) x.1 x.2.1 x.2.2.1 x.2.2.2.1 x.2.2.2.2.1 x.2.2.2.2.2.1 x.2.2.2.2.2.2.1 x.2.2.2.2.2.2.2.1 x.2.2.2.2.2.2.2.2.1 x.2.2.2.2.2.2.2.2.2.1 x.2.2.2.2.2.2.2.2.2.2.1 x.2.2.2.2.2.2.2.2.2.2.2.1 x.2.2.2.2.2.2.2.2.2.2.2.2.1 x.2.2.2.2.2.2.2.2.2.2.2.2.2.1 x.2.2.2.2.2.2.2.2.2.2.2.2.2.2.1 x.2.2.2.2.2.2.2.2.2.2.2.2.2.2.2.1 x.2.2.2.2.2.2.2.2.2.2.2.2.2.2.2.2.1 x.2.2.2.2.2.2.2.2.2.2.2.2.2.2.2.2.2.1 x.2.2.2.2.2.2.2.2.2.2.2.2.2.2.2.2.2.2.1 x.2.2.2.2.2.2.2.2.2.2.2.2.2.2.2.2.2.2.2.1 x.2.2.2.2.2.2.2.2.2.2.2.2.2.2.2.2.2.2.2.2.1 x.2.2.2.2.2.2.2.2.2.2.2.2.2.2.2.2.2.2.2.2.2.1 x.2.2.2.2.2.2.2.2.2.2.2.2.2.2.2.2.2.2.2.2.2.2.1 x.2.2.2.2.2.2.2.2.2.2.2.2.2.2.2.2.2.2.2.2.2.2.2.1 x.2.2.2.2.2.2.2.2.2.2.2.2.2.2.2.2.2.2.2.2.2.2.2.2)
def R_Step : g_Step → CRes := Sum.elim ((fun z => CRes.ret (V.tup [V.agg [i64 (z.1), i64 (z.2.1), i64 (z.2.2.1), i64 (z.2.2.2.1), V.sl 0 1 0 (z.2.2.2.2.1), V.sl 1 1 0 (z.2.2.2.2.2.1), V.sl 2 2 0 (z.2.2.2.2.2.2.1), i64 (z.2.2.2.2.2.2.2.1), i64 (z.2.2.2.2.2.2.2.2.1)], nilS]) [some (Chunk.row 3 1 (z.2.2.2.2.1) fun (j : Nat) => [i64 (z.2.2.2.2.2.2.2.2.2.1 j)]), some (Chunk.row 3 1 (z.2.2.2.2.2.2.2.2.2.2.2.2.2.1) fun (j : Nat) => [i64 (z.2.2.2.2.2.2.2.2.2.2.1 j)]), some (Chunk.row 81 2 (z.2.2.2.2.2.2.2.2.2.2.2.2.2.2) fun (j : Nat) => [i64 (z.2.2.2.2.2.2.2.2.2.2.2.1 j), i64 (z.2.2.2.2.2.2.2.2.2.2.2.2.1 j)])] : (Int × Int × Int × Int × Nat × Nat × Nat × Int × Int × (Nat → Int) × (Nat → Int) × (Nat → Int) × (Nat → Int) × Nat × Nat) → CRes)) (Sum.elim ((fun z => CRes.ret (V.tup [V.agg [i64 (z.1), i64 (z.2.1), i64 (z.2.2.1), i64 (z.2.2.2.1), V.sl 0 1 0 (z.2.2.2.2.1), V.sl 1 1 0 (z.2.2.2.2.2.1), V.sl 2 2 0 (z.2.2.2.2.2.2.1), i64 (z.2.2.2.2.2.2.2.1), i64 (z.2.2.2.2.2.2.2.2.1)], V.sl 3 3 0 (z.2.2.2.2.2.2.2.2.2.2.2.2.2.2.2.2.1)]) [some (Chunk.row 3 1 (z.2.2.2.2.1) fun (j : Nat) => [i64 (z.2.2.2.2.2.2.2.2.2.1 j)]), some (Chunk.row 3 1 (z.2.2.2.2.2.2.2.2.2.2.1) fun (j : Nat) => [i64 (z.2.2.2.2.2.2.2.2.2.2.2.1 j)]), some (Chunk.row 81 2 (z.2.2.2.2.2.2.2.2.2.2.2.2.1) fun (j : Nat) => [i64 (z.2.2.2.2.2.2.2.2.2.2.2.2.2.1 j), i64 (z.2.2.2.2.2.2.2.2.2.2.2.2.2.2.1 j)]), some (Chunk.row 51 3 (z.2.2.2.2.2.2.2.2.2.2.2.2.2.2.2.2.1) fun (j : Nat) => [i64 (z.2.2.2.2.2.2.2.2.2.2.2.2.2.2.2.2.2.1 j), i64 (z.2.2.2.2.2.2.2.2.2.2.2.2.2.2.2.1 j), i64 (z.2.2.2.2.2.2.2.2.2.2.2.2.2.2.2.2.2.2 j)])] : (Int × Int × Int × Int × Nat × Nat × Nat × Int × Int × (Nat → Int) × Nat × (Nat → Int) × Nat × (Nat → Int) × (Nat → Int) × (Nat → Int) × Nat × (Nat → Int) × (Nat → Int)) → CRes)) (Sum.elim ((fun z => CRes.ret (V.tup [V.agg [i64 (z.1), i64 (0 : Int), i64 (-1 : Int), i64 (-1 : Int), V.sl 0 1 0 (z.2.1), nilS, nilS, i64 (z.2.2.1), i64 (z.2.2.2.1)], nilS]) [some (Chunk.row 3 1 (z.2.1) fun (j : Nat) => [i64 (z.2.2.2.2 j)])] : (Int × Nat × Int × Int × (Nat → Int)) → CRes)) ((fun z => CRes.ret (V.tup [V.agg [i64 (z.1), i64 (0 : Int), i64 (-1 : Int), i64 (-1 : Int), V.sl 0 1 0 (z.2.1), nilS, nilS, i64 (z.2.2.1), i64 (z.2.2.2.1)], V.sl 1 3 0 (z.2.2.2.2.1)]) [some (Chunk.row 3 1 (z.2.1) fun (j : Nat) => [i64 (z.2.2.2.2.2.1 j)]), some (Chunk.row 51 3 (z.2.2.2.2.1) fun (j : Nat) => [i64 (z.2.2.2.2.2.2.1 j), i64 (z.2.2.2.2.2.2.2.1 j), i64 (z.2.2.2.2.2.2.2.2 j)])] : (Int × Nat × Int × Int × Nat × (Nat → Int) × (Nat → Int) × (Nat → Int) × (Nat → Int)) → CRes))))
structure Step_C where
 CloneI : a_CloneI → Option g_CloneI
 CloneL : a_CloneL → Option g_CloneL
 pushZ : a_pushZ → Option g_pushZ
 pushA : a_pushA → Option g_pushA
 loadZ : a_pushZ → Option g_pushZ
 loadA : a_pushA → Option g_pushA
 storeZ : a_pushZ → Option g_storeZ
 storeA : a_pushA → Option g_storeA
 seeZ : a_pushZ → Option g_pushZ
 seeA : a_pushA → Option g_pushA
 addZ : a_pushZ → Option g_pushZ
 addA : a_pushA → Option g_pushA
 subZ : a_pushZ → Option g_pushZ
 subA : a_pushA → Option g_pushA
 mulZ : a_pushZ → Option g_pushZ
 mulA : a_pushA → Option g_pushA
 divZ : a_pushZ → Option g_pushZ
 divA : a_pushA → Option g_pushA
 negZ : a_pushZ → Option g_pushZ
 negA : a_pushA → Option g_pushA
 lessZ : a_pushZ → Option g_lessZ
 lessA : a_pushA → Option g_lessA
 atMostZ : a_pushZ → Option g_lessZ
 atMostA : a_pushA → Option g_lessA
 equalZ : a_pushZ → Option g_lessZ
 equalA : a_pushA → Option g_lessA
 notZ : a_pushZ → Option g_lessZ
 notA : a_pushA → Option g_lessA
 jumpZ : a_pushZ → Option g_storeZ
 jumpA : a_pushA → Option g_storeA
 unlessZ : a_pushZ → Option g_storeZ
 unlessA : a_pushA → Option g_storeA
 repeat_Z : a_pushZ → Option g_lessZ
 repeat_A : a_pushA → Option g_repeat_A
 nextZ : a_pushZ → Option g_storeZ
 nextA : a_pushA → Option g_storeA
 waitZ : a_pushZ → Option g_waitZ
 waitA : a_pushA → Option g_waitA
 deadlineZ : a_pushZ → Option g_storeZ
 deadlineA : a_pushA → Option g_storeA
 pollZ : a_pushZ → Option g_pollZ
 pollA : a_pushA → Option g_pollA
 require_Z : a_pushZ → Option g_require_Z
 require_A : a_pushA → Option g_require_A
 pointZ : a_pushZ → Option g_pointZ
 pointA : a_pushA → Option g_storeA
 use_Z : a_pushZ → Option g_use_Z
 use_A : a_pushA → Option g_use_A
 sendZ : a_pushZ → Option g_sendZ
 sendA : a_pushA → Option g_storeA
 keep_Z : a_pushZ → Option g_pointZ
 keep_A : a_pushA → Option g_storeA
 eventZ : a_pushZ → Option g_pointZ
 eventA : a_pushA → Option g_storeA
 abortZ : a_pushZ → Option g_abortZ
 abortA : a_pushA → Option g_abortA
 stopZ : a_pushZ → Option g_stopZ
 stopA : a_pushA → Option g_stopA
 finishZ : a_finishZ → Option g_finishZ
 finishA : a_finishA → Option g_finishA
 sleepZ : a_sleepZ → Option g_sleepZ
structure Step_H (C : Step_C) : Prop where
 CloneI : ∀ x z, C.CloneI x = some z → SC E8 35 (A_CloneI x).1 (A_CloneI x).2 (R_CloneI z)
 CloneL : ∀ x z, C.CloneL x = some z → SC E8 36 (A_CloneL x).1 (A_CloneL x).2 (R_CloneL z)
 pushZ : ∀ x z, C.pushZ x = some z → SC E8 51 (A_pushZ x).1 (A_pushZ x).2 (R_pushZ z)
 pushA : ∀ x z, C.pushA x = some z → SC E8 51 (A_pushA x).1 (A_pushA x).2 (R_pushA z)
 loadZ : ∀ x z, C.loadZ x = some z → SC E8 52 (A_pushZ x).1 (A_pushZ x).2 (R_pushZ z)
 loadA : ∀ x z, C.loadA x = some z → SC E8 52 (A_pushA x).1 (A_pushA x).2 (R_pushA z)
 storeZ : ∀ x z, C.storeZ x = some z → SC E8 53 (A_pushZ x).1 (A_pushZ x).2 (R_storeZ z)
 storeA : ∀ x z, C.storeA x = some z → SC E8 53 (A_pushA x).1 (A_pushA x).2 (R_storeA z)
 seeZ : ∀ x z, C.seeZ x = some z → SC E8 54 (A_pushZ x).1 (A_pushZ x).2 (R_pushZ z)
 seeA : ∀ x z, C.seeA x = some z → SC E8 54 (A_pushA x).1 (A_pushA x).2 (R_pushA z)
 addZ : ∀ x z, C.addZ x = some z → SC E8 55 (A_pushZ x).1 (A_pushZ x).2 (R_pushZ z)
 addA : ∀ x z, C.addA x = some z → SC E8 55 (A_pushA x).1 (A_pushA x).2 (R_pushA z)
 subZ : ∀ x z, C.subZ x = some z → SC E8 56 (A_pushZ x).1 (A_pushZ x).2 (R_pushZ z)
 subA : ∀ x z, C.subA x = some z → SC E8 56 (A_pushA x).1 (A_pushA x).2 (R_pushA z)
 mulZ : ∀ x z, C.mulZ x = some z → SC E8 57 (A_pushZ x).1 (A_pushZ x).2 (R_pushZ z)
 mulA : ∀ x z, C.mulA x = some z → SC E8 57 (A_pushA x).1 (A_pushA x).2 (R_pushA z)
 divZ : ∀ x z, C.divZ x = some z → SC E8 58 (A_pushZ x).1 (A_pushZ x).2 (R_pushZ z)
 divA : ∀ x z, C.divA x = some z → SC E8 58 (A_pushA x).1 (A_pushA x).2 (R_pushA z)
 negZ : ∀ x z, C.negZ x = some z → SC E8 59 (A_pushZ x).1 (A_pushZ x).2 (R_pushZ z)
 negA : ∀ x z, C.negA x = some z → SC E8 59 (A_pushA x).1 (A_pushA x).2 (R_pushA z)
 lessZ : ∀ x z, C.lessZ x = some z → SC E8 60 (A_pushZ x).1 (A_pushZ x).2 (R_lessZ z)
 lessA : ∀ x z, C.lessA x = some z → SC E8 60 (A_pushA x).1 (A_pushA x).2 (R_lessA z)
 atMostZ : ∀ x z, C.atMostZ x = some z → SC E8 61 (A_pushZ x).1 (A_pushZ x).2 (R_lessZ z)
 atMostA : ∀ x z, C.atMostA x = some z → SC E8 61 (A_pushA x).1 (A_pushA x).2 (R_lessA z)
 equalZ : ∀ x z, C.equalZ x = some z → SC E8 62 (A_pushZ x).1 (A_pushZ x).2 (R_lessZ z)
 equalA : ∀ x z, C.equalA x = some z → SC E8 62 (A_pushA x).1 (A_pushA x).2 (R_lessA z)
 notZ : ∀ x z, C.notZ x = some z → SC E8 63 (A_pushZ x).1 (A_pushZ x).2 (R_lessZ z)
 notA : ∀ x z, C.notA x = some z → SC E8 63 (A_pushA x).1 (A_pushA x).2 (R_lessA z)
 jumpZ : ∀ x z, C.jumpZ x = some z → SC E8 64 (A_pushZ x).1 (A_pushZ x).2 (R_storeZ z)
 jumpA : ∀ x z, C.jumpA x = some z → SC E8 64 (A_pushA x).1 (A_pushA x).2 (R_storeA z)
 unlessZ : ∀ x z, C.unlessZ x = some z → SC E8 65 (A_pushZ x).1 (A_pushZ x).2 (R_storeZ z)
 unlessA : ∀ x z, C.unlessA x = some z → SC E8 65 (A_pushA x).1 (A_pushA x).2 (R_storeA z)
 repeat_Z : ∀ x z, C.repeat_Z x = some z → SC E8 66 (A_pushZ x).1 (A_pushZ x).2 (R_repeat_Z z)
 repeat_A : ∀ x z, C.repeat_A x = some z → SC E8 66 (A_pushA x).1 (A_pushA x).2 (R_repeat_A z)
 nextZ : ∀ x z, C.nextZ x = some z → SC E8 67 (A_pushZ x).1 (A_pushZ x).2 (R_storeZ z)
 nextA : ∀ x z, C.nextA x = some z → SC E8 67 (A_pushA x).1 (A_pushA x).2 (R_storeA z)
 waitZ : ∀ x z, C.waitZ x = some z → SC E8 68 (A_pushZ x).1 (A_pushZ x).2 (R_waitZ z)
 waitA : ∀ x z, C.waitA x = some z → SC E8 68 (A_pushA x).1 (A_pushA x).2 (R_waitA z)
 deadlineZ : ∀ x z, C.deadlineZ x = some z → SC E8 69 (A_pushZ x).1 (A_pushZ x).2 (R_storeZ z)
 deadlineA : ∀ x z, C.deadlineA x = some z → SC E8 69 (A_pushA x).1 (A_pushA x).2 (R_storeA z)
 pollZ : ∀ x z, C.pollZ x = some z → SC E8 70 (A_pushZ x).1 (A_pushZ x).2 (R_pollZ z)
 pollA : ∀ x z, C.pollA x = some z → SC E8 70 (A_pushA x).1 (A_pushA x).2 (R_pollA z)
 require_Z : ∀ x z, C.require_Z x = some z → SC E8 71 (A_pushZ x).1 (A_pushZ x).2 (R_require_Z z)
 require_A : ∀ x z, C.require_A x = some z → SC E8 71 (A_pushA x).1 (A_pushA x).2 (R_require_A z)
 pointZ : ∀ x z, C.pointZ x = some z → SC E8 72 (A_pushZ x).1 (A_pushZ x).2 (R_pointZ z)
 pointA : ∀ x z, C.pointA x = some z → SC E8 72 (A_pushA x).1 (A_pushA x).2 (R_pointA z)
 use_Z : ∀ x z, C.use_Z x = some z → SC E8 73 (A_pushZ x).1 (A_pushZ x).2 (R_use_Z z)
 use_A : ∀ x z, C.use_A x = some z → SC E8 73 (A_pushA x).1 (A_pushA x).2 (R_use_A z)
 sendZ : ∀ x z, C.sendZ x = some z → SC E8 74 (A_pushZ x).1 (A_pushZ x).2 (R_sendZ z)
 sendA : ∀ x z, C.sendA x = some z → SC E8 74 (A_pushA x).1 (A_pushA x).2 (R_sendA z)
 keep_Z : ∀ x z, C.keep_Z x = some z → SC E8 75 (A_pushZ x).1 (A_pushZ x).2 (R_keep_Z z)
 keep_A : ∀ x z, C.keep_A x = some z → SC E8 75 (A_pushA x).1 (A_pushA x).2 (R_sendA z)
 eventZ : ∀ x z, C.eventZ x = some z → SC E8 76 (A_pushZ x).1 (A_pushZ x).2 (R_eventZ z)
 eventA : ∀ x z, C.eventA x = some z → SC E8 76 (A_pushA x).1 (A_pushA x).2 (R_sendA z)
 abortZ : ∀ x z, C.abortZ x = some z → SC E8 77 (A_pushZ x).1 (A_pushZ x).2 (R_abortZ z)
 abortA : ∀ x z, C.abortA x = some z → SC E8 77 (A_pushA x).1 (A_pushA x).2 (R_abortA z)
 stopZ : ∀ x z, C.stopZ x = some z → SC E8 78 (A_pushZ x).1 (A_pushZ x).2 (R_stopZ z)
 stopA : ∀ x z, C.stopA x = some z → SC E8 78 (A_pushA x).1 (A_pushA x).2 (R_stopA z)
 finishZ : ∀ x z, C.finishZ x = some z → SC E8 40 (A_finishZ x).1 (A_finishZ x).2 (R_finishZ z)
 finishA : ∀ x z, C.finishA x = some z → SC E8 40 (A_finishA x).1 (A_finishA x).2 (R_finishA z)
 sleepZ : ∀ x z, C.sleepZ x = some z → SC E8 38 (A_sleepZ x).1 (A_sleepZ x).2 (R_sleepZ z)
noncomputable def Step_V (C : Step_C) : Step_C := ⟨fun x => viaF A_CloneI C.CloneI (A_CloneI x), fun x => viaF A_CloneL C.CloneL (A_CloneL x), fun x => viaF A_pushZ C.pushZ (A_pushZ x), fun x => viaF A_pushA C.pushA (A_pushA x), fun x => viaF A_pushZ C.loadZ (A_pushZ x), fun x => viaF A_pushA C.loadA (A_pushA x), fun x => viaF A_pushZ C.storeZ (A_pushZ x), fun x => viaF A_pushA C.storeA (A_pushA x), fun x => viaF A_pushZ C.seeZ (A_pushZ x), fun x => viaF A_pushA C.seeA (A_pushA x), fun x => viaF A_pushZ C.addZ (A_pushZ x), fun x => viaF A_pushA C.addA (A_pushA x), fun x => viaF A_pushZ C.subZ (A_pushZ x), fun x => viaF A_pushA C.subA (A_pushA x), fun x => viaF A_pushZ C.mulZ (A_pushZ x), fun x => viaF A_pushA C.mulA (A_pushA x), fun x => viaF A_pushZ C.divZ (A_pushZ x), fun x => viaF A_pushA C.divA (A_pushA x), fun x => viaF A_pushZ C.negZ (A_pushZ x), fun x => viaF A_pushA C.negA (A_pushA x), fun x => viaF A_pushZ C.lessZ (A_pushZ x), fun x => viaF A_pushA C.lessA (A_pushA x), fun x => viaF A_pushZ C.atMostZ (A_pushZ x), fun x => viaF A_pushA C.atMostA (A_pushA x), fun x => viaF A_pushZ C.equalZ (A_pushZ x), fun x => viaF A_pushA C.equalA (A_pushA x), fun x => viaF A_pushZ C.notZ (A_pushZ x), fun x => viaF A_pushA C.notA (A_pushA x), fun x => viaF A_pushZ C.jumpZ (A_pushZ x), fun x => viaF A_pushA C.jumpA (A_pushA x), fun x => viaF A_pushZ C.unlessZ (A_pushZ x), fun x => viaF A_pushA C.unlessA (A_pushA x), fun x => viaF A_pushZ C.repeat_Z (A_pushZ x), fun x => viaF A_pushA C.repeat_A (A_pushA x), fun x => viaF A_pushZ C.nextZ (A_pushZ x), fun x => viaF A_pushA C.nextA (A_pushA x), fun x => viaF A_pushZ C.waitZ (A_pushZ x), fun x => viaF A_pushA C.waitA (A_pushA x), fun x => viaF A_pushZ C.deadlineZ (A_pushZ x), fun x => viaF A_pushA C.deadlineA (A_pushA x), fun x => viaF A_pushZ C.pollZ (A_pushZ x), fun x => viaF A_pushA C.pollA (A_pushA x), fun x => viaF A_pushZ C.require_Z (A_pushZ x), fun x => viaF A_pushA C.require_A (A_pushA x), fun x => viaF A_pushZ C.pointZ (A_pushZ x), fun x => viaF A_pushA C.pointA (A_pushA x), fun x => viaF A_pushZ C.use_Z (A_pushZ x), fun x => viaF A_pushA C.use_A (A_pushA x), fun x => viaF A_pushZ C.sendZ (A_pushZ x), fun x => viaF A_pushA C.sendA (A_pushA x), fun x => viaF A_pushZ C.keep_Z (A_pushZ x), fun x => viaF A_pushA C.keep_A (A_pushA x), fun x => viaF A_pushZ C.eventZ (A_pushZ x), fun x => viaF A_pushA C.eventA (A_pushA x), fun x => viaF A_pushZ C.abortZ (A_pushZ x), fun x => viaF A_pushA C.abortA (A_pushA x), fun x => viaF A_pushZ C.stopZ (A_pushZ x), fun x => viaF A_pushA C.stopA (A_pushA x), fun x => viaF A_finishZ C.finishZ (A_finishZ x), fun x => viaF A_finishA C.finishA (A_finishA x), fun x => viaF A_sleepZ C.sleepZ (A_sleepZ x)⟩
theorem Step_Ve (C : Step_C) : Step_V C = C := by
 cases C
 simp only [Step_V, Step_C.mk.injEq]
 exact ⟨via_eq i_CloneI _, via_eq i_CloneL _, via_eq i_pushZ _, via_eq i_pushA _, via_eq i_pushZ _, via_eq i_pushA _, via_eq i_pushZ _, via_eq i_pushA _, via_eq i_pushZ _, via_eq i_pushA _, via_eq i_pushZ _, via_eq i_pushA _, via_eq i_pushZ _, via_eq i_pushA _, via_eq i_pushZ _, via_eq i_pushA _, via_eq i_pushZ _, via_eq i_pushA _, via_eq i_pushZ _, via_eq i_pushA _, via_eq i_pushZ _, via_eq i_pushA _, via_eq i_pushZ _, via_eq i_pushA _, via_eq i_pushZ _, via_eq i_pushA _, via_eq i_pushZ _, via_eq i_pushA _, via_eq i_pushZ _, via_eq i_pushA _, via_eq i_pushZ _, via_eq i_pushA _, via_eq i_pushZ _, via_eq i_pushA _, via_eq i_pushZ _, via_eq i_pushA _, via_eq i_pushZ _, via_eq i_pushA _, via_eq i_pushZ _, via_eq i_pushA _, via_eq i_pushZ _, via_eq i_pushA _, via_eq i_pushZ _, via_eq i_pushA _, via_eq i_pushZ _, via_eq i_pushA _, via_eq i_pushZ _, via_eq i_pushA _, via_eq i_pushZ _, via_eq i_pushA _, via_eq i_pushZ _, via_eq i_pushA _, via_eq i_pushZ _, via_eq i_pushA _, via_eq i_pushZ _, via_eq i_pushA _, via_eq i_pushZ _, via_eq i_pushA _, via_eq i_finishZ _, via_eq i_finishA _, via_eq i_sleepZ _⟩
noncomputable def Step_T (C : Step_C) : CallT := (ftab 35 (fun _ _ => true) A_CloneI x_CloneI C.CloneI (ftab 36 (fun _ _ => true) A_CloneL x_CloneL C.CloneL (ftab 51 (fun _ L => L.length == 5) A_pushZ x_pushZ C.pushZ (ftab 51 (fun _ L => L.length == 6) A_pushA x_pushA C.pushA (ftab 52 (fun _ L => L.length == 5) A_pushZ x_pushZ C.loadZ (ftab 52 (fun _ L => L.length == 6) A_pushA x_pushA C.loadA (ftab 53 (fun _ L => L.length == 5) A_pushZ x_storeZ C.storeZ (ftab 53 (fun _ L => L.length == 6) A_pushA x_storeA C.storeA (ftab 54 (fun _ L => L.length == 5) A_pushZ x_pushZ C.seeZ (ftab 54 (fun _ L => L.length == 6) A_pushA x_pushA C.seeA (ftab 55 (fun _ L => L.length == 5) A_pushZ x_pushZ C.addZ (ftab 55 (fun _ L => L.length == 6) A_pushA x_pushA C.addA (ftab 56 (fun _ L => L.length == 5) A_pushZ x_pushZ C.subZ (ftab 56 (fun _ L => L.length == 6) A_pushA x_pushA C.subA (ftab 57 (fun _ L => L.length == 5) A_pushZ x_pushZ C.mulZ (ftab 57 (fun _ L => L.length == 6) A_pushA x_pushA C.mulA (ftab 58 (fun _ L => L.length == 5) A_pushZ x_pushZ C.divZ (ftab 58 (fun _ L => L.length == 6) A_pushA x_pushA C.divA (ftab 59 (fun _ L => L.length == 5) A_pushZ x_pushZ C.negZ (ftab 59 (fun _ L => L.length == 6) A_pushA x_pushA C.negA (ftab 60 (fun _ L => L.length == 5) A_pushZ x_lessZ C.lessZ (ftab 60 (fun _ L => L.length == 6) A_pushA x_lessA C.lessA (ftab 61 (fun _ L => L.length == 5) A_pushZ x_lessZ C.atMostZ (ftab 61 (fun _ L => L.length == 6) A_pushA x_lessA C.atMostA (ftab 62 (fun _ L => L.length == 5) A_pushZ x_lessZ C.equalZ (ftab 62 (fun _ L => L.length == 6) A_pushA x_lessA C.equalA (ftab 63 (fun _ L => L.length == 5) A_pushZ x_lessZ C.notZ (ftab 63 (fun _ L => L.length == 6) A_pushA x_lessA C.notA (ftab 64 (fun _ L => L.length == 5) A_pushZ x_storeZ C.jumpZ (ftab 64 (fun _ L => L.length == 6) A_pushA x_storeA C.jumpA (ftab 65 (fun _ L => L.length == 5) A_pushZ x_storeZ C.unlessZ (ftab 65 (fun _ L => L.length == 6) A_pushA x_storeA C.unlessA (ftab 66 (fun _ L => L.length == 5) A_pushZ x_repeat_Z C.repeat_Z (ftab 66 (fun _ L => L.length == 6) A_pushA x_repeat_A C.repeat_A (ftab 67 (fun _ L => L.length == 5) A_pushZ x_storeZ C.nextZ (ftab 67 (fun _ L => L.length == 6) A_pushA x_storeA C.nextA (ftab 68 (fun _ L => L.length == 5) A_pushZ x_waitZ C.waitZ (ftab 68 (fun _ L => L.length == 6) A_pushA x_waitA C.waitA (ftab 69 (fun _ L => L.length == 5) A_pushZ x_storeZ C.deadlineZ (ftab 69 (fun _ L => L.length == 6) A_pushA x_storeA C.deadlineA (ftab 70 (fun _ L => L.length == 5) A_pushZ x_pollZ C.pollZ (ftab 70 (fun _ L => L.length == 6) A_pushA x_pollA C.pollA (ftab 71 (fun _ L => L.length == 5) A_pushZ x_require_Z C.require_Z (ftab 71 (fun _ L => L.length == 6) A_pushA x_require_A C.require_A (ftab 72 (fun _ L => L.length == 5) A_pushZ x_pointZ C.pointZ (ftab 72 (fun _ L => L.length == 6) A_pushA x_pointA C.pointA (ftab 73 (fun _ L => L.length == 5) A_pushZ x_use_Z C.use_Z (ftab 73 (fun _ L => L.length == 6) A_pushA x_use_A C.use_A (ftab 74 (fun _ L => L.length == 5) A_pushZ x_sendZ C.sendZ (ftab 74 (fun _ L => L.length == 6) A_pushA x_sendA C.sendA (ftab 75 (fun _ L => L.length == 5) A_pushZ x_keep_Z C.keep_Z (ftab 75 (fun _ L => L.length == 6) A_pushA x_sendA C.keep_A (ftab 76 (fun _ L => L.length == 5) A_pushZ x_eventZ C.eventZ (ftab 76 (fun _ L => L.length == 6) A_pushA x_sendA C.eventA (ftab 77 (fun _ L => L.length == 5) A_pushZ x_abortZ C.abortZ (ftab 77 (fun _ L => L.length == 6) A_pushA x_abortA C.abortA (ftab 78 (fun _ L => L.length == 5) A_pushZ x_stopZ C.stopZ (ftab 78 (fun _ L => L.length == 6) A_pushA x_stopA C.stopA (ftab 40 (fun _ L => L.length == 5) A_finishZ x_finishZ C.finishZ (ftab 40 (fun _ L => L.length == 6) A_finishA x_finishA C.finishA (ftab 38 (fun _ L => L.length == 5) A_sleepZ x_sleepZ C.sleepZ (callG E8 20))))))))))))))))))))))))))))))))))))))))))))))))))))))))))))))
theorem Step_Ts {C : Step_C} (H : Step_H C) : SoundC E8 (Step_T C) := (ftab_cons H.CloneI xe_CloneI (ftab_cons H.CloneL xe_CloneL (ftab_cons H.pushZ xe_pushZ (ftab_cons H.pushA xe_pushA (ftab_cons H.loadZ xe_pushZ (ftab_cons H.loadA xe_pushA (ftab_cons H.storeZ xe_storeZ (ftab_cons H.storeA xe_storeA (ftab_cons H.seeZ xe_pushZ (ftab_cons H.seeA xe_pushA (ftab_cons H.addZ xe_pushZ (ftab_cons H.addA xe_pushA (ftab_cons H.subZ xe_pushZ (ftab_cons H.subA xe_pushA (ftab_cons H.mulZ xe_pushZ (ftab_cons H.mulA xe_pushA (ftab_cons H.divZ xe_pushZ (ftab_cons H.divA xe_pushA (ftab_cons H.negZ xe_pushZ (ftab_cons H.negA xe_pushA (ftab_cons H.lessZ xe_lessZ (ftab_cons H.lessA xe_lessA (ftab_cons H.atMostZ xe_lessZ (ftab_cons H.atMostA xe_lessA (ftab_cons H.equalZ xe_lessZ (ftab_cons H.equalA xe_lessA (ftab_cons H.notZ xe_lessZ (ftab_cons H.notA xe_lessA (ftab_cons H.jumpZ xe_storeZ (ftab_cons H.jumpA xe_storeA (ftab_cons H.unlessZ xe_storeZ (ftab_cons H.unlessA xe_storeA (ftab_cons H.repeat_Z xe_repeat_Z (ftab_cons H.repeat_A xe_repeat_A (ftab_cons H.nextZ xe_storeZ (ftab_cons H.nextA xe_storeA (ftab_cons H.waitZ xe_waitZ (ftab_cons H.waitA xe_waitA (ftab_cons H.deadlineZ xe_storeZ (ftab_cons H.deadlineA xe_storeA (ftab_cons H.pollZ xe_pollZ (ftab_cons H.pollA xe_pollA (ftab_cons H.require_Z xe_require_Z (ftab_cons H.require_A xe_require_A (ftab_cons H.pointZ xe_pointZ (ftab_cons H.pointA xe_pointA (ftab_cons H.use_Z xe_use_Z (ftab_cons H.use_A xe_use_A (ftab_cons H.sendZ xe_sendZ (ftab_cons H.sendA xe_sendA (ftab_cons H.keep_Z xe_keep_Z (ftab_cons H.keep_A xe_sendA (ftab_cons H.eventZ xe_eventZ (ftab_cons H.eventA xe_sendA (ftab_cons H.abortZ xe_abortZ (ftab_cons H.abortA xe_abortA (ftab_cons H.stopZ xe_stopZ (ftab_cons H.stopA xe_stopA (ftab_cons H.finishZ xe_finishZ (ftab_cons H.finishA xe_finishA (ftab_cons H.sleepZ xe_sleepZ (sound_G hW8 hX8 20).1)))))))))))))))))))))))))))))))))))))))))))))))))))))))))))))
noncomputable def Step_c (q : Nat) : Step_C := ⟨CloneI q, CloneL q, pushZ q, pushA q, loadZ q, loadA q, storeZ q, storeA q, seeZ q, seeA q, addZ q, addA q, subZ q, subA q, mulZ q, mulA q, divZ q, divA q, negZ q, negA q, lessZ q, lessA q, atMostZ q, atMostA q, equalZ q, equalA q, notZ q, notA q, jumpZ q, jumpA q, unlessZ q, unlessA q, repeat_Z q, repeat_A q, nextZ q, nextA q, waitZ q, waitA q, deadlineZ q, deadlineA q, pollZ q, pollA q, require_Z q, require_A q, pointZ q, pointA q, use_Z q, use_A q, sendZ q, sendA q, keep_Z q, keep_A q, eventZ q, eventA q, abortZ q, abortA q, stopZ q, stopA q, finishZ q, finishA q, sleepZ q⟩
abbrev Step_l0_a : Type := (Nat × Nat × Nat × (Nat → Int) × (Nat → Int) × (Nat → Int) × (Nat → Int) × Int × Int × Int × Int × Int × Int × Int × Int × Int × Int × Int × Int × Int × Nat × Nat) ⊕ ((Nat → Int) × Int × Int × Int × Int × Nat × Nat × Nat × Int × Int × Int × Int × Int × Int × Int × Int × (Nat → Int) × Nat × (Nat → Int) × Nat × (Nat → Int) × (Nat → Int) × (Nat → Int) × (Nat → Int) × Int × Nat)
abbrev Step_l0_g : Type := (Int × Nat × (Nat → Int) × Int × Int) ⊕ (Int × Int × Int × Int × Nat × Nat × Nat × Int × Int × (Nat → Int) × Nat × (Nat → Int) × Nat × (Nat → Int) × (Nat → Int)) ⊕ (Int × Int × Int × Int × Nat × Nat × Nat × Int × Int × (Nat → Int) × Nat × (Nat → Int) × Nat × (Nat → Int) × (Nat → Int) × (Nat → Int) × (Nat → Int) × Nat × (Nat → Int)) ⊕ (Int × Int × Int × Int × Nat × Nat × Nat × Int × Int × Int × Int × Int × Int × Int × Int × (Nat → Int) × Nat × (Nat → Int) × Nat × (Nat → Int) × (Nat → Int)) ⊕ (Nat × Int × Nat × (Nat → Int) × (Nat → Int) × (Nat → Int) × (Nat → Int) × Int × Int) ⊕ (Nat × (Nat → Int) × (Nat → Int) × (Nat → Int) × Int × Int × Int × Int × Nat × Nat × Nat × Int × Int × Int × Int × Int × Int × Int × Int × (Nat → Int) × Nat × (Nat → Int) × Nat × (Nat → Int) × (Nat → Int))
def Step_l0_S0 (x : a_Step) (y : Nat × Nat × Nat × (Nat → Int) × (Nat → Int) × (Nat → Int) × (Nat → Int) × Int × Int × Int × Int × Int × Int × Int × Int × Int × Int × Int × Int × Int × Nat × Nat) : St := { fr := [V.junk, V.junk, V.junk, V.ptr 0 0, V.junk, V.junk, V.ptr 1 0, V.junk, V.ptr 2 0, V.ptr 3 0, V.mp 7] ++ jk 36 ++ [i64 (y.2.2.2.2.2.2.2.1)] ++ jk 35, H := hp [some (Chunk.blk [st (x.1), i64 (x.2.1), i64 (x.2.2.1), V.ro 2 (x.2.2.2.1) fun (j : Nat) => [i64 (x.2.2.2.2.1 j), i64 (x.2.2.2.2.2.1 j)]]), some (Chunk.blk [i64 (0 : Int), i64 (0 : Int), i64 (0 : Int), i64 (0 : Int), nilS, nilS, nilS, i64 (0 : Int), i64 (0 : Int)]), some (Chunk.blk [nilS]), some (Chunk.blk [i64 (y.2.2.2.2.2.2.2.2.1), i64 (y.2.2.2.2.2.2.2.2.2.1), i64 (y.2.2.2.2.2.2.2.2.2.2.1), i64 (y.2.2.2.2.2.2.2.2.2.2.2.1), V.sl 4 1 0 (y.1), V.sl 5 1 0 (y.2.1), V.sl 6 2 0 (y.2.2.1), i64 (y.2.2.2.2.2.2.2.2.2.2.2.2.1), i64 (y.2.2.2.2.2.2.2.2.2.2.2.2.2.1), i64 (y.2.2.2.2.2.2.2.2.2.2.2.2.2.2.1), i64 (y.2.2.2.2.2.2.2.2.2.2.2.2.2.2.2.1), i64 (y.2.2.2.2.2.2.2.2.2.2.2.2.2.2.2.2.1), i64 (y.2.2.2.2.2.2.2.2.2.2.2.2.2.2.2.2.2.1), i64 (y.2.2.2.2.2.2.2.2.2.2.2.2.2.2.2.2.2.2.1), i64 (y.2.2.2.2.2.2.2.2.2.2.2.2.2.2.2.2.2.2.2.1), V.fn 37 [V.ptr 2 0], bo false]), some (Chunk.row 3 1 (y.1) fun (j : Nat) => [i64 (y.2.2.2.1 j)]), some (Chunk.row 3 1 (y.2.2.2.2.2.2.2.2.2.2.2.2.2.2.2.2.2.2.2.2.2) fun (j : Nat) => [i64 (y.2.2.2.2.1 j)]), some (Chunk.row 81 2 (y.2.2.2.2.2.2.2.2.2.2.2.2.2.2.2.2.2.2.2.2.1) fun (j : Nat) => [i64 (y.2.2.2.2.2.1 j), i64 (y.2.2.2.2.2.2.1 j)]), some (Chunk.map [((1 : Int), V.fn 51 []), ((2 : Int), V.fn 52 []), ((3 : Int), V.fn 53 []), ((4 : Int), V.fn 54 []), ((5 : Int), V.fn 55 []), ((6 : Int), V.fn 56 []), ((7 : Int), V.fn 57 []), ((8 : Int), V.fn 58 []), ((9 : Int), V.fn 59 []), ((10 : Int), V.fn 60 []), ((11 : Int), V.fn 61 []), ((12 : Int), V.fn 62 []), ((13 : Int), V.fn 63 []), ((14 : Int), V.fn 64 []), ((15 : Int), V.fn 65 []), ((16 : Int), V.fn 66 []), ((17 : Int), V.fn 67 []), ((18 : Int), V.fn 68 []), ((19 : Int), V.fn 69 []), ((20 : Int), V.fn 70 []), ((21 : Int), V.fn 71 []), ((22 : Int), V.fn 72 []), ((23 : Int), V.fn 73 []), ((24 : Int), V.fn 74 []), ((25 : Int), V.fn 75 []), ((26 : Int), V.fn 76 []), ((27 : Int), V.fn 77 []), ((28 : Int), V.fn 78 [])])], nx := 8, rt := 0, me := 16 }
def Step_l0_d0 (s : St) : Nat × Nat × Nat × (Nat → Int) × (Nat → Int) × (Nat → Int) × (Nat → Int) × Int × Int × Int × Int × Int × Int × Int × Int × Int × Int × Int × Int × Int × Nat × Nat := ((vSlN ((chB (s.H 3)).getD 4 .junk)), (vSlN ((chB (s.H 3)).getD 5 .junk)), (vSlN ((chB (s.H 3)).getD 6 .junk)), (fun j => (vI (((chF (s.H 4)) j).getD 0 .junk))), (fun j => (vI (((chF (s.H 5)) j).getD 0 .junk))), (fun j => (vI (((chF (s.H 6)) j).getD 0 .junk))), (fun j => (vI (((chF (s.H 6)) j).getD 1 .junk))), (vI (s.fr.getD 47 .junk)), (vI ((chB (s.H 3)).getD 0 .junk)), (vI ((chB (s.H 3)).getD 1 .junk)), (vI ((chB (s.H 3)).getD 2 .junk)), (vI ((chB (s.H 3)).getD 3 .junk)), (vI ((chB (s.H 3)).getD 7 .junk)), (vI ((chB (s.H 3)).getD 8 .junk)), (vI ((chB (s.H 3)).getD 9 .junk)), (vI ((chB (s.H 3)).getD 10 .junk)), (vI ((chB (s.H 3)).getD 11 .junk)), (vI ((chB (s.H 3)).getD 12 .junk)), (vI ((chB (s.H 3)).getD 13 .junk)), (vI ((chB (s.H 3)).getD 14 .junk)), (chN (s.H 6)), (chN (s.H 5)))
def Step_l0_S1 (x : a_Step) (y : (Nat → Int) × Int × Int × Int × Int × Nat × Nat × Nat × Int × Int × Int × Int × Int × Int × Int × Int × (Nat → Int) × Nat × (Nat → Int) × Nat × (Nat → Int) × (Nat → Int) × (Nat → Int) × (Nat → Int) × Int × Nat) : St := { fr := [V.junk, V.junk, V.junk, V.ptr 0 0, V.junk, V.junk, V.ptr 1 0, V.junk, V.ptr 2 0, V.ptr 4 0, V.mp 8] ++ jk 36 ++ [i64 (y.2.2.2.2.2.2.2.2.2.2.2.2.2.2.2.2.2.2.2.2.2.2.2.2.1)] ++ jk 35, H := hp [some (Chunk.blk [st (x.1), i64 (x.2.1), i64 (x.2.2.1), V.ro 2 (x.2.2.2.1) fun (j : Nat) => [i64 (x.2.2.2.2.1 j), i64 (x.2.2.2.2.2.1 j)]]), some (Chunk.blk [i64 (0 : Int), i64 (0 : Int), i64 (0 : Int), i64 (0 : Int), nilS, nilS, nilS, i64 (0 : Int), i64 (0 : Int)]), some (Chunk.blk [V.sl 3 3 0 (y.2.2.2.2.2.2.2.2.2.2.2.2.2.2.2.2.2.2.2.2.2.2.2.2.2)]), some (Chunk.row 51 3 (y.2.2.2.2.2.2.2.2.2.2.2.2.2.2.2.2.2.2.2.2.2.2.2.2.2) fun (j : Nat) => [i64 (y.2.2.2.2.2.2.2.2.2.2.2.2.2.2.2.2.2.2.2.2.2.2.1 j), i64 (y.1 j), i64 (y.2.2.2.2.2.2.2.2.2.2.2.2.2.2.2.2.2.2.2.2.2.2.2.1 j)]), some (Chunk.blk [i64 (y.2.1), i64 (y.2.2.1), i64 (y.2.2.2.1), i64 (y.2.2.2.2.1), V.sl 5 1 0 (y.2.2.2.2.2.1), V.sl 6 1 0 (y.2.2.2.2.2.2.1), V.sl 7 2 0 (y.2.2.2.2.2.2.2.1), i64 (y.2.2.2.2.2.2.2.2.1), i64 (y.2.2.2.2.2.2.2.2.2.1), i64 (y.2.2.2.2.2.2.2.2.2.2.1), i64 (y.2.2.2.2.2.2.2.2.2.2.2.1), i64 (y.2.2.2.2.2.2.2.2.2.2.2.2.1), i64 (y.2.2.2.2.2.2.2.2.2.2.2.2.2.1), i64 (y.2.2.2.2.2.2.2.2.2.2.2.2.2.2.1), i64 (y.2.2.2.2.2.2.2.2.2.2.2.2.2.2.2.1), V.fn 37 [V.ptr 2 0], bo false]), some (Chunk.row 3 1 (y.2.2.2.2.2.1) fun (j : Nat) => [i64 (y.2.2.2.2.2.2.2.2.2.2.2.2.2.2.2.2.1 j)]), some (Chunk.row 3 1 (y.2.2.2.2.2.2.2.2.2.2.2.2.2.2.2.2.2.1) fun (j : Nat) => [i64 (y.2.2.2.2.2.2.2.2.2.2.2.2.2.2.2.2.2.2.1 j)]), some (Chunk.row 81 2 (y.2.2.2.2.2.2.2.2.2.2.2.2.2.2.2.2.2.2.2.1) fun (j : Nat) => [i64 (y.2.2.2.2.2.2.2.2.2.2.2.2.2.2.2.2.2.2.2.2.1 j), i64 (y.2.2.2.2.2.2.2.2.2.2.2.2.2.2.2.2.2.2.2.2.2.1 j)]), some (Chunk.map [((1 : Int), V.fn 51 []), ((2 : Int), V.fn 52 []), ((3 : Int), V.fn 53 []), ((4 : Int), V.fn 54 []), ((5 : Int), V.fn 55 []), ((6 : Int), V.fn 56 []), ((7 : Int), V.fn 57 []), ((8 : Int), V.fn 58 []), ((9 : Int), V.fn 59 []), ((10 : Int), V.fn 60 []), ((11 : Int), V.fn 61 []), ((12 : Int), V.fn 62 []), ((13 : Int), V.fn 63 []), ((14 : Int), V.fn 64 []), ((15 : Int), V.fn 65 []), ((16 : Int), V.fn 66 []), ((17 : Int), V.fn 67 []), ((18 : Int), V.fn 68 []), ((19 : Int), V.fn 69 []), ((20 : Int), V.fn 70 []), ((21 : Int), V.fn 71 []), ((22 : Int), V.fn 72 []), ((23 : Int), V.fn 73 []), ((24 : Int), V.fn 74 []), ((25 : Int), V.fn 75 []), ((26 : Int), V.fn 76 []), ((27 : Int), V.fn 77 []), ((28 : Int), V.fn 78 [])])], nx := 9, rt := 0, me := 16 }
def Step_l0_d1 (s : St) : (Nat → Int) × Int × Int × Int × Int × Nat × Nat × Nat × Int × Int × Int × Int × Int × Int × Int × Int × (Nat → Int) × Nat × (Nat → Int) × Nat × (Nat → Int) × (Nat → Int) × (Nat → Int) × (Nat → Int) × Int × Nat := ((fun j => (vI (((chF (s.H 3)) j).getD 1 .junk))), (vI ((chB (s.H 4)).getD 0 .junk)), (vI ((chB (s.H 4)).getD 1 .junk)), (vI ((chB (s.H 4)).getD 2 .junk)), (vI ((chB (s.H 4)).getD 3 .junk)), (vSlN ((chB (s.H 4)).getD 4 .junk)), (vSlN ((chB (s.H 4)).getD 5 .junk)), (vSlN ((chB (s.H 4)).getD 6 .junk)), (vI ((chB (s.H 4)).getD 7 .junk)), (vI ((chB (s.H 4)).getD 8 .junk)), (vI ((chB (s.H 4)).getD 9 .junk)), (vI ((chB (s.H 4)).getD 10 .junk)), (vI ((chB (s.H 4)).getD 11 .junk)), (vI ((chB (s.H 4)).getD 12 .junk)), (vI ((chB (s.H 4)).getD 13 .junk)), (vI ((chB (s.H 4)).getD 14 .junk)), (fun j => (vI (((chF (s.H 5)) j).getD 0 .junk))), (chN (s.H 6)), (fun j => (vI (((chF (s.H 6)) j).getD 0 .junk))), (chN (s.H 7)), (fun j => (vI (((chF (s.H 7)) j).getD 0 .junk))), (fun j => (vI (((chF (s.H 7)) j).getD 1 .junk))), (fun j => (vI (((chF (s.H 3)) j).getD 0 .junk))), (fun j => (vI (((chF (s.H 3)) j).getD 2 .junk))), (vI (s.fr.getD 47 .junk)), (vSlN ((chB (s.H 2)).getD 0 .junk)))
def Step_l0_S (x : a_Step) : Step_l0_a → St := (Sum.elim (Step_l0_S0 x) (Step_l0_S1 x))
def Step_l0_d (s : St) : Step_l0_a := (match s.nx == 8 with | true => (.inl (Step_l0_d0 s)) | false => (.inr (Step_l0_d1 s)))
theorem Step_l0_i (x : a_Step) : ∀ y y', Step_l0_S x y = Step_l0_S x y' → y = y' := fun y y' h => by rcases y with y | y <;> rcases y' with y | y <;> exact (congrArg Step_l0_d h :)
def Step_l0_T (x : a_Step) : Step_l0_g → Ex × St := (Sum.elim (fun z => (Ex.ret, { fr := jk 6 ++ [V.ptr 0 0, nilS] ++ jk 75, H := hp [some (Chunk.blk [i64 (z.1), i64 (0 : Int), i64 (-1 : Int), i64 (-1 : Int), V.sl 1 1 0 (z.2.1), nilS, nilS, i64 (z.2.2.2.2), i64 (z.2.2.2.1)]), some (Chunk.row 3 1 (z.2.1) fun (j : Nat) => [i64 (z.2.2.1 j)])], nx := 2, rt := 0, me := 16 })) (Sum.elim (fun z => (Ex.ret, { fr := jk 6 ++ [V.ptr 0 0, nilS] ++ jk 75, H := hp [some (Chunk.blk [i64 (z.1), i64 (z.2.1), i64 (z.2.2.1), i64 (z.2.2.2.1), V.sl 1 1 0 (z.2.2.2.2.1), V.sl 2 1 0 (z.2.2.2.2.2.1), V.sl 3 2 0 (z.2.2.2.2.2.2.1), i64 (z.2.2.2.2.2.2.2.1), i64 (z.2.2.2.2.2.2.2.2.1)]), some (Chunk.row 3 1 (z.2.2.2.2.1) fun (j : Nat) => [i64 (z.2.2.2.2.2.2.2.2.2.1 j)]), some (Chunk.row 3 1 (z.2.2.2.2.2.2.2.2.2.2.1) fun (j : Nat) => [i64 (z.2.2.2.2.2.2.2.2.2.2.2.1 j)]), some (Chunk.row 81 2 (z.2.2.2.2.2.2.2.2.2.2.2.2.1) fun (j : Nat) => [i64 (z.2.2.2.2.2.2.2.2.2.2.2.2.2.1 j), i64 (z.2.2.2.2.2.2.2.2.2.2.2.2.2.2 j)])], nx := 4, rt := 0, me := 16 })) (Sum.elim (fun z => (Ex.ret, { fr := jk 6 ++ [V.ptr 0 0, V.sl 4 3 0 (z.2.2.2.2.2.2.2.2.2.2.2.2.2.2.2.2.2.1)] ++ jk 75, H := hp [some (Chunk.blk [i64 (z.1), i64 (z.2.1), i64 (z.2.2.1), i64 (z.2.2.2.1), V.sl 1 1 0 (z.2.2.2.2.1), V.sl 2 1 0 (z.2.2.2.2.2.1), V.sl 3 2 0 (z.2.2.2.2.2.2.1), i64 (z.2.2.2.2.2.2.2.1), i64 (z.2.2.2.2.2.2.2.2.1)]), some (Chunk.row 3 1 (z.2.2.2.2.1) fun (j : Nat) => [i64 (z.2.2.2.2.2.2.2.2.2.1 j)]), some (Chunk.row 3 1 (z.2.2.2.2.2.2.2.2.2.2.1) fun (j : Nat) => [i64 (z.2.2.2.2.2.2.2.2.2.2.2.1 j)]), some (Chunk.row 81 2 (z.2.2.2.2.2.2.2.2.2.2.2.2.1) fun (j : Nat) => [i64 (z.2.2.2.2.2.2.2.2.2.2.2.2.2.1 j), i64 (z.2.2.2.2.2.2.2.2.2.2.2.2.2.2.1 j)]), some (Chunk.row 51 3 (z.2.2.2.2.2.2.2.2.2.2.2.2.2.2.2.2.2.1) fun (j : Nat) => [i64 (z.2.2.2.2.2.2.2.2.2.2.2.2.2.2.2.2.1 j), i64 (z.2.2.2.2.2.2.2.2.2.2.2.2.2.2.2.1 j), i64 (z.2.2.2.2.2.2.2.2.2.2.2.2.2.2.2.2.2.2 j)])], nx := 5, rt := 0, me := 16 })) (Sum.elim (fun z => (Ex.exit 0, { fr := jk 6 ++ [V.ptr 0 0, V.junk, V.ptr 1 0, V.ptr 2 0] ++ jk 73, H := hp [some (Chunk.blk [i64 (0 : Int), i64 (0 : Int), i64 (0 : Int), i64 (0 : Int), nilS, nilS, nilS, i64 (0 : Int), i64 (0 : Int)]), some (Chunk.blk [nilS]), some (Chunk.blk [i64 (z.1), i64 (z.2.1), i64 (z.2.2.1), i64 (z.2.2.2.1), V.sl 3 1 0 (z.2.2.2.2.1), V.sl 4 1 0 (z.2.2.2.2.2.1), V.sl 5 2 0 (z.2.2.2.2.2.2.1), i64 (z.2.2.2.2.2.2.2.1), i64 (z.2.2.2.2.2.2.2.2.1), i64 (z.2.2.2.2.2.2.2.2.2.1), i64 (z.2.2.2.2.2.2.2.2.2.2.1), i64 (z.2.2.2.2.2.2.2.2.2.2.2.1), i64 (z.2.2.2.2.2.2.2.2.2.2.2.2.1), i64 (z.2.2.2.2.2.2.2.2.2.2.2.2.2.1), i64 (z.2.2.2.2.2.2.2.2.2.2.2.2.2.2.1), V.fn 37 [V.ptr 1 0], bo false]), some (Chunk.row 3 1 (z.2.2.2.2.1) fun (j : Nat) => [i64 (z.2.2.2.2.2.2.2.2.2.2.2.2.2.2.2.1 j)]), some (Chunk.row 3 1 (z.2.2.2.2.2.2.2.2.2.2.2.2.2.2.2.2.1) fun (j : Nat) => [i64 (z.2.2.2.2.2.2.2.2.2.2.2.2.2.2.2.2.2.1 j)]), some (Chunk.row 81 2 (z.2.2.2.2.2.2.2.2.2.2.2.2.2.2.2.2.2.2.1) fun (j : Nat) => [i64 (z.2.2.2.2.2.2.2.2.2.2.2.2.2.2.2.2.2.2.2.1 j), i64 (z.2.2.2.2.2.2.2.2.2.2.2.2.2.2.2.2.2.2.2.2 j)])], nx := 6, rt := 0, me := 16 })) (Sum.elim (fun z => (Ex.ret, { fr := jk 6 ++ [V.ptr 0 0, V.sl 2 3 0 (z.1)] ++ jk 75, H := hp [some (Chunk.blk [i64 (z.2.1), i64 (0 : Int), i64 (-1 : Int), i64 (-1 : Int), V.sl 1 1 0 (z.2.2.1), nilS, nilS, i64 (z.2.2.2.2.2.2.2.2), i64 (z.2.2.2.2.2.2.2.1)]), some (Chunk.row 3 1 (z.2.2.1) fun (j : Nat) => [i64 (z.2.2.2.1 j)]), some (Chunk.row 51 3 (z.1) fun (j : Nat) => [i64 (z.2.2.2.2.1 j), i64 (z.2.2.2.2.2.1 j), i64 (z.2.2.2.2.2.2.1 j)])], nx := 3, rt := 0, me := 16 })) (fun z => (Ex.exit 0, { fr := jk 6 ++ [V.ptr 0 0, V.junk, V.ptr 1 0, V.ptr 3 0] ++ jk 73, H := hp [some (Chunk.blk [i64 (0 : Int), i64 (0 : Int), i64 (0 : Int), i64 (0 : Int), nilS, nilS, nilS, i64 (0 : Int), i64 (0 : Int)]), some (Chunk.blk [V.sl 2 3 0 (z.1)]), some (Chunk.row 51 3 (z.1) fun (j : Nat) => [i64 (z.2.1 j), i64 (z.2.2.1 j), i64 (z.2.2.2.1 j)]), some (Chunk.blk [i64 (z.2.2.2.2.1), i64 (z.2.2.2.2.2.1), i64 (z.2.2.2.2.2.2.1), i64 (z.2.2.2.2.2.2.2.1), V.sl 4 1 0 (z.2.2.2.2.2.2.2.2.1), V.sl 5 1 0 (z.2.2.2.2.2.2.2.2.2.1), V.sl 6 2 0 (z.2.2.2.2.2.2.2.2.2.2.1), i64 (z.2.2.2.2.2.2.2.2.2.2.2.1), i64 (z.2.2.2.2.2.2.2.2.2.2.2.2.1), i64 (z.2.2.2.2.2.2.2.2.2.2.2.2.2.1), i64 (z.2.2.2.2.2.2.2.2.2.2.2.2.2.2.1), i64 (z.2.2.2.2.2.2.2.2.2.2.2.2.2.2.2.1), i64 (z.2.2.2.2.2.2.2.2.2.2.2.2.2.2.2.2.1), i64 (z.2.2.2.2.2.2.2.2.2.2.2.2.2.2.2.2.2.1), i64 (z.2.2.2.2.2.2.2.2.2.2.2.2.2.2.2.2.2.2.1), V.fn 37 [V.ptr 1 0], bo false]), some (Chunk.row 3 1 (z.2.2.2.2.2.2.2.2.1) fun (j : Nat) => [i64 (z.2.2.2.2.2.2.2.2.2.2.2.2.2.2.2.2.2.2.2.1 j)]), some (Chunk.row 3 1 (z.2.2.2.2.2.2.2.2.2.2.2.2.2.2.2.2.2.2.2.2.1) fun (j : Nat) => [i64 (z.2.2.2.2.2.2.2.2.2.2.2.2.2.2.2.2.2.2.2.2.2.1 j)]), some (Chunk.row 81 2 (z.2.2.2.2.2.2.2.2.2.2.2.2.2.2.2.2.2.2.2.2.2.2.1) fun (j : Nat) => [i64 (z.2.2.2.2.2.2.2.2.2.2.2.2.2.2.2.2.2.2.2.2.2.2.2.1 j), i64 (z.2.2.2.2.2.2.2.2.2.2.2.2.2.2.2.2.2.2.2.2.2.2.2.2 j)])], nx := 7, rt := 0, me := 16 })))))))
def Step_l0_x (x : a_Step) (z : Step_l0_g) (k : KX) : Option Ans := Sum.elim (fun za => k (Step_l0_T x (.inl za)).1 (Step_l0_T x (.inl za)).2) (fun zb => Sum.elim (fun zba => k (Step_l0_T x (.inr (.inl zba))).1 (Step_l0_T x (.inr (.inl zba))).2) (fun zbb => Sum.elim (fun zbba => k (Step_l0_T x (.inr (.inr (.inl zbba)))).1 (Step_l0_T x (.inr (.inr (.inl zbba)))).2) (fun zbbb => Sum.elim (fun zbbba => k (Step_l0_T x (.inr (.inr (.inr (.inl zbbba))))).1 (Step_l0_T x (.inr (.inr (.inr (.inl zbbba))))).2) (fun zbbbb => Sum.elim (fun zbbbba => k (Step_l0_T x (.inr (.inr (.inr (.inr (.inl zbbbba)))))).1 (Step_l0_T x (.inr (.inr (.inr (.inr (.inl zbbbba)))))).2) (fun zbbbbb => k (Step_l0_T x (.inr (.inr (.inr (.inr (.inr zbbbbb)))))).1 (Step_l0_T x (.inr (.inr (.inr (.inr (.inr zbbbbb)))))).2) zbbbb) zbbb) zbb) zb) z
theorem Step_l0_xe (x : a_Step) : ∀ z k, Step_l0_x x z k = k (Step_l0_T x z).1 (Step_l0_T x z).2 := fun z k => by
 rcases z with z | z | z | z | z | z <;> rfl
theorem Step_l0_k0 (x : a_Step) (z : Int × Nat × (Nat → Int) × Int × Int) : KCM [(0, 832)] 192 (Step_l0_T x (.inl z)).1 (Step_l0_T x (.inl z)).2 = some (.l (Step_l0_T x (.inl z)).1 (Step_l0_T x (.inl z)).2) := by kernel_rfl
theorem Step_l0_k1 (x : a_Step) (z : Int × Int × Int × Int × Nat × Nat × Nat × Int × Int × (Nat → Int) × Nat × (Nat → Int) × Nat × (Nat → Int) × (Nat → Int)) : KCM [(0, 832)] 192 (Step_l0_T x (.inr (.inl z))).1 (Step_l0_T x (.inr (.inl z))).2 = some (.l (Step_l0_T x (.inr (.inl z))).1 (Step_l0_T x (.inr (.inl z))).2) := by kernel_rfl
theorem Step_l0_k2 (x : a_Step) (z : Int × Int × Int × Int × Nat × Nat × Nat × Int × Int × (Nat → Int) × Nat × (Nat → Int) × Nat × (Nat → Int) × (Nat → Int) × (Nat → Int) × (Nat → Int) × Nat × (Nat → Int)) : KCM [(0, 832)] 192 (Step_l0_T x (.inr (.inr (.inl z)))).1 (Step_l0_T x (.inr (.inr (.inl z)))).2 = some (.l (Step_l0_T x (.inr (.inr (.inl z)))).1 (Step_l0_T x (.inr (.inr (.inl z)))).2) := by kernel_rfl
theorem Step_l0_k3 (x : a_Step) (z : Int × Int × Int × Int × Nat × Nat × Nat × Int × Int × Int × Int × Int × Int × Int × Int × (Nat → Int) × Nat × (Nat → Int) × Nat × (Nat → Int) × (Nat → Int)) : KCM [(0, 832)] 192 (Step_l0_T x (.inr (.inr (.inr (.inl z))))).1 (Step_l0_T x (.inr (.inr (.inr (.inl z))))).2 = some (.l (Step_l0_T x (.inr (.inr (.inr (.inl z))))).1 (Step_l0_T x (.inr (.inr (.inr (.inl z))))).2) := by kernel_rfl
theorem Step_l0_k4 (x : a_Step) (z : Nat × Int × Nat × (Nat → Int) × (Nat → Int) × (Nat → Int) × (Nat → Int) × Int × Int) : KCM [(0, 832)] 192 (Step_l0_T x (.inr (.inr (.inr (.inr (.inl z)))))).1 (Step_l0_T x (.inr (.inr (.inr (.inr (.inl z)))))).2 = some (.l (Step_l0_T x (.inr (.inr (.inr (.inr (.inl z)))))).1 (Step_l0_T x (.inr (.inr (.inr (.inr (.inl z)))))).2) := by kernel_rfl
theorem Step_l0_k5 (x : a_Step) (z : Nat × (Nat → Int) × (Nat → Int) × (Nat → Int) × Int × Int × Int × Int × Nat × Nat × Nat × Int × Int × Int × Int × Int × Int × Int × Int × (Nat → Int) × Nat × (Nat → Int) × Nat × (Nat → Int) × (Nat → Int)) : KCM [(0, 832)] 192 (Step_l0_T x (.inr (.inr (.inr (.inr (.inr z)))))).1 (Step_l0_T x (.inr (.inr (.inr (.inr (.inr z)))))).2 = some (.l (Step_l0_T x (.inr (.inr (.inr (.inr (.inr z)))))).1 (Step_l0_T x (.inr (.inr (.inr (.inr (.inr z)))))).2) := by kernel_rfl
def Step_l0_t0_p0 {β : Type} (x : a_Step) (y : Nat × Nat × Nat × (Nat → Int) × (Nat → Int) × (Nat → Int) × (Nat → Int) × Int × Int × Int × Int × Int × Int × Int × Int × Int × Int × Int × Int × Int × Nat × Nat) (z : g_pushZ) (nx : Step_l0_a → Option β) (dn : Step_l0_g → Option β) : Option β :=
 Sum.elim (fun za =>
 dn (.inl ((za.1, za.2.1, za.2.2.2.2.2.2.2.2.1, 1002, 2)))) (fun zb =>
 nx (.inl ((zb.2.2.2.2.1, zb.2.2.2.2.2.1, zb.2.2.2.2.2.2.1, zb.2.2.2.2.2.2.2.2.2.2.2.2.2.2.2.1, zb.2.2.2.2.2.2.2.2.2.2.2.2.2.2.2.2.2.2.2, zb.2.2.2.2.2.2.2.2.2.2.2.2.2.2.2.2.2.1, zb.2.2.2.2.2.2.2.2.2.2.2.2.2.2.2.2.2.2.1, w (y.2.2.2.2.2.2.2.1 + 1), zb.1, zb.2.1, zb.2.2.1, zb.2.2.2.1, zb.2.2.2.2.2.2.2.1, zb.2.2.2.2.2.2.2.2.1, zb.2.2.2.2.2.2.2.2.2.1, zb.2.2.2.2.2.2.2.2.2.2.1, zb.2.2.2.2.2.2.2.2.2.2.2.1, zb.2.2.2.2.2.2.2.2.2.2.2.2.1, zb.2.2.2.2.2.2.2.2.2.2.2.2.2.1, zb.2.2.2.2.2.2.2.2.2.2.2.2.2.2.1, zb.2.2.2.2.2.2.2.2.2.2.2.2.2.2.2.2.1, zb.2.2.2.2.2.1)))) z
def Step_l0_t0_p1 {β : Type} (x : a_Step) (y : Nat × Nat × Nat × (Nat → Int) × (Nat → Int) × (Nat → Int) × (Nat → Int) × Int × Int × Int × Int × Int × Int × Int × Int × Int × Int × Int × Int × Int × Nat × Nat) (z : g_storeZ) (nx : Step_l0_a → Option β) (dn : Step_l0_g → Option β) : Option β :=
 nx (.inl ((z.2.2.2.2.1, z.2.2.2.2.2.1, z.2.2.2.2.2.2.1, z.2.2.2.2.2.2.2.2.2.2.2.2.2.2.2.1, z.2.2.2.2.2.2.2.2.2.2.2.2.2.2.2.2.2.1, z.2.2.2.2.2.2.2.2.2.2.2.2.2.2.2.2.2.2.2.1, z.2.2.2.2.2.2.2.2.2.2.2.2.2.2.2.2.2.2.2.2, w (y.2.2.2.2.2.2.2.1 + 1), z.1, z.2.1, z.2.2.1, z.2.2.2.1, z.2.2.2.2.2.2.2.1, z.2.2.2.2.2.2.2.2.1, z.2.2.2.2.2.2.2.2.2.1, z.2.2.2.2.2.2.2.2.2.2.1, z.2.2.2.2.2.2.2.2.2.2.2.1, z.2.2.2.2.2.2.2.2.2.2.2.2.1, z.2.2.2.2.2.2.2.2.2.2.2.2.2.1, z.2.2.2.2.2.2.2.2.2.2.2.2.2.2.1, z.2.2.2.2.2.2.2.2.2.2.2.2.2.2.2.2.2.2.1, z.2.2.2.2.2.2.2.2.2.2.2.2.2.2.2.2.1)))
def Step_l0_t0_p2 {β : Type} (x : a_Step) (y : Nat × Nat × Nat × (Nat → Int) × (Nat → Int) × (Nat → Int) × (Nat → Int) × Int × Int × Int × Int × Int × Int × Int × Int × Int × Int × Int × Int × Int × Nat × Nat) (z : g_lessZ) (nx : Step_l0_a → Option β) (dn : Step_l0_g → Option β) : Option β :=
 nx (.inl ((z.2.2.2.2.1, z.2.2.2.2.2.1, z.2.2.2.2.2.2.1, z.2.2.2.2.2.2.2.2.2.2.2.2.2.2.2.1, z.2.2.2.2.2.2.2.2.2.2.2.2.2.2.2.2.2.2.2, z.2.2.2.2.2.2.2.2.2.2.2.2.2.2.2.2.2.1, z.2.2.2.2.2.2.2.2.2.2.2.2.2.2.2.2.2.2.1, w (y.2.2.2.2.2.2.2.1 + 1), z.1, z.2.1, z.2.2.1, z.2.2.2.1, z.2.2.2.2.2.2.2.1, z.2.2.2.2.2.2.2.2.1, z.2.2.2.2.2.2.2.2.2.1, z.2.2.2.2.2.2.2.2.2.2.1, z.2.2.2.2.2.2.2.2.2.2.2.1, z.2.2.2.2.2.2.2.2.2.2.2.2.1, z.2.2.2.2.2.2.2.2.2.2.2.2.2.1, z.2.2.2.2.2.2.2.2.2.2.2.2.2.2.1, z.2.2.2.2.2.2.2.2.2.2.2.2.2.2.2.2.1, z.2.2.2.2.2.1)))
def uy0 {γ : Type} (x : Nat × Nat × Nat × (Nat → Int) × (Nat → Int) × (Nat → Int) × (Nat → Int) × Int × Int × Int × Int × Int × Int × Int × Int × Int × Int × Int × Int × Int × Nat × Nat) (f : Nat → Nat → Nat → (Nat → Int) → (Nat → Int) → (Nat → Int) → (Nat → Int) → Int → Int → Int → Int → Int → Int → Int → Int → Int → Int → Int → Int → Int → Nat → Nat → γ) : γ := f x.1 x.2.1 x.2.2.1 x.2.2.2.1 x.2.2.2.2.1 x.2.2.2.2.2.1 x.2.2.2.2.2.2.1 x.2.2.2.2.2.2.2.1 x.2.2.2.2.2.2.2.2.1 x.2.2.2.2.2.2.2.2.2.1 x.2.2.2.2.2.2.2.2.2.2.1 x.2.2.2.2.2.2.2.2.2.2.2.1 x.2.2.2.2.2.2.2.2.2.2.2.2.1 x.2.2.2.2.2.2.2.2.2.2.2.2.2.1 x.2.2.2.2.2.2.2.2.2.2.2.2.2.2.1 x.2.2.2.2.2.2.2.2.2.2.2.2.2.2.2.1 x.2.2.2.2.2.2.2.2.2.2.2.2.2.2.2.2.1 x.2.2.2.2.2.2.2.2.2.2.2.2.2.2.2.2.2.1 x.2.2.2.2.2.2.2.2.2.2.2.2.2.2.2.2.2.2.1 x.2.2.2.2.2.2.2.2.2.2.2.2.2.2.2.2.2.2.2.1 x.2.2.2.2.2.2.2.2.2.2.2.2.2.2.2.2.2.2.2.2.1 x.2.2.2.2.2.2.2.2.2.2.2.2.2.2.2.2.2.2.2.2.2
def Step_l0_t0 {β : Type} (C : Step_C) (x : a_Step) (y : Nat × Nat × Nat × (Nat → Int) × (Nat → Int) × (Nat → Int) × (Nat → Int) × Int × Int × Int × Int × Int × Int × Int × Int × Int × Int × Int × Int × Int × Nat × Nat) (nx : Step_l0_a → Option β) (dn : Step_l0_g → Option β) : Option β :=
 uy0 y fun p0 p1 p2 p3 p4 p5 p6 p7 p8 p9 p10 p11 p12 p13 p14 p15 p16 p17 p18 p19 p20 p21 =>
 if decide (p7 < 200) = true then
 if 0 ≤ p8 ∧ p8 < ((x.2.2.2.1 : Nat) : Int) then
 if x.2.2.2.2.1 (Int.toNat p8) = 1 then
 (C.pushZ ((x.2.2.2.2.2.1 (Int.toNat p8), p8, p9, p10, p11, p0, p3, p1, p21, p4, p2, p20, p5, p6, p12, p13, p14, p15, p16, p17, p18, p19))).bind fun z => Step_l0_t0_p0 x y z nx dn
 else
 if x.2.2.2.2.1 (Int.toNat p8) = 2 then
 (C.loadZ ((x.2.2.2.2.2.1 (Int.toNat p8), p8, p9, p10, p11, p0, p3, p1, p21, p4, p2, p20, p5, p6, p12, p13, p14, p15, p16, p17, p18, p19))).bind fun z => Step_l0_t0_p0 x y z nx dn
 else
 if x.2.2.2.2.1 (Int.toNat p8) = 3 then
 (C.storeZ ((x.2.2.2.2.2.1 (Int.toNat p8), p8, p9, p10, p11, p0, p3, p1, p21, p4, p2, p20, p5, p6, p12, p13, p14, p15, p16, p17, p18, p19))).bind fun z => Step_l0_t0_p1 x y z nx dn
 else
 if x.2.2.2.2.1 (Int.toNat p8) = 4 then
 (C.seeZ ((x.2.2.2.2.2.1 (Int.toNat p8), p8, p9, p10, p11, p0, p3, p1, p21, p4, p2, p20, p5, p6, p12, p13, p14, p15, p16, p17, p18, p19))).bind fun z => Step_l0_t0_p0 x y z nx dn
 else
 if x.2.2.2.2.1 (Int.toNat p8) = 5 then
 (C.addZ ((x.2.2.2.2.2.1 (Int.toNat p8), p8, p9, p10, p11, p0, p3, p1, p21, p4, p2, p20, p5, p6, p12, p13, p14, p15, p16, p17, p18, p19))).bind fun z => Step_l0_t0_p0 x y z nx dn
 else
 if x.2.2.2.2.1 (Int.toNat p8) = 6 then
 (C.subZ ((x.2.2.2.2.2.1 (Int.toNat p8), p8, p9, p10, p11, p0, p3, p1, p21, p4, p2, p20, p5, p6, p12, p13, p14, p15, p16, p17, p18, p19))).bind fun z => Step_l0_t0_p0 x y z nx dn
 else
 if x.2.2.2.2.1 (Int.toNat p8) = 7 then
 (C.mulZ ((x.2.2.2.2.2.1 (Int.toNat p8), p8, p9, p10, p11, p0, p3, p1, p21, p4, p2, p20, p5, p6, p12, p13, p14, p15, p16, p17, p18, p19))).bind fun z => Step_l0_t0_p0 x y z nx dn
 else
 if x.2.2.2.2.1 (Int.toNat p8) = 8 then
 (C.divZ ((x.2.2.2.2.2.1 (Int.toNat p8), p8, p9, p10, p11, p0, p3, p1, p21, p4, p2, p20, p5, p6, p12, p13, p14, p15, p16, p17, p18, p19))).bind fun z => Step_l0_t0_p0 x y z nx dn
 else
 if x.2.2.2.2.1 (Int.toNat p8) = 9 then
 (C.negZ ((x.2.2.2.2.2.1 (Int.toNat p8), p8, p9, p10, p11, p0, p3, p1, p21, p4, p2, p20, p5, p6, p12, p13, p14, p15, p16, p17, p18, p19))).bind fun z => Step_l0_t0_p0 x y z nx dn
 else
 if x.2.2.2.2.1 (Int.toNat p8) = 10 then
 (C.lessZ ((x.2.2.2.2.2.1 (Int.toNat p8), p8, p9, p10, p11, p0, p3, p1, p21, p4, p2, p20, p5, p6, p12, p13, p14, p15, p16, p17, p18, p19))).bind fun z => Step_l0_t0_p2 x y z nx dn
 else
 if x.2.2.2.2.1 (Int.toNat p8) = 11 then
 (C.atMostZ ((x.2.2.2.2.2.1 (Int.toNat p8), p8, p9, p10, p11, p0, p3, p1, p21, p4, p2, p20, p5, p6, p12, p13, p14, p15, p16, p17, p18, p19))).bind fun z => Step_l0_t0_p2 x y z nx dn
 else
 if x.2.2.2.2.1 (Int.toNat p8) = 12 then
 (C.equalZ ((x.2.2.2.2.2.1 (Int.toNat p8), p8, p9, p10, p11, p0, p3, p1, p21, p4, p2, p20, p5, p6, p12, p13, p14, p15, p16, p17, p18, p19))).bind fun z => Step_l0_t0_p2 x y z nx dn
 else
 if x.2.2.2.2.1 (Int.toNat p8) = 13 then
 (C.notZ ((x.2.2.2.2.2.1 (Int.toNat p8), p8, p9, p10, p11, p0, p3, p1, p21, p4, p2, p20, p5, p6, p12, p13, p14, p15, p16, p17, p18, p19))).bind fun z => Step_l0_t0_p2 x y z nx dn
 else
 if x.2.2.2.2.1 (Int.toNat p8) = 14 then
 (C.jumpZ ((x.2.2.2.2.2.1 (Int.toNat p8), p8, p9, p10, p11, p0, p3, p1, p21, p4, p2, p20, p5, p6, p12, p13, p14, p15, p16, p17, p18, p19))).bind fun z => Step_l0_t0_p1 x y z nx dn
 else
 if x.2.2.2.2.1 (Int.toNat p8) = 15 then
 (C.unlessZ ((x.2.2.2.2.2.1 (Int.toNat p8), p8, p9, p10, p11, p0, p3, p1, p21, p4, p2, p20, p5, p6, p12, p13, p14, p15, p16, p17, p18, p19))).bind fun z => Step_l0_t0_p1 x y z nx dn
 else
 if x.2.2.2.2.1 (Int.toNat p8) = 16 then
 (C.repeat_Z ((x.2.2.2.2.2.1 (Int.toNat p8), p8, p9, p10, p11, p0, p3, p1, p21, p4, p2, p20, p5, p6, p12, p13, p14, p15, p16, p17, p18, p19))).bind fun z9590 =>
 nx (.inl ((z9590.2.2.2.2.1, z9590.2.2.2.2.2.1, z9590.2.2.2.2.2.2.1, z9590.2.2.2.2.2.2.2.2.2.2.2.2.2.2.2.1, z9590.2.2.2.2.2.2.2.2.2.2.2.2.2.2.2.2.2.1, z9590.2.2.2.2.2.2.2.2.2.2.2.2.2.2.2.2.2.2.1, z9590.2.2.2.2.2.2.2.2.2.2.2.2.2.2.2.2.2.2.2, w (p7 + 1), z9590.1, z9590.2.1, z9590.2.2.1, z9590.2.2.2.1, z9590.2.2.2.2.2.2.2.1, z9590.2.2.2.2.2.2.2.2.1, z9590.2.2.2.2.2.2.2.2.2.1, z9590.2.2.2.2.2.2.2.2.2.2.1, z9590.2.2.2.2.2.2.2.2.2.2.2.1, z9590.2.2.2.2.2.2.2.2.2.2.2.2.1, z9590.2.2.2.2.2.2.2.2.2.2.2.2.2.1, z9590.2.2.2.2.2.2.2.2.2.2.2.2.2.2.1, z9590.2.2.2.2.2.2.1, z9590.2.2.2.2.2.2.2.2.2.2.2.2.2.2.2.2.1)))
 else
 if x.2.2.2.2.1 (Int.toNat p8) = 17 then
 (C.nextZ ((x.2.2.2.2.2.1 (Int.toNat p8), p8, p9, p10, p11, p0, p3, p1, p21, p4, p2, p20, p5, p6, p12, p13, p14, p15, p16, p17, p18, p19))).bind fun z => Step_l0_t0_p1 x y z nx dn
 else
 if x.2.2.2.2.1 (Int.toNat p8) = 18 then
 (C.waitZ ((x.2.2.2.2.2.1 (Int.toNat p8), p8, p9, p10, p11, p0, p3, p1, p21, p4, p2, p20, p5, p6, p12, p13, p14, p15, p16, p17, p18, p19))).bind fun z9636 =>
 Sum.elim (fun z9636a =>
 dn (.inr (.inl ((z9636a.1, z9636a.2.1, z9636a.2.2.1, z9636a.2.2.2.1, z9636a.2.2.2.2.1, z9636a.2.2.2.2.2.1, z9636a.2.2.2.2.2.2.1, z9636a.2.2.2.2.2.2.2.1, z9636a.2.2.2.2.2.2.2.2.1, z9636a.2.2.2.2.2.2.2.2.2.2.2.2.2.2.2))))) (fun z9636b =>
 nx (.inl ((z9636b.2.2.2.2.1, z9636b.2.2.2.2.2.1, z9636b.2.2.2.2.2.2.1, z9636b.2.2.2.2.2.2.2.2.2.2.2.2.2.2.2.1, z9636b.2.2.2.2.2.2.2.2.2.2.2.2.2.2.2.2.2.1, z9636b.2.2.2.2.2.2.2.2.2.2.2.2.2.2.2.2.2.2.2.1, z9636b.2.2.2.2.2.2.2.2.2.2.2.2.2.2.2.2.2.2.2.2, w (p7 + 1), z9636b.1, z9636b.2.1, z9636b.2.2.1, z9636b.2.2.2.1, z9636b.2.2.2.2.2.2.2.1, z9636b.2.2.2.2.2.2.2.2.1, z9636b.2.2.2.2.2.2.2.2.2.1, z9636b.2.2.2.2.2.2.2.2.2.2.1, z9636b.2.2.2.2.2.2.2.2.2.2.2.1, z9636b.2.2.2.2.2.2.2.2.2.2.2.2.1, z9636b.2.2.2.2.2.2.2.2.2.2.2.2.2.1, z9636b.2.2.2.2.2.2.2.2.2.2.2.2.2.2.1, z9636b.2.2.2.2.2.2.2.2.2.2.2.2.2.2.2.2.2.2.1, z9636b.2.2.2.2.2.2.2.2.2.2.2.2.2.2.2.2.1)))) z9636
 else
 if x.2.2.2.2.1 (Int.toNat p8) = 19 then
 (C.deadlineZ ((x.2.2.2.2.2.1 (Int.toNat p8), p8, p9, p10, p11, p0, p3, p1, p21, p4, p2, p20, p5, p6, p12, p13, p14, p15, p16, p17, p18, p19))).bind fun z => Step_l0_t0_p1 x y z nx dn
 else
 if x.2.2.2.2.1 (Int.toNat p8) = 20 then
 (C.pollZ ((x.2.2.2.2.2.1 (Int.toNat p8), p8, p9, p10, p11, p0, p3, p1, p21, p4, p2, p20, p5, p6, p12, p13, p14, p15, p16, p17, p18, p19))).bind fun z9683 =>
 Sum.elim (fun z9683a =>
 nx (.inl ((z9683a.2.2.2.1, z9683a.2.2.2.2.1, z9683a.2.2.2.2.2.1, z9683a.2.2.2.2.2.2.2.2.2.2.2.2.2.2.1, z9683a.2.2.2.2.2.2.2.2.2.2.2.2.2.2.2.2.1, z9683a.2.2.2.2.2.2.2.2.2.2.2.2.2.2.2.2.2.2.1, z9683a.2.2.2.2.2.2.2.2.2.2.2.2.2.2.2.2.2.2.2, w (p7 + 1), z9683a.1, z9683a.2.1, z9683a.2.2.1, (-1), z9683a.2.2.2.2.2.2.1, z9683a.2.2.2.2.2.2.2.1, z9683a.2.2.2.2.2.2.2.2.1, z9683a.2.2.2.2.2.2.2.2.2.1, z9683a.2.2.2.2.2.2.2.2.2.2.1, z9683a.2.2.2.2.2.2.2.2.2.2.2.1, z9683a.2.2.2.2.2.2.2.2.2.2.2.2.1, z9683a.2.2.2.2.2.2.2.2.2.2.2.2.2.1, z9683a.2.2.2.2.2.2.2.2.2.2.2.2.2.2.2.2.2.1, z9683a.2.2.2.2.2.2.2.2.2.2.2.2.2.2.2.1)))) (fun z9683b =>
 Sum.elim (fun z9683ba =>
 dn (.inl ((z9683ba.1, z9683ba.2.1, z9683ba.2.2.2.2.2.2.2.2.1, 1001, 2)))) (fun z9683bb =>
 dn (.inr (.inl ((z9683bb.1, z9683bb.2.1, z9683bb.2.2.1, z9683bb.2.2.2.1, z9683bb.2.2.2.2.1, z9683bb.2.2.2.2.2.1, z9683bb.2.2.2.2.2.2.1, z9683bb.2.2.2.2.2.2.2.1, z9683bb.2.2.2.2.2.2.2.2.1, z9683bb.2.2.2.2.2.2.2.2.2.2.2.2.2.2.2))))) z9683b) z9683
 else
 if x.2.2.2.2.1 (Int.toNat p8) = 21 then
 (C.require_Z ((x.2.2.2.2.2.1 (Int.toNat p8), p8, p9, p10, p11, p0, p3, p1, p21, p4, p2, p20, p5, p6, p12, p13, p14, p15, p16, p17, p18, p19))).bind fun z9708 =>
 Sum.elim (fun z9708a =>
 dn (.inl ((z9708a.1, z9708a.2.1, z9708a.2.2.2.2.2.2.2.2.1, 1000, 2)))) (fun z9708b =>
 nx (.inl ((z9708b.2.2.2.2.1, z9708b.2.2.2.2.2.1, z9708b.2.2.2.2.2.2.1, z9708b.2.2.2.2.2.2.2.2.2.2.2.2.2.2.2.1, z9708b.2.2.2.2.2.2.2.2.2.2.2.2.2.2.2.2.2.1, z9708b.2.2.2.2.2.2.2.2.2.2.2.2.2.2.2.2.2.2.2.1, z9708b.2.2.2.2.2.2.2.2.2.2.2.2.2.2.2.2.2.2.2.2, w (p7 + 1), z9708b.1, z9708b.2.1, z9708b.2.2.1, z9708b.2.2.2.1, z9708b.2.2.2.2.2.2.2.1, z9708b.2.2.2.2.2.2.2.2.1, z9708b.2.2.2.2.2.2.2.2.2.1, z9708b.2.2.2.2.2.2.2.2.2.2.1, z9708b.2.2.2.2.2.2.2.2.2.2.2.1, z9708b.2.2.2.2.2.2.2.2.2.2.2.2.1, z9708b.2.2.2.2.2.2.2.2.2.2.2.2.2.1, z9708b.2.2.2.2.2.2.2.2.2.2.2.2.2.2.1, z9708b.2.2.2.2.2.2.2.2.2.2.2.2.2.2.2.2.2.2.1, z9708b.2.2.2.2.2.2.2.2.2.2.2.2.2.2.2.2.1)))) z9708
 else
 if x.2.2.2.2.1 (Int.toNat p8) = 22 then
 (C.pointZ ((x.2.2.2.2.2.1 (Int.toNat p8), p8, p9, p10, p11, p0, p3, p1, p21, p4, p2, p20, p5, p6, p12, p13, p14, p15, p16, p17, p18, p19))).bind fun z9732 =>
 dn (.inr (.inr (.inl ((z9732.1, z9732.2.1, z9732.2.2.1, z9732.2.2.2.1, z9732.2.2.2.2.1, z9732.2.2.2.2.2.1, z9732.2.2.2.2.2.2.1, z9732.2.2.2.2.2.2.2.1, z9732.2.2.2.2.2.2.2.2.1, z9732.2.2.2.2.2.2.2.2.2.2.2.2.2.2.2.1, z9732.2.2.2.2.2.2.2.2.2.2.2.2.2.2.2.2.1, z9732.2.2.2.2.2.2.2.2.2.2.2.2.2.2.2.2.2.1, z9732.2.2.2.2.2.2.2.2.2.2.2.2.2.2.2.2.2.2.1, z9732.2.2.2.2.2.2.2.2.2.2.2.2.2.2.2.2.2.2.2.1, z9732.2.2.2.2.2.2.2.2.2.2.2.2.2.2.2.2.2.2.2.2.1, z9732.2.2.2.2.2.2.2.2.2.2.2.2.2.2.2.2.2.2.2.2.2, fun (j : Nat) => 1, 1, fun (j : Nat) => 0)))))
 else
 if x.2.2.2.2.1 (Int.toNat p8) = 23 then
 (C.use_Z ((x.2.2.2.2.2.1 (Int.toNat p8), p8, p9, p10, p11, p0, p3, p1, p21, p4, p2, p20, p5, p6, p12, p13, p14, p15, p16, p17, p18, p19))).bind fun z9755 =>
 Sum.elim (fun z9755a =>
 dn (.inr (.inr (.inl ((z9755a.1, z9755a.2.1, z9755a.2.2.1, z9755a.2.2.2.1, z9755a.2.2.2.2.1, z9755a.2.2.2.2.2.1, z9755a.2.2.2.2.2.2.1, z9755a.2.2.2.2.2.2.2.1, z9755a.2.2.2.2.2.2.2.2.1, z9755a.2.2.2.2.2.2.2.2.2.2.2.2.2.2.2.1, z9755a.2.2.2.2.2.2.2.2.2.2.2.2.2.2.2.2.1, z9755a.2.2.2.2.2.2.2.2.2.2.2.2.2.2.2.2.2.1, z9755a.2.2.2.2.2.2.2.2.2.2.2.2.2.2.2.2.2.2.1, z9755a.2.2.2.2.2.2.2.2.2.2.2.2.2.2.2.2.2.2.2.1, z9755a.2.2.2.2.2.2.2.2.2.2.2.2.2.2.2.2.2.2.2.2.1, z9755a.2.2.2.2.2.2.2.2.2.2.2.2.2.2.2.2.2.2.2.2.2, fun (j : Nat) => 2, 1, fun (j : Nat) => 0)))))) (fun z9755b =>
 Sum.elim (fun z9755ba =>
 dn (.inr (.inl ((z9755ba.1, z9755ba.2.1, z9755ba.2.2.1, z9755ba.2.2.2.1, z9755ba.2.2.2.2.1, z9755ba.2.2.2.2.2.1, z9755ba.2.2.2.2.2.2.1, z9755ba.2.2.2.2.2.2.2.1, z9755ba.2.2.2.2.2.2.2.2.1, z9755ba.2.2.2.2.2.2.2.2.2.2.2.2.2.2.2))))) (fun z9755bb =>
 Sum.elim (fun z9755bba =>
 nx (.inr ((z9755bba.2.2.2.2.2.2.2.2.2.2.2.2.2.2.2.2.2.2.2.2.2, z9755bba.1, z9755bba.2.1, z9755bba.2.2.1, z9755bba.2.2.2.1, z9755bba.2.2.2.2.1, z9755bba.2.2.2.2.2.1, z9755bba.2.2.2.2.2.2.1, z9755bba.2.2.2.2.2.2.2.1, z9755bba.2.2.2.2.2.2.2.2.1, z9755bba.2.2.2.2.2.2.2.2.2.1, z9755bba.2.2.2.2.2.2.2.2.2.2.1, z9755bba.2.2.2.2.2.2.2.2.2.2.2.1, z9755bba.2.2.2.2.2.2.2.2.2.2.2.2.1, z9755bba.2.2.2.2.2.2.2.2.2.2.2.2.2.1, z9755bba.2.2.2.2.2.2.2.2.2.2.2.2.2.2.1, z9755bba.2.2.2.2.2.2.2.2.2.2.2.2.2.2.2.1, z9755bba.2.2.2.2.2.2.2.2.2.2.2.2.2.2.2.2.1, z9755bba.2.2.2.2.2.2.2.2.2.2.2.2.2.2.2.2.2.1, z9755bba.2.2.2.2.2.2.2.2.2.2.2.2.2.2.2.2.2.2.1, z9755bba.2.2.2.2.2.2.2.2.2.2.2.2.2.2.2.2.2.2.2.1, z9755bba.2.2.2.2.2.2.2.2.2.2.2.2.2.2.2.2.2.2.2.2.1, fun (j : Nat) => 2, fun (j : Nat) => 0, w (p7 + 1), 1)))) (fun z9755bbb =>
 nx (.inl ((z9755bbb.2.2.2.2.1, z9755bbb.2.2.2.2.2.1, z9755bbb.2.2.2.2.2.2.1, z9755bbb.2.2.2.2.2.2.2.2.2.2.2.2.2.2.2.1, z9755bbb.2.2.2.2.2.2.2.2.2.2.2.2.2.2.2.2.2.1, z9755bbb.2.2.2.2.2.2.2.2.2.2.2.2.2.2.2.2.2.2.2.1, z9755bbb.2.2.2.2.2.2.2.2.2.2.2.2.2.2.2.2.2.2.2.2, w (p7 + 1), z9755bbb.1, z9755bbb.2.1, z9755bbb.2.2.1, z9755bbb.2.2.2.1, z9755bbb.2.2.2.2.2.2.2.1, z9755bbb.2.2.2.2.2.2.2.2.1, z9755bbb.2.2.2.2.2.2.2.2.2.1, z9755bbb.2.2.2.2.2.2.2.2.2.2.1, z9755bbb.2.2.2.2.2.2.2.2.2.2.2.1, z9755bbb.2.2.2.2.2.2.2.2.2.2.2.2.1, z9755bbb.2.2.2.2.2.2.2.2.2.2.2.2.2.1, z9755bbb.2.2.2.2.2.2.2.2.2.2.2.2.2.2.1, z9755bbb.2.2.2.2.2.2.2.2.2.2.2.2.2.2.2.2.2.2.1, z9755bbb.2.2.2.2.2.2.2.2.2.2.2.2.2.2.2.2.1)))) z9755bb) z9755b) z9755
 else
 if x.2.2.2.2.1 (Int.toNat p8) = 24 then
 (C.sendZ ((x.2.2.2.2.2.1 (Int.toNat p8), p8, p9, p10, p11, p0, p3, p1, p21, p4, p2, p20, p5, p6, p12, p13, p14, p15, p16, p17, p18, p19))).bind fun z9781 =>
 nx (.inr ((z9781.2.2.2.2.2.2.2.2.2.2.2.2.2.2.2.2.2.2.2.2.2.1, z9781.1, z9781.2.1, z9781.2.2.1, z9781.2.2.2.1, z9781.2.2.2.2.1, z9781.2.2.2.2.2.1, z9781.2.2.2.2.2.2.1, z9781.2.2.2.2.2.2.2.1, z9781.2.2.2.2.2.2.2.2.1, z9781.2.2.2.2.2.2.2.2.2.1, z9781.2.2.2.2.2.2.2.2.2.2.1, z9781.2.2.2.2.2.2.2.2.2.2.2.1, z9781.2.2.2.2.2.2.2.2.2.2.2.2.1, z9781.2.2.2.2.2.2.2.2.2.2.2.2.2.1, z9781.2.2.2.2.2.2.2.2.2.2.2.2.2.2.1, z9781.2.2.2.2.2.2.2.2.2.2.2.2.2.2.2.1, z9781.2.2.2.2.2.2.2.2.2.2.2.2.2.2.2.2.1, z9781.2.2.2.2.2.2.2.2.2.2.2.2.2.2.2.2.2.1, z9781.2.2.2.2.2.2.2.2.2.2.2.2.2.2.2.2.2.2.1, z9781.2.2.2.2.2.2.2.2.2.2.2.2.2.2.2.2.2.2.2.1, z9781.2.2.2.2.2.2.2.2.2.2.2.2.2.2.2.2.2.2.2.2.1, fun (j : Nat) => 3, z9781.2.2.2.2.2.2.2.2.2.2.2.2.2.2.2.2.2.2.2.2.2.2, w (p7 + 1), 1)))
 else
 if x.2.2.2.2.1 (Int.toNat p8) = 25 then
 (C.keep_Z ((x.2.2.2.2.2.1 (Int.toNat p8), p8, p9, p10, p11, p0, p3, p1, p21, p4, p2, p20, p5, p6, p12, p13, p14, p15, p16, p17, p18, p19))).bind fun z9804 =>
 nx (.inr ((z9804.2.2.2.2.2.2.2.2.2.2.2.2.2.2.2.2.2.2.2.2.2, z9804.1, z9804.2.1, z9804.2.2.1, z9804.2.2.2.1, z9804.2.2.2.2.1, z9804.2.2.2.2.2.1, z9804.2.2.2.2.2.2.1, z9804.2.2.2.2.2.2.2.1, z9804.2.2.2.2.2.2.2.2.1, z9804.2.2.2.2.2.2.2.2.2.1, z9804.2.2.2.2.2.2.2.2.2.2.1, z9804.2.2.2.2.2.2.2.2.2.2.2.1, z9804.2.2.2.2.2.2.2.2.2.2.2.2.1, z9804.2.2.2.2.2.2.2.2.2.2.2.2.2.1, z9804.2.2.2.2.2.2.2.2.2.2.2.2.2.2.1, z9804.2.2.2.2.2.2.2.2.2.2.2.2.2.2.2.1, z9804.2.2.2.2.2.2.2.2.2.2.2.2.2.2.2.2.1, z9804.2.2.2.2.2.2.2.2.2.2.2.2.2.2.2.2.2.1, z9804.2.2.2.2.2.2.2.2.2.2.2.2.2.2.2.2.2.2.1, z9804.2.2.2.2.2.2.2.2.2.2.2.2.2.2.2.2.2.2.2.1, z9804.2.2.2.2.2.2.2.2.2.2.2.2.2.2.2.2.2.2.2.2.1, fun (j : Nat) => 4, fun (j : Nat) => 0, w (p7 + 1), 1)))
 else
 if x.2.2.2.2.1 (Int.toNat p8) = 26 then
 (C.eventZ ((x.2.2.2.2.2.1 (Int.toNat p8), p8, p9, p10, p11, p0, p3, p1, p21, p4, p2, p20, p5, p6, p12, p13, p14, p15, p16, p17, p18, p19))).bind fun z9827 =>
 nx (.inr ((z9827.2.2.2.2.2.2.2.2.2.2.2.2.2.2.2.2.2.2.2.2.2, z9827.1, z9827.2.1, z9827.2.2.1, z9827.2.2.2.1, z9827.2.2.2.2.1, z9827.2.2.2.2.2.1, z9827.2.2.2.2.2.2.1, z9827.2.2.2.2.2.2.2.1, z9827.2.2.2.2.2.2.2.2.1, z9827.2.2.2.2.2.2.2.2.2.1, z9827.2.2.2.2.2.2.2.2.2.2.1, z9827.2.2.2.2.2.2.2.2.2.2.2.1, z9827.2.2.2.2.2.2.2.2.2.2.2.2.1, z9827.2.2.2.2.2.2.2.2.2.2.2.2.2.1, z9827.2.2.2.2.2.2.2.2.2.2.2.2.2.2.1, z9827.2.2.2.2.2.2.2.2.2.2.2.2.2.2.2.1, z9827.2.2.2.2.2.2.2.2.2.2.2.2.2.2.2.2.1, z9827.2.2.2.2.2.2.2.2.2.2.2.2.2.2.2.2.2.1, z9827.2.2.2.2.2.2.2.2.2.2.2.2.2.2.2.2.2.2.1, z9827.2.2.2.2.2.2.2.2.2.2.2.2.2.2.2.2.2.2.2.1, z9827.2.2.2.2.2.2.2.2.2.2.2.2.2.2.2.2.2.2.2.2.1, fun (j : Nat) => 5, fun (j : Nat) => 0, w (p7 + 1), 1)))
 else
 if x.2.2.2.2.1 (Int.toNat p8) = 27 then
 (C.abortZ ((x.2.2.2.2.2.1 (Int.toNat p8), p8, p9, p10, p11, p0, p3, p1, p21, p4, p2, p20, p5, p6, p12, p13, p14, p15, p16, p17, p18, p19))).bind fun z9850 =>
 dn (.inl ((z9850.1, z9850.2.1, z9850.2.2.2.2.2.2.2.2.2.1, z9850.2.2.1, 2)))
 else
 if x.2.2.2.2.1 (Int.toNat p8) = 28 then
 (C.stopZ ((x.2.2.2.2.2.1 (Int.toNat p8), p8, p9, p10, p11, p0, p3, p1, p21, p4, p2, p20, p5, p6, p12, p13, p14, p15, p16, p17, p18, p19))).bind fun z9873 =>
 dn (.inl ((z9873.1, z9873.2.1, z9873.2.2.2.2.2.2.2.2.1, 0, 1)))
 else
 none
 else
 none
 else
 dn (.inr (.inr (.inr (.inl ((p8, p9, p10, p11, p0, p1, p2, p12, p13, p14, p15, p16, p17, p18, p19, p3, p21, p4, p20, p5, p6))))))
theorem Step_l0_n0 {β : Type} (C : Step_C) (x : a_Step) (y : Nat × Nat × Nat × (Nat → Int) × (Nat → Int) × (Nat → Int) × (Nat → Int) × Int × Int × Int × Int × Int × Int × Int × Int × Int × Int × Int × Int × Int × Nat × Nat) (nx : Step_l0_a → Option β) (dn : Step_l0_g → Option β) : Step_l0_t0 C x y nx dn = (Step_l0_t0 C x y (fun y => some (.inl y)) (fun z => some (.inr z))).bind fun r => Sum.elim nx dn r := by
 unfold Step_l0_t0
 unfold uy0
 repeat' first | exact free_none | refine free_bind (fun z => ?_) | refine free_ite ?_ ?_ | refine free_sum (fun z => ?_) (fun z => ?_) | rfl | unfold Step_l0_t0_p2 | unfold Step_l0_t0_p1 | unfold Step_l0_t0_p0
theorem Step_l0_r0 (C : Step_C) (x : a_Step) (y : Nat × Nat × Nat × (Nat → Int) × (Nat → Int) × (Nat → Int) × (Nat → Int) × Int × Int × Int × Int × Int × Int × Int × Int × Int × Int × Int × Int × Int × Nat × Nat) (lo : LoopT) : loopK E8 (Step_T C) lo 0 140737488357192 (bodyOf E8 16 0) (Step_l0_S x (.inl y)) (KCM [(0, 832)] 192) = Step_l0_t0 (Step_V C) x y (fun y => lo 0 140737488357192 (bodyOf E8 16 0) (Step_l0_S x y) (KCM [(0, 832)] 192)) (fun z => some (.l (Step_l0_T x z).1 (Step_l0_T x z).2)) := by kernel_rfl
def Step_l0_t1_p0 {β : Type} (x : a_Step) (y : (Nat → Int) × Int × Int × Int × Int × Nat × Nat × Nat × Int × Int × Int × Int × Int × Int × Int × Int × (Nat → Int) × Nat × (Nat → Int) × Nat × (Nat → Int) × (Nat → Int) × (Nat → Int) × (Nat → Int) × Int × Nat) (z : g_pushA) (nx : Step_l0_a → Option β) (dn : Step_l0_g → Option β) : Option β :=
 Sum.elim (fun za =>
 dn (.inr (.inr (.inr (.inr (.inl ((za.2.2.2.2.2.2.2.2.2.2.2.2.2.2.1, za.1, za.2.1, za.2.2.2.2.2.2.2.2.1, za.2.2.2.2.2.2.2.2.2.2.2.2.2.2.2.1, za.2.2.2.2.2.2.2.2.2.2.2.2.2.2.2.2.1, za.2.2.2.2.2.2.2.2.2.2.2.2.2.2.2.2.2, 1002, 2)))))))) (fun zb =>
 nx (.inr ((zb.2.2.2.2.2.2.2.2.2.2.2.2.2.2.2.2.2.2.2.2.2.1, zb.1, zb.2.1, zb.2.2.1, zb.2.2.2.1, zb.2.2.2.2.1, zb.2.2.2.2.2.1, zb.2.2.2.2.2.2.1, zb.2.2.2.2.2.2.2.1, zb.2.2.2.2.2.2.2.2.1, zb.2.2.2.2.2.2.2.2.2.1, zb.2.2.2.2.2.2.2.2.2.2.1, zb.2.2.2.2.2.2.2.2.2.2.2.1, zb.2.2.2.2.2.2.2.2.2.2.2.2.1, zb.2.2.2.2.2.2.2.2.2.2.2.2.2.1, zb.2.2.2.2.2.2.2.2.2.2.2.2.2.2.1, zb.2.2.2.2.2.2.2.2.2.2.2.2.2.2.2.1, zb.2.2.2.2.2.1, zb.2.2.2.2.2.2.2.2.2.2.2.2.2.2.2.2.2.2.2.2.2.2.2, zb.2.2.2.2.2.2.2.2.2.2.2.2.2.2.2.2.1, zb.2.2.2.2.2.2.2.2.2.2.2.2.2.2.2.2.2.1, zb.2.2.2.2.2.2.2.2.2.2.2.2.2.2.2.2.2.2.1, zb.2.2.2.2.2.2.2.2.2.2.2.2.2.2.2.2.2.2.2.2.1, zb.2.2.2.2.2.2.2.2.2.2.2.2.2.2.2.2.2.2.2.2.2.2.1, w (y.2.2.2.2.2.2.2.2.2.2.2.2.2.2.2.2.2.2.2.2.2.2.2.2.1 + 1), zb.2.2.2.2.2.2.2.2.2.2.2.2.2.2.2.2.2.2.2.1)))) z
def Step_l0_t1_p1 {β : Type} (x : a_Step) (y : (Nat → Int) × Int × Int × Int × Int × Nat × Nat × Nat × Int × Int × Int × Int × Int × Int × Int × Int × (Nat → Int) × Nat × (Nat → Int) × Nat × (Nat → Int) × (Nat → Int) × (Nat → Int) × (Nat → Int) × Int × Nat) (z : g_storeA) (nx : Step_l0_a → Option β) (dn : Step_l0_g → Option β) : Option β :=
 nx (.inr ((z.2.2.2.2.2.2.2.2.2.2.2.2.2.2.2.2.2.2.2.2.2.2.2.1, z.1, z.2.1, z.2.2.1, z.2.2.2.1, z.2.2.2.2.1, z.2.2.2.2.2.1, z.2.2.2.2.2.2.1, z.2.2.2.2.2.2.2.1, z.2.2.2.2.2.2.2.2.1, z.2.2.2.2.2.2.2.2.2.1, z.2.2.2.2.2.2.2.2.2.2.1, z.2.2.2.2.2.2.2.2.2.2.2.1, z.2.2.2.2.2.2.2.2.2.2.2.2.1, z.2.2.2.2.2.2.2.2.2.2.2.2.2.1, z.2.2.2.2.2.2.2.2.2.2.2.2.2.2.1, z.2.2.2.2.2.2.2.2.2.2.2.2.2.2.2.1, z.2.2.2.2.2.2.2.2.2.2.2.2.2.2.2.2.1, z.2.2.2.2.2.2.2.2.2.2.2.2.2.2.2.2.2.1, z.2.2.2.2.2.2.2.2.2.2.2.2.2.2.2.2.2.2.1, z.2.2.2.2.2.2.2.2.2.2.2.2.2.2.2.2.2.2.2.1, z.2.2.2.2.2.2.2.2.2.2.2.2.2.2.2.2.2.2.2.2.1, z.2.2.2.2.2.2.2.2.2.2.2.2.2.2.2.2.2.2.2.2.2.2.1, z.2.2.2.2.2.2.2.2.2.2.2.2.2.2.2.2.2.2.2.2.2.2.2.2, w (y.2.2.2.2.2.2.2.2.2.2.2.2.2.2.2.2.2.2.2.2.2.2.2.2.1 + 1), z.2.2.2.2.2.2.2.2.2.2.2.2.2.2.2.2.2.2.2.2.2.1)))
def Step_l0_t1_p2 {β : Type} (x : a_Step) (y : (Nat → Int) × Int × Int × Int × Int × Nat × Nat × Nat × Int × Int × Int × Int × Int × Int × Int × Int × (Nat → Int) × Nat × (Nat → Int) × Nat × (Nat → Int) × (Nat → Int) × (Nat → Int) × (Nat → Int) × Int × Nat) (z : g_lessA) (nx : Step_l0_a → Option β) (dn : Step_l0_g → Option β) : Option β :=
 nx (.inr ((z.2.2.2.2.2.2.2.2.2.2.2.2.2.2.2.2.2.2.2.2.2.1, z.1, z.2.1, z.2.2.1, z.2.2.2.1, z.2.2.2.2.1, z.2.2.2.2.2.1, z.2.2.2.2.2.2.1, z.2.2.2.2.2.2.2.1, z.2.2.2.2.2.2.2.2.1, z.2.2.2.2.2.2.2.2.2.1, z.2.2.2.2.2.2.2.2.2.2.1, z.2.2.2.2.2.2.2.2.2.2.2.1, z.2.2.2.2.2.2.2.2.2.2.2.2.1, z.2.2.2.2.2.2.2.2.2.2.2.2.2.1, z.2.2.2.2.2.2.2.2.2.2.2.2.2.2.1, z.2.2.2.2.2.2.2.2.2.2.2.2.2.2.2.1, z.2.2.2.2.2.1, z.2.2.2.2.2.2.2.2.2.2.2.2.2.2.2.2.2.2.2.2.2.2.2, z.2.2.2.2.2.2.2.2.2.2.2.2.2.2.2.2.1, z.2.2.2.2.2.2.2.2.2.2.2.2.2.2.2.2.2.1, z.2.2.2.2.2.2.2.2.2.2.2.2.2.2.2.2.2.2.1, z.2.2.2.2.2.2.2.2.2.2.2.2.2.2.2.2.2.2.2.2.1, z.2.2.2.2.2.2.2.2.2.2.2.2.2.2.2.2.2.2.2.2.2.2.1, w (y.2.2.2.2.2.2.2.2.2.2.2.2.2.2.2.2.2.2.2.2.2.2.2.2.1 + 1), z.2.2.2.2.2.2.2.2.2.2.2.2.2.2.2.2.2.2.2.1)))
def uy1 {γ : Type} (x : (Nat → Int) × Int × Int × Int × Int × Nat × Nat × Nat × Int × Int × Int × Int × Int × Int × Int × Int × (Nat → Int) × Nat × (Nat → Int) × Nat × (Nat → Int) × (Nat → Int) × (Nat → Int) × (Nat → Int) × Int × Nat) (f : (Nat → Int) → Int → Int → Int → Int → Nat → Nat → Nat → Int → Int → Int → Int → Int → Int → Int → Int → (Nat → Int) → Nat → (Nat → Int) → Nat → (Nat → Int) → (Nat → Int) → (Nat → Int) → (Nat → Int) → Int → Nat → γ) : γ := f x.1 x.2.1 x.2.2.1 x.2.2.2.1 x.2.2.2.2.1 x.2.2.2.2.2.1 x.2.2.2.2.2.2.1 x.2.2.2.2.2.2.2.1 x.2.2.2.2.2.2.2.2.1 x.2.2.2.2.2.2.2.2.2.1 x.2.2.2.2.2.2.2.2.2.2.1 x.2.2.2.2.2.2.2.2.2.2.2.1 x.2.2.2.2.2.2.2.2.2.2.2.2.1 x.2.2.2.2.2.2.2.2.2.2.2.2.2.1 x.2.2.2.2.2.2.2.2.2.2.2.2.2.2.1 x.2.2.2.2.2.2.2.2.2.2.2.2.2.2.2.1 x.2.2.2.2.2.2.2.2.2.2.2.2.2.2.2.2.1 x.2.2.2.2.2.2.2.2.2.2.2.2.2.2.2.2.2.1 x.2.2.2.2.2.2.2.2.2.2.2.2.2.2.2.2.2.2.1 x.2.2.2.2.2.2.2.2.2.2.2.2.2.2.2.2.2.2.2.1 x.2.2.2.2.2.2.2.2.2.2.2.2.2.2.2.2.2.2.2.2.1 x.2.2.2.2.2.2.2.2.2.2.2.2.2.2.2.2.2.2.2.2.2.1 x.2.2.2.2.2.2.2.2.2.2.2.2.2.2.2.2.2.2.2.2.2.2.1 x.2.2.2.2.2.2.2.2.2.2.2.2.2.2.2.2.2.2.2.2.2.2.2.1 x.2.2.2.2.2.2.2.2.2.2.2.2.2.2.2.2.2.2.2.2.2.2.2.2.1 x.2.2.2.2.2.2.2.2.2.2.2.2.2.2.2.2.2.2.2.2.2.2.2.2.2
def Step_l0_t1 {β : Type} (C : Step_C) (x : a_Step) (y : (Nat → Int) × Int × Int × Int × Int × Nat × Nat × Nat × Int × Int × Int × Int × Int × Int × Int × Int × (Nat → Int) × Nat × (Nat → Int) × Nat × (Nat → Int) × (Nat → Int) × (Nat → Int) × (Nat → Int) × Int × Nat) (nx : Step_l0_a → Option β) (dn : Step_l0_g → Option β) : Option β :=
 uy1 y fun p0 p1 p2 p3 p4 p5 p6 p7 p8 p9 p10 p11 p12 p13 p14 p15 p16 p17 p18 p19 p20 p21 p22 p23 p24 p25 =>
 if decide (p24 < 200) = true then
 if 0 ≤ p1 ∧ p1 < ((x.2.2.2.1 : Nat) : Int) then
 if x.2.2.2.2.1 (Int.toNat p1) = 1 then
 (C.pushA ((x.2.2.2.2.2.1 (Int.toNat p1), p1, p2, p3, p4, p5, p16, p6, p17, p18, p7, p19, p20, p21, p8, p9, p10, p11, p12, p13, p14, p15, p25, p22, p0, p23))).bind fun z => Step_l0_t1_p0 x y z nx dn
 else
 if x.2.2.2.2.1 (Int.toNat p1) = 2 then
 (C.loadA ((x.2.2.2.2.2.1 (Int.toNat p1), p1, p2, p3, p4, p5, p16, p6, p17, p18, p7, p19, p20, p21, p8, p9, p10, p11, p12, p13, p14, p15, p25, p22, p0, p23))).bind fun z => Step_l0_t1_p0 x y z nx dn
 else
 if x.2.2.2.2.1 (Int.toNat p1) = 3 then
 (C.storeA ((x.2.2.2.2.2.1 (Int.toNat p1), p1, p2, p3, p4, p5, p16, p6, p17, p18, p7, p19, p20, p21, p8, p9, p10, p11, p12, p13, p14, p15, p25, p22, p0, p23))).bind fun z => Step_l0_t1_p1 x y z nx dn
 else
 if x.2.2.2.2.1 (Int.toNat p1) = 4 then
 (C.seeA ((x.2.2.2.2.2.1 (Int.toNat p1), p1, p2, p3, p4, p5, p16, p6, p17, p18, p7, p19, p20, p21, p8, p9, p10, p11, p12, p13, p14, p15, p25, p22, p0, p23))).bind fun z => Step_l0_t1_p0 x y z nx dn
 else
 if x.2.2.2.2.1 (Int.toNat p1) = 5 then
 (C.addA ((x.2.2.2.2.2.1 (Int.toNat p1), p1, p2, p3, p4, p5, p16, p6, p17, p18, p7, p19, p20, p21, p8, p9, p10, p11, p12, p13, p14, p15, p25, p22, p0, p23))).bind fun z => Step_l0_t1_p0 x y z nx dn
 else
 if x.2.2.2.2.1 (Int.toNat p1) = 6 then
 (C.subA ((x.2.2.2.2.2.1 (Int.toNat p1), p1, p2, p3, p4, p5, p16, p6, p17, p18, p7, p19, p20, p21, p8, p9, p10, p11, p12, p13, p14, p15, p25, p22, p0, p23))).bind fun z => Step_l0_t1_p0 x y z nx dn
 else
 if x.2.2.2.2.1 (Int.toNat p1) = 7 then
 (C.mulA ((x.2.2.2.2.2.1 (Int.toNat p1), p1, p2, p3, p4, p5, p16, p6, p17, p18, p7, p19, p20, p21, p8, p9, p10, p11, p12, p13, p14, p15, p25, p22, p0, p23))).bind fun z => Step_l0_t1_p0 x y z nx dn
 else
 if x.2.2.2.2.1 (Int.toNat p1) = 8 then
 (C.divA ((x.2.2.2.2.2.1 (Int.toNat p1), p1, p2, p3, p4, p5, p16, p6, p17, p18, p7, p19, p20, p21, p8, p9, p10, p11, p12, p13, p14, p15, p25, p22, p0, p23))).bind fun z => Step_l0_t1_p0 x y z nx dn
 else
 if x.2.2.2.2.1 (Int.toNat p1) = 9 then
 (C.negA ((x.2.2.2.2.2.1 (Int.toNat p1), p1, p2, p3, p4, p5, p16, p6, p17, p18, p7, p19, p20, p21, p8, p9, p10, p11, p12, p13, p14, p15, p25, p22, p0, p23))).bind fun z => Step_l0_t1_p0 x y z nx dn
 else
 if x.2.2.2.2.1 (Int.toNat p1) = 10 then
 (C.lessA ((x.2.2.2.2.2.1 (Int.toNat p1), p1, p2, p3, p4, p5, p16, p6, p17, p18, p7, p19, p20, p21, p8, p9, p10, p11, p12, p13, p14, p15, p25, p22, p0, p23))).bind fun z => Step_l0_t1_p2 x y z nx dn
 else
 if x.2.2.2.2.1 (Int.toNat p1) = 11 then
 (C.atMostA ((x.2.2.2.2.2.1 (Int.toNat p1), p1, p2, p3, p4, p5, p16, p6, p17, p18, p7, p19, p20, p21, p8, p9, p10, p11, p12, p13, p14, p15, p25, p22, p0, p23))).bind fun z => Step_l0_t1_p2 x y z nx dn
 else
 if x.2.2.2.2.1 (Int.toNat p1) = 12 then
 (C.equalA ((x.2.2.2.2.2.1 (Int.toNat p1), p1, p2, p3, p4, p5, p16, p6, p17, p18, p7, p19, p20, p21, p8, p9, p10, p11, p12, p13, p14, p15, p25, p22, p0, p23))).bind fun z => Step_l0_t1_p2 x y z nx dn
 else
 if x.2.2.2.2.1 (Int.toNat p1) = 13 then
 (C.notA ((x.2.2.2.2.2.1 (Int.toNat p1), p1, p2, p3, p4, p5, p16, p6, p17, p18, p7, p19, p20, p21, p8, p9, p10, p11, p12, p13, p14, p15, p25, p22, p0, p23))).bind fun z => Step_l0_t1_p2 x y z nx dn
 else
 if x.2.2.2.2.1 (Int.toNat p1) = 14 then
 (C.jumpA ((x.2.2.2.2.2.1 (Int.toNat p1), p1, p2, p3, p4, p5, p16, p6, p17, p18, p7, p19, p20, p21, p8, p9, p10, p11, p12, p13, p14, p15, p25, p22, p0, p23))).bind fun z => Step_l0_t1_p1 x y z nx dn
 else
 if x.2.2.2.2.1 (Int.toNat p1) = 15 then
 (C.unlessA ((x.2.2.2.2.2.1 (Int.toNat p1), p1, p2, p3, p4, p5, p16, p6, p17, p18, p7, p19, p20, p21, p8, p9, p10, p11, p12, p13, p14, p15, p25, p22, p0, p23))).bind fun z => Step_l0_t1_p1 x y z nx dn
 else
 if x.2.2.2.2.1 (Int.toNat p1) = 16 then
 (C.repeat_A ((x.2.2.2.2.2.1 (Int.toNat p1), p1, p2, p3, p4, p5, p16, p6, p17, p18, p7, p19, p20, p21, p8, p9, p10, p11, p12, p13, p14, p15, p25, p22, p0, p23))).bind fun z10314 =>
 nx (.inr ((z10314.2.2.2.2.2.2.2.2.2.2.2.2.2.2.2.2.2.2.2.2.1, z10314.1, z10314.2.1, z10314.2.2.1, z10314.2.2.2.1, z10314.2.2.2.2.1, z10314.2.2.2.2.2.1, z10314.2.2.2.2.2.2.1, z10314.2.2.2.2.2.2.2.1, z10314.2.2.2.2.2.2.2.2.1, z10314.2.2.2.2.2.2.2.2.2.1, z10314.2.2.2.2.2.2.2.2.2.2.1, z10314.2.2.2.2.2.2.2.2.2.2.2.1, z10314.2.2.2.2.2.2.2.2.2.2.2.2.1, z10314.2.2.2.2.2.2.2.2.2.2.2.2.2.1, z10314.2.2.2.2.2.2.2.2.2.2.2.2.2.2.1, z10314.2.2.2.2.2.2.2.2.2.2.2.2.2.2.2.1, z10314.2.2.2.2.2.2.2.2.2.2.2.2.2.2.2.2.1, z10314.2.2.2.2.2.2.2.2.2.2.2.2.2.2.2.2.2.1, z10314.2.2.2.2.2.2.1, z10314.2.2.2.2.2.2.2.2.2.2.2.2.2.2.2.2.2.2.2.2.2.2.1, z10314.2.2.2.2.2.2.2.2.2.2.2.2.2.2.2.2.2.2.2.2.2.2.2, z10314.2.2.2.2.2.2.2.2.2.2.2.2.2.2.2.2.2.2.2.1, z10314.2.2.2.2.2.2.2.2.2.2.2.2.2.2.2.2.2.2.2.2.2.1, w (p24 + 1), z10314.2.2.2.2.2.2.2.2.2.2.2.2.2.2.2.2.2.2.1)))
 else
 if x.2.2.2.2.1 (Int.toNat p1) = 17 then
 (C.nextA ((x.2.2.2.2.2.1 (Int.toNat p1), p1, p2, p3, p4, p5, p16, p6, p17, p18, p7, p19, p20, p21, p8, p9, p10, p11, p12, p13, p14, p15, p25, p22, p0, p23))).bind fun z => Step_l0_t1_p1 x y z nx dn
 else
 if x.2.2.2.2.1 (Int.toNat p1) = 18 then
 (C.waitA ((x.2.2.2.2.2.1 (Int.toNat p1), p1, p2, p3, p4, p5, p16, p6, p17, p18, p7, p19, p20, p21, p8, p9, p10, p11, p12, p13, p14, p15, p25, p22, p0, p23))).bind fun z10368 =>
 Sum.elim (fun z10368a =>
 dn (.inr (.inr (.inl ((z10368a.1, z10368a.2.1, z10368a.2.2.1, z10368a.2.2.2.1, z10368a.2.2.2.2.1, z10368a.2.2.2.2.2.1, z10368a.2.2.2.2.2.2.1, z10368a.2.2.2.2.2.2.2.1, z10368a.2.2.2.2.2.2.2.2.1, z10368a.2.2.2.2.2.2.2.2.2.2.2.2.2.2.2.1, z10368a.2.2.2.2.2.2.2.2.2.2.2.2.2.2.2.2.1, z10368a.2.2.2.2.2.2.2.2.2.2.2.2.2.2.2.2.2.1, z10368a.2.2.2.2.2.2.2.2.2.2.2.2.2.2.2.2.2.2.1, z10368a.2.2.2.2.2.2.2.2.2.2.2.2.2.2.2.2.2.2.2.1, z10368a.2.2.2.2.2.2.2.2.2.2.2.2.2.2.2.2.2.2.2.2.1, z10368a.2.2.2.2.2.2.2.2.2.2.2.2.2.2.2.2.2.2.2.2.2.2.2.1, z10368a.2.2.2.2.2.2.2.2.2.2.2.2.2.2.2.2.2.2.2.2.2.2.1, z10368a.2.2.2.2.2.2.2.2.2.2.2.2.2.2.2.2.2.2.2.2.2.1, z10368a.2.2.2.2.2.2.2.2.2.2.2.2.2.2.2.2.2.2.2.2.2.2.2.2)))))) (fun z10368b =>
 nx (.inr ((z10368b.2.2.2.2.2.2.2.2.2.2.2.2.2.2.2.2.2.2.2.2.2.2.2.1, z10368b.1, z10368b.2.1, z10368b.2.2.1, z10368b.2.2.2.1, z10368b.2.2.2.2.1, z10368b.2.2.2.2.2.1, z10368b.2.2.2.2.2.2.1, z10368b.2.2.2.2.2.2.2.1, z10368b.2.2.2.2.2.2.2.2.1, z10368b.2.2.2.2.2.2.2.2.2.1, z10368b.2.2.2.2.2.2.2.2.2.2.1, z10368b.2.2.2.2.2.2.2.2.2.2.2.1, z10368b.2.2.2.2.2.2.2.2.2.2.2.2.1, z10368b.2.2.2.2.2.2.2.2.2.2.2.2.2.1, z10368b.2.2.2.2.2.2.2.2.2.2.2.2.2.2.1, z10368b.2.2.2.2.2.2.2.2.2.2.2.2.2.2.2.1, z10368b.2.2.2.2.2.2.2.2.2.2.2.2.2.2.2.2.1, z10368b.2.2.2.2.2.2.2.2.2.2.2.2.2.2.2.2.2.1, z10368b.2.2.2.2.2.2.2.2.2.2.2.2.2.2.2.2.2.2.1, z10368b.2.2.2.2.2.2.2.2.2.2.2.2.2.2.2.2.2.2.2.1, z10368b.2.2.2.2.2.2.2.2.2.2.2.2.2.2.2.2.2.2.2.2.1, z10368b.2.2.2.2.2.2.2.2.2.2.2.2.2.2.2.2.2.2.2.2.2.2.1, z10368b.2.2.2.2.2.2.2.2.2.2.2.2.2.2.2.2.2.2.2.2.2.2.2.2, w (p24 + 1), z10368b.2.2.2.2.2.2.2.2.2.2.2.2.2.2.2.2.2.2.2.2.2.1)))) z10368
 else
 if x.2.2.2.2.1 (Int.toNat p1) = 19 then
 (C.deadlineA ((x.2.2.2.2.2.1 (Int.toNat p1), p1, p2, p3, p4, p5, p16, p6, p17, p18, p7, p19, p20, p21, p8, p9, p10, p11, p12, p13, p14, p15, p25, p22, p0, p23))).bind fun z => Step_l0_t1_p1 x y z nx dn
 else
 if x.2.2.2.2.1 (Int.toNat p1) = 20 then
 (C.pollA ((x.2.2.2.2.2.1 (Int.toNat p1), p1, p2, p3, p4, p5, p16, p6, p17, p18, p7, p19, p20, p21, p8, p9, p10, p11, p12, p13, p14, p15, p25, p22, p0, p23))).bind fun z10423 =>
 Sum.elim (fun z10423a =>
 nx (.inr ((z10423a.2.2.2.2.2.2.2.2.2.2.2.2.2.2.2.2.2.2.2.2.2.2.1, z10423a.1, z10423a.2.1, z10423a.2.2.1, (-1), z10423a.2.2.2.1, z10423a.2.2.2.2.1, z10423a.2.2.2.2.2.1, z10423a.2.2.2.2.2.2.1, z10423a.2.2.2.2.2.2.2.1, z10423a.2.2.2.2.2.2.2.2.1, z10423a.2.2.2.2.2.2.2.2.2.1, z10423a.2.2.2.2.2.2.2.2.2.2.1, z10423a.2.2.2.2.2.2.2.2.2.2.2.1, z10423a.2.2.2.2.2.2.2.2.2.2.2.2.1, z10423a.2.2.2.2.2.2.2.2.2.2.2.2.2.1, z10423a.2.2.2.2.2.2.2.2.2.2.2.2.2.2.1, z10423a.2.2.2.2.2.2.2.2.2.2.2.2.2.2.2.1, z10423a.2.2.2.2.2.2.2.2.2.2.2.2.2.2.2.2.1, z10423a.2.2.2.2.2.2.2.2.2.2.2.2.2.2.2.2.2.1, z10423a.2.2.2.2.2.2.2.2.2.2.2.2.2.2.2.2.2.2.1, z10423a.2.2.2.2.2.2.2.2.2.2.2.2.2.2.2.2.2.2.2.1, z10423a.2.2.2.2.2.2.2.2.2.2.2.2.2.2.2.2.2.2.2.2.2.1, z10423a.2.2.2.2.2.2.2.2.2.2.2.2.2.2.2.2.2.2.2.2.2.2.2, w (p24 + 1), z10423a.2.2.2.2.2.2.2.2.2.2.2.2.2.2.2.2.2.2.2.2.1)))) (fun z10423b =>
 Sum.elim (fun z10423ba =>
 dn (.inr (.inr (.inr (.inr (.inl ((z10423ba.2.2.2.2.2.2.2.2.2.2.2.2.2.2.1, z10423ba.1, z10423ba.2.1, z10423ba.2.2.2.2.2.2.2.2.1, z10423ba.2.2.2.2.2.2.2.2.2.2.2.2.2.2.2.1, z10423ba.2.2.2.2.2.2.2.2.2.2.2.2.2.2.2.2.1, z10423ba.2.2.2.2.2.2.2.2.2.2.2.2.2.2.2.2.2, 1001, 2)))))))) (fun z10423bb =>
 dn (.inr (.inr (.inl ((z10423bb.1, z10423bb.2.1, z10423bb.2.2.1, z10423bb.2.2.2.1, z10423bb.2.2.2.2.1, z10423bb.2.2.2.2.2.1, z10423bb.2.2.2.2.2.2.1, z10423bb.2.2.2.2.2.2.2.1, z10423bb.2.2.2.2.2.2.2.2.1, z10423bb.2.2.2.2.2.2.2.2.2.2.2.2.2.2.2.1, z10423bb.2.2.2.2.2.2.2.2.2.2.2.2.2.2.2.2.1, z10423bb.2.2.2.2.2.2.2.2.2.2.2.2.2.2.2.2.2.1, z10423bb.2.2.2.2.2.2.2.2.2.2.2.2.2.2.2.2.2.2.1, z10423bb.2.2.2.2.2.2.2.2.2.2.2.2.2.2.2.2.2.2.2.1, z10423bb.2.2.2.2.2.2.2.2.2.2.2.2.2.2.2.2.2.2.2.2.1, z10423bb.2.2.2.2.2.2.2.2.2.2.2.2.2.2.2.2.2.2.2.2.2.2.2.1, z10423bb.2.2.2.2.2.2.2.2.2.2.2.2.2.2.2.2.2.2.2.2.2.2.1, z10423bb.2.2.2.2.2.2.2.2.2.2.2.2.2.2.2.2.2.2.2.2.2.1, z10423bb.2.2.2.2.2.2.2.2.2.2.2.2.2.2.2.2.2.2.2.2.2.2.2.2)))))) z10423b) z10423
 else
 if x.2.2.2.2.1 (Int.toNat p1) = 21 then
 (C.require_A ((x.2.2.2.2.2.1 (Int.toNat p1), p1, p2, p3, p4, p5, p16, p6, p17, p18, p7, p19, p20, p21, p8, p9, p10, p11, p12, p13, p14, p15, p25, p22, p0, p23))).bind fun z10452 =>
 Sum.elim (fun z10452a =>
 dn (.inr (.inr (.inr (.inr (.inl ((z10452a.2.2.2.2.2.2.2.2.2.2.2.2.2.2.1, z10452a.1, z10452a.2.1, z10452a.2.2.2.2.2.2.2.2.1, z10452a.2.2.2.2.2.2.2.2.2.2.2.2.2.2.2.1, z10452a.2.2.2.2.2.2.2.2.2.2.2.2.2.2.2.2.1, z10452a.2.2.2.2.2.2.2.2.2.2.2.2.2.2.2.2.2, 1000, 2)))))))) (fun z10452b =>
 nx (.inr ((z10452b.2.2.2.2.2.2.2.2.2.2.2.2.2.2.2.2.2.2.2.2.2.2.2.1, z10452b.1, z10452b.2.1, z10452b.2.2.1, z10452b.2.2.2.1, z10452b.2.2.2.2.1, z10452b.2.2.2.2.2.1, z10452b.2.2.2.2.2.2.1, z10452b.2.2.2.2.2.2.2.1, z10452b.2.2.2.2.2.2.2.2.1, z10452b.2.2.2.2.2.2.2.2.2.1, z10452b.2.2.2.2.2.2.2.2.2.2.1, z10452b.2.2.2.2.2.2.2.2.2.2.2.1, z10452b.2.2.2.2.2.2.2.2.2.2.2.2.1, z10452b.2.2.2.2.2.2.2.2.2.2.2.2.2.1, z10452b.2.2.2.2.2.2.2.2.2.2.2.2.2.2.1, z10452b.2.2.2.2.2.2.2.2.2.2.2.2.2.2.2.1, z10452b.2.2.2.2.2.2.2.2.2.2.2.2.2.2.2.2.1, z10452b.2.2.2.2.2.2.2.2.2.2.2.2.2.2.2.2.2.1, z10452b.2.2.2.2.2.2.2.2.2.2.2.2.2.2.2.2.2.2.1, z10452b.2.2.2.2.2.2.2.2.2.2.2.2.2.2.2.2.2.2.2.1, z10452b.2.2.2.2.2.2.2.2.2.2.2.2.2.2.2.2.2.2.2.2.1, z10452b.2.2.2.2.2.2.2.2.2.2.2.2.2.2.2.2.2.2.2.2.2.2.1, z10452b.2.2.2.2.2.2.2.2.2.2.2.2.2.2.2.2.2.2.2.2.2.2.2.2, w (p24 + 1), z10452b.2.2.2.2.2.2.2.2.2.2.2.2.2.2.2.2.2.2.2.2.2.1)))) z10452
 else
 if x.2.2.2.2.1 (Int.toNat p1) = 22 then
 (C.pointA ((x.2.2.2.2.2.1 (Int.toNat p1), p1, p2, p3, p4, p5, p16, p6, p17, p18, p7, p19, p20, p21, p8, p9, p10, p11, p12, p13, p14, p15, p25, p22, p0, p23))).bind fun z10480 =>
 dn (.inr (.inr (.inl ((z10480.1, z10480.2.1, z10480.2.2.1, z10480.2.2.2.1, z10480.2.2.2.2.1, z10480.2.2.2.2.2.1, z10480.2.2.2.2.2.2.1, z10480.2.2.2.2.2.2.2.1, z10480.2.2.2.2.2.2.2.2.1, z10480.2.2.2.2.2.2.2.2.2.2.2.2.2.2.2.1, z10480.2.2.2.2.2.2.2.2.2.2.2.2.2.2.2.2.1, z10480.2.2.2.2.2.2.2.2.2.2.2.2.2.2.2.2.2.1, z10480.2.2.2.2.2.2.2.2.2.2.2.2.2.2.2.2.2.2.1, z10480.2.2.2.2.2.2.2.2.2.2.2.2.2.2.2.2.2.2.2.1, z10480.2.2.2.2.2.2.2.2.2.2.2.2.2.2.2.2.2.2.2.2.1, z10480.2.2.2.2.2.2.2.2.2.2.2.2.2.2.2.2.2.2.2.2.2.2.2.1, z10480.2.2.2.2.2.2.2.2.2.2.2.2.2.2.2.2.2.2.2.2.2.2.1, z10480.2.2.2.2.2.2.2.2.2.2.2.2.2.2.2.2.2.2.2.2.2.1, z10480.2.2.2.2.2.2.2.2.2.2.2.2.2.2.2.2.2.2.2.2.2.2.2.2)))))
 else
 if x.2.2.2.2.1 (Int.toNat p1) = 23 then
 (C.use_A ((x.2.2.2.2.2.1 (Int.toNat p1), p1, p2, p3, p4, p5, p16, p6, p17, p18, p7, p19, p20, p21, p8, p9, p10, p11, p12, p13, p14, p15, p25, p22, p0, p23))).bind fun z10507 =>
 Sum.elim (fun z10507a =>
 dn (.inr (.inr (.inl ((z10507a.1, z10507a.2.1, z10507a.2.2.1, z10507a.2.2.2.1, z10507a.2.2.2.2.1, z10507a.2.2.2.2.2.1, z10507a.2.2.2.2.2.2.1, z10507a.2.2.2.2.2.2.2.1, z10507a.2.2.2.2.2.2.2.2.1, z10507a.2.2.2.2.2.2.2.2.2.2.2.2.2.2.2.1, z10507a.2.2.2.2.2.2.2.2.2.2.2.2.2.2.2.2.1, z10507a.2.2.2.2.2.2.2.2.2.2.2.2.2.2.2.2.2.1, z10507a.2.2.2.2.2.2.2.2.2.2.2.2.2.2.2.2.2.2.1, z10507a.2.2.2.2.2.2.2.2.2.2.2.2.2.2.2.2.2.2.2.1, z10507a.2.2.2.2.2.2.2.2.2.2.2.2.2.2.2.2.2.2.2.2.1, z10507a.2.2.2.2.2.2.2.2.2.2.2.2.2.2.2.2.2.2.2.2.2.2.2.1, z10507a.2.2.2.2.2.2.2.2.2.2.2.2.2.2.2.2.2.2.2.2.2.2.1, z10507a.2.2.2.2.2.2.2.2.2.2.2.2.2.2.2.2.2.2.2.2.2.1, z10507a.2.2.2.2.2.2.2.2.2.2.2.2.2.2.2.2.2.2.2.2.2.2.2.2)))))) (fun z10507b =>
 Sum.elim (fun z10507ba =>
 dn (.inr (.inr (.inl ((z10507ba.1, z10507ba.2.1, z10507ba.2.2.1, z10507ba.2.2.2.1, z10507ba.2.2.2.2.1, z10507ba.2.2.2.2.2.1, z10507ba.2.2.2.2.2.2.1, z10507ba.2.2.2.2.2.2.2.1, z10507ba.2.2.2.2.2.2.2.2.1, z10507ba.2.2.2.2.2.2.2.2.2.2.2.2.2.2.2.1, z10507ba.2.2.2.2.2.2.2.2.2.2.2.2.2.2.2.2.1, z10507ba.2.2.2.2.2.2.2.2.2.2.2.2.2.2.2.2.2.1, z10507ba.2.2.2.2.2.2.2.2.2.2.2.2.2.2.2.2.2.2.1, z10507ba.2.2.2.2.2.2.2.2.2.2.2.2.2.2.2.2.2.2.2.1, z10507ba.2.2.2.2.2.2.2.2.2.2.2.2.2.2.2.2.2.2.2.2.1, z10507ba.2.2.2.2.2.2.2.2.2.2.2.2.2.2.2.2.2.2.2.2.2.2.2.1, z10507ba.2.2.2.2.2.2.2.2.2.2.2.2.2.2.2.2.2.2.2.2.2.2.1, z10507ba.2.2.2.2.2.2.2.2.2.2.2.2.2.2.2.2.2.2.2.2.2.1, z10507ba.2.2.2.2.2.2.2.2.2.2.2.2.2.2.2.2.2.2.2.2.2.2.2.2)))))) (fun z10507bb =>
 Sum.elim (fun z10507bba =>
 nx (.inr ((z10507bba.2.2.2.2.2.2.2.2.2.2.2.2.2.2.2.2.2.2.2.2.2.2.2.1, z10507bba.1, z10507bba.2.1, z10507bba.2.2.1, z10507bba.2.2.2.1, z10507bba.2.2.2.2.1, z10507bba.2.2.2.2.2.1, z10507bba.2.2.2.2.2.2.1, z10507bba.2.2.2.2.2.2.2.1, z10507bba.2.2.2.2.2.2.2.2.1, z10507bba.2.2.2.2.2.2.2.2.2.1, z10507bba.2.2.2.2.2.2.2.2.2.2.1, z10507bba.2.2.2.2.2.2.2.2.2.2.2.1, z10507bba.2.2.2.2.2.2.2.2.2.2.2.2.1, z10507bba.2.2.2.2.2.2.2.2.2.2.2.2.2.1, z10507bba.2.2.2.2.2.2.2.2.2.2.2.2.2.2.1, z10507bba.2.2.2.2.2.2.2.2.2.2.2.2.2.2.2.1, z10507bba.2.2.2.2.2.2.2.2.2.2.2.2.2.2.2.2.1, z10507bba.2.2.2.2.2.2.2.2.2.2.2.2.2.2.2.2.2.1, z10507bba.2.2.2.2.2.2.2.2.2.2.2.2.2.2.2.2.2.2.1, z10507bba.2.2.2.2.2.2.2.2.2.2.2.2.2.2.2.2.2.2.2.1, z10507bba.2.2.2.2.2.2.2.2.2.2.2.2.2.2.2.2.2.2.2.2.1, z10507bba.2.2.2.2.2.2.2.2.2.2.2.2.2.2.2.2.2.2.2.2.2.2.1, z10507bba.2.2.2.2.2.2.2.2.2.2.2.2.2.2.2.2.2.2.2.2.2.2.2.2, w (p24 + 1), z10507bba.2.2.2.2.2.2.2.2.2.2.2.2.2.2.2.2.2.2.2.2.2.1)))) (fun z10507bbb =>
 nx (.inr ((z10507bbb.2.2.2.2.2.2.2.2.2.2.2.2.2.2.2.2.2.2.2.2.2.2.2.1, z10507bbb.1, z10507bbb.2.1, z10507bbb.2.2.1, z10507bbb.2.2.2.1, z10507bbb.2.2.2.2.1, z10507bbb.2.2.2.2.2.1, z10507bbb.2.2.2.2.2.2.1, z10507bbb.2.2.2.2.2.2.2.1, z10507bbb.2.2.2.2.2.2.2.2.1, z10507bbb.2.2.2.2.2.2.2.2.2.1, z10507bbb.2.2.2.2.2.2.2.2.2.2.1, z10507bbb.2.2.2.2.2.2.2.2.2.2.2.1, z10507bbb.2.2.2.2.2.2.2.2.2.2.2.2.1, z10507bbb.2.2.2.2.2.2.2.2.2.2.2.2.2.1, z10507bbb.2.2.2.2.2.2.2.2.2.2.2.2.2.2.1, z10507bbb.2.2.2.2.2.2.2.2.2.2.2.2.2.2.2.1, z10507bbb.2.2.2.2.2.2.2.2.2.2.2.2.2.2.2.2.1, z10507bbb.2.2.2.2.2.2.2.2.2.2.2.2.2.2.2.2.2.1, z10507bbb.2.2.2.2.2.2.2.2.2.2.2.2.2.2.2.2.2.2.1, z10507bbb.2.2.2.2.2.2.2.2.2.2.2.2.2.2.2.2.2.2.2.1, z10507bbb.2.2.2.2.2.2.2.2.2.2.2.2.2.2.2.2.2.2.2.2.1, z10507bbb.2.2.2.2.2.2.2.2.2.2.2.2.2.2.2.2.2.2.2.2.2.2.1, z10507bbb.2.2.2.2.2.2.2.2.2.2.2.2.2.2.2.2.2.2.2.2.2.2.2.2, w (p24 + 1), z10507bbb.2.2.2.2.2.2.2.2.2.2.2.2.2.2.2.2.2.2.2.2.2.1)))) z10507bb) z10507b) z10507
 else
 if x.2.2.2.2.1 (Int.toNat p1) = 24 then
 (C.sendA ((x.2.2.2.2.2.1 (Int.toNat p1), p1, p2, p3, p4, p5, p16, p6, p17, p18, p7, p19, p20, p21, p8, p9, p10, p11, p12, p13, p14, p15, p25, p22, p0, p23))).bind fun z => Step_l0_t1_p1 x y z nx dn
 else
 if x.2.2.2.2.1 (Int.toNat p1) = 25 then
 (C.keep_A ((x.2.2.2.2.2.1 (Int.toNat p1), p1, p2, p3, p4, p5, p16, p6, p17, p18, p7, p19, p20, p21, p8, p9, p10, p11, p12, p13, p14, p15, p25, p22, p0, p23))).bind fun z => Step_l0_t1_p1 x y z nx dn
 else
 if x.2.2.2.2.1 (Int.toNat p1) = 26 then
 (C.eventA ((x.2.2.2.2.2.1 (Int.toNat p1), p1, p2, p3, p4, p5, p16, p6, p17, p18, p7, p19, p20, p21, p8, p9, p10, p11, p12, p13, p14, p15, p25, p22, p0, p23))).bind fun z => Step_l0_t1_p1 x y z nx dn
 else
 if x.2.2.2.2.1 (Int.toNat p1) = 27 then
 (C.abortA ((x.2.2.2.2.2.1 (Int.toNat p1), p1, p2, p3, p4, p5, p16, p6, p17, p18, p7, p19, p20, p21, p8, p9, p10, p11, p12, p13, p14, p15, p25, p22, p0, p23))).bind fun z10618 =>
 dn (.inr (.inr (.inr (.inr (.inl ((z10618.2.2.2.2.2.2.2.2.2.2.2.2.2.2.2.1, z10618.1, z10618.2.1, z10618.2.2.2.2.2.2.2.2.2.1, z10618.2.2.2.2.2.2.2.2.2.2.2.2.2.2.2.2.1, z10618.2.2.2.2.2.2.2.2.2.2.2.2.2.2.2.2.2.1, z10618.2.2.2.2.2.2.2.2.2.2.2.2.2.2.2.2.2.2, z10618.2.2.1, 2)))))))
 else
 if x.2.2.2.2.1 (Int.toNat p1) = 28 then
 (C.stopA ((x.2.2.2.2.2.1 (Int.toNat p1), p1, p2, p3, p4, p5, p16, p6, p17, p18, p7, p19, p20, p21, p8, p9, p10, p11, p12, p13, p14, p15, p25, p22, p0, p23))).bind fun z10645 =>
 dn (.inr (.inr (.inr (.inr (.inl ((z10645.2.2.2.2.2.2.2.2.2.2.2.2.2.2.1, z10645.1, z10645.2.1, z10645.2.2.2.2.2.2.2.2.1, z10645.2.2.2.2.2.2.2.2.2.2.2.2.2.2.2.1, z10645.2.2.2.2.2.2.2.2.2.2.2.2.2.2.2.2.1, z10645.2.2.2.2.2.2.2.2.2.2.2.2.2.2.2.2.2, 0, 1)))))))
 else
 none
 else
 none
 else
 dn (.inr (.inr (.inr (.inr (.inr ((p25, p22, p0, p23, p1, p2, p3, p4, p5, p6, p7, p8, p9, p10, p11, p12, p13, p14, p15, p16, p17, p18, p19, p20, p21)))))))
theorem Step_l0_n1 {β : Type} (C : Step_C) (x : a_Step) (y : (Nat → Int) × Int × Int × Int × Int × Nat × Nat × Nat × Int × Int × Int × Int × Int × Int × Int × Int × (Nat → Int) × Nat × (Nat → Int) × Nat × (Nat → Int) × (Nat → Int) × (Nat → Int) × (Nat → Int) × Int × Nat) (nx : Step_l0_a → Option β) (dn : Step_l0_g → Option β) : Step_l0_t1 C x y nx dn = (Step_l0_t1 C x y (fun y => some (.inl y)) (fun z => some (.inr z))).bind fun r => Sum.elim nx dn r := by
 unfold Step_l0_t1
 unfold uy1
 repeat' first | exact free_none | refine free_bind (fun z => ?_) | refine free_ite ?_ ?_ | refine free_sum (fun z => ?_) (fun z => ?_) | rfl | unfold Step_l0_t1_p2 | unfold Step_l0_t1_p1 | unfold Step_l0_t1_p0
theorem Step_l0_r1 (C : Step_C) (x : a_Step) (y : (Nat → Int) × Int × Int × Int × Int × Nat × Nat × Nat × Int × Int × Int × Int × Int × Int × Int × Int × (Nat → Int) × Nat × (Nat → Int) × Nat × (Nat → Int) × (Nat → Int) × (Nat → Int) × (Nat → Int) × Int × Nat) (lo : LoopT) : loopK E8 (Step_T C) lo 0 140737488357192 (bodyOf E8 16 0) (Step_l0_S x (.inr y)) (KCM [(0, 832)] 192) = Step_l0_t1 (Step_V C) x y (fun y => lo 0 140737488357192 (bodyOf E8 16 0) (Step_l0_S x y) (KCM [(0, 832)] 192)) (fun z => some (.l (Step_l0_T x z).1 (Step_l0_T x z).2)) := by kernel_rfl
noncomputable def Step_l0 (C : Step_C) (q : Nat) (x : a_Step) : Step_l0_a → Option Step_l0_g := lpG (Sum.elim (fun y => Step_l0_t0 C x y (fun y => some (.inl y)) (fun z => some (.inr z))) (fun y => Step_l0_t1 C x y (fun y => some (.inl y)) (fun z => some (.inr z)))) q
theorem Step_l0_s (C : Step_C) (H : Step_H C) (q : Nat) (x : a_Step) : ∀ y z, Step_l0 C q x y = some z → SL E8 (bodyOf E8 16 0) (Step_l0_S x y) (Step_l0_T x z).1 (Step_l0_T x z).2 :=
 SL.lp (LT := fun lo => lo) (T := Step_l0_T x) (S := Step_l0_S x) (Step_Ts H) hX8 (fun lo h => h) (fun lo y => by
  rcases y with y | y
  ·exact (Step_l0_r0 C x y lo).trans (by rw [Step_Ve C]; exact Step_l0_n0 _ _ _ _ _)
  ·exact (Step_l0_r1 C x y lo).trans (by rw [Step_Ve C]; exact Step_l0_n1 _ _ _ _ _)) (fun z => by rcases z with z | z | z | z | z | z <;> first | exact Step_l0_k0 x z | exact Step_l0_k1 x z | exact Step_l0_k2 x z | exact Step_l0_k3 x z | exact Step_l0_k4 x z | exact Step_l0_k5 x z) q
def t_Step {β : Type} (C : Step_C) (l_Step_l0 : Step_l0_a → Option Step_l0_g) (x : a_Step) (dn : g_Step → Option β) : Option β :=
 (C.CloneI ((x.2.2.2.2.2.2.2.2.2.2.1, x.2.2.2.2.2.2.2.2.2.2.2.1))).bind fun z2 =>
 (C.CloneI ((x.2.2.2.2.2.2.2.2.2.2.2.2.1, x.2.2.2.2.2.2.2.2.2.2.2.2.2.1))).bind fun z5 =>
 (C.CloneL ((x.2.2.2.2.2.2.2.2.2.2.2.2.2.2.1, x.2.2.2.2.2.2.2.2.2.2.2.2.2.2.2.1, x.2.2.2.2.2.2.2.2.2.2.2.2.2.2.2.2.1))).bind fun z9 =>
 if (x.2.2.2.2.2.2.2.2.2.2.2.2.2.2.2.2.2.1 != 0) = true then
 dn (.inl ((x.2.2.2.2.2.2.1, x.2.2.2.2.2.2.2.1, x.2.2.2.2.2.2.2.2.1, x.2.2.2.2.2.2.2.2.2.1, z2.1, z5.1, z9.1, x.2.2.2.2.2.2.2.2.2.2.2.2.2.2.2.2.2.1, x.2.2.2.2.2.2.2.2.2.2.2.2.2.2.2.2.2.2.1, z2.2, z5.2, z9.2.1, z9.2.2, z5.1, z9.1)))
 else
 if decide (x.2.2.2.2.2.2.2.1 > 0) = true then
 (C.sleepZ ((x.2.2.2.2.2.2.1, x.2.2.2.2.2.2.2.1, x.2.2.2.2.2.2.2.2.1, x.2.2.2.2.2.2.2.2.2.1, z2.1, z2.2, z5.1, z5.1, z5.2, z9.1, z9.1, z9.2.1, z9.2.2, x.2.2.2.2.2.2.2.2.2.2.2.2.2.2.2.2.2))).bind fun z31 =>
 Sum.elim (fun z31a =>
 dn (.inr (.inl ((z31a.1, z31a.2.1, z31a.2.2.2.2.2.2.2.2.2.2.2.2.2.2.2.2.2.2.2.2.2, z31a.2.2.1, z31a.2.2.2.1, z31a.2.2.2.2.1, z31a.2.2.2.2.2.1, z31a.2.2.2.2.2.2.1, z31a.2.2.2.2.2.2.2.1, z31a.2.2.2.2.2.2.2.2.2.2.2.2.2.2.1, z31a.2.2.2.2.2.2.2.2.2.2.2.2.2.2.2.1, z31a.2.2.2.2.2.2.2.2.2.2.2.2.2.2.2.2.1, z31a.2.2.2.2.2.2.2.2.2.2.2.2.2.2.2.2.2.1, z31a.2.2.2.2.2.2.2.2.2.2.2.2.2.2.2.2.2.2.1, z31a.2.2.2.2.2.2.2.2.2.2.2.2.2.2.2.2.2.2.2.1, z31a.2.2.2.2.2.2.2.2.2.2.2.2.2.2.2.2.2.2.2.2.1, 1, fun (j : Nat) => 2, fun (j : Nat) => 0))))) (fun z31b =>
 dn (.inl ((z31b.1, z31b.2.1, z31b.2.2.2.2.2.2.2.2.2.2.2.2.2.2.2.2.2.2.2.2, z31b.2.2.1, z31b.2.2.2.1, z31b.2.2.2.2.1, z31b.2.2.2.2.2.1, z31b.2.2.2.2.2.2.1, z31b.2.2.2.2.2.2.2.1, z31b.2.2.2.2.2.2.2.2.2.2.2.2.2.2.1, z31b.2.2.2.2.2.2.2.2.2.2.2.2.2.2.2.2.1, z31b.2.2.2.2.2.2.2.2.2.2.2.2.2.2.2.2.2.2.1, z31b.2.2.2.2.2.2.2.2.2.2.2.2.2.2.2.2.2.2.2.1, z31b.2.2.2.2.2.2.2.2.2.2.2.2.2.2.2.1, z31b.2.2.2.2.2.2.2.2.2.2.2.2.2.2.2.2.2.1)))) z31
 else
 (l_Step_l0 (.inl ((z2.1, z5.1, z9.1, z2.2, z5.2, z9.2.1, z9.2.2, 0, x.2.2.2.2.2.2.1, x.2.2.2.2.2.2.2.1, x.2.2.2.2.2.2.2.2.1, x.2.2.2.2.2.2.2.2.2.1, x.2.2.2.2.2.2.2.2.2.2.2.2.2.2.2.2.2.1, x.2.2.2.2.2.2.2.2.2.2.2.2.2.2.2.2.2.2.1, x.2.2.2.2.2.2.2.2.2.2.2.2.2.2.2.2.2.2.2.1, x.2.2.2.2.2.2.2.2.2.2.2.2.2.2.2.2.2.2.2.2.1, x.2.2.2.2.2.2.2.2.2.2.2.2.2.2.2.2.2.2.2.2.2.1, x.2.2.2.2.2.2.2.2.2.2.2.2.2.2.2.2.2.2.2.2.2.2.1, x.2.2.2.2.2.2.2.2.2.2.2.2.2.2.2.2.2.2.2.2.2.2.2.1, x.2.2.2.2.2.2.2.2.2.2.2.2.2.2.2.2.2.2.2.2.2.2.2.2, z9.1, z5.1)))).bind fun z9020 =>
 Sum.elim (fun z9020a =>
 dn (.inr (.inr (.inl ((z9020a.1, z9020a.2.1, z9020a.2.2.2.2, z9020a.2.2.2.1, z9020a.2.2.1)))))) (fun z9020b =>
 Sum.elim (fun z9020ba =>
 dn (.inl ((z9020ba.1, z9020ba.2.1, z9020ba.2.2.1, z9020ba.2.2.2.1, z9020ba.2.2.2.2.1, z9020ba.2.2.2.2.2.1, z9020ba.2.2.2.2.2.2.1, z9020ba.2.2.2.2.2.2.2.1, z9020ba.2.2.2.2.2.2.2.2.1, z9020ba.2.2.2.2.2.2.2.2.2.1, z9020ba.2.2.2.2.2.2.2.2.2.2.2.1, z9020ba.2.2.2.2.2.2.2.2.2.2.2.2.2.1, z9020ba.2.2.2.2.2.2.2.2.2.2.2.2.2.2, z9020ba.2.2.2.2.2.2.2.2.2.2.1, z9020ba.2.2.2.2.2.2.2.2.2.2.2.2.1)))) (fun z9020bb =>
 Sum.elim (fun z9020bba =>
 dn (.inr (.inl ((z9020bba.1, z9020bba.2.1, z9020bba.2.2.1, z9020bba.2.2.2.1, z9020bba.2.2.2.2.1, z9020bba.2.2.2.2.2.1, z9020bba.2.2.2.2.2.2.1, z9020bba.2.2.2.2.2.2.2.1, z9020bba.2.2.2.2.2.2.2.2.1, z9020bba.2.2.2.2.2.2.2.2.2.1, z9020bba.2.2.2.2.2.2.2.2.2.2.1, z9020bba.2.2.2.2.2.2.2.2.2.2.2.1, z9020bba.2.2.2.2.2.2.2.2.2.2.2.2.1, z9020bba.2.2.2.2.2.2.2.2.2.2.2.2.2.1, z9020bba.2.2.2.2.2.2.2.2.2.2.2.2.2.2.1, z9020bba.2.2.2.2.2.2.2.2.2.2.2.2.2.2.2.1, z9020bba.2.2.2.2.2.2.2.2.2.2.2.2.2.2.2.2.2.1, z9020bba.2.2.2.2.2.2.2.2.2.2.2.2.2.2.2.2.1, z9020bba.2.2.2.2.2.2.2.2.2.2.2.2.2.2.2.2.2.2))))) (fun z9020bbb =>
 Sum.elim (fun z9020bbba =>
 (C.finishZ ((1003, 2, z9020bbba.1, z9020bbba.2.1, z9020bbba.2.2.1, z9020bbba.2.2.2.1, z9020bbba.2.2.2.2.1, z9020bbba.2.2.2.2.2.2.2.2.2.2.2.2.2.2.2.1, z9020bbba.2.2.2.2.2.1, z9020bbba.2.2.2.2.2.2.2.2.2.2.2.2.2.2.2.2.1, z9020bbba.2.2.2.2.2.2.2.2.2.2.2.2.2.2.2.2.2.1, z9020bbba.2.2.2.2.2.2.1, z9020bbba.2.2.2.2.2.2.2.2.2.2.2.2.2.2.2.2.2.2.1, z9020bbba.2.2.2.2.2.2.2.2.2.2.2.2.2.2.2.2.2.2.2.1, z9020bbba.2.2.2.2.2.2.2.2.2.2.2.2.2.2.2.2.2.2.2.2, z9020bbba.2.2.2.2.2.2.2.1, z9020bbba.2.2.2.2.2.2.2.2.1, z9020bbba.2.2.2.2.2.2.2.2.2.1, z9020bbba.2.2.2.2.2.2.2.2.2.2.1, z9020bbba.2.2.2.2.2.2.2.2.2.2.2.1, z9020bbba.2.2.2.2.2.2.2.2.2.2.2.2.1, z9020bbba.2.2.2.2.2.2.2.2.2.2.2.2.2.1, z9020bbba.2.2.2.2.2.2.2.2.2.2.2.2.2.2.1))).bind fun z9047 =>
 dn (.inr (.inr (.inl ((z9047.1, z9047.2.1, z9047.2.2.1, z9047.2.2.2.1, z9047.2.2.2.2.2.2.2.2.2.2.1)))))) (fun z9020bbbb =>
 Sum.elim (fun z9020bbbba =>
 dn (.inr (.inr (.inr ((z9020bbbba.2.1, z9020bbbba.2.2.1, z9020bbbba.2.2.2.2.2.2.2.2, z9020bbbba.2.2.2.2.2.2.2.1, z9020bbbba.1, z9020bbbba.2.2.2.1, z9020bbbba.2.2.2.2.1, z9020bbbba.2.2.2.2.2.1, z9020bbbba.2.2.2.2.2.2.1)))))) (fun z9020bbbbb =>
 (C.finishA ((1003, 2, z9020bbbbb.2.2.2.2.1, z9020bbbbb.2.2.2.2.2.1, z9020bbbbb.2.2.2.2.2.2.1, z9020bbbbb.2.2.2.2.2.2.2.1, z9020bbbbb.2.2.2.2.2.2.2.2.1, z9020bbbbb.2.2.2.2.2.2.2.2.2.2.2.2.2.2.2.2.2.2.2.1, z9020bbbbb.2.2.2.2.2.2.2.2.2.1, z9020bbbbb.2.2.2.2.2.2.2.2.2.2.2.2.2.2.2.2.2.2.2.2.1, z9020bbbbb.2.2.2.2.2.2.2.2.2.2.2.2.2.2.2.2.2.2.2.2.2.1, z9020bbbbb.2.2.2.2.2.2.2.2.2.2.1, z9020bbbbb.2.2.2.2.2.2.2.2.2.2.2.2.2.2.2.2.2.2.2.2.2.2.1, z9020bbbbb.2.2.2.2.2.2.2.2.2.2.2.2.2.2.2.2.2.2.2.2.2.2.2.1, z9020bbbbb.2.2.2.2.2.2.2.2.2.2.2.2.2.2.2.2.2.2.2.2.2.2.2.2, z9020bbbbb.2.2.2.2.2.2.2.2.2.2.2.1, z9020bbbbb.2.2.2.2.2.2.2.2.2.2.2.2.1, z9020bbbbb.2.2.2.2.2.2.2.2.2.2.2.2.2.1, z9020bbbbb.2.2.2.2.2.2.2.2.2.2.2.2.2.2.1, z9020bbbbb.2.2.2.2.2.2.2.2.2.2.2.2.2.2.2.1, z9020bbbbb.2.2.2.2.2.2.2.2.2.2.2.2.2.2.2.2.1, z9020bbbbb.2.2.2.2.2.2.2.2.2.2.2.2.2.2.2.2.2.1, z9020bbbbb.2.2.2.2.2.2.2.2.2.2.2.2.2.2.2.2.2.2.1, z9020bbbbb.1, z9020bbbbb.2.1, z9020bbbbb.2.2.1, z9020bbbbb.2.2.2.1))).bind fun z9077 =>
 dn (.inr (.inr (.inr ((z9077.1, z9077.2.1, z9077.2.2.1, z9077.2.2.2.1, z9077.2.2.2.2.2.2.2.2.2.2.2.2.2.2.2.2.1, z9077.2.2.2.2.2.2.2.2.2.2.1, z9077.2.2.2.2.2.2.2.2.2.2.2.2.2.2.2.2.2)))))) z9020bbbb) z9020bbb) z9020bb) z9020b) z9020
theorem n_Step {β : Type} (C : Step_C) (l_Step_l0 : Step_l0_a → Option Step_l0_g) (x : a_Step) (dn : g_Step → Option β) : t_Step C l_Step_l0 x dn = (t_Step C l_Step_l0 x some).bind dn := by
 unfold t_Step
 repeat' first | exact free_none | refine free_bind (fun z => ?_) | refine free_ite ?_ ?_ | refine free_sum (fun z => ?_) (fun z => ?_) | rfl
theorem r_Step (C : Step_C) (l_Step_l0 : Step_l0_a → Option Step_l0_g) (x : a_Step) : callK E8 (Step_T C) (ltabF 0 (fun _ => true) (bodyOf E8 16 0) (Step_l0_S x) (Step_l0_x x) l_Step_l0 lo0) 16 (A_Step x).1 (A_Step x).2 K = t_Step (Step_V C) (fun y => viaF (fun y => (bodyOf E8 16 0, Step_l0_S x y)) l_Step_l0 (bodyOf E8 16 0, Step_l0_S x y)) x (fun z => some (.c (R_Step z))) := by kernel_rfl
theorem s_Step (C : Step_C) (H : Step_H C) (q : Nat) (x : a_Step) (z : g_Step) (h : t_Step C (Step_l0 C q x) x some = some z) : SC E8 16 (A_Step x).1 (A_Step x).2 (R_Step z) := by
 refine SC.of hW8 hX8 (Step_Ts H) (ltabF_cons (Step_l0_s C H q x) (Step_l0_xe x) lo0_sound) ((r_Step C (Step_l0 C q x) x).trans ?_)
 rw [Step_Ve C, via_eq (pair_inj (bodyOf E8 16 0) (Step_l0_i x)) (Step_l0 C q x), n_Step, h]; rfl
noncomputable def Step (q : Nat) (x : a_Step) : Option g_Step := t_Step (Step_c q) (Step_l0 (Step_c q) q x) x some
theorem sc_Step (q : Nat) : ∀ (x : a_Step) (z : g_Step), Step q x = some z → SC E8 16 (A_Step x).1 (A_Step x).2 (R_Step z) := fun x z h => s_Step (Step_c q) ⟨sc_CloneI q, sc_CloneL q, sc_pushZ q, sc_pushA q, sc_loadZ q, sc_loadA q, sc_storeZ q, sc_storeA q, sc_seeZ q, sc_seeA q, sc_addZ q, sc_addA q, sc_subZ q, sc_subA q, sc_mulZ q, sc_mulA q, sc_divZ q, sc_divA q, sc_negZ q, sc_negA q, sc_lessZ q, sc_lessA q, sc_atMostZ q, sc_atMostA q, sc_equalZ q, sc_equalA q, sc_notZ q, sc_notA q, sc_jumpZ q, sc_jumpA q, sc_unlessZ q, sc_unlessA q, sc_repeat_Z q, sc_repeat_A q, sc_nextZ q, sc_nextA q, sc_waitZ q, sc_waitA q, sc_deadlineZ q, sc_deadlineA q, sc_pollZ q, sc_pollA q, sc_require_Z q, sc_require_A q, sc_pointZ q, sc_pointA q, sc_use_Z q, sc_use_A q, sc_sendZ q, sc_sendA q, sc_keep_Z q, sc_keep_A q, sc_eventZ q, sc_eventA q, sc_abortZ q, sc_abortA q, sc_stopZ q, sc_stopA q, sc_finishZ q, sc_finishA q, sc_sleepZ q⟩ q x z h
end Go.Proofs.YthkioinnobiieaaGreatDoor
/- Rows as lists; a round of the machine's loop, stated. -/
namespace Go.Proofs.YthkioinnobiieaaGreatDoor
open Go Go.Am Go.Proofs
set_option linter.unusedSimpArgs false
set_option linter.unusedVariables false
set_option maxRecDepth 100000
def RS (f : Nat → Int) : Nat → List Int → Prop
 | 0, l => l = []
 | k + 1, l => ∃ r, l = f k :: r ∧ RS f k r
theorem RS.cong {f g : Nat → Int} : ∀ {k : Nat} {l : List Int}, (∀ j, j < k → f j = g j) → RS f k l → RS g k l
 | 0, l, _, h => h
 | k + 1, l, e, h => by
  obtain ⟨r, rfl, h⟩ := h
  exact ⟨r, by rw [e k (Nat.lt_succ_self k)], RS.cong (fun j hj => e j (Nat.lt_succ_of_lt hj)) h⟩
theorem RS.push {f : Nat → Int} {k : Nat} {l : List Int} {v : Int} (h : RS f k l) : RS (fun j => if j < k then f j else v) (k + 1) (v :: l) :=
 ⟨l, by simp, h.cong fun j hj => by rw [if_pos hj]⟩
theorem RS.pop {f : Nat → Int} {k : Nat} {x : Int} {r : List Int} (h : RS f k (x :: r)) : ∃ j, k = j + 1 ∧ f j = x ∧ RS f j r := by
 cases k with
 | zero => cases h
 | succ k =>
  obtain ⟨r', e, h⟩ := h
  cases e
  exact ⟨k, rfl, rfl, h⟩
theorem RS.len {f : Nat → Int} : ∀ {k : Nat} {l : List Int}, RS f k l → l.length = k
 | 0, l, h => by rw [show l = [] from h]; rfl
 | k + 1, l, h => by obtain ⟨r, rfl, h⟩ := h; simp [h.len]
def RP (a b : Nat → Int) : Nat → List (Int × Int) → Prop
 | 0, l => l = []
 | k + 1, l => ∃ r, l = (a k, b k) :: r ∧ RP a b k r
theorem RP.cong {a b a' b' : Nat → Int} : ∀ {k : Nat} {l : List (Int × Int)}, (∀ j, j < k → a j = a' j ∧ b j = b' j) → RP a b k l → RP a' b' k l
 | 0, l, _, h => h
 | k + 1, l, e, h => by
  obtain ⟨r, rfl, h⟩ := h
  exact ⟨r, by rw [(e k (Nat.lt_succ_self k)).1, (e k (Nat.lt_succ_self k)).2], RP.cong (fun j hj => e j (Nat.lt_succ_of_lt hj)) h⟩
theorem RP.push {a b : Nat → Int} {k : Nat} {l : List (Int × Int)} {u v : Int} (h : RP a b k l) : RP (fun j => if j < k then a j else u) (fun j => if j < k then b j else v) (k + 1) ((u, v) :: l) :=
 ⟨l, by simp, h.cong fun j hj => by rw [if_pos hj, if_pos hj]; exact ⟨rfl, rfl⟩⟩
theorem RP.pop {a b : Nat → Int} {k : Nat} {p c : Int} {r : List (Int × Int)} (h : RP a b k ((p, c) :: r)) : ∃ j, k = j + 1 ∧ a j = p ∧ b j = c ∧ RP a b j r := by
 cases k with
 | zero => cases h
 | succ k =>
  obtain ⟨r', e, h⟩ := h
  simp only [List.cons.injEq, Prod.mk.injEq] at e
  obtain ⟨⟨rfl, rfl⟩, rfl⟩ := e
  exact ⟨k, rfl, rfl, rfl, h⟩
theorem RP.dec {a b : Nat → Int} {k : Nat} {p v : Int} {r : List (Int × Int)} (hp : a k = p) (h : RP a b k r) : RP a (fun j => if j = k then v else b j) (k + 1) ((p, v) :: r) :=
 ⟨r, by simp [hp], h.cong fun j hj => ⟨rfl, by rw [if_neg (by omega)]⟩⟩
theorem RP.drop {a b : Nat → Int} {k : Nat} {v : Int} {r : List (Int × Int)} (h : RP a b k r) : RP a (fun j => if j = k then v else b j) k r :=
 h.cong fun j hj => ⟨rfl, by rw [if_neg (by omega)]⟩
theorem RP.len {a b : Nat → Int} : ∀ {k : Nat} {l : List (Int × Int)}, RP a b k l → l.length = k
 | 0, l, h => by rw [show l = [] from h]; rfl
 | k + 1, l, h => by obtain ⟨r, rfl, h⟩ := h; simp [h.len]
def RA (a b c : Nat → Int) (n : Nat) (l : List (Int × Int × Int)) : Prop := l.length = n ∧ ∀ j, j < n → l[j]? = some (a j, b j, c j)
theorem RA.snoc {a b c : Nat → Int} {n : Nat} {l : List (Int × Int × Int)} {u v z : Int} (h : RA a b c n l) : RA (fun j => if j < n then a j else u) (fun j => if j < n then b j else v) (fun j => if j < n then c j else z) (n + 1) (l ++ [(u, v, z)]) := by
 refine ⟨by simp [h.1], fun j hj => ?_⟩
 by_cases hjn : j < n
 ·rw [List.getElem?_append, if_pos (by rw [h.1]; exact hjn), h.2 j hjn]; simp [hjn]
 ·have : j = n := by omega
  subst this
  rw [List.getElem?_append, if_neg (by rw [h.1]; omega), h.1]; simp
theorem RA.one {u v z : Int} : RA (fun _ => u) (fun _ => v) (fun _ => z) 1 ([] ++ [(u, v, z)]) := by
 refine ⟨rfl, fun j hj => ?_⟩
 have hj : j < 1 := hj
 obtain rfl : j = 0 := by omega
 rfl
theorem Runs.bpos {α β : Type} {c : Prop} [Decidable c] {a b : Option α} {f : α → Option β} {P : β → Prop} (h : c) (g : Runs (a.bind f) P) : Runs ((_root_.ite c a b).bind f) P := by rw [_root_.if_pos h]; exact g
theorem Runs.bneg {α β : Type} {c : Prop} [Decidable c] {a b : Option α} {f : α → Option β} {P : β → Prop} (h : ¬ c) (g : Runs (b.bind f) P) : Runs ((_root_.ite c a b).bind f) P := by rw [_root_.if_neg h]; exact g
theorem Runs.bite {α β : Type} {c : Prop} [Decidable c] {a b : Option α} {f : α → Option β} {P : β → Prop} (h1 : c → Runs (a.bind f) P) (h2 : ¬ c → Runs (b.bind f) P) : Runs ((_root_.ite c a b).bind f) P := by
 by_cases h : c
 ·exact Runs.bpos h (h1 h)
 ·exact Runs.bneg h (h2 h)
theorem Runs.bsome {α β : Type} {z : α} {f : α → Option β} {P : β → Prop} (g : Runs (f z) P) : Runs ((Option.some z).bind f) P := g
abbrev T6 : Type := Int × Int × Int × Int × Int × Int
def tlmF (t : T6) : Nat → Int := fun j => if j = 0 then t.1 else if j = 1 then t.2.1 else if j = 2 then t.2.2.1 else if j = 3 then t.2.2.2.1 else if j = 4 then t.2.2.2.2.1 else t.2.2.2.2.2
structure Rw (vn0 : Nat) (m : Ma) (pc sp us ti : Int) (vn : Nat) (vf : Nat → Int) (sk sn : Nat) (sf : Nat → Int) (lk ln : Nat) (la lb : Nat → Int) (stt cde : Int) : Prop where
 pc : m.pc = pc
 sp : m.sleep = sp
 us : m.use = us
 ti : m.til = ti
 vn : vn = vn0
 vf : m.vars = vf
 rs : RS sf sk m.stk
 sn : sk ≤ sn
 rp : RP la lb lk m.lps
 ln : lk ≤ ln
 st : m.st = stt
 cd : m.cd = cde
structure Rel0 (vn0 : Nat) (fu : Int) (t : T6) (m : Ma) (vn sk lk : Nat) (vf sf la lb : Nat → Int) (fuel pc sp us ti stt cde t0 t1 t2 t3 t4 t5 : Int) (ln sn : Nat) : Prop where
 rw : Rw vn0 m pc sp us ti vn vf sk sn sf lk ln la lb stt cde
 ac : m.acts = []
 fu : fuel = fu
 t : (t0, t1, t2, t3, t4, t5) = t
structure Rel1 (vn0 : Nat) (fu : Int) (t : T6) (m : Ma) (ay : Nat → Int) (pc sp us ti : Int) (vn sk lk : Nat) (stt cde t0 t1 t2 t3 t4 t5 : Int) (vf : Nat → Int) (sn : Nat) (sf : Nat → Int) (ln : Nat) (la lb ax az : Nat → Int) (fuel : Int) (an : Nat) : Prop where
 rw : Rw vn0 m pc sp us ti vn vf sk sn sf lk ln la lb stt cde
 ac : RA ax ay az an m.acts
 fu : fuel = fu
 t : (t0, t1, t2, t3, t4, t5) = t
def RelY (vn0 : Nat) (fu : Int) (t : T6) (m : Ma) : Step_l0_a → Prop :=
 Sum.elim (fun y => Rel0 vn0 fu t m y.1 y.2.1 y.2.2.1 y.2.2.2.1 y.2.2.2.2.1 y.2.2.2.2.2.1 y.2.2.2.2.2.2.1 y.2.2.2.2.2.2.2.1 y.2.2.2.2.2.2.2.2.1 y.2.2.2.2.2.2.2.2.2.1 y.2.2.2.2.2.2.2.2.2.2.1 y.2.2.2.2.2.2.2.2.2.2.2.1 y.2.2.2.2.2.2.2.2.2.2.2.2.1 y.2.2.2.2.2.2.2.2.2.2.2.2.2.1 y.2.2.2.2.2.2.2.2.2.2.2.2.2.2.1 y.2.2.2.2.2.2.2.2.2.2.2.2.2.2.2.1 y.2.2.2.2.2.2.2.2.2.2.2.2.2.2.2.2.1 y.2.2.2.2.2.2.2.2.2.2.2.2.2.2.2.2.2.1 y.2.2.2.2.2.2.2.2.2.2.2.2.2.2.2.2.2.2.1 y.2.2.2.2.2.2.2.2.2.2.2.2.2.2.2.2.2.2.2.1 y.2.2.2.2.2.2.2.2.2.2.2.2.2.2.2.2.2.2.2.2.1 y.2.2.2.2.2.2.2.2.2.2.2.2.2.2.2.2.2.2.2.2.2)
  (fun y => Rel1 vn0 fu t m y.1 y.2.1 y.2.2.1 y.2.2.2.1 y.2.2.2.2.1 y.2.2.2.2.2.1 y.2.2.2.2.2.2.1 y.2.2.2.2.2.2.2.1 y.2.2.2.2.2.2.2.2.1 y.2.2.2.2.2.2.2.2.2.1 y.2.2.2.2.2.2.2.2.2.2.1 y.2.2.2.2.2.2.2.2.2.2.2.1 y.2.2.2.2.2.2.2.2.2.2.2.2.1 y.2.2.2.2.2.2.2.2.2.2.2.2.2.1 y.2.2.2.2.2.2.2.2.2.2.2.2.2.2.1 y.2.2.2.2.2.2.2.2.2.2.2.2.2.2.2.1 y.2.2.2.2.2.2.2.2.2.2.2.2.2.2.2.2.1 y.2.2.2.2.2.2.2.2.2.2.2.2.2.2.2.2.2.1 y.2.2.2.2.2.2.2.2.2.2.2.2.2.2.2.2.2.2.1 y.2.2.2.2.2.2.2.2.2.2.2.2.2.2.2.2.2.2.2.1 y.2.2.2.2.2.2.2.2.2.2.2.2.2.2.2.2.2.2.2.2.1 y.2.2.2.2.2.2.2.2.2.2.2.2.2.2.2.2.2.2.2.2.2.1 y.2.2.2.2.2.2.2.2.2.2.2.2.2.2.2.2.2.2.2.2.2.2.1 y.2.2.2.2.2.2.2.2.2.2.2.2.2.2.2.2.2.2.2.2.2.2.2.1 y.2.2.2.2.2.2.2.2.2.2.2.2.2.2.2.2.2.2.2.2.2.2.2.2.1 y.2.2.2.2.2.2.2.2.2.2.2.2.2.2.2.2.2.2.2.2.2.2.2.2.2)
inductive RelZ (vn0 : Nat) (m : Ma) : Step_l0_g → Prop
 | fin0 {pc : Int} {vn : Nat} {vf : Nat → Int} {cde stt : Int} : Rw vn0 m pc 0 (-1) (-1) vn vf 0 0 r0 0 0 r0 r0 stt cde → m.acts = [] → RelZ vn0 m (.inl (pc, vn, vf, cde, stt))
 | rest0 {pc sp us ti : Int} {vn sk lk : Nat} {stt cde : Int} {vf : Nat → Int} {sn : Nat} {sf : Nat → Int} {ln : Nat} {la lb : Nat → Int} : Rw vn0 m pc sp us ti vn vf sk sn sf lk ln la lb stt cde → m.acts = [] → RelZ vn0 m (.inr (.inl (pc, sp, us, ti, vn, sk, lk, stt, cde, vf, sn, sf, ln, la, lb)))
 | rest1 {pc sp us ti : Int} {vn sk lk : Nat} {stt cde : Int} {vf : Nat → Int} {sn : Nat} {sf : Nat → Int} {ln : Nat} {la lb az ax : Nat → Int} {an : Nat} {ay : Nat → Int} : Rw vn0 m pc sp us ti vn vf sk sn sf lk ln la lb stt cde → RA ax az ay an m.acts → RelZ vn0 m (.inr (.inr (.inl (pc, sp, us, ti, vn, sk, lk, stt, cde, vf, sn, sf, ln, la, lb, az, ax, an, ay))))
 | fin1 {an : Nat} {pc : Int} {vn : Nat} {vf ax ay az : Nat → Int} {cde stt : Int} : Rw vn0 m pc 0 (-1) (-1) vn vf 0 0 r0 0 0 r0 r0 stt cde → RA ax ay az an m.acts → RelZ vn0 m (.inr (.inr (.inr (.inr (.inl (an, pc, vn, vf, ax, ay, az, cde, stt))))))
def runM (op ar tlm : Nat → Int) : Nat → Ma → Ma
 | 0, m => m.fin 2 1003
 | k + 1, m => match exec (op m.pc.toNat) (ar m.pc.toNat) tlm m with
  | (m', true) => m'
  | (m', false) => runM op ar tlm k m'
end Go.Proofs.YthkioinnobiieaaGreatDoor
/- A round of the machine's loop, no action yet. -/
namespace Go.Proofs.YthkioinnobiieaaGreatDoor
open Go Go.Am Go.Proofs
set_option linter.unusedSimpArgs false
set_option linter.unusedVariables false
set_option maxRecDepth 100000
set_option maxHeartbeats 4000000
theorem wsub {k : Nat} (h : k < 1000000) : w (((k + 1 : Nat) : Int) - 1) = (k : Int) := by rw [w_in (by unfold inR; omega)]; omega
theorem chain_len {n : Nat} {op ar l v : Nat → Int} (hl : Lvs n op ar l v) : ∀ (lps : List (Int × Int)) (t : Int), -1 ≤ t → t ≤ n → Chain l t lps → (lps.length : Int) ≤ t + 1
 | [], t, h, _, _ => by simp; omega
 | (a, k) :: r, t, h, hn, ⟨h1, h2, h3, h4, h5⟩ => by
  have hlt := hl.lt (i := t.toNat) (by omega)
  have := chain_len hl r (l t.toNat) (by omega) (by omega) h5
  simp only [List.length_cons]
  omega
theorem Runs.big2 {α β : Type} {v : Int} {a b : Option α} {f : α → Option β} {P : β → Prop} (h : big v) (g : Runs (a.bind f) P) : Runs ((_root_.ite (decide (v < -2147483647) = true) a (_root_.ite (decide (v > 2147483647) = true) a b)).bind f) P := by
 refine Runs.bite (fun _ => g) fun g1 => Runs.bite (fun _ => g) fun g2 => ?_
 exfalso
 simp only [decide_eq_true_eq] at g1 g2
 unfold big at h
 omega
theorem Runs.small2 {α β : Type} {v : Int} {a b : Option α} {f : α → Option β} {P : β → Prop} (h : ¬ big v) (g : Runs (b.bind f) P) : Runs ((_root_.ite (decide (v < -2147483647) = true) a (_root_.ite (decide (v > 2147483647) = true) a b)).bind f) P := by
 unfold big at h
 exact Runs.bneg (by simp only [decide_eq_true_eq]; omega) (Runs.bneg (by simp only [decide_eq_true_eq]; omega) g)
theorem mul_bd {a b : Int} (ha : small1 a) (hb : small1 b) : inR (a * b) := by
 unfold small1 at ha hb
 have h1 : a * b ≤ 2147483647 * 2147483647 := by
  by_cases h : 0 ≤ a
  ·have := Int.mul_le_mul_of_nonneg_left hb.2 h
   have := Int.mul_le_mul_of_nonneg_right ha.2 (show (0 : Int) ≤ 2147483647 by omega)
   omega
  ·have h2 : a * b = -a * -b := by rw [Int.neg_mul_neg]
   have := Int.mul_le_mul_of_nonneg_left (show -b ≤ 2147483647 by omega) (show 0 ≤ -a by omega)
   have := Int.mul_le_mul_of_nonneg_right (show -a ≤ 2147483647 by omega) (show (0 : Int) ≤ 2147483647 by omega)
   omega
 have h2 : -(2147483647 * 2147483647) ≤ a * b := by
  by_cases h : 0 ≤ a
  ·have := Int.mul_le_mul_of_nonneg_left (show -2147483647 ≤ b by omega) h
   have := Int.mul_le_mul_of_nonneg_right ha.2 (show (0 : Int) ≤ 2147483647 by omega)
   omega
  ·have := Int.mul_le_mul_of_nonneg_left (show b ≤ 2147483647 by omega) (show 0 ≤ -a by omega)
   have := Int.mul_le_mul_of_nonneg_right (show -a ≤ 2147483647 by omega) (show (0 : Int) ≤ 2147483647 by omega)
   have : -a * b = -(a * b) := Int.neg_mul a b
   omega
 unfold inR
 omega
theorem dv_bd {a b : Int} (ha : small1 a) (hb : b ≠ 0) : inR (Int.tdiv a b) ∧ inR (Int.tdiv a b - 1) := by
 unfold small1 at ha
 have h1 : (Int.tdiv a b).natAbs ≤ a.natAbs := by rw [Int.natAbs_tdiv]; exact Nat.div_le_self _ _
 unfold inR
 omega
theorem roundZ {q n vn0 i : Nat} {nm : ByteArray} {ps vs : Int} {op ar D l v : Nat → Int} {rest : Int × Int × Int × Int × Nat × (Nat → Int) × Nat × (Nat → Int) × Nat × (Nat → Int) × (Nat → Int) × Int × Int × Int × Int × Int × Int × Int × Int} {t : T6} {m : Ma} {fu : Int} {vn sk lk : Nat} {vf sf la lb : Nat → Int} {fuel pc sp us ti stt cde t0 t1 t2 t3 t4 t5 : Int} {ln sn : Nat}
 (hv : Vd n vs op ar D l v) (hA : At n vs D l v i m) (hR : Rel0 vn0 fu t m vn sk lk vf sf la lb fuel pc sp us ti stt cde t0 t1 t2 t3 t4 t5 ln sn) (hvn : (vn0 : Int) = vs) (hfu : 0 ≤ fu ∧ fu < 200) (hac : (m.acts.length : Int) ≤ fu) {Q : Step_l0_a → Prop} {P : Step_l0_g → Prop}
 (hN : ∀ m' y', exec (op i) (ar i) (tlmF t) m = (m', false) → RelY vn0 (fu + 1) t m' y' → Q y')
 (hD : ∀ m' z, exec (op i) (ar i) (tlmF t) m = (m', true) → RelZ vn0 m' z → P z) :
 Runs (Step_l0_t0 (Step_c q) (nm, ps, vs, n, op, ar, rest) (vn, sk, lk, vf, sf, la, lb, fuel, pc, sp, us, ti, stt, cde, t0, t1, t2, t3, t4, t5, ln, sn) (fun y => some (.inl y)) (fun z => some (.inr z))) (Sum.elim Q P) := by
 obtain ⟨mpc, msp, mus, mti, mvf, stk, lps, mst, mcd, acts⟩ := m
 obtain ⟨⟨e1, e2, e3, e4, e5, e6, rs, hsn, rp, hln, e7, e8⟩, hact, e9, e10⟩ := hR
 simp only at e1 e2 e3 e4 e5 e6 e7 e8 hact rs rp hac
 subst hact
 subst e1 e2 e3 e4 e5 e6 e7 e8 e9 e10
 obtain ⟨a1, hi, a2, hc, a3, a4, a5, a6, a7, a8, hva, hnu⟩ := hA
 simp only at a1 a2 hc a3 a4 a5 a6 a7 a8 hva hnu
 subst a1 a5 a6 a7 a8
 have hD16 := (hv.dep.pos i hi).2
 have hsk : sk ≤ 16 := by have := rs.len; omega
 have hlk : lk ≤ 300 := by
  have := chain_len hv.ok.lv lps (l i) (hv.ok.lv.lt (Nat.le_of_lt hi)).1 (by have := (hv.ok.lv.lt (Nat.le_of_lt hi)).2; omega) hc
  have := rp.len
  have := (hv.ok.lv.lt (Nat.le_of_lt hi)).2
  have := hv.ok.n3
  omega
 have hn3 := hv.ok.n3
 have hoo := hv.oo i hi
 have hb : Cv.leftB (op i) (D i) := hv.dep.ok i hi
 have hrg : Cv.rngL (op i) i ≤ ar i ∧ ar i ≤ Cv.rngH (op i) i n vs := hv.rg i hi
 have wi : w ((i : Int) + 1) = (i : Int) + 1 := w_in (by unfold inR; omega)
 have wf : w (fuel + 1) = fuel + 1 := w_in (by unfold inR; omega)
 unfold Step_l0_t0 uy0
 refine Runs.if_pos (by simp only [decide_eq_true_eq]; omega) (Runs.if_pos (show (0 : Int) ≤ (i : Int) ∧ (i : Int) < ((n : Nat) : Int) by omega) ?_)
 refine Runs.ite (fun ho => ?_) fun no1 => ?_
 ·replace ho : op i = 1 := ho
  unfold Step_c
  dsimp only
  unfold pushZ t_pushZ
  dsimp only [uz0, ux2, uz3, ux5, uz7, uz11, ux16, ux18, ux21, ux23]
  simp only [Int.toNat_natCast, Nat.zero_add, Nat.sub_zero, and_true, true_and]
  by_cases hbig : big (ar i)
  ·exact Runs.big2 hbig (Runs.bsome (Runs.some (hD (⟨(i : Int), 0, -1, -1, mvf, [], [], 2, 1002, []⟩ : Ma) _ (by simp [exec, ho, Ma.push, Ma.go, Ma.fin, Ma.emit, isBin, bin, hbig]) (.fin0 ⟨rfl, rfl, rfl, rfl, rfl, rfl, rfl, Nat.le_refl _, rfl, Nat.le_refl _, rfl, rfl⟩ rfl))))
  ·exact Runs.small2 hbig (Runs.bpos (by unfold roomBound maxLen; omega) (Runs.bsome (Runs.some (hN (⟨(i : Int) + 1, 0, -1, mti, mvf, (ar i) :: stk, lps, 0, 0, []⟩ : Ma) _ (by simp [exec, ho, Ma.push, Ma.go, Ma.fin, Ma.emit, isBin, bin, hbig]) ⟨⟨wi.symm, rfl, rfl, rfl, rfl, rfl, rs.push, Nat.le_refl _, rp, hln, rfl, rfl⟩, rfl, wf, rfl⟩))))
 refine Runs.ite (fun ho => ?_) fun no2 => ?_
 ·replace ho : op i = 2 := ho
  unfold Step_c
  dsimp only
  unfold loadZ t_loadZ
  dsimp only [uz0, ux2, uz3, ux5, uz7, uz11, ux16, ux18, ux21, ux23]
  simp only [Int.toNat_natCast, Nat.zero_add, Nat.sub_zero, and_true, true_and]
  rw [ho] at hrg
  have hrg : 0 ≤ ar i ∧ ar i ≤ vs - 1 := by simpa [Cv.rngL, Cv.rngH] using hrg
  refine Runs.bpos (by first | omega | trivial) (Runs.bpos (by first | omega | trivial) ?_)
  by_cases hbig : big (mvf (ar i).toNat)
  ·exact Runs.big2 hbig (Runs.bsome (Runs.some (hD (⟨(i : Int), 0, -1, -1, mvf, [], [], 2, 1002, []⟩ : Ma) _ (by simp [exec, ho, Ma.push, Ma.go, Ma.fin, Ma.emit, isBin, bin, hbig]) (.fin0 ⟨rfl, rfl, rfl, rfl, rfl, rfl, rfl, Nat.le_refl _, rfl, Nat.le_refl _, rfl, rfl⟩ rfl))))
  ·exact Runs.small2 hbig (Runs.bpos (by unfold roomBound maxLen; omega) (Runs.bsome (Runs.some (hN (⟨(i : Int) + 1, 0, -1, mti, mvf, (mvf (ar i).toNat) :: stk, lps, 0, 0, []⟩ : Ma) _ (by simp [exec, ho, Ma.push, Ma.go, Ma.fin, Ma.emit, isBin, bin, hbig]) ⟨⟨wi.symm, rfl, rfl, rfl, rfl, rfl, rs.push, Nat.le_refl _, rp, hln, rfl, rfl⟩, rfl, wf, rfl⟩))))
 refine Runs.ite (fun ho => ?_) fun no3 => ?_
 ·replace ho : op i = 3 := ho
  unfold Step_c
  dsimp only
  unfold storeZ t_storeZ
  dsimp only [uz0, ux2, uz3, ux5, uz7, uz11, ux16, ux18, ux21, ux23]
  have hd1 : 1 ≤ D i := by rw [ho] at hb; simp [Cv.leftB] at hb; omega
  obtain ⟨a, r, rfl⟩ := one_of (l := stk) (by omega)
  obtain ⟨k, rfl, ha, rs⟩ := rs.pop
  have w1 := wsub (k := k) (by omega)
  simp only [Int.toNat_natCast, Nat.zero_add, Nat.sub_zero, and_true, true_and, w1, ha]
  rw [ho] at hrg
  have hrg : 0 ≤ ar i ∧ ar i ≤ vs - 1 := by simpa [Cv.rngL, Cv.rngH] using hrg
  iterate 6 refine Runs.bpos (by first | omega | trivial) ?_
  refine Runs.bsome ?_
  exact Runs.some (hN (⟨(i : Int) + 1, 0, -1, mti, Cv.upd mvf (ar i).toNat a, r, lps, 0, 0, []⟩ : Ma) _ (by simp [exec, ho, Ma.push, Ma.go, Ma.fin, Ma.emit, isBin, bin]) ⟨⟨wi.symm, rfl, rfl, rfl, rfl, by funext j; simp [Cv.upd], rs, by first | omega | (dsimp only; omega), rp, hln, rfl, rfl⟩, rfl, wf, rfl⟩)
 refine Runs.ite (fun ho => ?_) fun no4 => ?_
 ·replace ho : op i = 4 := ho
  unfold Step_c
  dsimp only
  unfold seeZ t_seeZ
  dsimp only [uz0, ux2, uz3, ux5, uz7, uz11, ux16, ux18, ux21, ux23]
  rw [ho] at hrg
  have hrg : 0 ≤ ar i ∧ ar i ≤ 5 := by simpa [Cv.rngL, Cv.rngH] using hrg
  refine Runs.bite (fun hj => ?_) fun nj0 => ?_
  ·replace hj : ar i = 0 := hj
   have htl : tlmF (t0, t1, t2, t3, t4, t5) (ar i).toNat = t0 := by rw [hj]; rfl
   clear hj
   by_cases hbig : big (t0)
   ·exact Runs.big2 hbig (Runs.bsome (Runs.some (hD (⟨(i : Int), 0, -1, -1, mvf, [], [], 2, 1002, []⟩ : Ma) _ (by simp [exec, ho, Ma.push, Ma.go, Ma.fin, Ma.emit, isBin, bin, hbig, htl]) (.fin0 ⟨rfl, rfl, rfl, rfl, rfl, rfl, rfl, Nat.le_refl _, rfl, Nat.le_refl _, rfl, rfl⟩ rfl))))
   ·exact Runs.small2 hbig (Runs.bpos (by unfold roomBound maxLen; omega) (Runs.bsome (Runs.some (hN (⟨(i : Int) + 1, 0, -1, mti, mvf, (t0) :: stk, lps, 0, 0, []⟩ : Ma) _ (by simp [exec, ho, Ma.push, Ma.go, Ma.fin, Ma.emit, isBin, bin, hbig, htl]) ⟨⟨wi.symm, rfl, rfl, rfl, rfl, rfl, rs.push, Nat.le_refl _, rp, hln, rfl, rfl⟩, rfl, wf, rfl⟩))))
  refine Runs.bite (fun hj => ?_) fun nj1 => ?_
  ·replace hj : ar i = 1 := hj
   have htl : tlmF (t0, t1, t2, t3, t4, t5) (ar i).toNat = t1 := by rw [hj]; rfl
   clear hj
   by_cases hbig : big (t1)
   ·exact Runs.big2 hbig (Runs.bsome (Runs.some (hD (⟨(i : Int), 0, -1, -1, mvf, [], [], 2, 1002, []⟩ : Ma) _ (by simp [exec, ho, Ma.push, Ma.go, Ma.fin, Ma.emit, isBin, bin, hbig, htl]) (.fin0 ⟨rfl, rfl, rfl, rfl, rfl, rfl, rfl, Nat.le_refl _, rfl, Nat.le_refl _, rfl, rfl⟩ rfl))))
   ·exact Runs.small2 hbig (Runs.bpos (by unfold roomBound maxLen; omega) (Runs.bsome (Runs.some (hN (⟨(i : Int) + 1, 0, -1, mti, mvf, (t1) :: stk, lps, 0, 0, []⟩ : Ma) _ (by simp [exec, ho, Ma.push, Ma.go, Ma.fin, Ma.emit, isBin, bin, hbig, htl]) ⟨⟨wi.symm, rfl, rfl, rfl, rfl, rfl, rs.push, Nat.le_refl _, rp, hln, rfl, rfl⟩, rfl, wf, rfl⟩))))
  refine Runs.bite (fun hj => ?_) fun nj2 => ?_
  ·replace hj : ar i = 2 := hj
   have htl : tlmF (t0, t1, t2, t3, t4, t5) (ar i).toNat = t2 := by rw [hj]; rfl
   clear hj
   by_cases hbig : big (t2)
   ·exact Runs.big2 hbig (Runs.bsome (Runs.some (hD (⟨(i : Int), 0, -1, -1, mvf, [], [], 2, 1002, []⟩ : Ma) _ (by simp [exec, ho, Ma.push, Ma.go, Ma.fin, Ma.emit, isBin, bin, hbig, htl]) (.fin0 ⟨rfl, rfl, rfl, rfl, rfl, rfl, rfl, Nat.le_refl _, rfl, Nat.le_refl _, rfl, rfl⟩ rfl))))
   ·exact Runs.small2 hbig (Runs.bpos (by unfold roomBound maxLen; omega) (Runs.bsome (Runs.some (hN (⟨(i : Int) + 1, 0, -1, mti, mvf, (t2) :: stk, lps, 0, 0, []⟩ : Ma) _ (by simp [exec, ho, Ma.push, Ma.go, Ma.fin, Ma.emit, isBin, bin, hbig, htl]) ⟨⟨wi.symm, rfl, rfl, rfl, rfl, rfl, rs.push, Nat.le_refl _, rp, hln, rfl, rfl⟩, rfl, wf, rfl⟩))))
  refine Runs.bite (fun hj => ?_) fun nj3 => ?_
  ·replace hj : ar i = 3 := hj
   have htl : tlmF (t0, t1, t2, t3, t4, t5) (ar i).toNat = t3 := by rw [hj]; rfl
   clear hj
   by_cases hbig : big (t3)
   ·exact Runs.big2 hbig (Runs.bsome (Runs.some (hD (⟨(i : Int), 0, -1, -1, mvf, [], [], 2, 1002, []⟩ : Ma) _ (by simp [exec, ho, Ma.push, Ma.go, Ma.fin, Ma.emit, isBin, bin, hbig, htl]) (.fin0 ⟨rfl, rfl, rfl, rfl, rfl, rfl, rfl, Nat.le_refl _, rfl, Nat.le_refl _, rfl, rfl⟩ rfl))))
   ·exact Runs.small2 hbig (Runs.bpos (by unfold roomBound maxLen; omega) (Runs.bsome (Runs.some (hN (⟨(i : Int) + 1, 0, -1, mti, mvf, (t3) :: stk, lps, 0, 0, []⟩ : Ma) _ (by simp [exec, ho, Ma.push, Ma.go, Ma.fin, Ma.emit, isBin, bin, hbig, htl]) ⟨⟨wi.symm, rfl, rfl, rfl, rfl, rfl, rs.push, Nat.le_refl _, rp, hln, rfl, rfl⟩, rfl, wf, rfl⟩))))
  refine Runs.bite (fun hj => ?_) fun nj4 => ?_
  ·replace hj : ar i = 4 := hj
   have htl : tlmF (t0, t1, t2, t3, t4, t5) (ar i).toNat = t4 := by rw [hj]; rfl
   clear hj
   by_cases hbig : big (t4)
   ·exact Runs.big2 hbig (Runs.bsome (Runs.some (hD (⟨(i : Int), 0, -1, -1, mvf, [], [], 2, 1002, []⟩ : Ma) _ (by simp [exec, ho, Ma.push, Ma.go, Ma.fin, Ma.emit, isBin, bin, hbig, htl]) (.fin0 ⟨rfl, rfl, rfl, rfl, rfl, rfl, rfl, Nat.le_refl _, rfl, Nat.le_refl _, rfl, rfl⟩ rfl))))
   ·exact Runs.small2 hbig (Runs.bpos (by unfold roomBound maxLen; omega) (Runs.bsome (Runs.some (hN (⟨(i : Int) + 1, 0, -1, mti, mvf, (t4) :: stk, lps, 0, 0, []⟩ : Ma) _ (by simp [exec, ho, Ma.push, Ma.go, Ma.fin, Ma.emit, isBin, bin, hbig, htl]) ⟨⟨wi.symm, rfl, rfl, rfl, rfl, rfl, rs.push, Nat.le_refl _, rp, hln, rfl, rfl⟩, rfl, wf, rfl⟩))))
  refine Runs.bite (fun hj => ?_) fun nj5 => ?_
  ·replace hj : ar i = 5 := hj
   have htl : tlmF (t0, t1, t2, t3, t4, t5) (ar i).toNat = t5 := by rw [hj]; rfl
   clear hj
   by_cases hbig : big (t5)
   ·exact Runs.big2 hbig (Runs.bsome (Runs.some (hD (⟨(i : Int), 0, -1, -1, mvf, [], [], 2, 1002, []⟩ : Ma) _ (by simp [exec, ho, Ma.push, Ma.go, Ma.fin, Ma.emit, isBin, bin, hbig, htl]) (.fin0 ⟨rfl, rfl, rfl, rfl, rfl, rfl, rfl, Nat.le_refl _, rfl, Nat.le_refl _, rfl, rfl⟩ rfl))))
   ·exact Runs.small2 hbig (Runs.bpos (by unfold roomBound maxLen; omega) (Runs.bsome (Runs.some (hN (⟨(i : Int) + 1, 0, -1, mti, mvf, (t5) :: stk, lps, 0, 0, []⟩ : Ma) _ (by simp [exec, ho, Ma.push, Ma.go, Ma.fin, Ma.emit, isBin, bin, hbig, htl]) ⟨⟨wi.symm, rfl, rfl, rfl, rfl, rfl, rs.push, Nat.le_refl _, rp, hln, rfl, rfl⟩, rfl, wf, rfl⟩))))
  exfalso
  replace nj0 : ¬ ar i = 0 := nj0
  replace nj1 : ¬ ar i = 1 := nj1
  replace nj2 : ¬ ar i = 2 := nj2
  replace nj3 : ¬ ar i = 3 := nj3
  replace nj4 : ¬ ar i = 4 := nj4
  replace nj5 : ¬ ar i = 5 := nj5
  omega
 refine Runs.ite (fun ho => ?_) fun no5 => ?_
 ·replace ho : op i = 5 := ho
  unfold Step_c
  dsimp only
  unfold addZ t_addZ
  dsimp only [uz0, ux2, uz3, ux5, uz7, uz11, ux16, ux18, ux21, ux23]
  have hd2 : 2 ≤ D i := by rw [ho] at hb; simpa [Cv.leftB] using hb
  obtain ⟨a, r, rfl⟩ := one_of (l := stk) (by omega)
  obtain ⟨b, r, rfl⟩ := one_of (l := r) (by simp at a2; omega)
  obtain ⟨k, rfl, ha, rs⟩ := rs.pop
  obtain ⟨k, rfl, hbb, rs⟩ := rs.pop
  have w1 := wsub (k := k + 1) (by omega)
  have w2 := wsub (k := k) (by omega)
  have sa := hnu a (by simp)
  have sb := hnu b (by simp)
  have wv : w (b + a) = b + a := w_in (by unfold small1 at sa sb; unfold inR; omega)
  simp only [Int.toNat_natCast, Nat.zero_add, Nat.sub_zero, and_true, true_and, w1, w2, ha, hbb, wv]
  iterate 5 refine Runs.bpos (by first | omega | trivial) ?_
  refine Runs.bpos (by first | omega | trivial) ?_
  by_cases hbig : big (b + a)
  ·exact Runs.big2 hbig (Runs.bsome (Runs.some (hD (⟨(i : Int), 0, -1, -1, mvf, [], [], 2, 1002, []⟩ : Ma) _ (by simp [exec, ho, Ma.push, Ma.go, Ma.fin, Ma.emit, isBin, bin, hbig]) (.fin0 ⟨rfl, rfl, rfl, rfl, rfl, rfl, rfl, Nat.le_refl _, rfl, Nat.le_refl _, rfl, rfl⟩ rfl))))
  ·exact Runs.small2 hbig (Runs.bpos (by unfold roomBound maxLen; omega) (Runs.bsome (Runs.some (hN (⟨(i : Int) + 1, 0, -1, mti, mvf, (b + a) :: r, lps, 0, 0, []⟩ : Ma) _ (by simp [exec, ho, Ma.push, Ma.go, Ma.fin, Ma.emit, isBin, bin, hbig]) ⟨⟨wi.symm, rfl, rfl, rfl, rfl, rfl, rs.push, Nat.le_refl _, rp, hln, rfl, rfl⟩, rfl, wf, rfl⟩))))
 refine Runs.ite (fun ho => ?_) fun no6 => ?_
 ·replace ho : op i = 6 := ho
  unfold Step_c
  dsimp only
  unfold subZ t_subZ
  dsimp only [uz0, ux2, uz3, ux5, uz7, uz11, ux16, ux18, ux21, ux23]
  have hd2 : 2 ≤ D i := by rw [ho] at hb; simpa [Cv.leftB] using hb
  obtain ⟨a, r, rfl⟩ := one_of (l := stk) (by omega)
  obtain ⟨b, r, rfl⟩ := one_of (l := r) (by simp at a2; omega)
  obtain ⟨k, rfl, ha, rs⟩ := rs.pop
  obtain ⟨k, rfl, hbb, rs⟩ := rs.pop
  have w1 := wsub (k := k + 1) (by omega)
  have w2 := wsub (k := k) (by omega)
  have sa := hnu a (by simp)
  have sb := hnu b (by simp)
  have wv : w (b - a) = b - a := w_in (by unfold small1 at sa sb; unfold inR; omega)
  simp only [Int.toNat_natCast, Nat.zero_add, Nat.sub_zero, and_true, true_and, w1, w2, ha, hbb, wv]
  iterate 5 refine Runs.bpos (by first | omega | trivial) ?_
  refine Runs.bpos (by first | omega | trivial) ?_
  by_cases hbig : big (b - a)
  ·exact Runs.big2 hbig (Runs.bsome (Runs.some (hD (⟨(i : Int), 0, -1, -1, mvf, [], [], 2, 1002, []⟩ : Ma) _ (by simp [exec, ho, Ma.push, Ma.go, Ma.fin, Ma.emit, isBin, bin, hbig]) (.fin0 ⟨rfl, rfl, rfl, rfl, rfl, rfl, rfl, Nat.le_refl _, rfl, Nat.le_refl _, rfl, rfl⟩ rfl))))
  ·exact Runs.small2 hbig (Runs.bpos (by unfold roomBound maxLen; omega) (Runs.bsome (Runs.some (hN (⟨(i : Int) + 1, 0, -1, mti, mvf, (b - a) :: r, lps, 0, 0, []⟩ : Ma) _ (by simp [exec, ho, Ma.push, Ma.go, Ma.fin, Ma.emit, isBin, bin, hbig]) ⟨⟨wi.symm, rfl, rfl, rfl, rfl, rfl, rs.push, Nat.le_refl _, rp, hln, rfl, rfl⟩, rfl, wf, rfl⟩))))
 refine Runs.ite (fun ho => ?_) fun no7 => ?_
 ·replace ho : op i = 7 := ho
  unfold Step_c
  dsimp only
  unfold mulZ t_mulZ
  dsimp only [uz0, ux2, uz3, ux5, uz7, uz11, ux16, ux18, ux21, ux23]
  have hd2 : 2 ≤ D i := by rw [ho] at hb; simpa [Cv.leftB] using hb
  obtain ⟨a, r, rfl⟩ := one_of (l := stk) (by omega)
  obtain ⟨b, r, rfl⟩ := one_of (l := r) (by simp at a2; omega)
  obtain ⟨k, rfl, ha, rs⟩ := rs.pop
  obtain ⟨k, rfl, hbb, rs⟩ := rs.pop
  have w1 := wsub (k := k + 1) (by omega)
  have w2 := wsub (k := k) (by omega)
  have sa := hnu a (by simp)
  have sb := hnu b (by simp)
  have wv : w (b * a) = b * a := w_in (mul_bd sb sa)
  simp only [Int.toNat_natCast, Nat.zero_add, Nat.sub_zero, and_true, true_and, w1, w2, ha, hbb, wv]
  iterate 5 refine Runs.bpos (by first | omega | trivial) ?_
  refine Runs.bpos (by first | omega | trivial) ?_
  by_cases hbig : big (b * a)
  ·exact Runs.big2 hbig (Runs.bsome (Runs.some (hD (⟨(i : Int), 0, -1, -1, mvf, [], [], 2, 1002, []⟩ : Ma) _ (by simp [exec, ho, Ma.push, Ma.go, Ma.fin, Ma.emit, isBin, bin, hbig]) (.fin0 ⟨rfl, rfl, rfl, rfl, rfl, rfl, rfl, Nat.le_refl _, rfl, Nat.le_refl _, rfl, rfl⟩ rfl))))
  ·exact Runs.small2 hbig (Runs.bpos (by unfold roomBound maxLen; omega) (Runs.bsome (Runs.some (hN (⟨(i : Int) + 1, 0, -1, mti, mvf, (b * a) :: r, lps, 0, 0, []⟩ : Ma) _ (by simp [exec, ho, Ma.push, Ma.go, Ma.fin, Ma.emit, isBin, bin, hbig]) ⟨⟨wi.symm, rfl, rfl, rfl, rfl, rfl, rs.push, Nat.le_refl _, rp, hln, rfl, rfl⟩, rfl, wf, rfl⟩))))
 refine Runs.ite (fun ho => ?_) fun no8 => ?_
 ·replace ho : op i = 8 := ho
  unfold Step_c
  dsimp only
  unfold divZ t_divZ
  dsimp only [uz0, ux2, uz3, ux5, uz7, uz11, ux16, ux18, ux21, ux23]
  have hd2 : 2 ≤ D i := by rw [ho] at hb; simpa [Cv.leftB] using hb
  obtain ⟨a, r, rfl⟩ := one_of (l := stk) (by omega)
  obtain ⟨b, r, rfl⟩ := one_of (l := r) (by simp at a2; omega)
  obtain ⟨k, rfl, ha, rs⟩ := rs.pop
  obtain ⟨k, rfl, hbb, rs⟩ := rs.pop
  have w1 := wsub (k := k + 1) (by omega)
  have w2 := wsub (k := k) (by omega)
  have sa := hnu a (by simp)
  have sb := hnu b (by simp)
  simp only [Int.toNat_natCast, Nat.zero_add, Nat.sub_zero, and_true, true_and, w1, w2, ha, hbb]
  iterate 2 refine Runs.bpos (by first | omega | trivial) ?_
  refine Runs.bite (fun h0 => Runs.bsome (Runs.some (hD (⟨(i : Int), 0, -1, -1, mvf, [], [], 2, 1002, []⟩ : Ma) _ (by simp [exec, ho, Ma.fin, isBin, (show a = 0 by simpa using h0)]) (.fin0 ⟨rfl, rfl, rfl, rfl, rfl, rfl, rfl, Nat.le_refl _, rfl, Nat.le_refl _, rfl, rfl⟩ rfl)))) fun h0 => ?_
  have h0 : ¬ a = 0 := by simpa using h0
  have wd := dv_bd sb h0
  have wd1 : w (Int.tdiv b a) = Int.tdiv b a := w_in wd.1
  have wd2 : w (Int.tdiv b a - 1) = Int.tdiv b a - 1 := w_in wd.2
  simp only [wd1, wd2]
  iterate 6 refine Runs.bpos (by first | omega | trivial) ?_
  refine Runs.bneg h0 (Runs.bneg h0 (Runs.bite (fun h1 => ?_) fun h1 => ?_))
  ·have h1 : Int.tmod b a ≠ 0 := by simpa using h1
   refine Runs.bite (fun h2 => ?_) fun h2 => ?_
   ·have h2 : decide (b < 0) ≠ decide (a < 0) := by intro e; rw [e] at h2; revert h2; cases decide (a < 0) <;> decide
    have hdv : dv b a = Int.tdiv b a - 1 := by unfold dv; exact if_pos ⟨h1, h2⟩
    by_cases hbig : big (Int.tdiv b a - 1)
    ·exact Runs.big2 hbig (Runs.bsome (Runs.some (hD (⟨(i : Int), 0, -1, -1, mvf, [], [], 2, 1002, []⟩ : Ma) _ (by simp [exec, ho, Ma.push, Ma.go, Ma.fin, Ma.emit, isBin, bin, hdv, h0, hbig]) (.fin0 ⟨rfl, rfl, rfl, rfl, rfl, rfl, rfl, Nat.le_refl _, rfl, Nat.le_refl _, rfl, rfl⟩ rfl))))
    ·exact Runs.small2 hbig (Runs.bpos (by unfold roomBound maxLen; omega) (Runs.bsome (Runs.some (hN (⟨(i : Int) + 1, 0, -1, mti, mvf, (Int.tdiv b a - 1) :: r, lps, 0, 0, []⟩ : Ma) _ (by simp [exec, ho, Ma.push, Ma.go, Ma.fin, Ma.emit, isBin, bin, hdv, h0, hbig]) ⟨⟨wi.symm, rfl, rfl, rfl, rfl, rfl, rs.push, Nat.le_refl _, rp, hln, rfl, rfl⟩, rfl, wf, rfl⟩))))
   ·have h2 : ¬ decide (b < 0) ≠ decide (a < 0) := by intro e; apply h2; revert e; cases decide (a < 0) <;> cases decide (b < 0) <;> decide
    have hdv : dv b a = Int.tdiv b a := by unfold dv; exact if_neg (fun h => h2 h.2)
    by_cases hbig : big (Int.tdiv b a)
    ·exact Runs.big2 hbig (Runs.bsome (Runs.some (hD (⟨(i : Int), 0, -1, -1, mvf, [], [], 2, 1002, []⟩ : Ma) _ (by simp [exec, ho, Ma.push, Ma.go, Ma.fin, Ma.emit, isBin, bin, hdv, h0, hbig]) (.fin0 ⟨rfl, rfl, rfl, rfl, rfl, rfl, rfl, Nat.le_refl _, rfl, Nat.le_refl _, rfl, rfl⟩ rfl))))
    ·exact Runs.small2 hbig (Runs.bpos (by unfold roomBound maxLen; omega) (Runs.bsome (Runs.some (hN (⟨(i : Int) + 1, 0, -1, mti, mvf, (Int.tdiv b a) :: r, lps, 0, 0, []⟩ : Ma) _ (by simp [exec, ho, Ma.push, Ma.go, Ma.fin, Ma.emit, isBin, bin, hdv, h0, hbig]) ⟨⟨wi.symm, rfl, rfl, rfl, rfl, rfl, rs.push, Nat.le_refl _, rp, hln, rfl, rfl⟩, rfl, wf, rfl⟩))))
  ·have h1 : ¬ Int.tmod b a ≠ 0 := by simpa using h1
   have hdv : dv b a = Int.tdiv b a := by unfold dv; exact if_neg (fun h => h1 h.1)
   by_cases hbig : big (Int.tdiv b a)
   ·exact Runs.big2 hbig (Runs.bsome (Runs.some (hD (⟨(i : Int), 0, -1, -1, mvf, [], [], 2, 1002, []⟩ : Ma) _ (by simp [exec, ho, Ma.push, Ma.go, Ma.fin, Ma.emit, isBin, bin, hdv, h0, hbig]) (.fin0 ⟨rfl, rfl, rfl, rfl, rfl, rfl, rfl, Nat.le_refl _, rfl, Nat.le_refl _, rfl, rfl⟩ rfl))))
   ·exact Runs.small2 hbig (Runs.bpos (by unfold roomBound maxLen; omega) (Runs.bsome (Runs.some (hN (⟨(i : Int) + 1, 0, -1, mti, mvf, (Int.tdiv b a) :: r, lps, 0, 0, []⟩ : Ma) _ (by simp [exec, ho, Ma.push, Ma.go, Ma.fin, Ma.emit, isBin, bin, hdv, h0, hbig]) ⟨⟨wi.symm, rfl, rfl, rfl, rfl, rfl, rs.push, Nat.le_refl _, rp, hln, rfl, rfl⟩, rfl, wf, rfl⟩))))
 refine Runs.ite (fun ho => ?_) fun no9 => ?_
 ·replace ho : op i = 9 := ho
  unfold Step_c
  dsimp only
  unfold negZ t_negZ
  dsimp only [uz0, ux2, uz3, ux5, uz7, uz11, ux16, ux18, ux21, ux23]
  have hd1 : 1 ≤ D i := by rw [ho] at hb; simp [Cv.leftB] at hb; omega
  obtain ⟨a, r, rfl⟩ := one_of (l := stk) (by omega)
  obtain ⟨k, rfl, ha, rs⟩ := rs.pop
  have w1 := wsub (k := k) (by omega)
  have sa := hnu a (by simp)
  have wv : w (0 - a) = -a := by rw [w_in (by unfold small1 at sa; unfold inR; omega)]; omega
  simp only [Int.toNat_natCast, Nat.zero_add, Nat.sub_zero, and_true, true_and, w1, ha, wv]
  iterate 3 refine Runs.bpos (by first | omega | trivial) ?_
  by_cases hbig : big (-a)
  ·exact Runs.big2 hbig (Runs.bsome (Runs.some (hD (⟨(i : Int), 0, -1, -1, mvf, [], [], 2, 1002, []⟩ : Ma) _ (by simp [exec, ho, Ma.push, Ma.go, Ma.fin, Ma.emit, isBin, bin, hbig]) (.fin0 ⟨rfl, rfl, rfl, rfl, rfl, rfl, rfl, Nat.le_refl _, rfl, Nat.le_refl _, rfl, rfl⟩ rfl))))
  ·exact Runs.small2 hbig (Runs.bpos (by unfold roomBound maxLen; omega) (Runs.bsome (Runs.some (hN (⟨(i : Int) + 1, 0, -1, mti, mvf, (-a) :: r, lps, 0, 0, []⟩ : Ma) _ (by simp [exec, ho, Ma.push, Ma.go, Ma.fin, Ma.emit, isBin, bin, hbig]) ⟨⟨wi.symm, rfl, rfl, rfl, rfl, rfl, rs.push, Nat.le_refl _, rp, hln, rfl, rfl⟩, rfl, wf, rfl⟩))))
 refine Runs.ite (fun ho => ?_) fun no10 => ?_
 ·replace ho : op i = 10 := ho
  unfold Step_c
  dsimp only
  unfold lessZ t_lessZ
  dsimp only [uz0, ux2, uz3, ux5, uz7, uz11, ux16, ux18, ux21, ux23]
  have hd2 : 2 ≤ D i := by rw [ho] at hb; simpa [Cv.leftB] using hb
  obtain ⟨a, r, rfl⟩ := one_of (l := stk) (by omega)
  obtain ⟨b, r, rfl⟩ := one_of (l := r) (by simp at a2; omega)
  obtain ⟨k, rfl, ha, rs⟩ := rs.pop
  obtain ⟨k, rfl, hbb, rs⟩ := rs.pop
  have w1 := wsub (k := k + 1) (by omega)
  have w2 := wsub (k := k) (by omega)
  have sa := hnu a (by simp)
  have sb := hnu b (by simp)
  simp only [Int.toNat_natCast, Nat.zero_add, Nat.sub_zero, and_true, true_and, w1, w2, ha, hbb]
  iterate 6 refine Runs.bpos (by first | omega | trivial) ?_
  refine Runs.bite (fun h => ?_) fun h => ?_
  ·have h : b < a := by simpa using h
   exact Runs.bpos (by unfold roomBound maxLen; omega) (Runs.bsome (Runs.some (hN (⟨(i : Int) + 1, 0, -1, mti, mvf, 1 :: r, lps, 0, 0, []⟩ : Ma) _ (by simp [exec, ho, Ma.push, isBin, bin, tr, big, h]) ⟨⟨wi.symm, rfl, rfl, rfl, rfl, rfl, rs.push, Nat.le_refl _, rp, hln, rfl, rfl⟩, rfl, wf, rfl⟩)))
  ·have h : ¬ b < a := by simpa using h
   exact Runs.bpos (by unfold roomBound maxLen; omega) (Runs.bsome (Runs.some (hN (⟨(i : Int) + 1, 0, -1, mti, mvf, 0 :: r, lps, 0, 0, []⟩ : Ma) _ (by simp [exec, ho, Ma.push, isBin, bin, tr, big, h]) ⟨⟨wi.symm, rfl, rfl, rfl, rfl, rfl, rs.push, Nat.le_refl _, rp, hln, rfl, rfl⟩, rfl, wf, rfl⟩)))
 refine Runs.ite (fun ho => ?_) fun no11 => ?_
 ·replace ho : op i = 11 := ho
  unfold Step_c
  dsimp only
  unfold atMostZ t_atMostZ
  dsimp only [uz0, ux2, uz3, ux5, uz7, uz11, ux16, ux18, ux21, ux23]
  have hd2 : 2 ≤ D i := by rw [ho] at hb; simpa [Cv.leftB] using hb
  obtain ⟨a, r, rfl⟩ := one_of (l := stk) (by omega)
  obtain ⟨b, r, rfl⟩ := one_of (l := r) (by simp at a2; omega)
  obtain ⟨k, rfl, ha, rs⟩ := rs.pop
  obtain ⟨k, rfl, hbb, rs⟩ := rs.pop
  have w1 := wsub (k := k + 1) (by omega)
  have w2 := wsub (k := k) (by omega)
  have sa := hnu a (by simp)
  have sb := hnu b (by simp)
  simp only [Int.toNat_natCast, Nat.zero_add, Nat.sub_zero, and_true, true_and, w1, w2, ha, hbb]
  iterate 6 refine Runs.bpos (by first | omega | trivial) ?_
  refine Runs.bite (fun h => ?_) fun h => ?_
  ·have h : b ≤ a := by simpa using h
   exact Runs.bpos (by unfold roomBound maxLen; omega) (Runs.bsome (Runs.some (hN (⟨(i : Int) + 1, 0, -1, mti, mvf, 1 :: r, lps, 0, 0, []⟩ : Ma) _ (by simp [exec, ho, Ma.push, isBin, bin, tr, big, h]) ⟨⟨wi.symm, rfl, rfl, rfl, rfl, rfl, rs.push, Nat.le_refl _, rp, hln, rfl, rfl⟩, rfl, wf, rfl⟩)))
  ·have h : ¬ b ≤ a := by simpa using h
   exact Runs.bpos (by unfold roomBound maxLen; omega) (Runs.bsome (Runs.some (hN (⟨(i : Int) + 1, 0, -1, mti, mvf, 0 :: r, lps, 0, 0, []⟩ : Ma) _ (by simp [exec, ho, Ma.push, isBin, bin, tr, big, h]) ⟨⟨wi.symm, rfl, rfl, rfl, rfl, rfl, rs.push, Nat.le_refl _, rp, hln, rfl, rfl⟩, rfl, wf, rfl⟩)))
 refine Runs.ite (fun ho => ?_) fun no12 => ?_
 ·replace ho : op i = 12 := ho
  unfold Step_c
  dsimp only
  unfold equalZ t_equalZ
  dsimp only [uz0, ux2, uz3, ux5, uz7, uz11, ux16, ux18, ux21, ux23]
  have hd2 : 2 ≤ D i := by rw [ho] at hb; simpa [Cv.leftB] using hb
  obtain ⟨a, r, rfl⟩ := one_of (l := stk) (by omega)
  obtain ⟨b, r, rfl⟩ := one_of (l := r) (by simp at a2; omega)
  obtain ⟨k, rfl, ha, rs⟩ := rs.pop
  obtain ⟨k, rfl, hbb, rs⟩ := rs.pop
  have w1 := wsub (k := k + 1) (by omega)
  have w2 := wsub (k := k) (by omega)
  have sa := hnu a (by simp)
  have sb := hnu b (by simp)
  simp only [Int.toNat_natCast, Nat.zero_add, Nat.sub_zero, and_true, true_and, w1, w2, ha, hbb]
  iterate 6 refine Runs.bpos (by first | omega | trivial) ?_
  refine Runs.bite (fun h => ?_) fun h => ?_
  ·have h : b = a := by simpa using h
   exact Runs.bpos (by unfold roomBound maxLen; omega) (Runs.bsome (Runs.some (hN (⟨(i : Int) + 1, 0, -1, mti, mvf, 1 :: r, lps, 0, 0, []⟩ : Ma) _ (by simp [exec, ho, Ma.push, isBin, bin, tr, big, h]) ⟨⟨wi.symm, rfl, rfl, rfl, rfl, rfl, rs.push, Nat.le_refl _, rp, hln, rfl, rfl⟩, rfl, wf, rfl⟩)))
  ·have h : ¬ b = a := by simpa using h
   exact Runs.bpos (by unfold roomBound maxLen; omega) (Runs.bsome (Runs.some (hN (⟨(i : Int) + 1, 0, -1, mti, mvf, 0 :: r, lps, 0, 0, []⟩ : Ma) _ (by simp [exec, ho, Ma.push, isBin, bin, tr, big, h]) ⟨⟨wi.symm, rfl, rfl, rfl, rfl, rfl, rs.push, Nat.le_refl _, rp, hln, rfl, rfl⟩, rfl, wf, rfl⟩)))
 refine Runs.ite (fun ho => ?_) fun no13 => ?_
 ·replace ho : op i = 13 := ho
  unfold Step_c
  dsimp only
  unfold notZ t_notZ
  dsimp only [uz0, ux2, uz3, ux5, uz7, uz11, ux16, ux18, ux21, ux23]
  have hd1 : 1 ≤ D i := by rw [ho] at hb; simp [Cv.leftB] at hb; omega
  obtain ⟨a, r, rfl⟩ := one_of (l := stk) (by omega)
  obtain ⟨k, rfl, ha, rs⟩ := rs.pop
  have w1 := wsub (k := k) (by omega)
  simp only [Int.toNat_natCast, Nat.zero_add, Nat.sub_zero, and_true, true_and, w1, ha]
  iterate 3 refine Runs.bpos (by first | omega | trivial) ?_
  refine Runs.bite (fun h => ?_) fun h => ?_
  ·have h : a = 0 := by simpa using h
   exact Runs.bpos (by unfold roomBound maxLen; omega) (Runs.bsome (Runs.some (hN (⟨(i : Int) + 1, 0, -1, mti, mvf, 1 :: r, lps, 0, 0, []⟩ : Ma) _ (by simp [exec, ho, Ma.push, isBin, bin, tr, big, h]) ⟨⟨wi.symm, rfl, rfl, rfl, rfl, rfl, rs.push, Nat.le_refl _, rp, hln, rfl, rfl⟩, rfl, wf, rfl⟩)))
  ·have h : ¬ a = 0 := by simpa using h
   exact Runs.bpos (by unfold roomBound maxLen; omega) (Runs.bsome (Runs.some (hN (⟨(i : Int) + 1, 0, -1, mti, mvf, 0 :: r, lps, 0, 0, []⟩ : Ma) _ (by simp [exec, ho, Ma.push, isBin, bin, tr, big, h]) ⟨⟨wi.symm, rfl, rfl, rfl, rfl, rfl, rs.push, Nat.le_refl _, rp, hln, rfl, rfl⟩, rfl, wf, rfl⟩)))
 refine Runs.ite (fun ho => ?_) fun no14 => ?_
 ·replace ho : op i = 14 := ho
  unfold Step_c
  dsimp only
  unfold jumpZ t_jumpZ
  dsimp only [uz0, ux2, uz3, ux5, uz7, uz11, ux16, ux18, ux21, ux23]
  exact Runs.bsome (Runs.some (hN (⟨ar i, 0, -1, mti, mvf, stk, lps, 0, 0, []⟩ : Ma) _ (by simp [exec, ho, Ma.push, Ma.go, Ma.fin, Ma.emit, isBin, bin]) ⟨⟨rfl, rfl, rfl, rfl, rfl, rfl, rs, hsn, rp, hln, rfl, rfl⟩, rfl, wf, rfl⟩))
 refine Runs.ite (fun ho => ?_) fun no15 => ?_
 ·replace ho : op i = 15 := ho
  unfold Step_c
  dsimp only
  unfold unlessZ t_unlessZ
  dsimp only [uz0, ux2, uz3, ux5, uz7, uz11, ux16, ux18, ux21, ux23]
  have hd1 : 1 ≤ D i := by rw [ho] at hb; simp [Cv.leftB] at hb; omega
  obtain ⟨a, r, rfl⟩ := one_of (l := stk) (by omega)
  obtain ⟨k, rfl, ha, rs⟩ := rs.pop
  have w1 := wsub (k := k) (by omega)
  simp only [Int.toNat_natCast, Nat.zero_add, Nat.sub_zero, and_true, true_and, w1, ha]
  iterate 3 refine Runs.bpos (by first | omega | trivial) ?_
  refine Runs.bite (fun h => ?_) fun h => ?_
  ·have h : a = 0 := by simpa using h
   exact Runs.bsome (Runs.some (hN (⟨ar i, 0, -1, mti, mvf, r, lps, 0, 0, []⟩ : Ma) _ (by simp [exec, ho, Ma.push, Ma.go, Ma.fin, Ma.emit, isBin, bin, h]) ⟨⟨rfl, rfl, rfl, rfl, rfl, rfl, rs, by first | omega | (dsimp only; omega), rp, hln, rfl, rfl⟩, rfl, wf, rfl⟩))
  ·have h : ¬ a = 0 := by simpa using h
   exact Runs.bsome (Runs.some (hN (⟨(i : Int) + 1, 0, -1, mti, mvf, r, lps, 0, 0, []⟩ : Ma) _ (by simp [exec, ho, Ma.push, Ma.go, Ma.fin, Ma.emit, isBin, bin, h]) ⟨⟨wi.symm, rfl, rfl, rfl, rfl, rfl, rs, by first | omega | (dsimp only; omega), rp, hln, rfl, rfl⟩, rfl, wf, rfl⟩))
 refine Runs.ite (fun ho => ?_) fun no16 => ?_
 ·replace ho : op i = 16 := ho
  unfold Step_c
  dsimp only
  unfold repeat_Z t_repeat_Z
  dsimp only [uz0, ux2, uz3, ux5, uz7, uz11, ux16, ux18, ux21, ux23]
  simp only [wi]
  exact Runs.bpos (by unfold roomBound maxLen; omega) (Runs.bsome (Runs.some (hN (⟨(i : Int) + 1, 0, -1, mti, mvf, stk, ((i : Int) + 1, ar i) :: lps, 0, 0, []⟩ : Ma) _ (by simp [exec, ho, Ma.push, Ma.go, Ma.fin, Ma.emit, isBin, bin]) ⟨⟨rfl, rfl, rfl, rfl, rfl, rfl, rs, hsn, rp.push, Nat.le_refl _, rfl, rfl⟩, rfl, wf, rfl⟩)))
 refine Runs.ite (fun ho => ?_) fun no17 => ?_
 ·replace ho : op i = 17 := ho
  unfold Step_c
  dsimp only
  unfold nextZ t_nextZ
  dsimp only [uz0, ux2, uz3, ux5, uz7, uz11, ux16, ux18, ux21, ux23]
  have hlc := (hv.ok.lv.loc i hi).c17 ho
  obtain ⟨⟨p, c⟩, r, rfl⟩ : ∃ q r, lps = q :: r := by
   cases lps with
   | nil => exact absurd hc hlc.1
   | cons q r => exact ⟨q, r, rfl⟩
  obtain ⟨h1, h2, h3, h4, h5⟩ := hc
  obtain ⟨k, rfl, hp1, hc1, rp⟩ := rp.pop
  have w1 := wsub (k := k) (by omega)
  have w2 : w (c - 1) = c - 1 := w_in (by unfold inR; omega)
  simp only [Int.toNat_natCast, Nat.zero_add, Nat.sub_zero, and_true, true_and, w1, hc1, w2, if_true, hp1]
  iterate 6 refine Runs.bpos (by first | omega | trivial) ?_
  refine Runs.bite (fun h => ?_) fun h => ?_
  ·have h : 0 < c - 1 := by simpa using h
   iterate 2 refine Runs.bpos (by first | omega | trivial) ?_
   exact Runs.bsome (Runs.some (hN (⟨p, 0, -1, mti, mvf, stk, (p, c - 1) :: r, 0, 0, []⟩ : Ma) _ (by simp [exec, ho, Ma.push, Ma.go, Ma.fin, Ma.emit, isBin, bin, h, Int.sub_pos.1 h]) ⟨⟨rfl, rfl, rfl, rfl, rfl, rfl, rs, hsn, rp.dec hp1, hln, rfl, rfl⟩, rfl, wf, rfl⟩))
  ·have h : ¬ 0 < c - 1 := by simpa using h
   exact Runs.bpos (by first | omega | trivial) (Runs.bsome (Runs.some (hN (⟨(i : Int) + 1, 0, -1, mti, mvf, stk, r, 0, 0, []⟩ : Ma) _ (by simp [exec, ho, Ma.push, Ma.go, Ma.fin, Ma.emit, isBin, bin, show ¬ (0 < c - 1) from h, show ¬ (1 < c) by omega]) ⟨⟨wi.symm, rfl, rfl, rfl, rfl, rfl, rs, hsn, rp.drop, by first | omega | (dsimp only; omega), rfl, rfl⟩, rfl, wf, rfl⟩)))
 refine Runs.ite (fun ho => ?_) fun no18 => ?_
 ·replace ho : op i = 18 := ho
  unfold Step_c
  dsimp only
  unfold waitZ t_waitZ
  dsimp only [uz0, ux2, uz3, ux5, uz7, uz11, ux16, ux18, ux21, ux23]
  rw [ho] at hrg
  have hrg : 0 ≤ ar i ∧ ar i ≤ 1000000 := by simpa [Cv.rngL, Cv.rngH] using hrg
  refine Runs.bite (fun h => ?_) fun h => ?_
  ·have h : 0 < ar i := by simpa using h
   have ws : w (ar i - 1) = ar i - 1 := w_in (by unfold inR; omega)
   exact Runs.bsome (Runs.some (hD (⟨(i : Int) + 1, ar i - 1, -1, mti, mvf, stk, lps, 0, 0, []⟩ : Ma) _ (by simp [exec, ho, Ma.push, Ma.go, Ma.fin, Ma.emit, isBin, bin, h]) (.rest0 ⟨wi.symm, ws.symm, rfl, rfl, rfl, rfl, rs, hsn, rp, hln, rfl, rfl⟩ rfl)))
  ·have h : ¬ 0 < ar i := by simpa using h
   exact Runs.bsome (Runs.some (hN (⟨(i : Int) + 1, 0, -1, mti, mvf, stk, lps, 0, 0, []⟩ : Ma) _ (by simp [exec, ho, Ma.push, Ma.go, Ma.fin, Ma.emit, isBin, bin, h]) ⟨⟨wi.symm, rfl, rfl, rfl, rfl, rfl, rs, hsn, rp, hln, rfl, rfl⟩, rfl, wf, rfl⟩))
 refine Runs.ite (fun ho => ?_) fun no19 => ?_
 ·replace ho : op i = 19 := ho
  unfold Step_c
  dsimp only
  unfold deadlineZ t_deadlineZ
  dsimp only [uz0, ux2, uz3, ux5, uz7, uz11, ux16, ux18, ux21, ux23]
  exact Runs.bsome (Runs.some (hN (⟨(i : Int) + 1, 0, -1, ar i, mvf, stk, lps, 0, 0, []⟩ : Ma) _ (by simp [exec, ho, Ma.push, Ma.go, Ma.fin, Ma.emit, isBin, bin]) ⟨⟨wi.symm, rfl, rfl, rfl, rfl, rfl, rs, hsn, rp, hln, rfl, rfl⟩, rfl, wf, rfl⟩))
 refine Runs.ite (fun ho => ?_) fun no20 => ?_
 ·replace ho : op i = 20 := ho
  unfold Step_c
  dsimp only
  unfold pollZ t_pollZ
  dsimp only [uz0, ux2, uz3, ux5, uz7, uz11, ux16, ux18, ux21, ux23]
  have hd1 : 1 ≤ D i := by rw [ho] at hb; simp [Cv.leftB] at hb; omega
  obtain ⟨a, r, rfl⟩ := one_of (l := stk) (by omega)
  obtain ⟨k, rfl, ha, rs⟩ := rs.pop
  have w1 := wsub (k := k) (by omega)
  simp only [Int.toNat_natCast, Nat.zero_add, Nat.sub_zero, and_true, true_and, w1, ha]
  iterate 3 refine Runs.bpos (by first | omega | trivial) ?_
  refine Runs.bite (fun h => ?_) fun h => ?_
  ·have h : ¬ a = 0 := by simpa using h
   exact Runs.bsome (Runs.some (hN (⟨(i : Int) + 1, 0, -1, -1, mvf, r, lps, 0, 0, []⟩ : Ma) _ (by simp [exec, ho, Ma.push, Ma.go, Ma.fin, Ma.emit, isBin, bin, h]) ⟨⟨wi.symm, rfl, rfl, rfl, rfl, rfl, rs, by first | omega | (dsimp only; omega), rp, hln, rfl, rfl⟩, rfl, wf, rfl⟩))
  ·have h : a = 0 := by simpa using h
   refine Runs.bite (fun g => ?_) fun g => ?_
   ·have g : mti = 0 := by simpa using g
    exact Runs.bsome (Runs.some (hD (⟨(i : Int), 0, -1, -1, mvf, [], [], 2, 1001, []⟩ : Ma) _ (by simp [exec, ho, Ma.push, Ma.go, Ma.fin, Ma.emit, isBin, bin, h, g]) (.fin0 ⟨rfl, rfl, rfl, rfl, rfl, rfl, rfl, Nat.le_refl _, rfl, Nat.le_refl _, rfl, rfl⟩ rfl)))
   ·have g : ¬ mti = 0 := by simpa using g
    have ws : w (mti - 1) = mti - 1 := w_in (by unfold inR; omega)
    exact Runs.bsome (Runs.some (hD (⟨ar i, 0, -1, mti - 1, mvf, r, lps, 0, 0, []⟩ : Ma) _ (by simp [exec, ho, Ma.push, Ma.go, Ma.fin, Ma.emit, isBin, bin, h, g]) (.rest0 ⟨rfl, rfl, rfl, ws.symm, rfl, rfl, rs, by first | omega | (dsimp only; omega), rp, hln, rfl, rfl⟩ rfl)))
 refine Runs.ite (fun ho => ?_) fun no21 => ?_
 ·replace ho : op i = 21 := ho
  unfold Step_c
  dsimp only
  unfold require_Z t_require_Z
  dsimp only [uz0, ux2, uz3, ux5, uz7, uz11, ux16, ux18, ux21, ux23]
  have hd1 : 1 ≤ D i := by rw [ho] at hb; simp [Cv.leftB] at hb; omega
  obtain ⟨a, r, rfl⟩ := one_of (l := stk) (by omega)
  obtain ⟨k, rfl, ha, rs⟩ := rs.pop
  have w1 := wsub (k := k) (by omega)
  simp only [Int.toNat_natCast, Nat.zero_add, Nat.sub_zero, and_true, true_and, w1, ha]
  iterate 3 refine Runs.bpos (by first | omega | trivial) ?_
  refine Runs.bite (fun h => ?_) fun h => ?_
  ·have h : a = 0 := by simpa using h
   exact Runs.bsome (Runs.some (hD (⟨(i : Int), 0, -1, -1, mvf, [], [], 2, 1000, []⟩ : Ma) _ (by simp [exec, ho, Ma.push, Ma.go, Ma.fin, Ma.emit, isBin, bin, h]) (.fin0 ⟨rfl, rfl, rfl, rfl, rfl, rfl, rfl, Nat.le_refl _, rfl, Nat.le_refl _, rfl, rfl⟩ rfl)))
  ·have h : ¬ a = 0 := by simpa using h
   exact Runs.bsome (Runs.some (hN (⟨(i : Int) + 1, 0, -1, mti, mvf, r, lps, 0, 0, []⟩ : Ma) _ (by simp [exec, ho, Ma.push, Ma.go, Ma.fin, Ma.emit, isBin, bin, h]) ⟨⟨wi.symm, rfl, rfl, rfl, rfl, rfl, rs, by first | omega | (dsimp only; omega), rp, hln, rfl, rfl⟩, rfl, wf, rfl⟩))
 refine Runs.ite (fun ho => ?_) fun no22 => ?_
 ·replace ho : op i = 22 := ho
  unfold Step_c
  dsimp only
  unfold pointZ t_pointZ
  dsimp only [uz0, ux2, uz3, ux5, uz7, uz11, ux16, ux18, ux21, ux23]
  have hd1 : 1 ≤ D i := by rw [ho] at hb; simp [Cv.leftB] at hb; omega
  obtain ⟨a, r, rfl⟩ := one_of (l := stk) (by omega)
  obtain ⟨k, rfl, ha, rs⟩ := rs.pop
  have w1 := wsub (k := k) (by omega)
  simp only [Int.toNat_natCast, Nat.zero_add, Nat.sub_zero, and_true, true_and, w1, ha]
  iterate 3 refine Runs.bpos (by first | omega | trivial) ?_
  exact Runs.bsome (Runs.some (hD (⟨(i : Int) + 1, 0, -1, mti, mvf, r, lps, 0, 0, [] ++ [(1, a, 0)]⟩ : Ma) _ (by simp [exec, ho, Ma.push, Ma.go, Ma.fin, Ma.emit, isBin, bin]) (.rest1 ⟨wi.symm, rfl, rfl, rfl, rfl, rfl, rs, by first | omega | (dsimp only; omega), rp, hln, rfl, rfl⟩ RA.one)))
 refine Runs.ite (fun ho => ?_) fun no23 => ?_
 ·replace ho : op i = 23 := ho
  unfold Step_c
  dsimp only
  unfold use_Z t_use_Z
  dsimp only [uz0, ux2, uz3, ux5, uz7, uz11, ux16, ux18, ux21, ux23]
  rw [ho] at hrg
  have hrg : 0 ≤ ar i ∧ ar i ≤ 7999999 := by simpa [Cv.rngL, Cv.rngH] using hrg
  have e1 : Int.tmod (ar i) 1000000 = ar i % 1000000 := Int.tmod_eq_emod_of_nonneg hrg.1
  have e2 : Int.tdiv (ar i) 1000000 = ar i / 1000000 := Int.tdiv_eq_ediv_of_nonneg hrg.1
  have w1 : w (Int.tmod (ar i) 1000000 - 1) = Int.tmod (ar i) 1000000 - 1 := w_in (by unfold inR; omega)
  have w2 : w (Int.tdiv (ar i) 1000000) = Int.tdiv (ar i) 1000000 := w_in (by unfold inR; omega)
  simp only [Int.toNat_natCast, w1, w2]
  refine Runs.bite (fun h => ?_) fun h => ?_
  ·have h : 0 < Int.tmod (ar i) 1000000 := by simpa using h
   refine Runs.bpos (by simpa using h) ?_
   refine Runs.bite (fun g => ?_) fun g => ?_
   ·have g : 0 < Int.tmod (ar i) 1000000 - 1 := by simpa using g
    exact Runs.bsome (Runs.some (hD (⟨(i : Int) + 1, Int.tmod (ar i) 1000000 - 1, Int.tdiv (ar i) 1000000, mti, mvf, stk, lps, 0, 0, [] ++ [(2, Int.tdiv (ar i) 1000000, 0)]⟩ : Ma) _ (by simp only [exec, ho, Ma.emit, isBin]; simp [h, g, Int.sub_pos.1 g]) (.rest1 ⟨wi.symm, rfl, rfl, rfl, rfl, rfl, rs, hsn, rp, hln, rfl, rfl⟩ RA.one)))
   ·have g : ¬ 0 < Int.tmod (ar i) 1000000 - 1 := by simpa using g
    exact Runs.bsome (Runs.some (hD (⟨(i : Int) + 1, Int.tmod (ar i) 1000000 - 1, -1, mti, mvf, stk, lps, 0, 0, [] ++ [(2, Int.tdiv (ar i) 1000000, 0)]⟩ : Ma) _ (by simp only [exec, ho, Ma.emit, isBin]; simp [h, g, show ¬ (1 < Int.tmod (ar i) 1000000) by omega]) (.rest1 ⟨wi.symm, rfl, rfl, rfl, rfl, rfl, rs, hsn, rp, hln, rfl, rfl⟩ RA.one)))
  ·have h : ¬ 0 < Int.tmod (ar i) 1000000 := by simpa using h
   exact Runs.bneg (by simpa using h) (Runs.bneg (by simp) (Runs.bsome (Runs.some (hN (⟨(i : Int) + 1, 0, -1, mti, mvf, stk, lps, 0, 0, []⟩ : Ma) _ (by simp [exec, ho, Ma.push, Ma.go, Ma.fin, Ma.emit, isBin, bin, h]) ⟨⟨wi.symm, rfl, rfl, rfl, rfl, rfl, rs, hsn, rp, hln, rfl, rfl⟩, rfl, wf, rfl⟩))))
 refine Runs.ite (fun ho => ?_) fun no24 => ?_
 ·replace ho : op i = 24 := ho
  unfold Step_c
  dsimp only
  unfold sendZ t_sendZ
  dsimp only [uz0, ux2, uz3, ux5, uz7, uz11, ux16, ux18, ux21, ux23]
  rw [ho] at hrg
  have hrg : 0 ≤ ar i ∧ ar i ≤ 2147483647 := by simpa [Cv.rngL, Cv.rngH] using hrg
  have e2 : Int.tdiv (ar i) 8 = ar i / 8 := Int.tdiv_eq_ediv_of_nonneg hrg.1
  have w2 : w (Int.tdiv (ar i) 8) = Int.tdiv (ar i) 8 := w_in (by unfold inR; omega)
  simp only [Int.toNat_natCast, w2]
  exact Runs.bsome (Runs.some (hN (⟨(i : Int) + 1, 0, -1, mti, mvf, stk, lps, 0, 0, [] ++ [(3, Int.tdiv (ar i) 8, Int.tmod (ar i) 8)]⟩ : Ma) _ (by simp [exec, ho, Ma.push, Ma.go, Ma.fin, Ma.emit, isBin, bin]) ⟨⟨wi.symm, rfl, rfl, rfl, rfl, rfl, rs, hsn, rp, hln, rfl, rfl⟩, RA.one, wf, rfl⟩))
 refine Runs.ite (fun ho => ?_) fun no25 => ?_
 ·replace ho : op i = 25 := ho
  unfold Step_c
  dsimp only
  unfold keep_Z t_keep_Z
  dsimp only [uz0, ux2, uz3, ux5, uz7, uz11, ux16, ux18, ux21, ux23]
  exact Runs.bsome (Runs.some (hN (⟨(i : Int) + 1, 0, -1, mti, mvf, stk, lps, 0, 0, [] ++ [(4, ar i, 0)]⟩ : Ma) _ (by simp [exec, ho, Ma.push, Ma.go, Ma.fin, Ma.emit, isBin, bin]) ⟨⟨wi.symm, rfl, rfl, rfl, rfl, rfl, rs, hsn, rp, hln, rfl, rfl⟩, RA.one, wf, rfl⟩))
 refine Runs.ite (fun ho => ?_) fun no26 => ?_
 ·replace ho : op i = 26 := ho
  unfold Step_c
  dsimp only
  unfold eventZ t_eventZ
  dsimp only [uz0, ux2, uz3, ux5, uz7, uz11, ux16, ux18, ux21, ux23]
  exact Runs.bsome (Runs.some (hN (⟨(i : Int) + 1, 0, -1, mti, mvf, stk, lps, 0, 0, [] ++ [(5, ar i, 0)]⟩ : Ma) _ (by simp [exec, ho, Ma.push, Ma.go, Ma.fin, Ma.emit, isBin, bin]) ⟨⟨wi.symm, rfl, rfl, rfl, rfl, rfl, rs, hsn, rp, hln, rfl, rfl⟩, RA.one, wf, rfl⟩))
 refine Runs.ite (fun ho => ?_) fun no27 => ?_
 ·replace ho : op i = 27 := ho
  unfold Step_c
  dsimp only
  unfold abortZ t_abortZ
  dsimp only [uz0, ux2, uz3, ux5, uz7, uz11, ux16, ux18, ux21, ux23]
  exact Runs.bsome (Runs.some (hD (⟨(i : Int), 0, -1, -1, mvf, [], [], 2, (ar i), []⟩ : Ma) _ (by simp [exec, ho, Ma.push, Ma.go, Ma.fin, Ma.emit, isBin, bin]) (.fin0 ⟨rfl, rfl, rfl, rfl, rfl, rfl, rfl, Nat.le_refl _, rfl, Nat.le_refl _, rfl, rfl⟩ rfl)))
 refine Runs.ite (fun ho => ?_) fun no28 => ?_
 ·replace ho : op i = 28 := ho
  unfold Step_c
  dsimp only
  unfold stopZ t_stopZ
  dsimp only [uz0, ux2, uz3, ux5, uz7, uz11, ux16, ux18, ux21, ux23]
  exact Runs.bsome (Runs.some (hD (⟨(i : Int), 0, -1, -1, mvf, [], [], 1, 0, []⟩ : Ma) _ (by simp [exec, ho, Ma.push, Ma.go, Ma.fin, Ma.emit, isBin, bin]) (.fin0 ⟨rfl, rfl, rfl, rfl, rfl, rfl, rfl, Nat.le_refl _, rfl, Nat.le_refl _, rfl, rfl⟩ rfl)))
 exfalso
 have no1 : ¬ op i = 1 := no1
 have no2 : ¬ op i = 2 := no2
 have no3 : ¬ op i = 3 := no3
 have no4 : ¬ op i = 4 := no4
 have no5 : ¬ op i = 5 := no5
 have no6 : ¬ op i = 6 := no6
 have no7 : ¬ op i = 7 := no7
 have no8 : ¬ op i = 8 := no8
 have no9 : ¬ op i = 9 := no9
 have no10 : ¬ op i = 10 := no10
 have no11 : ¬ op i = 11 := no11
 have no12 : ¬ op i = 12 := no12
 have no13 : ¬ op i = 13 := no13
 have no14 : ¬ op i = 14 := no14
 have no15 : ¬ op i = 15 := no15
 have no16 : ¬ op i = 16 := no16
 have no17 : ¬ op i = 17 := no17
 have no18 : ¬ op i = 18 := no18
 have no19 : ¬ op i = 19 := no19
 have no20 : ¬ op i = 20 := no20
 have no21 : ¬ op i = 21 := no21
 have no22 : ¬ op i = 22 := no22
 have no23 : ¬ op i = 23 := no23
 have no24 : ¬ op i = 24 := no24
 have no25 : ¬ op i = 25 := no25
 have no26 : ¬ op i = 26 := no26
 have no27 : ¬ op i = 27 := no27
 have no28 : ¬ op i = 28 := no28
 omega
end Go.Proofs.YthkioinnobiieaaGreatDoor
/- A round of the machine's loop, some actions. -/
namespace Go.Proofs.YthkioinnobiieaaGreatDoor
open Go Go.Am Go.Proofs
set_option linter.unusedSimpArgs false
set_option linter.unusedVariables false
set_option maxRecDepth 100000
set_option maxHeartbeats 4000000
theorem roundA {q n vn0 i : Nat} {nm : ByteArray} {ps vs : Int} {op ar D l v : Nat → Int} {rest : Int × Int × Int × Int × Nat × (Nat → Int) × Nat × (Nat → Int) × Nat × (Nat → Int) × (Nat → Int) × Int × Int × Int × Int × Int × Int × Int × Int} {t : T6} {m : Ma} {fu : Int} {ay : Nat → Int} {pc sp us ti : Int} {vn sk lk : Nat} {stt cde t0 t1 t2 t3 t4 t5 : Int} {vf : Nat → Int} {sn : Nat} {sf : Nat → Int} {ln : Nat} {la lb ax az : Nat → Int} {fuel : Int} {an : Nat}
 (hv : Vd n vs op ar D l v) (hA : At n vs D l v i m) (hR : Rel1 vn0 fu t m ay pc sp us ti vn sk lk stt cde t0 t1 t2 t3 t4 t5 vf sn sf ln la lb ax az fuel an) (hvn : (vn0 : Int) = vs) (hfu : 0 ≤ fu ∧ fu < 200) (hac : (m.acts.length : Int) ≤ fu) {Q : Step_l0_a → Prop} {P : Step_l0_g → Prop}
 (hN : ∀ m' y', exec (op i) (ar i) (tlmF t) m = (m', false) → RelY vn0 (fu + 1) t m' y' → Q y')
 (hD : ∀ m' z, exec (op i) (ar i) (tlmF t) m = (m', true) → RelZ vn0 m' z → P z) :
 Runs (Step_l0_t1 (Step_c q) (nm, ps, vs, n, op, ar, rest) (ay, pc, sp, us, ti, vn, sk, lk, stt, cde, t0, t1, t2, t3, t4, t5, vf, sn, sf, ln, la, lb, ax, az, fuel, an) (fun y => some (.inl y)) (fun z => some (.inr z))) (Sum.elim Q P) := by
 obtain ⟨mpc, msp, mus, mti, mvf, stk, lps, mst, mcd, acts⟩ := m
 obtain ⟨⟨e1, e2, e3, e4, e5, e6, rs, hsn, rp, hln, e7, e8⟩, hact, e9, e10⟩ := hR
 simp only at e1 e2 e3 e4 e5 e6 e7 e8 hact rs rp hac
 subst e1 e2 e3 e4 e5 e6 e7 e8 e9 e10
 obtain ⟨a1, hi, a2, hc, a3, a4, a5, a6, a7, a8, hva, hnu⟩ := hA
 simp only at a1 a2 hc a3 a4 a5 a6 a7 a8 hva hnu
 subst a1 a5 a6 a7 a8
 have hD16 := (hv.dep.pos i hi).2
 have hsk : sk ≤ 16 := by have := rs.len; omega
 have hlk : lk ≤ 300 := by
  have := chain_len hv.ok.lv lps (l i) (hv.ok.lv.lt (Nat.le_of_lt hi)).1 (by have := (hv.ok.lv.lt (Nat.le_of_lt hi)).2; omega) hc
  have := rp.len
  have := (hv.ok.lv.lt (Nat.le_of_lt hi)).2
  have := hv.ok.n3
  omega
 have hn3 := hv.ok.n3
 have hoo := hv.oo i hi
 have hb : Cv.leftB (op i) (D i) := hv.dep.ok i hi
 have hrg : Cv.rngL (op i) i ≤ ar i ∧ ar i ≤ Cv.rngH (op i) i n vs := hv.rg i hi
 have han : an < 200 := by have := hact.1; omega
 have wi : w ((i : Int) + 1) = (i : Int) + 1 := w_in (by unfold inR; omega)
 have wf : w (fuel + 1) = fuel + 1 := w_in (by unfold inR; omega)
 unfold Step_l0_t1 uy1
 refine Runs.if_pos (by simp only [decide_eq_true_eq]; omega) (Runs.if_pos (show (0 : Int) ≤ (i : Int) ∧ (i : Int) < ((n : Nat) : Int) by omega) ?_)
 refine Runs.ite (fun ho => ?_) fun no1 => ?_
 ·replace ho : op i = 1 := ho
  unfold Step_c
  dsimp only
  unfold pushA t_pushA
  dsimp only [uz0, ux2, uz3, ux5, uz7, uz11, ux16, ux18, ux21, ux23]
  simp only [Int.toNat_natCast, Nat.zero_add, Nat.sub_zero, and_true, true_and]
  by_cases hbig : big (ar i)
  ·exact Runs.big2 hbig (Runs.bsome (Runs.some (hD (⟨(i : Int), 0, -1, -1, mvf, [], [], 2, 1002, acts⟩ : Ma) _ (by simp [exec, ho, Ma.push, Ma.go, Ma.fin, Ma.emit, isBin, bin, hbig]) (.fin1 ⟨rfl, rfl, rfl, rfl, rfl, rfl, rfl, Nat.le_refl _, rfl, Nat.le_refl _, rfl, rfl⟩ hact))))
  ·exact Runs.small2 hbig (Runs.bpos (by unfold roomBound maxLen; omega) (Runs.bsome (Runs.some (hN (⟨(i : Int) + 1, 0, -1, mti, mvf, (ar i) :: stk, lps, 0, 0, acts⟩ : Ma) _ (by simp [exec, ho, Ma.push, Ma.go, Ma.fin, Ma.emit, isBin, bin, hbig]) ⟨⟨wi.symm, rfl, rfl, rfl, rfl, rfl, rs.push, Nat.le_refl _, rp, hln, rfl, rfl⟩, hact, wf, rfl⟩))))
 refine Runs.ite (fun ho => ?_) fun no2 => ?_
 ·replace ho : op i = 2 := ho
  unfold Step_c
  dsimp only
  unfold loadA t_loadA
  dsimp only [uz0, ux2, uz3, ux5, uz7, uz11, ux16, ux18, ux21, ux23]
  simp only [Int.toNat_natCast, Nat.zero_add, Nat.sub_zero, and_true, true_and]
  rw [ho] at hrg
  have hrg : 0 ≤ ar i ∧ ar i ≤ vs - 1 := by simpa [Cv.rngL, Cv.rngH] using hrg
  refine Runs.bpos (by first | omega | trivial) (Runs.bpos (by first | omega | trivial) ?_)
  by_cases hbig : big (mvf (ar i).toNat)
  ·exact Runs.big2 hbig (Runs.bsome (Runs.some (hD (⟨(i : Int), 0, -1, -1, mvf, [], [], 2, 1002, acts⟩ : Ma) _ (by simp [exec, ho, Ma.push, Ma.go, Ma.fin, Ma.emit, isBin, bin, hbig]) (.fin1 ⟨rfl, rfl, rfl, rfl, rfl, rfl, rfl, Nat.le_refl _, rfl, Nat.le_refl _, rfl, rfl⟩ hact))))
  ·exact Runs.small2 hbig (Runs.bpos (by unfold roomBound maxLen; omega) (Runs.bsome (Runs.some (hN (⟨(i : Int) + 1, 0, -1, mti, mvf, (mvf (ar i).toNat) :: stk, lps, 0, 0, acts⟩ : Ma) _ (by simp [exec, ho, Ma.push, Ma.go, Ma.fin, Ma.emit, isBin, bin, hbig]) ⟨⟨wi.symm, rfl, rfl, rfl, rfl, rfl, rs.push, Nat.le_refl _, rp, hln, rfl, rfl⟩, hact, wf, rfl⟩))))
 refine Runs.ite (fun ho => ?_) fun no3 => ?_
 ·replace ho : op i = 3 := ho
  unfold Step_c
  dsimp only
  unfold storeA t_storeA
  dsimp only [uz0, ux2, uz3, ux5, uz7, uz11, ux16, ux18, ux21, ux23]
  have hd1 : 1 ≤ D i := by rw [ho] at hb; simp [Cv.leftB] at hb; omega
  obtain ⟨a, r, rfl⟩ := one_of (l := stk) (by omega)
  obtain ⟨k, rfl, ha, rs⟩ := rs.pop
  have w1 := wsub (k := k) (by omega)
  simp only [Int.toNat_natCast, Nat.zero_add, Nat.sub_zero, and_true, true_and, w1, ha]
  rw [ho] at hrg
  have hrg : 0 ≤ ar i ∧ ar i ≤ vs - 1 := by simpa [Cv.rngL, Cv.rngH] using hrg
  iterate 6 refine Runs.bpos (by first | omega | trivial) ?_
  refine Runs.bsome ?_
  exact Runs.some (hN (⟨(i : Int) + 1, 0, -1, mti, Cv.upd mvf (ar i).toNat a, r, lps, 0, 0, acts⟩ : Ma) _ (by simp [exec, ho, Ma.push, Ma.go, Ma.fin, Ma.emit, isBin, bin]) ⟨⟨wi.symm, rfl, rfl, rfl, rfl, by funext j; simp [Cv.upd], rs, by first | omega | (dsimp only; omega), rp, hln, rfl, rfl⟩, hact, wf, rfl⟩)
 refine Runs.ite (fun ho => ?_) fun no4 => ?_
 ·replace ho : op i = 4 := ho
  unfold Step_c
  dsimp only
  unfold seeA t_seeA
  dsimp only [uz0, ux2, uz3, ux5, uz7, uz11, ux16, ux18, ux21, ux23]
  rw [ho] at hrg
  have hrg : 0 ≤ ar i ∧ ar i ≤ 5 := by simpa [Cv.rngL, Cv.rngH] using hrg
  refine Runs.bite (fun hj => ?_) fun nj0 => ?_
  ·replace hj : ar i = 0 := hj
   have htl : tlmF (t0, t1, t2, t3, t4, t5) (ar i).toNat = t0 := by rw [hj]; rfl
   clear hj
   by_cases hbig : big (t0)
   ·exact Runs.big2 hbig (Runs.bsome (Runs.some (hD (⟨(i : Int), 0, -1, -1, mvf, [], [], 2, 1002, acts⟩ : Ma) _ (by simp [exec, ho, Ma.push, Ma.go, Ma.fin, Ma.emit, isBin, bin, hbig, htl]) (.fin1 ⟨rfl, rfl, rfl, rfl, rfl, rfl, rfl, Nat.le_refl _, rfl, Nat.le_refl _, rfl, rfl⟩ hact))))
   ·exact Runs.small2 hbig (Runs.bpos (by unfold roomBound maxLen; omega) (Runs.bsome (Runs.some (hN (⟨(i : Int) + 1, 0, -1, mti, mvf, (t0) :: stk, lps, 0, 0, acts⟩ : Ma) _ (by simp [exec, ho, Ma.push, Ma.go, Ma.fin, Ma.emit, isBin, bin, hbig, htl]) ⟨⟨wi.symm, rfl, rfl, rfl, rfl, rfl, rs.push, Nat.le_refl _, rp, hln, rfl, rfl⟩, hact, wf, rfl⟩))))
  refine Runs.bite (fun hj => ?_) fun nj1 => ?_
  ·replace hj : ar i = 1 := hj
   have htl : tlmF (t0, t1, t2, t3, t4, t5) (ar i).toNat = t1 := by rw [hj]; rfl
   clear hj
   by_cases hbig : big (t1)
   ·exact Runs.big2 hbig (Runs.bsome (Runs.some (hD (⟨(i : Int), 0, -1, -1, mvf, [], [], 2, 1002, acts⟩ : Ma) _ (by simp [exec, ho, Ma.push, Ma.go, Ma.fin, Ma.emit, isBin, bin, hbig, htl]) (.fin1 ⟨rfl, rfl, rfl, rfl, rfl, rfl, rfl, Nat.le_refl _, rfl, Nat.le_refl _, rfl, rfl⟩ hact))))
   ·exact Runs.small2 hbig (Runs.bpos (by unfold roomBound maxLen; omega) (Runs.bsome (Runs.some (hN (⟨(i : Int) + 1, 0, -1, mti, mvf, (t1) :: stk, lps, 0, 0, acts⟩ : Ma) _ (by simp [exec, ho, Ma.push, Ma.go, Ma.fin, Ma.emit, isBin, bin, hbig, htl]) ⟨⟨wi.symm, rfl, rfl, rfl, rfl, rfl, rs.push, Nat.le_refl _, rp, hln, rfl, rfl⟩, hact, wf, rfl⟩))))
  refine Runs.bite (fun hj => ?_) fun nj2 => ?_
  ·replace hj : ar i = 2 := hj
   have htl : tlmF (t0, t1, t2, t3, t4, t5) (ar i).toNat = t2 := by rw [hj]; rfl
   clear hj
   by_cases hbig : big (t2)
   ·exact Runs.big2 hbig (Runs.bsome (Runs.some (hD (⟨(i : Int), 0, -1, -1, mvf, [], [], 2, 1002, acts⟩ : Ma) _ (by simp [exec, ho, Ma.push, Ma.go, Ma.fin, Ma.emit, isBin, bin, hbig, htl]) (.fin1 ⟨rfl, rfl, rfl, rfl, rfl, rfl, rfl, Nat.le_refl _, rfl, Nat.le_refl _, rfl, rfl⟩ hact))))
   ·exact Runs.small2 hbig (Runs.bpos (by unfold roomBound maxLen; omega) (Runs.bsome (Runs.some (hN (⟨(i : Int) + 1, 0, -1, mti, mvf, (t2) :: stk, lps, 0, 0, acts⟩ : Ma) _ (by simp [exec, ho, Ma.push, Ma.go, Ma.fin, Ma.emit, isBin, bin, hbig, htl]) ⟨⟨wi.symm, rfl, rfl, rfl, rfl, rfl, rs.push, Nat.le_refl _, rp, hln, rfl, rfl⟩, hact, wf, rfl⟩))))
  refine Runs.bite (fun hj => ?_) fun nj3 => ?_
  ·replace hj : ar i = 3 := hj
   have htl : tlmF (t0, t1, t2, t3, t4, t5) (ar i).toNat = t3 := by rw [hj]; rfl
   clear hj
   by_cases hbig : big (t3)
   ·exact Runs.big2 hbig (Runs.bsome (Runs.some (hD (⟨(i : Int), 0, -1, -1, mvf, [], [], 2, 1002, acts⟩ : Ma) _ (by simp [exec, ho, Ma.push, Ma.go, Ma.fin, Ma.emit, isBin, bin, hbig, htl]) (.fin1 ⟨rfl, rfl, rfl, rfl, rfl, rfl, rfl, Nat.le_refl _, rfl, Nat.le_refl _, rfl, rfl⟩ hact))))
   ·exact Runs.small2 hbig (Runs.bpos (by unfold roomBound maxLen; omega) (Runs.bsome (Runs.some (hN (⟨(i : Int) + 1, 0, -1, mti, mvf, (t3) :: stk, lps, 0, 0, acts⟩ : Ma) _ (by simp [exec, ho, Ma.push, Ma.go, Ma.fin, Ma.emit, isBin, bin, hbig, htl]) ⟨⟨wi.symm, rfl, rfl, rfl, rfl, rfl, rs.push, Nat.le_refl _, rp, hln, rfl, rfl⟩, hact, wf, rfl⟩))))
  refine Runs.bite (fun hj => ?_) fun nj4 => ?_
  ·replace hj : ar i = 4 := hj
   have htl : tlmF (t0, t1, t2, t3, t4, t5) (ar i).toNat = t4 := by rw [hj]; rfl
   clear hj
   by_cases hbig : big (t4)
   ·exact Runs.big2 hbig (Runs.bsome (Runs.some (hD (⟨(i : Int), 0, -1, -1, mvf, [], [], 2, 1002, acts⟩ : Ma) _ (by simp [exec, ho, Ma.push, Ma.go, Ma.fin, Ma.emit, isBin, bin, hbig, htl]) (.fin1 ⟨rfl, rfl, rfl, rfl, rfl, rfl, rfl, Nat.le_refl _, rfl, Nat.le_refl _, rfl, rfl⟩ hact))))
   ·exact Runs.small2 hbig (Runs.bpos (by unfold roomBound maxLen; omega) (Runs.bsome (Runs.some (hN (⟨(i : Int) + 1, 0, -1, mti, mvf, (t4) :: stk, lps, 0, 0, acts⟩ : Ma) _ (by simp [exec, ho, Ma.push, Ma.go, Ma.fin, Ma.emit, isBin, bin, hbig, htl]) ⟨⟨wi.symm, rfl, rfl, rfl, rfl, rfl, rs.push, Nat.le_refl _, rp, hln, rfl, rfl⟩, hact, wf, rfl⟩))))
  refine Runs.bite (fun hj => ?_) fun nj5 => ?_
  ·replace hj : ar i = 5 := hj
   have htl : tlmF (t0, t1, t2, t3, t4, t5) (ar i).toNat = t5 := by rw [hj]; rfl
   clear hj
   by_cases hbig : big (t5)
   ·exact Runs.big2 hbig (Runs.bsome (Runs.some (hD (⟨(i : Int), 0, -1, -1, mvf, [], [], 2, 1002, acts⟩ : Ma) _ (by simp [exec, ho, Ma.push, Ma.go, Ma.fin, Ma.emit, isBin, bin, hbig, htl]) (.fin1 ⟨rfl, rfl, rfl, rfl, rfl, rfl, rfl, Nat.le_refl _, rfl, Nat.le_refl _, rfl, rfl⟩ hact))))
   ·exact Runs.small2 hbig (Runs.bpos (by unfold roomBound maxLen; omega) (Runs.bsome (Runs.some (hN (⟨(i : Int) + 1, 0, -1, mti, mvf, (t5) :: stk, lps, 0, 0, acts⟩ : Ma) _ (by simp [exec, ho, Ma.push, Ma.go, Ma.fin, Ma.emit, isBin, bin, hbig, htl]) ⟨⟨wi.symm, rfl, rfl, rfl, rfl, rfl, rs.push, Nat.le_refl _, rp, hln, rfl, rfl⟩, hact, wf, rfl⟩))))
  exfalso
  replace nj0 : ¬ ar i = 0 := nj0
  replace nj1 : ¬ ar i = 1 := nj1
  replace nj2 : ¬ ar i = 2 := nj2
  replace nj3 : ¬ ar i = 3 := nj3
  replace nj4 : ¬ ar i = 4 := nj4
  replace nj5 : ¬ ar i = 5 := nj5
  omega
 refine Runs.ite (fun ho => ?_) fun no5 => ?_
 ·replace ho : op i = 5 := ho
  unfold Step_c
  dsimp only
  unfold addA t_addA
  dsimp only [uz0, ux2, uz3, ux5, uz7, uz11, ux16, ux18, ux21, ux23]
  have hd2 : 2 ≤ D i := by rw [ho] at hb; simpa [Cv.leftB] using hb
  obtain ⟨a, r, rfl⟩ := one_of (l := stk) (by omega)
  obtain ⟨b, r, rfl⟩ := one_of (l := r) (by simp at a2; omega)
  obtain ⟨k, rfl, ha, rs⟩ := rs.pop
  obtain ⟨k, rfl, hbb, rs⟩ := rs.pop
  have w1 := wsub (k := k + 1) (by omega)
  have w2 := wsub (k := k) (by omega)
  have sa := hnu a (by simp)
  have sb := hnu b (by simp)
  have wv : w (b + a) = b + a := w_in (by unfold small1 at sa sb; unfold inR; omega)
  simp only [Int.toNat_natCast, Nat.zero_add, Nat.sub_zero, and_true, true_and, w1, w2, ha, hbb, wv]
  iterate 5 refine Runs.bpos (by first | omega | trivial) ?_
  refine Runs.bpos (by first | omega | trivial) ?_
  by_cases hbig : big (b + a)
  ·exact Runs.big2 hbig (Runs.bsome (Runs.some (hD (⟨(i : Int), 0, -1, -1, mvf, [], [], 2, 1002, acts⟩ : Ma) _ (by simp [exec, ho, Ma.push, Ma.go, Ma.fin, Ma.emit, isBin, bin, hbig]) (.fin1 ⟨rfl, rfl, rfl, rfl, rfl, rfl, rfl, Nat.le_refl _, rfl, Nat.le_refl _, rfl, rfl⟩ hact))))
  ·exact Runs.small2 hbig (Runs.bpos (by unfold roomBound maxLen; omega) (Runs.bsome (Runs.some (hN (⟨(i : Int) + 1, 0, -1, mti, mvf, (b + a) :: r, lps, 0, 0, acts⟩ : Ma) _ (by simp [exec, ho, Ma.push, Ma.go, Ma.fin, Ma.emit, isBin, bin, hbig]) ⟨⟨wi.symm, rfl, rfl, rfl, rfl, rfl, rs.push, Nat.le_refl _, rp, hln, rfl, rfl⟩, hact, wf, rfl⟩))))
 refine Runs.ite (fun ho => ?_) fun no6 => ?_
 ·replace ho : op i = 6 := ho
  unfold Step_c
  dsimp only
  unfold subA t_subA
  dsimp only [uz0, ux2, uz3, ux5, uz7, uz11, ux16, ux18, ux21, ux23]
  have hd2 : 2 ≤ D i := by rw [ho] at hb; simpa [Cv.leftB] using hb
  obtain ⟨a, r, rfl⟩ := one_of (l := stk) (by omega)
  obtain ⟨b, r, rfl⟩ := one_of (l := r) (by simp at a2; omega)
  obtain ⟨k, rfl, ha, rs⟩ := rs.pop
  obtain ⟨k, rfl, hbb, rs⟩ := rs.pop
  have w1 := wsub (k := k + 1) (by omega)
  have w2 := wsub (k := k) (by omega)
  have sa := hnu a (by simp)
  have sb := hnu b (by simp)
  have wv : w (b - a) = b - a := w_in (by unfold small1 at sa sb; unfold inR; omega)
  simp only [Int.toNat_natCast, Nat.zero_add, Nat.sub_zero, and_true, true_and, w1, w2, ha, hbb, wv]
  iterate 5 refine Runs.bpos (by first | omega | trivial) ?_
  refine Runs.bpos (by first | omega | trivial) ?_
  by_cases hbig : big (b - a)
  ·exact Runs.big2 hbig (Runs.bsome (Runs.some (hD (⟨(i : Int), 0, -1, -1, mvf, [], [], 2, 1002, acts⟩ : Ma) _ (by simp [exec, ho, Ma.push, Ma.go, Ma.fin, Ma.emit, isBin, bin, hbig]) (.fin1 ⟨rfl, rfl, rfl, rfl, rfl, rfl, rfl, Nat.le_refl _, rfl, Nat.le_refl _, rfl, rfl⟩ hact))))
  ·exact Runs.small2 hbig (Runs.bpos (by unfold roomBound maxLen; omega) (Runs.bsome (Runs.some (hN (⟨(i : Int) + 1, 0, -1, mti, mvf, (b - a) :: r, lps, 0, 0, acts⟩ : Ma) _ (by simp [exec, ho, Ma.push, Ma.go, Ma.fin, Ma.emit, isBin, bin, hbig]) ⟨⟨wi.symm, rfl, rfl, rfl, rfl, rfl, rs.push, Nat.le_refl _, rp, hln, rfl, rfl⟩, hact, wf, rfl⟩))))
 refine Runs.ite (fun ho => ?_) fun no7 => ?_
 ·replace ho : op i = 7 := ho
  unfold Step_c
  dsimp only
  unfold mulA t_mulA
  dsimp only [uz0, ux2, uz3, ux5, uz7, uz11, ux16, ux18, ux21, ux23]
  have hd2 : 2 ≤ D i := by rw [ho] at hb; simpa [Cv.leftB] using hb
  obtain ⟨a, r, rfl⟩ := one_of (l := stk) (by omega)
  obtain ⟨b, r, rfl⟩ := one_of (l := r) (by simp at a2; omega)
  obtain ⟨k, rfl, ha, rs⟩ := rs.pop
  obtain ⟨k, rfl, hbb, rs⟩ := rs.pop
  have w1 := wsub (k := k + 1) (by omega)
  have w2 := wsub (k := k) (by omega)
  have sa := hnu a (by simp)
  have sb := hnu b (by simp)
  have wv : w (b * a) = b * a := w_in (mul_bd sb sa)
  simp only [Int.toNat_natCast, Nat.zero_add, Nat.sub_zero, and_true, true_and, w1, w2, ha, hbb, wv]
  iterate 5 refine Runs.bpos (by first | omega | trivial) ?_
  refine Runs.bpos (by first | omega | trivial) ?_
  by_cases hbig : big (b * a)
  ·exact Runs.big2 hbig (Runs.bsome (Runs.some (hD (⟨(i : Int), 0, -1, -1, mvf, [], [], 2, 1002, acts⟩ : Ma) _ (by simp [exec, ho, Ma.push, Ma.go, Ma.fin, Ma.emit, isBin, bin, hbig]) (.fin1 ⟨rfl, rfl, rfl, rfl, rfl, rfl, rfl, Nat.le_refl _, rfl, Nat.le_refl _, rfl, rfl⟩ hact))))
  ·exact Runs.small2 hbig (Runs.bpos (by unfold roomBound maxLen; omega) (Runs.bsome (Runs.some (hN (⟨(i : Int) + 1, 0, -1, mti, mvf, (b * a) :: r, lps, 0, 0, acts⟩ : Ma) _ (by simp [exec, ho, Ma.push, Ma.go, Ma.fin, Ma.emit, isBin, bin, hbig]) ⟨⟨wi.symm, rfl, rfl, rfl, rfl, rfl, rs.push, Nat.le_refl _, rp, hln, rfl, rfl⟩, hact, wf, rfl⟩))))
 refine Runs.ite (fun ho => ?_) fun no8 => ?_
 ·replace ho : op i = 8 := ho
  unfold Step_c
  dsimp only
  unfold divA t_divA
  dsimp only [uz0, ux2, uz3, ux5, uz7, uz11, ux16, ux18, ux21, ux23]
  have hd2 : 2 ≤ D i := by rw [ho] at hb; simpa [Cv.leftB] using hb
  obtain ⟨a, r, rfl⟩ := one_of (l := stk) (by omega)
  obtain ⟨b, r, rfl⟩ := one_of (l := r) (by simp at a2; omega)
  obtain ⟨k, rfl, ha, rs⟩ := rs.pop
  obtain ⟨k, rfl, hbb, rs⟩ := rs.pop
  have w1 := wsub (k := k + 1) (by omega)
  have w2 := wsub (k := k) (by omega)
  have sa := hnu a (by simp)
  have sb := hnu b (by simp)
  simp only [Int.toNat_natCast, Nat.zero_add, Nat.sub_zero, and_true, true_and, w1, w2, ha, hbb]
  iterate 2 refine Runs.bpos (by first | omega | trivial) ?_
  refine Runs.bite (fun h0 => Runs.bsome (Runs.some (hD (⟨(i : Int), 0, -1, -1, mvf, [], [], 2, 1002, acts⟩ : Ma) _ (by simp [exec, ho, Ma.fin, isBin, (show a = 0 by simpa using h0)]) (.fin1 ⟨rfl, rfl, rfl, rfl, rfl, rfl, rfl, Nat.le_refl _, rfl, Nat.le_refl _, rfl, rfl⟩ hact)))) fun h0 => ?_
  have h0 : ¬ a = 0 := by simpa using h0
  have wd := dv_bd sb h0
  have wd1 : w (Int.tdiv b a) = Int.tdiv b a := w_in wd.1
  have wd2 : w (Int.tdiv b a - 1) = Int.tdiv b a - 1 := w_in wd.2
  simp only [wd1, wd2]
  iterate 6 refine Runs.bpos (by first | omega | trivial) ?_
  refine Runs.bneg h0 (Runs.bneg h0 (Runs.bite (fun h1 => ?_) fun h1 => ?_))
  ·have h1 : Int.tmod b a ≠ 0 := by simpa using h1
   refine Runs.bite (fun h2 => ?_) fun h2 => ?_
   ·have h2 : decide (b < 0) ≠ decide (a < 0) := by intro e; rw [e] at h2; revert h2; cases decide (a < 0) <;> decide
    have hdv : dv b a = Int.tdiv b a - 1 := by unfold dv; exact if_pos ⟨h1, h2⟩
    by_cases hbig : big (Int.tdiv b a - 1)
    ·exact Runs.big2 hbig (Runs.bsome (Runs.some (hD (⟨(i : Int), 0, -1, -1, mvf, [], [], 2, 1002, acts⟩ : Ma) _ (by simp [exec, ho, Ma.push, Ma.go, Ma.fin, Ma.emit, isBin, bin, hdv, h0, hbig]) (.fin1 ⟨rfl, rfl, rfl, rfl, rfl, rfl, rfl, Nat.le_refl _, rfl, Nat.le_refl _, rfl, rfl⟩ hact))))
    ·exact Runs.small2 hbig (Runs.bpos (by unfold roomBound maxLen; omega) (Runs.bsome (Runs.some (hN (⟨(i : Int) + 1, 0, -1, mti, mvf, (Int.tdiv b a - 1) :: r, lps, 0, 0, acts⟩ : Ma) _ (by simp [exec, ho, Ma.push, Ma.go, Ma.fin, Ma.emit, isBin, bin, hdv, h0, hbig]) ⟨⟨wi.symm, rfl, rfl, rfl, rfl, rfl, rs.push, Nat.le_refl _, rp, hln, rfl, rfl⟩, hact, wf, rfl⟩))))
   ·have h2 : ¬ decide (b < 0) ≠ decide (a < 0) := by intro e; apply h2; revert e; cases decide (a < 0) <;> cases decide (b < 0) <;> decide
    have hdv : dv b a = Int.tdiv b a := by unfold dv; exact if_neg (fun h => h2 h.2)
    by_cases hbig : big (Int.tdiv b a)
    ·exact Runs.big2 hbig (Runs.bsome (Runs.some (hD (⟨(i : Int), 0, -1, -1, mvf, [], [], 2, 1002, acts⟩ : Ma) _ (by simp [exec, ho, Ma.push, Ma.go, Ma.fin, Ma.emit, isBin, bin, hdv, h0, hbig]) (.fin1 ⟨rfl, rfl, rfl, rfl, rfl, rfl, rfl, Nat.le_refl _, rfl, Nat.le_refl _, rfl, rfl⟩ hact))))
    ·exact Runs.small2 hbig (Runs.bpos (by unfold roomBound maxLen; omega) (Runs.bsome (Runs.some (hN (⟨(i : Int) + 1, 0, -1, mti, mvf, (Int.tdiv b a) :: r, lps, 0, 0, acts⟩ : Ma) _ (by simp [exec, ho, Ma.push, Ma.go, Ma.fin, Ma.emit, isBin, bin, hdv, h0, hbig]) ⟨⟨wi.symm, rfl, rfl, rfl, rfl, rfl, rs.push, Nat.le_refl _, rp, hln, rfl, rfl⟩, hact, wf, rfl⟩))))
  ·have h1 : ¬ Int.tmod b a ≠ 0 := by simpa using h1
   have hdv : dv b a = Int.tdiv b a := by unfold dv; exact if_neg (fun h => h1 h.1)
   by_cases hbig : big (Int.tdiv b a)
   ·exact Runs.big2 hbig (Runs.bsome (Runs.some (hD (⟨(i : Int), 0, -1, -1, mvf, [], [], 2, 1002, acts⟩ : Ma) _ (by simp [exec, ho, Ma.push, Ma.go, Ma.fin, Ma.emit, isBin, bin, hdv, h0, hbig]) (.fin1 ⟨rfl, rfl, rfl, rfl, rfl, rfl, rfl, Nat.le_refl _, rfl, Nat.le_refl _, rfl, rfl⟩ hact))))
   ·exact Runs.small2 hbig (Runs.bpos (by unfold roomBound maxLen; omega) (Runs.bsome (Runs.some (hN (⟨(i : Int) + 1, 0, -1, mti, mvf, (Int.tdiv b a) :: r, lps, 0, 0, acts⟩ : Ma) _ (by simp [exec, ho, Ma.push, Ma.go, Ma.fin, Ma.emit, isBin, bin, hdv, h0, hbig]) ⟨⟨wi.symm, rfl, rfl, rfl, rfl, rfl, rs.push, Nat.le_refl _, rp, hln, rfl, rfl⟩, hact, wf, rfl⟩))))
 refine Runs.ite (fun ho => ?_) fun no9 => ?_
 ·replace ho : op i = 9 := ho
  unfold Step_c
  dsimp only
  unfold negA t_negA
  dsimp only [uz0, ux2, uz3, ux5, uz7, uz11, ux16, ux18, ux21, ux23]
  have hd1 : 1 ≤ D i := by rw [ho] at hb; simp [Cv.leftB] at hb; omega
  obtain ⟨a, r, rfl⟩ := one_of (l := stk) (by omega)
  obtain ⟨k, rfl, ha, rs⟩ := rs.pop
  have w1 := wsub (k := k) (by omega)
  have sa := hnu a (by simp)
  have wv : w (0 - a) = -a := by rw [w_in (by unfold small1 at sa; unfold inR; omega)]; omega
  simp only [Int.toNat_natCast, Nat.zero_add, Nat.sub_zero, and_true, true_and, w1, ha, wv]
  iterate 3 refine Runs.bpos (by first | omega | trivial) ?_
  by_cases hbig : big (-a)
  ·exact Runs.big2 hbig (Runs.bsome (Runs.some (hD (⟨(i : Int), 0, -1, -1, mvf, [], [], 2, 1002, acts⟩ : Ma) _ (by simp [exec, ho, Ma.push, Ma.go, Ma.fin, Ma.emit, isBin, bin, hbig]) (.fin1 ⟨rfl, rfl, rfl, rfl, rfl, rfl, rfl, Nat.le_refl _, rfl, Nat.le_refl _, rfl, rfl⟩ hact))))
  ·exact Runs.small2 hbig (Runs.bpos (by unfold roomBound maxLen; omega) (Runs.bsome (Runs.some (hN (⟨(i : Int) + 1, 0, -1, mti, mvf, (-a) :: r, lps, 0, 0, acts⟩ : Ma) _ (by simp [exec, ho, Ma.push, Ma.go, Ma.fin, Ma.emit, isBin, bin, hbig]) ⟨⟨wi.symm, rfl, rfl, rfl, rfl, rfl, rs.push, Nat.le_refl _, rp, hln, rfl, rfl⟩, hact, wf, rfl⟩))))
 refine Runs.ite (fun ho => ?_) fun no10 => ?_
 ·replace ho : op i = 10 := ho
  unfold Step_c
  dsimp only
  unfold lessA t_lessA
  dsimp only [uz0, ux2, uz3, ux5, uz7, uz11, ux16, ux18, ux21, ux23]
  have hd2 : 2 ≤ D i := by rw [ho] at hb; simpa [Cv.leftB] using hb
  obtain ⟨a, r, rfl⟩ := one_of (l := stk) (by omega)
  obtain ⟨b, r, rfl⟩ := one_of (l := r) (by simp at a2; omega)
  obtain ⟨k, rfl, ha, rs⟩ := rs.pop
  obtain ⟨k, rfl, hbb, rs⟩ := rs.pop
  have w1 := wsub (k := k + 1) (by omega)
  have w2 := wsub (k := k) (by omega)
  have sa := hnu a (by simp)
  have sb := hnu b (by simp)
  simp only [Int.toNat_natCast, Nat.zero_add, Nat.sub_zero, and_true, true_and, w1, w2, ha, hbb]
  iterate 6 refine Runs.bpos (by first | omega | trivial) ?_
  refine Runs.bite (fun h => ?_) fun h => ?_
  ·have h : b < a := by simpa using h
   exact Runs.bpos (by unfold roomBound maxLen; omega) (Runs.bsome (Runs.some (hN (⟨(i : Int) + 1, 0, -1, mti, mvf, 1 :: r, lps, 0, 0, acts⟩ : Ma) _ (by simp [exec, ho, Ma.push, isBin, bin, tr, big, h]) ⟨⟨wi.symm, rfl, rfl, rfl, rfl, rfl, rs.push, Nat.le_refl _, rp, hln, rfl, rfl⟩, hact, wf, rfl⟩)))
  ·have h : ¬ b < a := by simpa using h
   exact Runs.bpos (by unfold roomBound maxLen; omega) (Runs.bsome (Runs.some (hN (⟨(i : Int) + 1, 0, -1, mti, mvf, 0 :: r, lps, 0, 0, acts⟩ : Ma) _ (by simp [exec, ho, Ma.push, isBin, bin, tr, big, h]) ⟨⟨wi.symm, rfl, rfl, rfl, rfl, rfl, rs.push, Nat.le_refl _, rp, hln, rfl, rfl⟩, hact, wf, rfl⟩)))
 refine Runs.ite (fun ho => ?_) fun no11 => ?_
 ·replace ho : op i = 11 := ho
  unfold Step_c
  dsimp only
  unfold atMostA t_atMostA
  dsimp only [uz0, ux2, uz3, ux5, uz7, uz11, ux16, ux18, ux21, ux23]
  have hd2 : 2 ≤ D i := by rw [ho] at hb; simpa [Cv.leftB] using hb
  obtain ⟨a, r, rfl⟩ := one_of (l := stk) (by omega)
  obtain ⟨b, r, rfl⟩ := one_of (l := r) (by simp at a2; omega)
  obtain ⟨k, rfl, ha, rs⟩ := rs.pop
  obtain ⟨k, rfl, hbb, rs⟩ := rs.pop
  have w1 := wsub (k := k + 1) (by omega)
  have w2 := wsub (k := k) (by omega)
  have sa := hnu a (by simp)
  have sb := hnu b (by simp)
  simp only [Int.toNat_natCast, Nat.zero_add, Nat.sub_zero, and_true, true_and, w1, w2, ha, hbb]
  iterate 6 refine Runs.bpos (by first | omega | trivial) ?_
  refine Runs.bite (fun h => ?_) fun h => ?_
  ·have h : b ≤ a := by simpa using h
   exact Runs.bpos (by unfold roomBound maxLen; omega) (Runs.bsome (Runs.some (hN (⟨(i : Int) + 1, 0, -1, mti, mvf, 1 :: r, lps, 0, 0, acts⟩ : Ma) _ (by simp [exec, ho, Ma.push, isBin, bin, tr, big, h]) ⟨⟨wi.symm, rfl, rfl, rfl, rfl, rfl, rs.push, Nat.le_refl _, rp, hln, rfl, rfl⟩, hact, wf, rfl⟩)))
  ·have h : ¬ b ≤ a := by simpa using h
   exact Runs.bpos (by unfold roomBound maxLen; omega) (Runs.bsome (Runs.some (hN (⟨(i : Int) + 1, 0, -1, mti, mvf, 0 :: r, lps, 0, 0, acts⟩ : Ma) _ (by simp [exec, ho, Ma.push, isBin, bin, tr, big, h]) ⟨⟨wi.symm, rfl, rfl, rfl, rfl, rfl, rs.push, Nat.le_refl _, rp, hln, rfl, rfl⟩, hact, wf, rfl⟩)))
 refine Runs.ite (fun ho => ?_) fun no12 => ?_
 ·replace ho : op i = 12 := ho
  unfold Step_c
  dsimp only
  unfold equalA t_equalA
  dsimp only [uz0, ux2, uz3, ux5, uz7, uz11, ux16, ux18, ux21, ux23]
  have hd2 : 2 ≤ D i := by rw [ho] at hb; simpa [Cv.leftB] using hb
  obtain ⟨a, r, rfl⟩ := one_of (l := stk) (by omega)
  obtain ⟨b, r, rfl⟩ := one_of (l := r) (by simp at a2; omega)
  obtain ⟨k, rfl, ha, rs⟩ := rs.pop
  obtain ⟨k, rfl, hbb, rs⟩ := rs.pop
  have w1 := wsub (k := k + 1) (by omega)
  have w2 := wsub (k := k) (by omega)
  have sa := hnu a (by simp)
  have sb := hnu b (by simp)
  simp only [Int.toNat_natCast, Nat.zero_add, Nat.sub_zero, and_true, true_and, w1, w2, ha, hbb]
  iterate 6 refine Runs.bpos (by first | omega | trivial) ?_
  refine Runs.bite (fun h => ?_) fun h => ?_
  ·have h : b = a := by simpa using h
   exact Runs.bpos (by unfold roomBound maxLen; omega) (Runs.bsome (Runs.some (hN (⟨(i : Int) + 1, 0, -1, mti, mvf, 1 :: r, lps, 0, 0, acts⟩ : Ma) _ (by simp [exec, ho, Ma.push, isBin, bin, tr, big, h]) ⟨⟨wi.symm, rfl, rfl, rfl, rfl, rfl, rs.push, Nat.le_refl _, rp, hln, rfl, rfl⟩, hact, wf, rfl⟩)))
  ·have h : ¬ b = a := by simpa using h
   exact Runs.bpos (by unfold roomBound maxLen; omega) (Runs.bsome (Runs.some (hN (⟨(i : Int) + 1, 0, -1, mti, mvf, 0 :: r, lps, 0, 0, acts⟩ : Ma) _ (by simp [exec, ho, Ma.push, isBin, bin, tr, big, h]) ⟨⟨wi.symm, rfl, rfl, rfl, rfl, rfl, rs.push, Nat.le_refl _, rp, hln, rfl, rfl⟩, hact, wf, rfl⟩)))
 refine Runs.ite (fun ho => ?_) fun no13 => ?_
 ·replace ho : op i = 13 := ho
  unfold Step_c
  dsimp only
  unfold notA t_notA
  dsimp only [uz0, ux2, uz3, ux5, uz7, uz11, ux16, ux18, ux21, ux23]
  have hd1 : 1 ≤ D i := by rw [ho] at hb; simp [Cv.leftB] at hb; omega
  obtain ⟨a, r, rfl⟩ := one_of (l := stk) (by omega)
  obtain ⟨k, rfl, ha, rs⟩ := rs.pop
  have w1 := wsub (k := k) (by omega)
  simp only [Int.toNat_natCast, Nat.zero_add, Nat.sub_zero, and_true, true_and, w1, ha]
  iterate 3 refine Runs.bpos (by first | omega | trivial) ?_
  refine Runs.bite (fun h => ?_) fun h => ?_
  ·have h : a = 0 := by simpa using h
   exact Runs.bpos (by unfold roomBound maxLen; omega) (Runs.bsome (Runs.some (hN (⟨(i : Int) + 1, 0, -1, mti, mvf, 1 :: r, lps, 0, 0, acts⟩ : Ma) _ (by simp [exec, ho, Ma.push, isBin, bin, tr, big, h]) ⟨⟨wi.symm, rfl, rfl, rfl, rfl, rfl, rs.push, Nat.le_refl _, rp, hln, rfl, rfl⟩, hact, wf, rfl⟩)))
  ·have h : ¬ a = 0 := by simpa using h
   exact Runs.bpos (by unfold roomBound maxLen; omega) (Runs.bsome (Runs.some (hN (⟨(i : Int) + 1, 0, -1, mti, mvf, 0 :: r, lps, 0, 0, acts⟩ : Ma) _ (by simp [exec, ho, Ma.push, isBin, bin, tr, big, h]) ⟨⟨wi.symm, rfl, rfl, rfl, rfl, rfl, rs.push, Nat.le_refl _, rp, hln, rfl, rfl⟩, hact, wf, rfl⟩)))
 refine Runs.ite (fun ho => ?_) fun no14 => ?_
 ·replace ho : op i = 14 := ho
  unfold Step_c
  dsimp only
  unfold jumpA t_jumpA
  dsimp only [uz0, ux2, uz3, ux5, uz7, uz11, ux16, ux18, ux21, ux23]
  exact Runs.bsome (Runs.some (hN (⟨ar i, 0, -1, mti, mvf, stk, lps, 0, 0, acts⟩ : Ma) _ (by simp [exec, ho, Ma.push, Ma.go, Ma.fin, Ma.emit, isBin, bin]) ⟨⟨rfl, rfl, rfl, rfl, rfl, rfl, rs, hsn, rp, hln, rfl, rfl⟩, hact, wf, rfl⟩))
 refine Runs.ite (fun ho => ?_) fun no15 => ?_
 ·replace ho : op i = 15 := ho
  unfold Step_c
  dsimp only
  unfold unlessA t_unlessA
  dsimp only [uz0, ux2, uz3, ux5, uz7, uz11, ux16, ux18, ux21, ux23]
  have hd1 : 1 ≤ D i := by rw [ho] at hb; simp [Cv.leftB] at hb; omega
  obtain ⟨a, r, rfl⟩ := one_of (l := stk) (by omega)
  obtain ⟨k, rfl, ha, rs⟩ := rs.pop
  have w1 := wsub (k := k) (by omega)
  simp only [Int.toNat_natCast, Nat.zero_add, Nat.sub_zero, and_true, true_and, w1, ha]
  iterate 3 refine Runs.bpos (by first | omega | trivial) ?_
  refine Runs.bite (fun h => ?_) fun h => ?_
  ·have h : a = 0 := by simpa using h
   exact Runs.bsome (Runs.some (hN (⟨ar i, 0, -1, mti, mvf, r, lps, 0, 0, acts⟩ : Ma) _ (by simp [exec, ho, Ma.push, Ma.go, Ma.fin, Ma.emit, isBin, bin, h]) ⟨⟨rfl, rfl, rfl, rfl, rfl, rfl, rs, by first | omega | (dsimp only; omega), rp, hln, rfl, rfl⟩, hact, wf, rfl⟩))
  ·have h : ¬ a = 0 := by simpa using h
   exact Runs.bsome (Runs.some (hN (⟨(i : Int) + 1, 0, -1, mti, mvf, r, lps, 0, 0, acts⟩ : Ma) _ (by simp [exec, ho, Ma.push, Ma.go, Ma.fin, Ma.emit, isBin, bin, h]) ⟨⟨wi.symm, rfl, rfl, rfl, rfl, rfl, rs, by first | omega | (dsimp only; omega), rp, hln, rfl, rfl⟩, hact, wf, rfl⟩))
 refine Runs.ite (fun ho => ?_) fun no16 => ?_
 ·replace ho : op i = 16 := ho
  unfold Step_c
  dsimp only
  unfold repeat_A t_repeat_A
  dsimp only [uz0, ux2, uz3, ux5, uz7, uz11, ux16, ux18, ux21, ux23]
  simp only [wi]
  exact Runs.bpos (by unfold roomBound maxLen; omega) (Runs.bsome (Runs.some (hN (⟨(i : Int) + 1, 0, -1, mti, mvf, stk, ((i : Int) + 1, ar i) :: lps, 0, 0, acts⟩ : Ma) _ (by simp [exec, ho, Ma.push, Ma.go, Ma.fin, Ma.emit, isBin, bin]) ⟨⟨rfl, rfl, rfl, rfl, rfl, rfl, rs, hsn, rp.push, Nat.le_refl _, rfl, rfl⟩, hact, wf, rfl⟩)))
 refine Runs.ite (fun ho => ?_) fun no17 => ?_
 ·replace ho : op i = 17 := ho
  unfold Step_c
  dsimp only
  unfold nextA t_nextA
  dsimp only [uz0, ux2, uz3, ux5, uz7, uz11, ux16, ux18, ux21, ux23]
  have hlc := (hv.ok.lv.loc i hi).c17 ho
  obtain ⟨⟨p, c⟩, r, rfl⟩ : ∃ q r, lps = q :: r := by
   cases lps with
   | nil => exact absurd hc hlc.1
   | cons q r => exact ⟨q, r, rfl⟩
  obtain ⟨h1, h2, h3, h4, h5⟩ := hc
  obtain ⟨k, rfl, hp1, hc1, rp⟩ := rp.pop
  have w1 := wsub (k := k) (by omega)
  have w2 : w (c - 1) = c - 1 := w_in (by unfold inR; omega)
  simp only [Int.toNat_natCast, Nat.zero_add, Nat.sub_zero, and_true, true_and, w1, hc1, w2, if_true, hp1]
  iterate 6 refine Runs.bpos (by first | omega | trivial) ?_
  refine Runs.bite (fun h => ?_) fun h => ?_
  ·have h : 0 < c - 1 := by simpa using h
   iterate 2 refine Runs.bpos (by first | omega | trivial) ?_
   exact Runs.bsome (Runs.some (hN (⟨p, 0, -1, mti, mvf, stk, (p, c - 1) :: r, 0, 0, acts⟩ : Ma) _ (by simp [exec, ho, Ma.push, Ma.go, Ma.fin, Ma.emit, isBin, bin, h, Int.sub_pos.1 h]) ⟨⟨rfl, rfl, rfl, rfl, rfl, rfl, rs, hsn, rp.dec hp1, hln, rfl, rfl⟩, hact, wf, rfl⟩))
  ·have h : ¬ 0 < c - 1 := by simpa using h
   exact Runs.bpos (by first | omega | trivial) (Runs.bsome (Runs.some (hN (⟨(i : Int) + 1, 0, -1, mti, mvf, stk, r, 0, 0, acts⟩ : Ma) _ (by simp [exec, ho, Ma.push, Ma.go, Ma.fin, Ma.emit, isBin, bin, show ¬ (0 < c - 1) from h, show ¬ (1 < c) by omega]) ⟨⟨wi.symm, rfl, rfl, rfl, rfl, rfl, rs, hsn, rp.drop, by first | omega | (dsimp only; omega), rfl, rfl⟩, hact, wf, rfl⟩)))
 refine Runs.ite (fun ho => ?_) fun no18 => ?_
 ·replace ho : op i = 18 := ho
  unfold Step_c
  dsimp only
  unfold waitA t_waitA
  dsimp only [uz0, ux2, uz3, ux5, uz7, uz11, ux16, ux18, ux21, ux23]
  rw [ho] at hrg
  have hrg : 0 ≤ ar i ∧ ar i ≤ 1000000 := by simpa [Cv.rngL, Cv.rngH] using hrg
  refine Runs.bite (fun h => ?_) fun h => ?_
  ·have h : 0 < ar i := by simpa using h
   have ws : w (ar i - 1) = ar i - 1 := w_in (by unfold inR; omega)
   exact Runs.bsome (Runs.some (hD (⟨(i : Int) + 1, ar i - 1, -1, mti, mvf, stk, lps, 0, 0, acts⟩ : Ma) _ (by simp [exec, ho, Ma.push, Ma.go, Ma.fin, Ma.emit, isBin, bin, h]) (.rest1 ⟨wi.symm, ws.symm, rfl, rfl, rfl, rfl, rs, hsn, rp, hln, rfl, rfl⟩ hact)))
  ·have h : ¬ 0 < ar i := by simpa using h
   exact Runs.bsome (Runs.some (hN (⟨(i : Int) + 1, 0, -1, mti, mvf, stk, lps, 0, 0, acts⟩ : Ma) _ (by simp [exec, ho, Ma.push, Ma.go, Ma.fin, Ma.emit, isBin, bin, h]) ⟨⟨wi.symm, rfl, rfl, rfl, rfl, rfl, rs, hsn, rp, hln, rfl, rfl⟩, hact, wf, rfl⟩))
 refine Runs.ite (fun ho => ?_) fun no19 => ?_
 ·replace ho : op i = 19 := ho
  unfold Step_c
  dsimp only
  unfold deadlineA t_deadlineA
  dsimp only [uz0, ux2, uz3, ux5, uz7, uz11, ux16, ux18, ux21, ux23]
  exact Runs.bsome (Runs.some (hN (⟨(i : Int) + 1, 0, -1, ar i, mvf, stk, lps, 0, 0, acts⟩ : Ma) _ (by simp [exec, ho, Ma.push, Ma.go, Ma.fin, Ma.emit, isBin, bin]) ⟨⟨wi.symm, rfl, rfl, rfl, rfl, rfl, rs, hsn, rp, hln, rfl, rfl⟩, hact, wf, rfl⟩))
 refine Runs.ite (fun ho => ?_) fun no20 => ?_
 ·replace ho : op i = 20 := ho
  unfold Step_c
  dsimp only
  unfold pollA t_pollA
  dsimp only [uz0, ux2, uz3, ux5, uz7, uz11, ux16, ux18, ux21, ux23]
  have hd1 : 1 ≤ D i := by rw [ho] at hb; simp [Cv.leftB] at hb; omega
  obtain ⟨a, r, rfl⟩ := one_of (l := stk) (by omega)
  obtain ⟨k, rfl, ha, rs⟩ := rs.pop
  have w1 := wsub (k := k) (by omega)
  simp only [Int.toNat_natCast, Nat.zero_add, Nat.sub_zero, and_true, true_and, w1, ha]
  iterate 3 refine Runs.bpos (by first | omega | trivial) ?_
  refine Runs.bite (fun h => ?_) fun h => ?_
  ·have h : ¬ a = 0 := by simpa using h
   exact Runs.bsome (Runs.some (hN (⟨(i : Int) + 1, 0, -1, -1, mvf, r, lps, 0, 0, acts⟩ : Ma) _ (by simp [exec, ho, Ma.push, Ma.go, Ma.fin, Ma.emit, isBin, bin, h]) ⟨⟨wi.symm, rfl, rfl, rfl, rfl, rfl, rs, by first | omega | (dsimp only; omega), rp, hln, rfl, rfl⟩, hact, wf, rfl⟩))
  ·have h : a = 0 := by simpa using h
   refine Runs.bite (fun g => ?_) fun g => ?_
   ·have g : mti = 0 := by simpa using g
    exact Runs.bsome (Runs.some (hD (⟨(i : Int), 0, -1, -1, mvf, [], [], 2, 1001, acts⟩ : Ma) _ (by simp [exec, ho, Ma.push, Ma.go, Ma.fin, Ma.emit, isBin, bin, h, g]) (.fin1 ⟨rfl, rfl, rfl, rfl, rfl, rfl, rfl, Nat.le_refl _, rfl, Nat.le_refl _, rfl, rfl⟩ hact)))
   ·have g : ¬ mti = 0 := by simpa using g
    have ws : w (mti - 1) = mti - 1 := w_in (by unfold inR; omega)
    exact Runs.bsome (Runs.some (hD (⟨ar i, 0, -1, mti - 1, mvf, r, lps, 0, 0, acts⟩ : Ma) _ (by simp [exec, ho, Ma.push, Ma.go, Ma.fin, Ma.emit, isBin, bin, h, g]) (.rest1 ⟨rfl, rfl, rfl, ws.symm, rfl, rfl, rs, by first | omega | (dsimp only; omega), rp, hln, rfl, rfl⟩ hact)))
 refine Runs.ite (fun ho => ?_) fun no21 => ?_
 ·replace ho : op i = 21 := ho
  unfold Step_c
  dsimp only
  unfold require_A t_require_A
  dsimp only [uz0, ux2, uz3, ux5, uz7, uz11, ux16, ux18, ux21, ux23]
  have hd1 : 1 ≤ D i := by rw [ho] at hb; simp [Cv.leftB] at hb; omega
  obtain ⟨a, r, rfl⟩ := one_of (l := stk) (by omega)
  obtain ⟨k, rfl, ha, rs⟩ := rs.pop
  have w1 := wsub (k := k) (by omega)
  simp only [Int.toNat_natCast, Nat.zero_add, Nat.sub_zero, and_true, true_and, w1, ha]
  iterate 3 refine Runs.bpos (by first | omega | trivial) ?_
  refine Runs.bite (fun h => ?_) fun h => ?_
  ·have h : a = 0 := by simpa using h
   exact Runs.bsome (Runs.some (hD (⟨(i : Int), 0, -1, -1, mvf, [], [], 2, 1000, acts⟩ : Ma) _ (by simp [exec, ho, Ma.push, Ma.go, Ma.fin, Ma.emit, isBin, bin, h]) (.fin1 ⟨rfl, rfl, rfl, rfl, rfl, rfl, rfl, Nat.le_refl _, rfl, Nat.le_refl _, rfl, rfl⟩ hact)))
  ·have h : ¬ a = 0 := by simpa using h
   exact Runs.bsome (Runs.some (hN (⟨(i : Int) + 1, 0, -1, mti, mvf, r, lps, 0, 0, acts⟩ : Ma) _ (by simp [exec, ho, Ma.push, Ma.go, Ma.fin, Ma.emit, isBin, bin, h]) ⟨⟨wi.symm, rfl, rfl, rfl, rfl, rfl, rs, by first | omega | (dsimp only; omega), rp, hln, rfl, rfl⟩, hact, wf, rfl⟩))
 refine Runs.ite (fun ho => ?_) fun no22 => ?_
 ·replace ho : op i = 22 := ho
  unfold Step_c
  dsimp only
  unfold pointA t_pointA
  dsimp only [uz0, ux2, uz3, ux5, uz7, uz11, ux16, ux18, ux21, ux23]
  have hd1 : 1 ≤ D i := by rw [ho] at hb; simp [Cv.leftB] at hb; omega
  obtain ⟨a, r, rfl⟩ := one_of (l := stk) (by omega)
  obtain ⟨k, rfl, ha, rs⟩ := rs.pop
  have w1 := wsub (k := k) (by omega)
  simp only [Int.toNat_natCast, Nat.zero_add, Nat.sub_zero, and_true, true_and, w1, ha]
  iterate 3 refine Runs.bpos (by first | omega | trivial) ?_
  exact Runs.bpos (by unfold roomBound maxLen; omega) (Runs.bsome (Runs.some (hD (⟨(i : Int) + 1, 0, -1, mti, mvf, r, lps, 0, 0, acts ++ [(1, a, 0)]⟩ : Ma) _ (by simp [exec, ho, Ma.push, Ma.go, Ma.fin, Ma.emit, isBin, bin]) (.rest1 ⟨wi.symm, rfl, rfl, rfl, rfl, rfl, rs, by first | omega | (dsimp only; omega), rp, hln, rfl, rfl⟩ hact.snoc))))
 refine Runs.ite (fun ho => ?_) fun no23 => ?_
 ·replace ho : op i = 23 := ho
  unfold Step_c
  dsimp only
  unfold use_A t_use_A
  dsimp only [uz0, ux2, uz3, ux5, uz7, uz11, ux16, ux18, ux21, ux23]
  rw [ho] at hrg
  have hrg : 0 ≤ ar i ∧ ar i ≤ 7999999 := by simpa [Cv.rngL, Cv.rngH] using hrg
  have e1 : Int.tmod (ar i) 1000000 = ar i % 1000000 := Int.tmod_eq_emod_of_nonneg hrg.1
  have e2 : Int.tdiv (ar i) 1000000 = ar i / 1000000 := Int.tdiv_eq_ediv_of_nonneg hrg.1
  have w1 : w (Int.tmod (ar i) 1000000 - 1) = Int.tmod (ar i) 1000000 - 1 := w_in (by unfold inR; omega)
  have w2 : w (Int.tdiv (ar i) 1000000) = Int.tdiv (ar i) 1000000 := w_in (by unfold inR; omega)
  simp only [Int.toNat_natCast, w1, w2]
  refine Runs.bite (fun h => ?_) fun h => ?_
  ·have h : 0 < Int.tmod (ar i) 1000000 := by simpa using h
   refine Runs.bpos (by simpa using h) ?_
   refine Runs.bpos (by unfold roomBound maxLen; omega) ?_
   refine Runs.bite (fun g => ?_) fun g => ?_
   ·have g : 0 < Int.tmod (ar i) 1000000 - 1 := by simpa using g
    exact Runs.bsome (Runs.some (hD (⟨(i : Int) + 1, Int.tmod (ar i) 1000000 - 1, Int.tdiv (ar i) 1000000, mti, mvf, stk, lps, 0, 0, acts ++ [(2, Int.tdiv (ar i) 1000000, 0)]⟩ : Ma) _ (by simp only [exec, ho, Ma.emit, isBin]; simp [h, g, Int.sub_pos.1 g]) (.rest1 ⟨wi.symm, rfl, rfl, rfl, rfl, rfl, rs, hsn, rp, hln, rfl, rfl⟩ hact.snoc)))
   ·have g : ¬ 0 < Int.tmod (ar i) 1000000 - 1 := by simpa using g
    exact Runs.bsome (Runs.some (hD (⟨(i : Int) + 1, Int.tmod (ar i) 1000000 - 1, -1, mti, mvf, stk, lps, 0, 0, acts ++ [(2, Int.tdiv (ar i) 1000000, 0)]⟩ : Ma) _ (by simp only [exec, ho, Ma.emit, isBin]; simp [h, g, show ¬ (1 < Int.tmod (ar i) 1000000) by omega]) (.rest1 ⟨wi.symm, rfl, rfl, rfl, rfl, rfl, rs, hsn, rp, hln, rfl, rfl⟩ hact.snoc)))
  ·have h : ¬ 0 < Int.tmod (ar i) 1000000 := by simpa using h
   exact Runs.bneg (by simpa using h) (Runs.bneg (by simp) (Runs.bsome (Runs.some (hN (⟨(i : Int) + 1, 0, -1, mti, mvf, stk, lps, 0, 0, acts⟩ : Ma) _ (by simp [exec, ho, Ma.push, Ma.go, Ma.fin, Ma.emit, isBin, bin, h]) ⟨⟨wi.symm, rfl, rfl, rfl, rfl, rfl, rs, hsn, rp, hln, rfl, rfl⟩, hact, wf, rfl⟩))))
 refine Runs.ite (fun ho => ?_) fun no24 => ?_
 ·replace ho : op i = 24 := ho
  unfold Step_c
  dsimp only
  unfold sendA t_sendA
  dsimp only [uz0, ux2, uz3, ux5, uz7, uz11, ux16, ux18, ux21, ux23]
  rw [ho] at hrg
  have hrg : 0 ≤ ar i ∧ ar i ≤ 2147483647 := by simpa [Cv.rngL, Cv.rngH] using hrg
  have e2 : Int.tdiv (ar i) 8 = ar i / 8 := Int.tdiv_eq_ediv_of_nonneg hrg.1
  have w2 : w (Int.tdiv (ar i) 8) = Int.tdiv (ar i) 8 := w_in (by unfold inR; omega)
  simp only [Int.toNat_natCast, w2]
  exact Runs.bpos (by unfold roomBound maxLen; omega) (Runs.bsome (Runs.some (hN (⟨(i : Int) + 1, 0, -1, mti, mvf, stk, lps, 0, 0, acts ++ [(3, Int.tdiv (ar i) 8, Int.tmod (ar i) 8)]⟩ : Ma) _ (by simp [exec, ho, Ma.push, Ma.go, Ma.fin, Ma.emit, isBin, bin]) ⟨⟨wi.symm, rfl, rfl, rfl, rfl, rfl, rs, hsn, rp, hln, rfl, rfl⟩, hact.snoc, wf, rfl⟩)))
 refine Runs.ite (fun ho => ?_) fun no25 => ?_
 ·replace ho : op i = 25 := ho
  unfold Step_c
  dsimp only
  unfold keep_A t_keep_A
  dsimp only [uz0, ux2, uz3, ux5, uz7, uz11, ux16, ux18, ux21, ux23]
  exact Runs.bpos (by unfold roomBound maxLen; omega) (Runs.bsome (Runs.some (hN (⟨(i : Int) + 1, 0, -1, mti, mvf, stk, lps, 0, 0, acts ++ [(4, ar i, 0)]⟩ : Ma) _ (by simp [exec, ho, Ma.push, Ma.go, Ma.fin, Ma.emit, isBin, bin]) ⟨⟨wi.symm, rfl, rfl, rfl, rfl, rfl, rs, hsn, rp, hln, rfl, rfl⟩, hact.snoc, wf, rfl⟩)))
 refine Runs.ite (fun ho => ?_) fun no26 => ?_
 ·replace ho : op i = 26 := ho
  unfold Step_c
  dsimp only
  unfold eventA t_eventA
  dsimp only [uz0, ux2, uz3, ux5, uz7, uz11, ux16, ux18, ux21, ux23]
  exact Runs.bpos (by unfold roomBound maxLen; omega) (Runs.bsome (Runs.some (hN (⟨(i : Int) + 1, 0, -1, mti, mvf, stk, lps, 0, 0, acts ++ [(5, ar i, 0)]⟩ : Ma) _ (by simp [exec, ho, Ma.push, Ma.go, Ma.fin, Ma.emit, isBin, bin]) ⟨⟨wi.symm, rfl, rfl, rfl, rfl, rfl, rs, hsn, rp, hln, rfl, rfl⟩, hact.snoc, wf, rfl⟩)))
 refine Runs.ite (fun ho => ?_) fun no27 => ?_
 ·replace ho : op i = 27 := ho
  unfold Step_c
  dsimp only
  unfold abortA t_abortA
  dsimp only [uz0, ux2, uz3, ux5, uz7, uz11, ux16, ux18, ux21, ux23]
  exact Runs.bsome (Runs.some (hD (⟨(i : Int), 0, -1, -1, mvf, [], [], 2, (ar i), acts⟩ : Ma) _ (by simp [exec, ho, Ma.push, Ma.go, Ma.fin, Ma.emit, isBin, bin]) (.fin1 ⟨rfl, rfl, rfl, rfl, rfl, rfl, rfl, Nat.le_refl _, rfl, Nat.le_refl _, rfl, rfl⟩ hact)))
 refine Runs.ite (fun ho => ?_) fun no28 => ?_
 ·replace ho : op i = 28 := ho
  unfold Step_c
  dsimp only
  unfold stopA t_stopA
  dsimp only [uz0, ux2, uz3, ux5, uz7, uz11, ux16, ux18, ux21, ux23]
  exact Runs.bsome (Runs.some (hD (⟨(i : Int), 0, -1, -1, mvf, [], [], 1, 0, acts⟩ : Ma) _ (by simp [exec, ho, Ma.push, Ma.go, Ma.fin, Ma.emit, isBin, bin]) (.fin1 ⟨rfl, rfl, rfl, rfl, rfl, rfl, rfl, Nat.le_refl _, rfl, Nat.le_refl _, rfl, rfl⟩ hact)))
 exfalso
 have no1 : ¬ op i = 1 := no1
 have no2 : ¬ op i = 2 := no2
 have no3 : ¬ op i = 3 := no3
 have no4 : ¬ op i = 4 := no4
 have no5 : ¬ op i = 5 := no5
 have no6 : ¬ op i = 6 := no6
 have no7 : ¬ op i = 7 := no7
 have no8 : ¬ op i = 8 := no8
 have no9 : ¬ op i = 9 := no9
 have no10 : ¬ op i = 10 := no10
 have no11 : ¬ op i = 11 := no11
 have no12 : ¬ op i = 12 := no12
 have no13 : ¬ op i = 13 := no13
 have no14 : ¬ op i = 14 := no14
 have no15 : ¬ op i = 15 := no15
 have no16 : ¬ op i = 16 := no16
 have no17 : ¬ op i = 17 := no17
 have no18 : ¬ op i = 18 := no18
 have no19 : ¬ op i = 19 := no19
 have no20 : ¬ op i = 20 := no20
 have no21 : ¬ op i = 21 := no21
 have no22 : ¬ op i = 22 := no22
 have no23 : ¬ op i = 23 := no23
 have no24 : ¬ op i = 24 := no24
 have no25 : ¬ op i = 25 := no25
 have no26 : ¬ op i = 26 := no26
 have no27 : ¬ op i = 27 := no27
 have no28 : ¬ op i = 28 := no28
 omega
end Go.Proofs.YthkioinnobiieaaGreatDoor
/- vm.Step: what it does, on the whole. -/
namespace Go.Proofs.YthkioinnobiieaaGreatDoor
open Go Go.Am Go.Proofs
set_option linter.unusedSimpArgs false
set_option linter.unusedVariables false
set_option maxRecDepth 100000
set_option maxHeartbeats 4000000
def okAct (x : Int × Int × Int) : Prop := 1 ≤ x.1 ∧ x.1 ≤ 5
theorem exec_acts (o a : Int) (tlm : Nat → Int) (m : Ma) : (exec o a tlm m).1.acts = m.acts ∨ ∃ x, okAct x ∧ (exec o a tlm m).1.acts = m.acts ++ [x] := by
 let G : Ma × Bool → Prop := fun r => r.1.acts = m.acts ∨ ∃ x, okAct x ∧ r.1.acts = m.acts ++ [x]
 show G (exec o a tlm m)
 have hi : ∀ (c : Prop) [Decidable c] (x y : Ma × Bool), G x → G y → G (if c then x else y) := fun c _ x y h1 h2 => by
  by_cases h : c
  ·rw [if_pos h]; exact h1
  ·rw [if_neg h]; exact h2
 have key : ∀ (stk : List Int) (lps : List (Int × Int)), m.stk = stk → m.lps = lps → G (exec o a tlm m) := by
  intro stk lps hs hl
  unfold exec Ma.push Ma.go
  rcases stk with _ | ⟨x, _ | ⟨y, r⟩⟩ <;> rcases lps with _ | ⟨⟨p, c⟩, q⟩ <;> simp only [hs, hl]
  all_goals repeat' refine hi _ _ _ ?_ ?_
  all_goals first
   | exact .inl rfl
   | exact .inr ⟨_, ⟨(by decide : (1 : Int) ≤ 1), (by decide : (1 : Int) ≤ 5)⟩, rfl⟩
   | exact .inr ⟨_, ⟨(by decide : (1 : Int) ≤ 2), (by decide : (2 : Int) ≤ 5)⟩, rfl⟩
   | exact .inr ⟨_, ⟨(by decide : (1 : Int) ≤ 3), (by decide : (3 : Int) ≤ 5)⟩, rfl⟩
   | exact .inr ⟨_, ⟨(by decide : (1 : Int) ≤ 4), (by decide : (4 : Int) ≤ 5)⟩, rfl⟩
   | exact .inr ⟨_, ⟨(by decide : (1 : Int) ≤ 5), (by decide : (5 : Int) ≤ 5)⟩, rfl⟩
 exact key _ _ rfl rfl
structure AcOk (m : Ma) (k : Nat) : Prop where
 len : m.acts.length ≤ k
 ok : ∀ x ∈ m.acts, okAct x
theorem exec_ac {o a : Int} {tlm : Nat → Int} {m : Ma} {k : Nat} (h : AcOk m k) : AcOk (exec o a tlm m).1 (k + 1) := by
 rcases exec_acts o a tlm m with e | ⟨x, hx, e⟩
 ·exact ⟨by rw [e]; have := h.len; omega, by rw [e]; exact h.ok⟩
 ·refine ⟨by rw [e]; simp; exact h.len, fun y hy => ?_⟩
  rw [e] at hy
  rcases List.mem_append.1 hy with hy | hy
  ·exact h.ok y hy
  ·rw [List.mem_singleton.1 hy]; exact hx
theorem runM_ok {n : Nat} {vs : Int} {op ar D l v tlm : Nat → Int} (hv : Vd n vs op ar D l v) : ∀ (k : Nat) (m : Ma) (i a : Nat), At n vs D l v i m → AcOk m a → (∃ j, Rn n vs D l v j (runM op ar tlm k m)) ∧ AcOk (runM op ar tlm k m) (a + k) := by
  intro k
  induction k with
  | zero =>
    intro m i a h ha
    rcases Out.fin (D := D) (l := l) (v := v) h.pc h.lt h.vars (s := 2) (k := 1003) (by decide) with ⟨g, _⟩ | ⟨_, j, g⟩
    · cases g
    · exact ⟨⟨j, g⟩, ⟨ha.len, ha.ok⟩⟩
  | succ k ih =>
    intro m i a h ha
    have ho := exec_ok hv h tlm
    have hx := exec_ac (o := op i) (a := ar i) (tlm := tlm) ha
    have hp : m.pc.toNat = i := by rw [h.pc]; exact Int.toNat_natCast i
    rw [runM, hp]
    generalize he : exec (op i) (ar i) tlm m = r at ho hx
    obtain ⟨m', b⟩ := r
    rcases ho with ⟨hb, j, g⟩ | ⟨hb, j, g⟩
    · have hb : b = false := hb
      subst hb
      obtain ⟨g1, g2⟩ := ih m' j (a + 1) g hx
      exact ⟨g1, ⟨by have := g2.len; show (runM op ar tlm k m').acts.length ≤ a + (k + 1); omega, g2.ok⟩⟩
    · have hb : b = true := hb
      subst hb
      exact ⟨⟨j, g⟩, ⟨by have : m'.acts.length ≤ a + 1 := hx.len
                         show m'.acts.length ≤ a + (k + 1)
                         omega, hx.ok⟩⟩
def stepM (op ar tlm : Nat → Int) (m : Ma) : Ma :=
 if m.st ≠ 0 then m
 else if 0 < m.sleep then ⟨m.pc, m.sleep - 1, if m.sleep - 1 = 0 then -1 else m.use, m.til, m.vars, m.stk, m.lps, m.st, m.cd, if m.use ≠ -1 then [(2, m.use, 0)] else []⟩
 else runM op ar tlm 200 m
theorem stepM_ok {n : Nat} {vs : Int} {op ar D l v tlm : Nat → Int} (hv : Vd n vs op ar D l v) {m : Ma} {i : Nat} (h : Rn n vs D l v i m) (ha : m.acts = []) :
 (∃ j, Rn n vs D l v j (stepM op ar tlm m)) ∧ AcOk (stepM op ar tlm m) 200 := by
 unfold stepM
 by_cases hs : m.st ≠ 0
 ·rw [if_pos hs]
  exact ⟨⟨i, h⟩, ⟨by rw [ha]; exact Nat.zero_le _, by rw [ha]; intro x hx; cases hx⟩⟩
 rw [if_neg hs]
 have hs : m.st = 0 := Classical.not_not.1 hs
 obtain ⟨a1, a2, a3, a4, a5⟩ := h.act hs
 by_cases hp : 0 < m.sleep
 ·rw [if_pos hp]
  have hsl := h.sleep
  refine ⟨⟨i, ⟨h.pc, h.lt, h.stk, h.vars, by show 0 ≤ m.sleep - 1 ∧ m.sleep - 1 ≤ 1000000; omega, ?_, h.til, fun _ => ⟨a1, a2, a3, fun g => ?_, a5⟩, fun g => absurd hs g⟩⟩, ?_⟩
  ·show -1 ≤ (if m.sleep - 1 = 0 then -1 else m.use) ∧ (if m.sleep - 1 = 0 then -1 else m.use) < 8
   have := h.use
   split <;> omega
  ·show (if m.sleep - 1 = 0 then -1 else m.use) = -1
   exact if_pos g
  ·by_cases hu : m.use ≠ -1
   ·refine ⟨by show (if m.use ≠ -1 then [(2, m.use, 0)] else []).length ≤ 200; rw [if_pos hu]; simp, ?_⟩
    show ∀ x ∈ (if m.use ≠ -1 then [((2 : Int), m.use, (0 : Int))] else []), okAct x
    rw [if_pos hu]
    intro x hx
    rw [List.mem_singleton.1 hx]
    exact ⟨(by decide : (1 : Int) ≤ 2), (by decide : (2 : Int) ≤ 5)⟩
   ·refine ⟨by show (if m.use ≠ -1 then [(2, m.use, 0)] else []).length ≤ 200; rw [if_neg hu]; simp, ?_⟩
    show ∀ x ∈ (if m.use ≠ -1 then [((2 : Int), m.use, (0 : Int))] else []), okAct x
    rw [if_neg hu]
    intro x hx; cases hx
 ·rw [if_neg hp]
  have hsl := h.sleep
  have hs0 : m.sleep = 0 := by omega
  have hat : At n vs D l v i m := ⟨h.pc, h.lt, by rw [h.stk, a5]; rfl, a2, a3, h.til, hs, a1, hs0, a4 hs0, h.vars, by rw [h.stk]; intro x hx; cases hx⟩
  have := runM_ok hv (tlm := tlm) 200 m i 0 hat ⟨by rw [ha]; exact Nat.le_refl _, by rw [ha]; intro x hx; cases hx⟩
  exact ⟨this.1, ⟨by have := this.2.len; omega, this.2.ok⟩⟩
inductive RelO (vn0 : Nat) (m : Ma) : Step_l0_g → Prop
 | ended {z : Step_l0_g} : RelZ vn0 m z → RelO vn0 m z
 | out0 {m0 : Ma} {pc sp us ti : Int} {vn sk lk : Nat} {stt cde t0 t1 t2 t3 t4 t5 : Int} {vf : Nat → Int} {sn : Nat} {sf : Nat → Int} {ln : Nat} {la lb : Nat → Int} : m = m0.fin 2 1003 → Rw vn0 m0 pc sp us ti vn vf sk sn sf lk ln la lb stt cde → m0.acts = [] → RelO vn0 m (.inr (.inr (.inr (.inl (pc, sp, us, ti, vn, sk, lk, stt, cde, t0, t1, t2, t3, t4, t5, vf, sn, sf, ln, la, lb)))))
 | out1 {m0 : Ma} {an : Nat} {ax ay az : Nat → Int} {pc sp us ti : Int} {vn sk lk : Nat} {stt cde t0 t1 t2 t3 t4 t5 : Int} {vf : Nat → Int} {sn : Nat} {sf : Nat → Int} {ln : Nat} {la lb : Nat → Int} : m = m0.fin 2 1003 → Rw vn0 m0 pc sp us ti vn vf sk sn sf lk ln la lb stt cde → RA ax ay az an m0.acts → RelO vn0 m (.inr (.inr (.inr (.inr (.inr (an, ax, ay, az, pc, sp, us, ti, vn, sk, lk, stt, cde, t0, t1, t2, t3, t4, t5, vf, sn, sf, ln, la, lb))))))
theorem loop_runs {q0 n vn0 : Nat} {nm : ByteArray} {ps vs : Int} {op ar D l v : Nat → Int} {rest : Int × Int × Int × Int × Nat × (Nat → Int) × Nat × (Nat → Int) × Nat × (Nat → Int) × (Nat → Int) × Int × Int × Int × Int × Int × Int × Int × Int} {t : T6} (hv : Vd n vs op ar D l v) (hvn : (vn0 : Int) = vs) :
 ∀ (k q i : Nat) (fu : Int) (m : Ma) (y : Step_l0_a), fu + k = 200 → 0 ≤ fu → k < q → At n vs D l v i m → RelY vn0 fu t m y → AcOk m fu.toNat →
  Runs (Step_l0 (Step_c q0) q (nm, ps, vs, n, op, ar, rest) y) (fun z => RelO vn0 (runM op ar (tlmF t) k m) z) := by
 intro k
 induction k with
 | zero =>
  intro q i fu m y hfu h0 hq hA hR hac
  obtain ⟨q, rfl⟩ : ∃ k, q = k + 1 := ⟨q - 1, by omega⟩
  refine lp_step3 fun Q hQ => ?_
  rcases y with ⟨vn, sk, lk, vf, sf, la, lb, fuel, pc, sp, us, ti, stt, cde, t0, t1, t2, t3, t4, t5, ln, sn⟩ | ⟨ay, pc, sp, us, ti, vn, sk, lk, stt, cde, t0, t1, t2, t3, t4, t5, vf, sn, sf, ln, la, lb, ax, az, fuel, an⟩
  ·obtain ⟨hrw, hacs, e1, e2⟩ := hR
   simp only [Sum.elim_inl]
   unfold Step_l0_t0
   have e1 : fuel = fu := e1
   exact Runs.if_neg (by simp only [decide_eq_true_eq]; omega) (Runs.some (.out0 rfl hrw hacs))
  ·obtain ⟨hrw, hacs, e1, e2⟩ := hR
   simp only [Sum.elim_inr]
   unfold Step_l0_t1
   have e1 : fuel = fu := e1
   exact Runs.if_neg (by simp only [decide_eq_true_eq]; omega) (Runs.some (.out1 rfl hrw hacs))
 | succ k ih =>
  intro q i fu m y hfu h0 hq hA hR hac
  obtain ⟨q, rfl⟩ : ∃ k, q = k + 1 := ⟨q - 1, by omega⟩
  refine lp_step3 fun Q hQ => ?_
  have hp : m.pc.toNat = i := by rw [hA.pc]; exact Int.toNat_natCast i
  have hx := exec_ac (o := op i) (a := ar i) (tlm := tlmF t) hac
  have ho := exec_ok hv hA (tlmF t)
  have hN : ∀ m' y', exec (op i) (ar i) (tlmF t) m = (m', false) → RelY vn0 (fu + 1) t m' y' → Q y' := by
   intro m' y' he hy
   rw [he] at ho hx
   rcases ho with ⟨_, j, g⟩ | ⟨hb, _⟩
   ·refine hQ _ ((ih q j (fu + 1) m' y' (by omega) (by omega) (by omega) g hy (by rw [show (fu + 1).toNat = fu.toNat + 1 by omega]; exact hx)).mono fun z hz => ?_)
    rw [runM, hp, he]; exact hz
   ·cases hb
  have hD : ∀ m' z, exec (op i) (ar i) (tlmF t) m = (m', true) → RelZ vn0 m' z → RelO vn0 (runM op ar (tlmF t) (k + 1) m) z := by
   intro m' z he hz
   rw [runM, hp, he]; exact .ended hz
  have hacl : (m.acts.length : Int) ≤ fu := by have := hac.len; omega
  rcases y with ⟨vn, sk, lk, vf, sf, la, lb, fuel, pc, sp, us, ti, stt, cde, t0, t1, t2, t3, t4, t5, ln, sn⟩ | ⟨ay, pc, sp, us, ti, vn, sk, lk, stt, cde, t0, t1, t2, t3, t4, t5, vf, sn, sf, ln, la, lb, ax, az, fuel, an⟩
  ·exact roundZ hv hA hR hvn (by omega) hacl hN hD
  ·exact roundA hv hA hR hvn (by omega) hacl hN hD
end Go.Proofs.YthkioinnobiieaaGreatDoor
/- vm.Step on a run that is in order: a tick of the machine. -/
namespace Go.Proofs.YthkioinnobiieaaGreatDoor
open Go Go.Am Go.Proofs
set_option linter.unusedSimpArgs false
set_option linter.unusedVariables false
set_option maxRecDepth 100000
set_option maxHeartbeats 4000000
def stkOf (f : Nat → Int) : Nat → List Int
 | 0 => []
 | k + 1 => f k :: stkOf f k
theorem stkOf_rs (f : Nat → Int) : ∀ k, RS f k (stkOf f k)
 | 0 => rfl
 | k + 1 => ⟨_, rfl, stkOf_rs f k⟩
def lpsOf (a b : Nat → Int) : Nat → List (Int × Int)
 | 0 => []
 | k + 1 => (a k, b k) :: lpsOf a b k
theorem lpsOf_rp (a b : Nat → Int) : ∀ k, RP a b k (lpsOf a b k)
 | 0 => rfl
 | k + 1 => ⟨_, rfl, lpsOf_rp a b k⟩
def maOf (x : RunT) : Ma := ⟨x.1, x.2.1, x.2.2.1, x.2.2.2.1, x.2.2.2.2.2.1, stkOf x.2.2.2.2.2.2.2.1 x.2.2.2.2.2.2.1, lpsOf x.2.2.2.2.2.2.2.2.2.1 x.2.2.2.2.2.2.2.2.2.2.1 x.2.2.2.2.2.2.2.2.1, x.2.2.2.2.2.2.2.2.2.2.2.1, x.2.2.2.2.2.2.2.2.2.2.2.2, []⟩
def rowS (l : List Int) : Nat → Int := fun j => l.getD (l.length - 1 - j) 0
theorem RS.row {f : Nat → Int} : ∀ {k : Nat} {l : List Int}, RS f k l → ∀ j, j < k → f j = rowS l j
 | 0, l, _, j, hj => by omega
 | k + 1, l, h, j, hj => by
  obtain ⟨r, rfl, h⟩ := h
  have hl := h.len
  by_cases e : j = k
  ·subst e; simp [rowS, hl]
  ·have := h.row j (by omega)
   rw [this]
   simp only [rowS, List.length_cons, hl]
   rw [show k + 1 - 1 - j = (k - 1 - j) + 1 by omega]
   rfl
def rowA (l : List (Int × Int)) : Nat → Int := fun j => (l.getD (l.length - 1 - j) (0, 0)).1
def rowB (l : List (Int × Int)) : Nat → Int := fun j => (l.getD (l.length - 1 - j) (0, 0)).2
theorem RP.row {a b : Nat → Int} : ∀ {k : Nat} {l : List (Int × Int)}, RP a b k l → ∀ j, j < k → a j = rowA l j ∧ b j = rowB l j
 | 0, l, _, j, hj => by omega
 | k + 1, l, h, j, hj => by
  obtain ⟨r, rfl, h⟩ := h
  have hl := h.len
  by_cases e : j = k
  ·subst e; simp [rowA, rowB, hl]
  ·have := h.row j (by omega)
   rw [this.1, this.2]
   simp only [rowA, rowB, List.length_cons, hl]
   rw [show k + 1 - 1 - j = (k - 1 - j) + 1 by omega]
   exact ⟨rfl, rfl⟩
def maT (vn : Nat) (m : Ma) : RunT := (m.pc, m.sleep, m.use, m.til, vn, m.vars, m.stk.length, rowS m.stk, m.lps.length, rowA m.lps, rowB m.lps, m.st, m.cd)
def actV (l : List (Int × Int × Int)) : V := .ro 3 l.length (fun j => [i64 (l.getD j (0, 0, 0)).1, i64 (l.getD j (0, 0, 0)).2.1, i64 (l.getD j (0, 0, 0)).2.2])
theorem RA.val {a b c : Nat → Int} {n : Nat} {l : List (Int × Int × Int)} (h : RA a b c n l) : Le (.ro 3 n (fun j => [i64 (a j), i64 (b j), i64 (c j)])) (actV l) := by
 unfold actV
 rw [h.1]
 refine Le.ro_eq fun j hj => ⟨?_, rfl⟩
 have := h.2 j hj
 simp only [List.getD_eq_getElem?_getD, this, Option.getD_some]
theorem Rw.val {vn0 : Nat} {m : Ma} {pc sp us ti : Int} {vn : Nat} {vf : Nat → Int} {sk sn : Nat} {sf : Nat → Int} {lk ln : Nat} {la lb : Nat → Int} {stt cde : Int} (h : Rw vn0 m pc sp us ti vn vf sk sn sf lk ln la lb stt cde) :
 Le (.agg [i64 pc, i64 sp, i64 us, i64 ti, .ro 1 vn (fun j => [i64 (vf j)]), .ro 1 sk (fun j => [i64 (sf j)]), .ro 2 lk (fun j => [i64 (la j), i64 (lb j)]), i64 stt, i64 cde]) (runV (maT vn0 m)) := by
 obtain ⟨mpc, msp, mus, mti, mvf, stk, lps, mst, mcd, acts⟩ := m
 obtain ⟨e1, e2, e3, e4, e5, e6, rs, hsn, rp, hln, e7, e8⟩ := h
 simp only at e1 e2 e3 e4 e5 e6 e7 e8 rs rp
 subst e1 e2 e3 e4 e5 e6 e7 e8
 have l1 := rs.len
 have l2 := rp.len
 show Le _ (.agg [i64 mpc, i64 msp, i64 mus, i64 mti, .ro 1 vn (fun j => [i64 (mvf j)]), .ro 1 stk.length (fun j => [i64 (rowS stk j)]), .ro 2 lps.length (fun j => [i64 (rowA lps j), i64 (rowB lps j)]), i64 mst, i64 mcd])
 rw [l1, l2]
 exact Le.agg (LeL.cons (Le.refl _) (LeL.cons (Le.refl _) (LeL.cons (Le.refl _) (LeL.cons (Le.refl _) (LeL.cons (Le.refl _) (LeL.cons (Le.ro_eq fun j hj => ⟨by rw [rs.row j hj], rfl⟩) (LeL.cons (Le.ro_eq fun j hj => ⟨by rw [(rp.row j hj).1, (rp.row j hj).2], rfl⟩) (LeL.refl _))))))))
inductive RelS (vn0 : Nat) (m : Ma) : g_Step → Prop
 | s0 {pc sp us ti : Int} {vn sk lk : Nat} {stt cde : Int} {vf sf la lb : Nat → Int} {sn ln : Nat} : Rw vn0 m pc sp us ti vn vf sk sn sf lk ln la lb stt cde → m.acts = [] → RelS vn0 m (.inl (pc, sp, us, ti, vn, sk, lk, stt, cde, vf, sf, la, lb, sn, ln))
 | s1 {pc sp us ti : Int} {vn sk lk : Nat} {stt cde : Int} {vf : Nat → Int} {sn : Nat} {sf : Nat → Int} {ln : Nat} {la lb ay : Nat → Int} {an : Nat} {ax az : Nat → Int} : Rw vn0 m pc sp us ti vn vf sk sn sf lk ln la lb stt cde → RA ax ay az an m.acts → RelS vn0 m (.inr (.inl (pc, sp, us, ti, vn, sk, lk, stt, cde, vf, sn, sf, ln, la, lb, ay, an, ax, az)))
 | s2 {pc : Int} {vn : Nat} {stt cde : Int} {vf : Nat → Int} : Rw vn0 m pc 0 (-1) (-1) vn vf 0 0 r0 0 0 r0 r0 stt cde → m.acts = [] → RelS vn0 m (.inr (.inr (.inl (pc, vn, stt, cde, vf))))
 | s3 {pc : Int} {vn : Nat} {stt cde : Int} {an : Nat} {vf ax ay az : Nat → Int} : Rw vn0 m pc 0 (-1) (-1) vn vf 0 0 r0 0 0 r0 r0 stt cde → RA ax ay az an m.acts → RelS vn0 m (.inr (.inr (.inr (pc, vn, stt, cde, an, vf, ax, ay, az))))
theorem le_nil_act {l : List (Int × Int × Int)} (h : l = []) : Le nilS (actV l) := by subst h; exact Le.nil_ro
theorem le_fin {pc : Int} {vn : Nat} {vf : Nat → Int} {stt cde : Int} : Le (.agg [i64 pc, i64 0, i64 (-1), i64 (-1), .ro 1 vn (fun j => [i64 (vf j)]), nilS, nilS, i64 stt, i64 cde]) (.agg [i64 pc, i64 0, i64 (-1), i64 (-1), .ro 1 vn (fun j => [i64 (vf j)]), .ro 1 0 (fun j => [i64 (r0 j)]), .ro 2 0 (fun j => [i64 (r0 j), i64 (r0 j)]), i64 stt, i64 cde]) :=
 Le.agg (LeL.cons (Le.refl _) (LeL.cons (Le.refl _) (LeL.cons (Le.refl _) (LeL.cons (Le.refl _) (LeL.cons (Le.refl _) (LeL.cons Le.nil_ro (LeL.cons Le.nil_ro (LeL.refl _))))))))
theorem step_end {f : FuncId} {args : List V} {vn0 : Nat} {m : Ma} {z : g_Step} (h : RelS vn0 m z) (hs : SC E8 f args [] (R_Step z)) : SC E8 f args [] (.ret (.tup [runV (maT vn0 m), actV m.acts]) []) := by
 cases h with
 | @s0 pc sp us ti vn sk lk stt cde vf sf la lb sn ln hw ha =>
  have hsn := hw.sn
  have hln := hw.ln
  have g := SC.give (E := E8) (v := .tup [.agg [i64 pc, i64 sp, i64 us, i64 ti, .sl 0 1 0 vn, .sl 1 1 0 sk, .sl 2 2 0 lk, i64 stt, i64 cde], nilS]) (L := [some (.row 3 1 vn fun j => [i64 (vf j)]), some (.row 3 1 sn fun j => [i64 (sf j)]), some (.row 81 2 ln fun j => [i64 (la j), i64 (lb j)])]) hs (by simp [V.bw, V.bw2, V.bw1, hp, V.pure, pureL, hsn, hln])
  refine SC.le g ?_
  simp only [V.bw, V.bw2, V.bw1, hp, List.map, List.getD, Option.getD_some, List.getElem?_cons_zero, List.getElem?_cons_succ, Nat.zero_add, Nat.le_refl, and_self, if_true, hsn, hln, true_and]
  exact Le.tup (LeL.cons hw.val (LeL.cons (le_nil_act ha) LeL.nil))
 | @s1 pc sp us ti vn sk lk stt cde vf sn sf ln la lb ay an ax az hw ha =>
  have hsn := hw.sn
  have hln := hw.ln
  have g := SC.give (E := E8) (v := .tup [.agg [i64 pc, i64 sp, i64 us, i64 ti, .sl 0 1 0 vn, .sl 1 1 0 sk, .sl 2 2 0 lk, i64 stt, i64 cde], .sl 3 3 0 an]) (L := [some (.row 3 1 vn fun j => [i64 (vf j)]), some (.row 3 1 sn fun j => [i64 (sf j)]), some (.row 81 2 ln fun j => [i64 (la j), i64 (lb j)]), some (.row 51 3 an fun j => [i64 (ax j), i64 (ay j), i64 (az j)])]) hs (by simp [V.bw, V.bw2, V.bw1, hp, V.pure, pureL, hsn, hln])
  refine SC.le g ?_
  simp only [V.bw, V.bw2, V.bw1, hp, List.map, List.getD, Option.getD_some, List.getElem?_cons_zero, List.getElem?_cons_succ, Nat.zero_add, Nat.le_refl, and_self, if_true, hsn, hln, true_and]
  exact Le.tup (LeL.cons hw.val (LeL.cons ha.val LeL.nil))
 | @s2 pc vn stt cde vf hw ha =>
  have g := SC.give (E := E8) (v := .tup [.agg [i64 pc, i64 0, i64 (-1), i64 (-1), .sl 0 1 0 vn, nilS, nilS, i64 stt, i64 cde], nilS]) (L := [some (.row 3 1 vn fun j => [i64 (vf j)])]) hs (by simp [V.bw, V.bw2, V.bw1, hp, V.pure, pureL])
  refine SC.le g ?_
  simp only [V.bw, V.bw2, V.bw1, hp, List.map, List.getD, Option.getD_some, List.getElem?_cons_zero, List.getElem?_cons_succ, Nat.zero_add, Nat.le_refl, and_self, if_true]
  exact Le.tup (LeL.cons (le_fin.trans hw.val) (LeL.cons (le_nil_act ha) LeL.nil))
 | @s3 pc vn stt cde an vf ax ay az hw ha =>
  have g := SC.give (E := E8) (v := .tup [.agg [i64 pc, i64 0, i64 (-1), i64 (-1), .sl 0 1 0 vn, nilS, nilS, i64 stt, i64 cde], .sl 1 3 0 an]) (L := [some (.row 3 1 vn fun j => [i64 (vf j)]), some (.row 51 3 an fun j => [i64 (ax j), i64 (ay j), i64 (az j)])]) hs (by simp [V.bw, V.bw2, V.bw1, hp, V.pure, pureL])
  refine SC.le g ?_
  simp only [V.bw, V.bw2, V.bw1, hp, List.map, List.getD, Option.getD_some, List.getElem?_cons_zero, List.getElem?_cons_succ, Nat.zero_add, Nat.le_refl, and_self, if_true]
  exact Le.tup (LeL.cons (le_fin.trans hw.val) (LeL.cons ha.val LeL.nil))
theorem step_runs {n vn i : Nat} {nm : ByteArray} {ps vs : Int} {op ar D l v : Nat → Int} {pc sp us ti : Int} {vf : Nat → Int} {sn : Nat} {sf : Nat → Int} {ln : Nat} {la lb : Nat → Int} {stt cde t0 t1 t2 t3 t4 t5 : Int} (hv : Vd n vs op ar D l v) (hvn : (vn : Int) = vs)
 (h : Rn n vs D l v i (maOf (pc, sp, us, ti, vn, vf, sn, sf, ln, la, lb, stt, cde))) :
 Runs (Step 2000 (nm, ps, vs, n, op, ar, pc, sp, us, ti, vn, vf, sn, sf, ln, la, lb, stt, cde, t0, t1, t2, t3, t4, t5)) (fun z => RelS vn (stepM op ar (tlmF (t0, t1, t2, t3, t4, t5)) (maOf (pc, sp, us, ti, vn, vf, sn, sf, ln, la, lb, stt, cde))) z) := by
 have hvs := hv.vs
 have hsn : sn = 0 := by
  have := (stkOf_rs sf sn).len
  have e : stkOf sf sn = [] := h.stk
  rw [e] at this; simpa using this.symm
 have hin := h.lt
 have hlt := hv.ok.lv.lt (Nat.le_of_lt hin)
 have hn3 := hv.ok.n3
 have hln : ln ≤ 300 := by
  have e := (lpsOf_rp la lb ln).len
  by_cases hs : stt = 0
  ·have hc := (h.act hs).2.1
   have := chain_len hv.ok.lv _ (l i) hlt.1 (by omega) hc
   have e2 : (maOf (pc, sp, us, ti, vn, vf, sn, sf, ln, la, lb, stt, cde)).lps.length = ln := e
   omega
  ·have hc := (h.fin hs).1
   have e2 : (maOf (pc, sp, us, ti, vn, vf, sn, sf, ln, la, lb, stt, cde)).lps.length = ln := e
   rw [hc] at e2
   simp at e2
   omega
 have hw : Rw vn (maOf (pc, sp, us, ti, vn, vf, sn, sf, ln, la, lb, stt, cde)) pc sp us ti vn vf sn sn sf ln ln la lb stt cde := ⟨rfl, rfl, rfl, rfl, rfl, rfl, stkOf_rs sf sn, Nat.le_refl _, lpsOf_rp la lb ln, Nat.le_refl _, rfl, rfl⟩
 unfold Step t_Step Step_c
 dsimp only
 refine Runs.bind (P := fun z => z = (vn, vf)) (by unfold CloneI; exact Runs.if_pos (by show vn ≤ 1000; omega) (Runs.some rfl)) fun z1 h1 => ?_
 refine Runs.bind (P := fun z => z = (sn, sf)) (by unfold CloneI; exact Runs.if_pos (by show sn ≤ 1000; omega) (Runs.some rfl)) fun z2 h2 => ?_
 refine Runs.bind (P := fun z => z = (ln, la, lb)) (by unfold CloneL; exact Runs.if_pos (by show ln ≤ 1000; omega) (Runs.some rfl)) fun z3 h3 => ?_
 subst h1 h2 h3
 dsimp only
 unfold stepM
 refine Runs.ite (fun hs => ?_) fun hs => ?_
 ·have hs : stt ≠ 0 := by simpa using hs
  rw [if_pos (show (maOf (pc, sp, us, ti, vn, vf, sn, sf, ln, la, lb, stt, cde)).st ≠ 0 from hs)]
  exact Runs.some (.s0 hw rfl)
 have hs : stt = 0 := by simpa using hs
 rw [if_neg (show ¬ (maOf (pc, sp, us, ti, vn, vf, sn, sf, ln, la, lb, stt, cde)).st ≠ 0 from fun g => g hs)]
 refine Runs.ite (fun hp => ?_) fun hp => ?_
 ·have hp : 0 < sp := by simpa using hp
  rw [if_pos (show 0 < (maOf (pc, sp, us, ti, vn, vf, sn, sf, ln, la, lb, stt, cde)).sleep from hp)]
  have hsl : 0 ≤ sp ∧ sp ≤ 1000000 := h.sleep
  have ws : w (sp - 1) = sp - 1 := w_in (by unfold inR; omega)
  unfold sleepZ t_sleepZ
  dsimp only [uz0, ux2, uz3, ux5, uz7, uz11, ux16, ux18, ux21, ux23]
  simp only [ws]
  refine Runs.bite (fun hu => ?_) fun hu => ?_
  ·have hu : us ≠ -1 := by simpa using hu
   refine Runs.bite (fun h0 => ?_) fun h0 => ?_
   ·have h0 : sp - 1 = 0 := by simpa using h0
    exact Runs.bsome (Runs.some (.s1 ⟨rfl, rfl, (if_pos h0 : (if sp - 1 = 0 then (-1 : Int) else us) = -1), rfl, rfl, rfl, stkOf_rs sf sn, Nat.le_refl _, lpsOf_rp la lb ln, Nat.le_refl _, rfl, rfl⟩ (by show RA _ _ _ _ (if us ≠ -1 then [(2, us, 0)] else []); rw [if_pos hu]; exact RA.one)))
   ·have h0 : ¬ sp - 1 = 0 := by simpa using h0
    exact Runs.bsome (Runs.some (.s1 ⟨rfl, rfl, (if_neg h0 : (if sp - 1 = 0 then (-1 : Int) else us) = us), rfl, rfl, rfl, stkOf_rs sf sn, Nat.le_refl _, lpsOf_rp la lb ln, Nat.le_refl _, rfl, rfl⟩ (by show RA _ _ _ _ (if us ≠ -1 then [(2, us, 0)] else []); rw [if_pos hu]; exact RA.one)))
  ·have hu : ¬ us ≠ -1 := by simpa using hu
   refine Runs.bite (fun h0 => ?_) fun h0 => ?_
   ·have h0 : sp - 1 = 0 := by simpa using h0
    exact Runs.bsome (Runs.some (.s0 ⟨rfl, rfl, (if_pos h0 : (if sp - 1 = 0 then (-1 : Int) else us) = -1), rfl, rfl, rfl, stkOf_rs sf sn, Nat.le_refl _, lpsOf_rp la lb ln, Nat.le_refl _, rfl, rfl⟩ (if_neg hu)))
   ·have h0 : ¬ sp - 1 = 0 := by simpa using h0
    exact Runs.bsome (Runs.some (.s0 ⟨rfl, rfl, (if_neg h0 : (if sp - 1 = 0 then (-1 : Int) else us) = us), rfl, rfl, rfl, stkOf_rs sf sn, Nat.le_refl _, lpsOf_rp la lb ln, Nat.le_refl _, rfl, rfl⟩ (if_neg hu)))
 ·have hp : ¬ 0 < sp := by simpa using hp
  rw [if_neg (show ¬ 0 < (maOf (pc, sp, us, ti, vn, vf, sn, sf, ln, la, lb, stt, cde)).sleep from hp)]
  have hsl : 0 ≤ sp ∧ sp ≤ 1000000 := h.sleep
  have hs0 : sp = 0 := by omega
  obtain ⟨a1, a2, a3, a4, a5⟩ := h.act hs
  have hat : At n vs D l v i (maOf (pc, sp, us, ti, vn, vf, sn, sf, ln, la, lb, stt, cde)) := ⟨h.pc, h.lt, by rw [h.stk, a5]; rfl, a2, a3, h.til, hs, a1, hs0, a4 hs0, h.vars, by rw [h.stk]; intro x hx; cases hx⟩
  refine Runs.bind (loop_runs (t := (t0, t1, t2, t3, t4, t5)) hv hvn 200 2000 i 0 _ _ (by decide) (by decide) (by decide) hat ⟨hw, rfl, rfl, rfl⟩ ⟨Nat.zero_le _, fun x hx => by cases hx⟩) fun z hz => ?_
  cases hz with
  | ended hz =>
   cases hz with
   | fin0 hw ha => exact Runs.some (.s2 hw ha)
   | rest0 hw ha => exact Runs.some (.s0 hw ha)
   | rest1 hw ha => exact Runs.some (.s1 hw ha)
   | fin1 hw ha => exact Runs.some (.s3 hw ha)
  | @out0 m0 pc sp us ti vn sk lk stt cde t0 t1 t2 t3 t4 t5 vf sn sf ln la lb e hw ha =>
   simp only [Sum.elim_inl, Sum.elim_inr]
   unfold finishZ t_finishZ
   refine Runs.bsome (Runs.some ?_)
   rw [e]
   exact .s2 ⟨hw.pc, rfl, rfl, rfl, hw.vn, hw.vf, rfl, Nat.le_refl _, rfl, Nat.le_refl _, rfl, rfl⟩ ha
  | @out1 m0 an ax ay az pc sp us ti vn sk lk stt cde t0 t1 t2 t3 t4 t5 vf sn sf ln la lb e hw ha =>
   simp only [Sum.elim_inl, Sum.elim_inr]
   unfold finishA t_finishA
   refine Runs.bsome (Runs.some ?_)
   rw [e]
   exact .s3 ⟨hw.pc, rfl, rfl, rfl, hw.vn, hw.vf, rfl, Nat.le_refl _, rfl, Nat.le_refl _, rfl, rfl⟩ ha
theorem step_sc {n i : Nat} {nm : ByteArray} {ps vs : Int} {op ar D l v : Nat → Int} {x : RunT} {t : T6} (hv : Vd n vs op ar D l v) (hvn : (x.2.2.2.2.1 : Int) = vs) (h : Rn n vs D l v i (maOf x)) :
 SC E8 16 [.agg [st nm, i64 ps, i64 vs, .ro 2 n (fun j => [i64 (op j), i64 (ar j)])], runV x, .agg [i64 t.1, i64 t.2.1, i64 t.2.2.1, i64 t.2.2.2.1, i64 t.2.2.2.2.1, i64 t.2.2.2.2.2]] []
  (.ret (.tup [runV (maT x.2.2.2.2.1 (stepM op ar (tlmF t) (maOf x))), actV (stepM op ar (tlmF t) (maOf x)).acts]) []) := by
 obtain ⟨pc, sp, us, ti, vn, vf, sn, sf, ln, la, lb, stt, cde⟩ := x
 obtain ⟨t0, t1, t2, t3, t4, t5⟩ := t
 obtain ⟨z, h1, h2⟩ := step_runs (nm := nm) (ps := ps) (t0 := t0) (t1 := t1) (t2 := t2) (t3 := t3) (t4 := t4) (t5 := t5) hv hvn h
 exact step_end h2 (sc_Step 2000 _ _ h1)
end Go.Proofs.YthkioinnobiieaaGreatDoor
