/- Texts joined. -/
import Derived.Test.YtcljccpddodckaaGreatDoorQB
import Derived.Test.YtcljccpddodckaaGreatDoorQC
import Derived.Test.YtcljccpddodckaaGreatDoorProg
import Derived.Test.YtcljccpddodckaaGreatDoorRows
import Derived.Lib.Strings
import Derived.Lib.IndexMore
import Derived.Recover
import Derived.Test.YtcljccpddodckaaGreatDoorShelf
import Derived.Test.YtcljccpddodckaaGreatDoorCards
import Derived.Test.YtcljccpddodckaaGreatDoorTie
import Derived.Deep.DeepHandedRow
import Derived.Deep.DeepWitnessRowRef
import Derived.LaidMore
import Derived.KernelRfl
/- The environment of this seat: variables of the packages, library functions by contract. -/
set_option linter.unusedSimpArgs false
set_option linter.unusedVariables false
namespace Go.Proofs.YtcljccpddodckaaGreatDoor
open Go Go.Am
abbrev i64 (n : Int) : V := .sc (.int .i64 n)
abbrev bo (b : Bool) : V := .sc (.bool b)
abbrev st (s : ByteArray) : V := .sc (.string s)
def tabL : List (List V) := [
  [.sc (.string ⟨#[74]⟩), i64 1, i64 1, i64 0, i64 0, i64 0, i64 0],
  [.sc (.string ⟨#[107, 74]⟩), i64 1000, i64 1, i64 0, i64 0, i64 0, i64 0],
  [.sc (.string ⟨#[87, 104]⟩), i64 3600, i64 1, i64 0, i64 0, i64 0, i64 0],
  [.sc (.string ⟨#[66]⟩), i64 1, i64 0, i64 1, i64 0, i64 0, i64 0],
  [.sc (.string ⟨#[107, 66]⟩), i64 1000, i64 0, i64 1, i64 0, i64 0, i64 0],
  [.sc (.string ⟨#[115]⟩), i64 1, i64 0, i64 0, i64 1, i64 0, i64 0],
  [.sc (.string ⟨#[109, 105, 110]⟩), i64 60, i64 0, i64 0, i64 1, i64 0, i64 0],
  [.sc (.string ⟨#[104]⟩), i64 3600, i64 0, i64 0, i64 1, i64 0, i64 0],
  [.sc (.string ⟨#[100, 101, 103]⟩), i64 1, i64 0, i64 0, i64 0, i64 1, i64 0],
  [.sc (.string ⟨#[75]⟩), i64 1, i64 0, i64 0, i64 0, i64 0, i64 1],
  [.sc (.string ⟨#[87]⟩), i64 1, i64 1, i64 0, i64 (-1), i64 0, i64 0],
  [.sc (.string ⟨#[107, 87]⟩), i64 1000, i64 1, i64 0, i64 (-1), i64 0, i64 0],
  [.sc (.string ⟨#[66, 112, 115]⟩), i64 1, i64 0, i64 1, i64 (-1), i64 0, i64 0]]
def tabV : V := .ro 7 13 (fun j => tabL.getD j [])
def opsL : List V := [.sc (.string ⟨#[124, 124]⟩), i64 1, .sc (.string ⟨#[38, 38]⟩), i64 1, .sc (.string ⟨#[43]⟩), i64 2, .sc (.string ⟨#[45]⟩), i64 2, .sc (.string ⟨#[42]⟩), i64 3, .sc (.string ⟨#[47]⟩), i64 3, .sc (.string ⟨#[60]⟩), i64 4, .sc (.string ⟨#[60, 61]⟩), i64 4, .sc (.string ⟨#[62]⟩), i64 4, .sc (.string ⟨#[62, 61]⟩), i64 4, .sc (.string ⟨#[61, 61]⟩), i64 4, .sc (.string ⟨#[33, 61]⟩), i64 4]
def globF : Nat → Option (List V)
  | 0 => some [tabV]
  | 2 => some opsL
  | _ => none
/-- Library functions by contract: Contains, IndexByte. -/
def extF (f : FuncId) (args : List V) : Option V :=
  if f = 117 then match args with
    | [.sc (.string s), .sc (.string sub)] => if s.size < 4294967281 then some (bo (Lib.contains s.data.toList sub.data.toList)) else none
    | _ => none
  else if f = 89 then match args with
    | [.sc (.string s), .sc (.int .u8 c)] => some (i64 (Lib.indexByte s.data.toList (UInt8.ofNat c.toNat)))
    | _ => none
  else none
def way (a b : Nat) : Am.Way := if b ∈ [63, 79, 80, 94, 118, 119, 120, 121, 122, 123, 124, 125, 136, 144, 145] then .giveM else if b ∈ [48, 60, 21] then .give else if b ∈ [22, 7, 8] then .lend else .plain
def litF (f : FuncId) : Bool := f == 9
def dfnF (f : FuncId) : Bool := f == 48
def idleF (f : FuncId) : Option Nat := if f = 61 then some 3 else none
open Go.RowKit
set_option linter.unusedVariables false
noncomputable def E : Env := { P := Tryz.prog, glob := globF, ext := extF, way := way, lit := litF, code := fun f => (Tryz.prog.funcs[f]?).bind annF, inv := [(1, intCell .i64)], dfn := dfnF, idle := idleF }
/-- Code that needs nothing: run alone. -/
noncomputable def E0 : Env := { P := Tryz.prog, glob := fun _ => none, ext := fun _ _ => none, way := fun _ _ => .plain, lit := fun _ => false, code := fun f => (Tryz.prog.funcs[f]?).bind annF }
noncomputable def rest65 : ACode := match E0.code 61 with | some (.seq _ b) => b | _ => .skip
def fr65 : List V := [.junk, .junk, .junk, .sc .nilIface] ++ List.replicate 2 (.sc undef) ++ [.sc .nilIface] ++ List.replicate 13 (.sc undef)
def T0 : CallT := fun _ _ _ _ => none
def L0 : LoopT := fun _ _ _ _ _ => none
def isNormal : Ex → Bool | .normal => true | _ => false
theorem run65 : execK E0 T0 L0 rest65 { fr := fr65, H := hp [], nx := 0, rt := 0, me := 61 } (fun e _ => if isNormal e then some (.c (.pan .junk)) else none) = some (.c (.pan .junk)) := by kernel_rfl
theorem body65 (a : Act) (w : World) (hd : a.defers = []) (ht : denL (fun _ => none) (fun _ => False) w (fun _ => False) fr65 a.tmps.toList) : Code.wp Tryz.prog rest65.erase (fun e a' w' => e = .normal ∧ a'.defers = [] ∧ Below w.heap.size w w') a w := by
  obtain ⟨e, s', h1, h2⟩ := exec_sound (E := E0) (ca := T0) (lo := L0) (fun _ _ _ _ _ h => by cases h) (SoundX.none fun _ _ => rfl) (fun _ _ _ _ _ _ h => by cases h) rest65 _ _ _ run65
  split at h1
  case isFalse => cases h1
  rename_i he
  have he : e = .normal := by cases e <;> simp_all [isNormal]
  subst he
  refine wp_mono (h2 (fun _ => none) (fun _ => False) (fun _ => False) a w ⟨ht, ⟨fun i c hc => (by simp [hp] at hc), fun _ _ => rfl, fun i b m h => (by cases h), fun i b m h => (by cases h), fun i j b m m' h => (by cases h), fun b hb => hb.elim⟩, ⟨fun _ => hd, fun d h => (by rw [hd] at h; cases h)⟩, fun i hi => hi.elim, ⟨fun g cs h => (by cases h), fun p hp => (by cases hp)⟩, fun i hi => absurd hi (Nat.not_lt_zero i)⟩) fun e' a' w' hp => ?_
  obtain ⟨β', S', D', q1, q2, q3, q4, q5, q6⟩ := hp.ex
  cases e' <;> simp only [ExR] at q1
  exact ⟨rfl, q2.df.1 rfl, below_of_evo q3⟩
theorem idle65 : Idle Tryz.prog 61 3 := by
  intro us w hus
  refine ⟨?_, ?_⟩
  · have hb : ∃ fn, Tryz.prog.funcs[61]? = some fn ∧ fn.body.isSome = true ∧ fn.name ≠ "runtime.NumGoroutine" := ⟨_, Tryz.func61, by kernel_rfl, by intro e; exact absurd e (by decide +kernel)⟩
    obtain ⟨fn, h1, h2, h3⟩ := hb
    have hb : ¬ fn.body = none := by intro hb; rw [hb] at h2; cases h2
    simp [callFunc, Sem.run_bind, h1, h3, hb, program, Sem.run]
  · match us, hus with
    | ⟨[x, y, z]⟩, _ =>
      refine callsD_of_wpS Tryz.func61 rfl fun c₀ cs hu => ?_
      apply wpS_seq
      apply wpS_region
      simp [wpOpsS, go_sem, recoverD, hu, Tryz.ntmps61, Exit.thenS]
      refine wpS_of_wp ?_
      refine (congrArg (fun c => Code.wp Tryz.prog c _ _ _) (?_ : rest65.erase = _)).mp (wp_mono (body65 _ w rfl ?_) ?_)
      · kernel_rfl
      · simp [fr65, denL, den]
        exact ⟨_, _, ⟨rfl, rfl⟩, _, _, rfl, _, rfl⟩
      · rintro e a' w' ⟨rfl, hd, hb⟩
        refine ⟨hd, _, ?_, _, by simp [results, Tryz.results61, go_sem]; rfl, ⟨_, rfl⟩, rfl, hb⟩
        cases c₀; simp_all
set_option maxRecDepth 100000 in
theorem hW : WF E := WF.of E (fun _ => rfl) (by kernel_rfl) (fun g n h => by
  have h' : idleF g = some n := h
  unfold idleF at h'
  split at h'
  · rename_i hg; subst hg; cases h'; exact idle65
  · cases h')
end Go.Proofs.YtcljccpddodckaaGreatDoor
/- The library's contracts, as the environment has them; the examples hold. -/
set_option linter.unusedSimpArgs false
set_option linter.unusedVariables false
namespace Go.Proofs.YtcljccpddodckaaGreatDoor
open Go Go.Am Go.RowKit
set_option linter.unusedVariables false
theorem maxLen_at {S : Pr} {w : World} (hG : Glob E S w) : ∃ m, w.cell? ⟨1, 0, none⟩ = some (.int .i64 m) := by
  obtain ⟨_, x, h1, h2⟩ := hG.inv (1, intCell .i64) (by simp [E])
  exact intCell_cell h1 h2
theorem hX : SoundX E := by
  intro f args v h
  have h' : extF f args = some v := h
  unfold extF at h'
  split at h'
  · rename_i hf; subst hf
    split at h'
    · rename_i s sub
      split at h'
      · rename_i hn
        cases h'
        refine ⟨⟨_, Tryz.func117, by kernel_rfl, by intro e; exact absurd e (by decide +kernel)⟩, rfl, fun β S D w us hd hG hS => ?_⟩
        obtain rfl : us = [.string s, .string sub] := by simpa [denL, den] using hd
        obtain ⟨m, hm⟩ := maxLen_at hG
        refine (Tryz.strings_Contains s sub m w hn hm).mono ?_
        rintro e w' ⟨rfl, rfl⟩
        exact ⟨_, S, rfl, Below.refl _ _, by simp only [den], fun _ h => h, fun _ h => .inl h⟩
      · cases h'
    · cases h'
  split at h'
  · rename_i hf; subst hf
    split at h'
    · rename_i s c
      cases h'
      refine ⟨⟨_, Tryz.func89, by kernel_rfl, by intro e; exact absurd e (by decide +kernel)⟩, rfl, fun β S D w us hd hG hS => ?_⟩
      obtain rfl : us = [.string s, .int .u8 c] := by simpa [denL, den] using hd
      refine (Tryz.strings_IndexByte s c w).mono ?_
      rintro e w' ⟨rfl, rfl⟩
      exact ⟨_, S, rfl, Below.refl _ _, by simp only [den], fun _ h => h, fun _ h => .inl h⟩
    · cases h'
  · cases h'
end Go.Proofs.YtcljccpddodckaaGreatDoor
/- What the rows list of the packages' variables; a world that holds it. -/
set_option linter.unusedSimpArgs false
set_option linter.unusedVariables false
namespace Go.Proofs.YtcljccpddodckaaGreatDoor
open Go Go.Am Go.RowKit
theorem packed : packB Tryz.prog = true := by kernel_rfl
abbrev laidL : List (String × DataW Unit) := Rows.compileVerifyRow.laid
theorem laidPlain {W : World} (h : laidMetH Tryz.prog laidL W) : laidMet Tryz.prog laidL W := by
  rw [MakeChecks.laidMetH_plain _ _ _ (by kernel_rfl)] at h; exact h
theorem globAt0 : GlobAt Tryz.prog laidL 0 [tabV] := ⟨"perigee/unit.table", Rows.laid_perigee_unit_table, 154, 8, by simp [laidL, Rows.compileVerifyRow], by kernel_rfl, by kernel_rfl, of_decide_eq_true (by kernel_rfl), by kernel_rfl, by simp⟩
theorem globAt1 : GlobAt Tryz.prog laidL 2 opsL := ⟨"perigee/types.operators", Rows.laid_perigee_types_operators, 188, 8, by simp [laidL, Rows.compileVerifyRow], by kernel_rfl, by kernel_rfl, of_decide_eq_true (by kernel_rfl), by kernel_rfl, by simp [opsL]⟩
theorem glob_of {W : World} (h : laidMetH Tryz.prog laidL W) (hs : W.ShapedOpen Tryz.prog) : Glob E (· < W.heap.size) W := by
  have hl := laidPlain h
  refine Glob.of_laid (laid := laidL) packed hl (fun g cs hg => ?_) (fun p hp => ?_)
  · have hg' : globF g = some cs := hg
    unfold globF at hg'
    split at hg'
    · cases hg'; exact globAt0
    · cases hg'; exact globAt1
    · cases hg'
  · simp only [E, List.mem_cons, List.mem_nil_iff, or_false] at hp
    rcases hp with rfl
    exact intCell_of (cell_of_shapedOpen_int (t := 3) (zero := #[.int .i64 0]) hs (of_decide_eq_true (by kernel_rfl)) (by kernel_rfl) rfl (by kernel_rfl) (by kernel_rfl) (by kernel_rfl))
/-- A world for the witness. -/
noncomputable def laidWorld (os : Os) : World := World.doorLaid Tryz.prog 4000 os
theorem laid_met0 (os : Os) (args : Array Value) : laidMet Tryz.prog laidL ((laidWorld os).forCall (fun _ _ => 0) ⟨#[], args, []⟩).memory :=
  laidMet_of_run' 8 (by kernel_rfl) (by kernel_rfl)
theorem laid_met (os : Os) (args : Array Value) : laidMetH Tryz.prog laidL ((laidWorld os).forCall (fun _ _ => 0) ⟨#[], args, []⟩).memory := by
  rw [MakeChecks.laidMetH_plain _ _ _ (by kernel_rfl)]; exact laid_met0 os args
end Go.Proofs.YtcljccpddodckaaGreatDoor
/- For closed runs. -/
set_option linter.unusedSimpArgs false
set_option linter.unusedVariables false
namespace Go.Proofs.YtcljccpddodckaaGreatDoor
open Go Go.Am
def maskTab : List (Nat × List (Nat × Nat)) := [(4, [(0, 806), (2, 15622)]), (7, [(0, 962072674306), (2, 33849922949209616891773058)]), (10, [(0, 993)]), (11, [(0, 29360136)]), (13, [(0, 26)]), (14, [(0, 116)]), (15, [(0, 44)]), (16, [(0, 436)]), (18, [(0, 28720)]), (19, [(0, 393226), (2, 939524136)]), (20, [(0, 10), (2, 178)]), (21, [(0, 29360256)]), (22, [(0, 35)]), (30, [(0, 9)]), (40, [(0, 118)]), (47, [(0, 25), (2, 41), (4, 873)]), (48, [(0, 92)]), (49, [(0, 57354)]), (50, [(0, 14358)]), (51, [(0, 3)]), (60, [(0, 65633)]), (63, [(0, 114701)]), (64, [(0, 901)]), (69, [(0, 259)]), (74, [(0, 4194356)]), (79, [(0, 9)]), (80, [(0, 13)]), (86, [(0, 1793)]), (92, [(0, 1835017)]), (96, [(0, 939524518)]), (109, [(0, 897)]), (136, [(1, 51)]), (139, [(0, 97)]), (142, [(0, 98304)]), (143, [(1, 2019)]), (150, [(0, 995), (2, 1507)]), (151, [(0, 49), (2, 464)])]
noncomputable def EL : Env := { P := Tryz.prog, glob := globF, ext := extF, way := way, lit := litF, code := annFL maskTab Tryz.prog, inv := [(1, intCell .i64)], dfn := dfnF, idle := idleF, push := false }
set_option maxRecDepth 100000 in
theorem hWL : WF EL := WF.ofL EL maskTab rfl (by kernel_rfl) (fun g n h => by
  have h' : idleF g = some n := h
  unfold idleF at h'
  split at h'
  · rename_i hg; subst hg; cases h'; exact idle65
  · cases h')
theorem hXL : SoundX EL := fun f args v h => by
  obtain ⟨h1, h2, h3⟩ := hX f args v h
  exact ⟨h1, h2, fun β S D w us a b c => h3 β S D w us a ⟨b.rd, b.inv⟩ c⟩
theorem scL {f : FuncId} {args : List V} {L : List (Option Chunk)} {cr : CRes} (h : SC EL f args L cr) : SC E f args L cr :=
  ⟨h.1, fun β S w us h1 h2 h3 => h.2 β S w us h1 h2 ⟨h3.rd, h3.inv⟩⟩
end Go.Proofs.YtcljccpddodckaaGreatDoor
/- Plain: two ways to check code are the same. -/
namespace Go.Proofs.Cv
set_option linter.unusedSimpArgs false
set_option linter.unusedVariables false
/-- Code: its operators, its operands, how many, how many variables. -/
structure Cd where
  op : Nat → Int
  arg : Nat → Int
  n : Nat
  vars : Int
def upd (f : Nat → Int) (k : Nat) (v : Int) : Nat → Int := fun j => if j = k then v else f j
theorem upd_same (f : Nat → Int) (k : Nat) (v : Int) : upd f k v k = v := by simp [upd]
theorem upd_ne {f : Nat → Int} {k j : Nat} {v : Int} (h : j ≠ k) : upd f k v j = f j := by simp [upd, h]
theorem upd_id {f : Nat → Int} {k : Nat} {v : Int} (h : f k = v) : upd f k v = f := by
  funext j
  unfold upd
  split
  · rename_i e; rw [e, h]
  · rfl
def rngL (o : Int) (i : Nat) : Int :=
  if o = 1 then -2147483647 else if o = 14 ∨ o = 15 then (i : Int) + 1 else if o = 16 ∨ o = 17 ∨ o = 20 then 1 else 0
def rngH (o : Int) (i n : Nat) (vars : Int) : Int :=
  if o = 1 then 2147483647 else if o = 2 ∨ o = 3 then vars - 1 else if o = 4 then 5 else if o = 14 ∨ o = 15 then (n : Int) - 1
  else if o = 16 then 100 else if o = 17 ∨ o = 20 then (i : Int) else if o = 18 ∨ o = 19 then 1000000 else if o = 23 then 7999999
  else if o = 24 ∨ o = 25 then 2147483647 else if o = 26 then 99 else if o = 27 then 999 else 0
def okOp (o : Int) : Prop := 1 ≤ o ∧ o ≤ 28
def rng (c : Cd) (i : Nat) : Prop := rngL (c.op i) i ≤ c.arg i ∧ c.arg i ≤ rngH (c.op i) i c.n c.vars
def stopOk (c : Cd) (i : Nat) : Prop := c.op i = 28 ↔ i + 1 = c.n
def opnd (c : Cd) (i : Nat) : Prop :=
  if c.op i = 1 then -2147483647 ≤ c.arg i ∧ c.arg i ≤ 2147483647
  else if c.op i = 2 ∨ c.op i = 3 then 0 ≤ c.arg i ∧ c.arg i ≤ c.vars - 1
  else if c.op i = 4 then 0 ≤ c.arg i ∧ c.arg i ≤ 5
  else if (5 ≤ c.op i ∧ c.op i ≤ 13) ∨ c.op i = 21 ∨ c.op i = 22 ∨ c.op i = 28 then c.arg i = 0
  else if c.op i = 14 ∨ c.op i = 15 then (i : Int) + 1 ≤ c.arg i ∧ c.arg i ≤ (c.n : Int) - 1
  else if c.op i = 16 then 1 ≤ c.arg i ∧ c.arg i ≤ 100
  else if c.op i = 18 ∨ c.op i = 19 then 0 ≤ c.arg i ∧ c.arg i ≤ 1000000
  else if c.op i = 23 then 0 ≤ c.arg i ∧ c.arg i ≤ 7999999
  else if c.op i = 24 ∨ c.op i = 25 then 0 ≤ c.arg i ∧ c.arg i ≤ 2147483647
  else if c.op i = 26 then 0 ≤ c.arg i ∧ c.arg i ≤ 99
  else if c.op i = 27 then 0 ≤ c.arg i ∧ c.arg i ≤ 999
  else c.op i = 17 ∨ c.op i = 20
theorem opnd_ok {c : Cd} {i : Nat} (h : opnd c i) : okOp (c.op i) := by
  unfold opnd at h
  unfold okOp
  generalize c.op i = o at *
  generalize c.arg i = a at *
  repeat' split at h
  all_goals omega
theorem opnd_rng {c : Cd} {i : Nat} (h : okOp (c.op i)) (h17 : c.op i ≠ 17) (h20 : c.op i ≠ 20) : opnd c i ↔ rng c i := by
  unfold okOp at h
  unfold opnd rng rngL rngH
  generalize c.op i = o at *
  generalize c.arg i = a at *
  by_cases h1 : o = 1
  · subst h1; simp
  by_cases h2 : o = 2 ∨ o = 3
  · have e1 : ¬ (o = 14 ∨ o = 15) := by omega
    have e2 : ¬ (o = 16 ∨ o = 17 ∨ o = 20) := by omega
    simp only [if_neg h1, if_pos h2, if_neg e1, if_neg e2]
  by_cases h4 : o = 4
  · subst h4; simp
  by_cases h5 : (5 ≤ o ∧ o ≤ 13) ∨ o = 21 ∨ o = 22 ∨ o = 28
  · have e1 : ¬ (o = 14 ∨ o = 15) := by omega
    have e2 : ¬ (o = 16 ∨ o = 17 ∨ o = 20) := by omega
    have e3 : ¬ o = 16 := by omega
    have e4 : ¬ (o = 17 ∨ o = 20) := by omega
    have e5 : ¬ (o = 18 ∨ o = 19) := by omega
    have e6 : ¬ o = 23 := by omega
    have e7 : ¬ (o = 24 ∨ o = 25) := by omega
    have e8 : ¬ o = 26 := by omega
    have e9 : ¬ o = 27 := by omega
    simp only [if_neg h1, if_neg h2, if_neg h4, if_pos h5, if_neg e1, if_neg e2, if_neg e3, if_neg e4, if_neg e5, if_neg e6, if_neg e7, if_neg e8, if_neg e9]
    omega
  by_cases h14 : o = 14 ∨ o = 15
  · simp only [if_neg h1, if_neg h2, if_neg h4, if_neg h5, if_pos h14]
  by_cases h16 : o = 16
  · subst h16; simp
  have e2 : ¬ (o = 16 ∨ o = 17 ∨ o = 20) := by omega
  have e4 : ¬ (o = 17 ∨ o = 20) := by omega
  simp only [if_neg h1, if_neg h2, if_neg h4, if_neg h5, if_neg h14, if_neg h16, if_neg e2, if_neg e4]
  by_cases h18 : o = 18 ∨ o = 19
  · simp only [if_pos h18]
  by_cases h23 : o = 23
  · subst h23; simp
  by_cases h24 : o = 24 ∨ o = 25
  · simp only [if_neg h18, if_neg h23, if_pos h24]
  by_cases h26 : o = 26
  · subst h26; simp
  by_cases h27 : o = 27
  · subst h27; simp
  omega
theorem rng_17 {c : Cd} {i : Nat} (h : c.op i = 17 ∨ c.op i = 20) : rng c i ↔ 1 ≤ c.arg i ∧ c.arg i ≤ (i : Int) := by
  unfold rng rngL rngH
  rcases h with h | h <;> rw [h] <;> simp
theorem opnd_17 {c : Cd} {i : Nat} (h : c.op i = 17 ∨ c.op i = 20) : opnd c i := by
  unfold opnd
  rcases h with h | h <;> rw [h] <;> simp
theorem rng_jump {c : Cd} {i : Nat} (h : c.op i = 14 ∨ c.op i = 15) (hr : rng c i) : (i : Int) + 1 ≤ c.arg i ∧ c.arg i ≤ (c.n : Int) - 1 := by
  unfold rng rngL rngH at hr
  rcases h with h | h <;> rw [h] at hr <;> simpa using hr
def pureP (o : Int) : Bool := decide (o ≤ 15) && decide (o ≠ 3)
def pureR (o : Int) : Bool := decide (o = 1 ∨ o = 2 ∨ o = 4 ∨ (5 ≤ o ∧ o ≤ 13) ∨ o = 14 ∨ o = 15)
theorem pure_same {o : Int} (h : okOp o) : pureP o = pureR o := by
  unfold okOp at h
  unfold pureP pureR
  rw [Bool.eq_iff_iff]
  simp
  omega
structure Pl where
  oL : Nat → Int
  oW : Nat → Int
  lo : Int
  wa : Int
def plcP (c : Cd) : Nat → Nat → Pl → Option Pl
  | 0, _, q => some q
  | r + 1, i, q =>
    if q.wa ≠ -1 ∧ c.op i ≠ 20 ∧ pureP (c.op i) = false then none
    else if c.op i = 16 then plcP c r (i + 1) ⟨upd q.oL i q.lo, upd q.oW i q.wa, i, q.wa⟩
    else if c.op i = 19 then plcP c r (i + 1) ⟨upd q.oL i q.lo, upd q.oW i q.wa, q.lo, i⟩
    else if c.op i = 17 then (if q.lo = -1 ∨ c.arg i ≠ q.lo + 1 then none else plcP c r (i + 1) ⟨upd q.oL i q.lo, upd q.oW i q.wa, upd q.oL i q.lo q.lo.toNat, upd q.oW i q.wa q.lo.toNat⟩)
    else if c.op i = 20 then (if q.wa = -1 ∨ c.arg i ≠ q.wa + 1 then none else plcP c r (i + 1) ⟨upd q.oL i q.lo, upd q.oW i q.wa, q.lo, -1⟩)
    else plcP c r (i + 1) ⟨upd q.oL i q.lo, upd q.oW i q.wa, q.lo, q.wa⟩
structure Rg where
  L : Nat → Int
  W : Nat → Int
  m : Nat
  stk : Nat → Int
  wa : Int
def Rg.top (q : Rg) : Int := if 0 < q.m then q.stk (q.m - 1) else -1
def regR (c : Cd) : Nat → Nat → Rg → Option Rg
  | 0, _, q => some q
  | r + 1, i, q =>
    if 0 ≤ q.wa ∧ c.op i ≠ 20 ∧ pureR (c.op i) = false then none
    else if c.op i = 16 then regR c r (i + 1) ⟨upd q.L i q.top, upd q.W i q.wa, q.m + 1, upd q.stk q.m i, q.wa⟩
    else if c.op i = 17 then (if q.top < 0 ∨ c.arg i ≠ q.top + 1 then none else regR c r (i + 1) ⟨upd q.L i q.top, upd q.W i q.wa, q.m - 1, q.stk, q.wa⟩)
    else if c.op i = 19 then regR c r (i + 1) ⟨upd q.L i q.top, upd q.W i q.wa, q.m, q.stk, i⟩
    else if c.op i = 20 then (if q.wa < 0 ∨ c.arg i ≠ q.wa + 1 then none else regR c r (i + 1) ⟨upd q.L i q.top, upd q.W i q.wa, q.m, q.stk, -1⟩)
    else regR c r (i + 1) ⟨upd q.L i q.top, upd q.W i q.wa, q.m, q.stk, q.wa⟩
/-- What holds of the stack of loops before instruction i. -/
structure Stk (i : Nat) (q : Rg) : Prop where
  lt : ∀ k, k < q.m → 0 ≤ q.stk k ∧ q.stk k < i
  loop : ∀ k, k < q.m → q.L (q.stk k).toNat = if 0 < k then q.stk (k - 1) else -1
  wait : ∀ k, k < q.m → q.W (q.stk k).toNat = -1
  wa : q.wa = -1 ∨ (0 ≤ q.wa ∧ q.wa < i)
def Rg.pl (q : Rg) : Pl := ⟨q.L, q.W, q.top, q.wa⟩
theorem top_cases {i : Nat} {q : Rg} (h : Stk i q) : (q.m = 0 ∧ q.top = -1) ∨ (0 < q.m ∧ q.top = q.stk (q.m - 1) ∧ 0 ≤ q.top ∧ q.top < i) := by
  unfold Rg.top
  by_cases hm : 0 < q.m
  · rw [if_pos hm]; exact .inr ⟨hm, rfl, h.lt _ (by omega)⟩
  · rw [if_neg hm]; exact .inl ⟨by omega, rfl⟩
/-- The stack after an instruction that leaves it. -/
theorem Stk.keep {i : Nat} {q : Rg} (h : Stk i q) {wa : Int} (hw : wa = -1 ∨ (0 ≤ wa ∧ wa < (i + 1 : Nat))) : Stk (i + 1) ⟨upd q.L i q.top, upd q.W i q.wa, q.m, q.stk, wa⟩ := by
  refine ⟨fun k hk => ?_, fun k hk => ?_, fun k hk => ?_, hw⟩
  · have := h.lt k hk; simp only at hk ⊢; omega
  · have h1 := h.lt k hk
    have := h.loop k hk
    show upd q.L i q.top (q.stk k).toNat = _
    rw [upd_ne (by omega)]; exact this
  · have h1 := h.lt k hk
    show upd q.W i q.wa (q.stk k).toNat = _
    rw [upd_ne (by omega)]; exact h.wait k hk
theorem plc_reg (c : Cd) (hok : ∀ i, i < c.n → okOp (c.op i)) : ∀ (r i : Nat) (q : Rg), i + r = c.n → Stk i q → plcP c r i q.pl = (regR c r i q).map Rg.pl := by
  intro r
  induction r with
  | zero => intro i q _ _; rfl
  | succ r ih =>
    intro i q hi hs
    have ho := hok i (by omega)
    have hp := pure_same ho
    have ht := top_cases hs
    have e1 : (q.wa ≠ -1 ∧ c.op i ≠ 20 ∧ pureP (c.op i) = false) ↔ (0 ≤ q.wa ∧ c.op i ≠ 20 ∧ pureR (c.op i) = false) := by
      rw [hp]
      have := hs.wa
      constructor
      · rintro ⟨a, b⟩; exact ⟨by omega, b⟩
      · rintro ⟨a, b⟩; exact ⟨by omega, b⟩
    rw [plcP, regR]
    show (if q.wa ≠ -1 ∧ c.op i ≠ 20 ∧ pureP (c.op i) = false then none else _) = _
    by_cases hbad : 0 ≤ q.wa ∧ c.op i ≠ 20 ∧ pureR (c.op i) = false
    · rw [if_pos hbad, if_pos (e1.2 hbad)]; rfl
    rw [if_neg hbad, if_neg (fun h => hbad (e1.1 h))]
    have impure : (c.op i = 16 ∨ c.op i = 17 ∨ c.op i = 19) → q.wa = -1 := by
      intro h
      have h1 : pureR (c.op i) = false := by unfold pureR; simp; omega
      have := hs.wa
      by_cases hw : 0 ≤ q.wa
      · exact absurd ⟨hw, by omega, h1⟩ hbad
      · omega
    by_cases h16 : c.op i = 16
    · rw [if_pos h16, if_pos h16]
      have hw := impure (.inl h16)
      have := ih (i + 1) ⟨upd q.L i q.top, upd q.W i q.wa, q.m + 1, upd q.stk q.m i, q.wa⟩ (by omega) ?_
      · rw [← this]
        have et : Rg.top ⟨upd q.L i q.top, upd q.W i q.wa, q.m + 1, upd q.stk q.m i, q.wa⟩ = i := by
          unfold Rg.top
          rw [if_pos (by simp)]
          exact upd_same _ _ _
        unfold Rg.pl
        rw [et]
      · refine ⟨fun k hk => ?_, fun k hk => ?_, fun k hk => ?_, by simp only; omega⟩
        · simp only at hk ⊢
          by_cases hk2 : k = q.m
          · subst hk2; rw [upd_same]; omega
          · rw [upd_ne hk2]; have := hs.lt k (by omega); omega
        · simp only at hk ⊢
          by_cases hk2 : k = q.m
          · subst hk2
            rw [upd_same, Int.toNat_natCast, upd_same]
            by_cases h0 : 0 < q.m
            · rw [if_pos h0, upd_ne (by omega)]; unfold Rg.top; rw [if_pos h0]
            · rw [if_neg h0]; unfold Rg.top; rw [if_neg h0]
          · have h1 := hs.lt k (by omega)
            have h2 := hs.loop k (by omega)
            rw [upd_ne hk2, upd_ne (by omega), h2]
            by_cases h0 : 0 < k
            · rw [if_pos h0, if_pos h0, upd_ne (by omega)]
            · rw [if_neg h0, if_neg h0]
        · simp only at hk ⊢
          by_cases hk2 : k = q.m
          · subst hk2
            rw [upd_same, Int.toNat_natCast, upd_same]; exact hw
          · have h1 := hs.lt k (by omega)
            rw [upd_ne hk2, upd_ne (by omega)]; exact hs.wait k (by omega)
    rw [if_neg h16, if_neg h16]
    by_cases h19 : c.op i = 19
    · rw [if_pos h19, if_neg (by omega), if_pos h19]
      exact ih (i + 1) _ (by omega) (hs.keep (wa := (i : Int)) (by omega))
    rw [if_neg h19]
    by_cases h17 : c.op i = 17
    · rw [if_pos h17, if_pos h17]
      have hw := impure (.inr (.inl h17))
      show (if q.top = -1 ∨ c.arg i ≠ q.top + 1 then none else _) = _
      by_cases hb : q.top < 0 ∨ c.arg i ≠ q.top + 1
      · rw [if_pos hb, if_pos (by omega)]; rfl
      · rw [if_neg hb, if_neg (by omega)]
        rcases ht with ⟨h1, h2⟩ | ⟨h1, h2, h3, h4⟩
        · omega
        · have hk := hs.keep (wa := q.wa) (by omega)
          have := ih (i + 1) ⟨upd q.L i q.top, upd q.W i q.wa, q.m - 1, q.stk, q.wa⟩ (by omega) ⟨fun k hk' => hk.lt k (by simp only at hk' ⊢; omega), fun k hk' => hk.loop k (by simp only at hk' ⊢; omega), fun k hk' => hk.wait k (by simp only at hk' ⊢; omega), hk.wa⟩
          rw [← this]
          have a1 : upd q.L i q.top q.top.toNat = Rg.top ⟨upd q.L i q.top, upd q.W i q.wa, q.m - 1, q.stk, q.wa⟩ := by
            rw [upd_ne (by omega), h2, hs.loop _ (by omega)]
            unfold Rg.top
            simp only
          have a2 : upd q.W i q.wa q.top.toNat = q.wa := by
            rw [upd_ne (by omega), h2, hs.wait _ (by omega), hw]
          show plcP c r (i + 1) ⟨upd q.L i q.top, upd q.W i q.wa, upd q.L i q.top q.top.toNat, upd q.W i q.wa q.top.toNat⟩ = _
          rw [a1, a2]
          rfl
    rw [if_neg h17, if_neg h17, if_neg h19]
    by_cases h20 : c.op i = 20
    · rw [if_pos h20, if_pos h20]
      have := hs.wa
      show (if q.wa = -1 ∨ c.arg i ≠ q.wa + 1 then none else _) = _
      by_cases hb : q.wa < 0 ∨ c.arg i ≠ q.wa + 1
      · rw [if_pos hb, if_pos (by omega)]; rfl
      · rw [if_neg hb, if_neg (by omega)]
        exact ih (i + 1) _ (by omega) (hs.keep (wa := -1) (.inl rfl))
    rw [if_neg h20, if_neg h20]
    exact ih (i + 1) _ (by omega) (hs.keep (wa := q.wa) (by have := hs.wa; omega))
theorem reg_stk (c : Cd) : ∀ (r i : Nat) (q q' : Rg), i + r = c.n → (∀ k, k < q.m → 0 ≤ q.stk k) → regR c r i q = some q' → ∀ k, k < q'.m → 0 ≤ q'.stk k := by
  intro r
  induction r with
  | zero => intro i q q' _ h e; cases e; exact h
  | succ r ih =>
    intro i q q' hi h e
    rw [regR] at e
    split at e
    · cases e
    split at e
    · refine ih (i + 1) _ _ (by omega) (fun k hk => ?_) e
      simp only at hk ⊢
      by_cases hk2 : k = q.m
      · subst hk2; rw [upd_same]; omega
      · rw [upd_ne hk2]; exact h k (by omega)
    split at e
    · split at e
      · cases e
      · refine ih (i + 1) _ _ (by omega) ?_ e
        intro k hk
        simp only at hk ⊢
        exact h k (by omega)
    split at e
    · refine ih (i + 1) _ _ (by omega) ?_ e
      exact h
    split at e
    · split at e
      · cases e
      · refine ih (i + 1) _ _ (by omega) ?_ e
        exact h
    · refine ih (i + 1) _ _ (by omega) ?_ e
      exact h
/-- The operand of an end of a loop or of a wait, if all is well formed. -/
theorem plc_args (c : Cd) : ∀ (r i : Nat) (q q' : Rg), i + r = c.n → Stk i q → regR c r i q = some q' → ∀ j, i ≤ j → j < c.n → (c.op j = 17 ∨ c.op j = 20) → 1 ≤ c.arg j ∧ c.arg j ≤ (j : Int) := by
  intro r
  induction r with
  | zero => intro i q q' hi _ _ j h1 h2; omega
  | succ r ih =>
    intro i q q' hi hs e j hj1 hj2 hj
    have ht := top_cases hs
    have hwa := hs.wa
    rw [regR] at e
    split at e
    · cases e
    rename_i hbad
    have impure : (c.op i = 16 ∨ c.op i = 17 ∨ c.op i = 19) → q.wa = -1 := by
      intro h
      have h1 : pureR (c.op i) = false := by unfold pureR; simp; omega
      by_cases hw : 0 ≤ q.wa
      · exact absurd ⟨hw, by omega, h1⟩ hbad
      · omega
    by_cases hji : j = i
    · subst hji
      rcases hj with h | h
      · rw [if_neg (by omega), if_pos h] at e
        split at e
        · cases e
        · omega
      · rw [if_neg (by omega), if_neg (by omega), if_neg (by omega), if_pos h] at e
        split at e
        · cases e
        · omega
    split at e
    · rename_i h16
      have hw := impure (.inl h16)
      refine ih (i + 1) _ _ (by omega) ?_ e j (by omega) hj2 hj
      refine ⟨fun k hk => ?_, fun k hk => ?_, fun k hk => ?_, by simp only; omega⟩
      · simp only at hk ⊢
        by_cases hk2 : k = q.m
        · subst hk2; rw [upd_same]; omega
        · rw [upd_ne hk2]; have := hs.lt k (by omega); omega
      · simp only at hk ⊢
        by_cases hk2 : k = q.m
        · subst hk2
          rw [upd_same, Int.toNat_natCast, upd_same]
          by_cases h0 : 0 < q.m
          · rw [if_pos h0, upd_ne (by omega)]; unfold Rg.top; rw [if_pos h0]
          · rw [if_neg h0]; unfold Rg.top; rw [if_neg h0]
        · have h1 := hs.lt k (by omega)
          have h2 := hs.loop k (by omega)
          rw [upd_ne hk2, upd_ne (by omega), h2]
          by_cases h0 : 0 < k
          · rw [if_pos h0, if_pos h0, upd_ne (by omega)]
          · rw [if_neg h0, if_neg h0]
      · simp only at hk ⊢
        by_cases hk2 : k = q.m
        · subst hk2
          rw [upd_same, Int.toNat_natCast, upd_same]; exact hw
        · have h1 := hs.lt k (by omega)
          rw [upd_ne hk2, upd_ne (by omega)]; exact hs.wait k (by omega)
    split at e
    · split at e
      · cases e
      · have hk := hs.keep (wa := q.wa) (by omega)
        refine ih (i + 1) _ _ (by omega) ?_ e j (by omega) hj2 hj
        exact ⟨fun k hk' => hk.lt k (by simp only at hk' ⊢; omega), fun k hk' => hk.loop k (by simp only at hk' ⊢; omega), fun k hk' => hk.wait k (by simp only at hk' ⊢; omega), hk.wa⟩
    split at e
    · exact ih (i + 1) _ _ (by omega) (hs.keep (wa := (i : Int)) (by omega)) e j (by omega) hj2 hj
    split at e
    · split at e
      · cases e
      · exact ih (i + 1) _ _ (by omega) (hs.keep (wa := -1) (.inl rfl)) e j (by omega) hj2 hj
    · exact ih (i + 1) _ _ (by omega) (hs.keep (wa := q.wa) (by omega)) e j (by omega) hj2 hj
def effLo (o : Int) : Int := if o = 1 ∨ o = 2 ∨ o = 4 then 0 else if o = 3 ∨ o = 21 ∨ o = 22 ∨ o = 20 then 1 else if o = 9 ∨ o = 13 then 1 else if 5 ≤ o ∧ o ≤ 12 then 2 else if o = 14 then 0 else if o = 15 then 1 else 0
def effHi (o : Int) : Int := if o = 1 ∨ o = 2 ∨ o = 4 then 15 else if o = 3 ∨ o = 21 ∨ o = 22 ∨ o = 20 then 1 else if o = 9 ∨ o = 13 then 16 else if 5 ≤ o ∧ o ≤ 12 then 16 else if o = 14 then 16 else if o = 15 then 16 else 0
def effBy (o : Int) : Int := if o = 1 ∨ o = 2 ∨ o = 4 then 1 else if o = 3 ∨ o = 21 ∨ o = 22 ∨ o = 20 then -1 else if o = 9 ∨ o = 13 then 0 else if 5 ≤ o ∧ o ≤ 12 then -1 else if o = 14 then 0 else if o = 15 then -1 else 0
def leftV (o d : Int) : Int := if o = 1 ∨ o = 2 ∨ o = 4 then d + 1 else if (5 ≤ o ∧ o ≤ 8) ∨ (10 ≤ o ∧ o ≤ 12) then d - 1 else if o = 9 ∨ o = 13 then d else if o = 14 then d else if o = 15 then d - 1 else 0
def leftB (o d : Int) : Prop := if o = 1 ∨ o = 2 ∨ o = 4 then d < 16 else if (5 ≤ o ∧ o ≤ 8) ∨ (10 ≤ o ∧ o ≤ 12) then 2 ≤ d else if o = 9 ∨ o = 13 then 1 ≤ d else if o = 14 then True else if o = 15 then 1 ≤ d else if o = 3 ∨ o = 21 ∨ o = 22 ∨ o = 20 then d = 1 else d = 0
theorem eff_left {o d : Int} (ho : okOp o) (hd : d ≤ 16) : (effLo o ≤ d ∧ d ≤ effHi o) ↔ (0 ≤ d ∧ leftB o d) := by
  unfold okOp at ho
  unfold effLo effHi leftB
  by_cases h1 : o = 1 ∨ o = 2 ∨ o = 4
  · simp only [if_pos h1]; (try simp only [true_and, and_true]); omega
  by_cases h3 : o = 3 ∨ o = 21 ∨ o = 22 ∨ o = 20
  · simp only [if_neg h1, if_pos h3, if_neg (show ¬ ((5 ≤ o ∧ o ≤ 8) ∨ (10 ≤ o ∧ o ≤ 12)) by omega), if_neg (show ¬ (o = 9 ∨ o = 13) by omega), if_neg (show ¬ o = 14 by omega), if_neg (show ¬ o = 15 by omega)]; (try simp only [true_and, and_true]); omega
  by_cases h9 : o = 9 ∨ o = 13
  · simp only [if_neg h1, if_neg h3, if_pos h9, if_neg (show ¬ ((5 ≤ o ∧ o ≤ 8) ∨ (10 ≤ o ∧ o ≤ 12)) by omega)]; (try simp only [true_and, and_true]); omega
  by_cases h5 : 5 ≤ o ∧ o ≤ 12
  · simp only [if_neg h1, if_neg h3, if_neg h9, if_pos h5, if_pos (show ((5 ≤ o ∧ o ≤ 8) ∨ (10 ≤ o ∧ o ≤ 12)) by omega)]; (try simp only [true_and, and_true]); omega
  have h5' : ¬ ((5 ≤ o ∧ o ≤ 8) ∨ (10 ≤ o ∧ o ≤ 12)) := by omega
  by_cases h14 : o = 14
  · simp only [if_neg h1, if_neg h3, if_neg h9, if_neg h5, if_neg h5', if_pos h14]; (try simp only [true_and, and_true]); omega
  by_cases h15 : o = 15
  · simp only [if_neg h1, if_neg h3, if_neg h9, if_neg h5, if_neg h5', if_neg h14, if_pos h15]; (try simp only [true_and, and_true]); omega
  simp only [if_neg h1, if_neg h3, if_neg h9, if_neg h5, if_neg h5', if_neg h14, if_neg h15]; (try simp only [true_and, and_true]); omega
theorem eff_val {o d : Int} (ho : okOp o) (h0 : 0 ≤ d) (h16 : d ≤ 16) (hl : leftB o d) : d + effBy o = leftV o d ∧ 0 ≤ leftV o d ∧ leftV o d ≤ 16 := by
  unfold okOp at ho
  unfold leftB at hl
  unfold effBy leftV
  by_cases h1 : o = 1 ∨ o = 2 ∨ o = 4
  · simp only [if_pos h1] at hl ⊢; (try simp only [true_and, and_true]); omega
  by_cases h3 : o = 3 ∨ o = 21 ∨ o = 22 ∨ o = 20
  · simp only [if_neg h1, if_pos h3, if_neg (show ¬ ((5 ≤ o ∧ o ≤ 8) ∨ (10 ≤ o ∧ o ≤ 12)) by omega), if_neg (show ¬ (o = 9 ∨ o = 13) by omega), if_neg (show ¬ o = 14 by omega), if_neg (show ¬ o = 15 by omega)] at hl ⊢; (try simp only [true_and, and_true]); omega
  by_cases h9 : o = 9 ∨ o = 13
  · simp only [if_neg h1, if_neg h3, if_pos h9, if_neg (show ¬ ((5 ≤ o ∧ o ≤ 8) ∨ (10 ≤ o ∧ o ≤ 12)) by omega)] at hl ⊢; (try simp only [true_and, and_true]); omega
  by_cases h5 : 5 ≤ o ∧ o ≤ 12
  · simp only [if_neg h1, if_neg h3, if_neg h9, if_pos h5, if_pos (show ((5 ≤ o ∧ o ≤ 8) ∨ (10 ≤ o ∧ o ≤ 12)) by omega)] at hl ⊢; (try simp only [true_and, and_true]); omega
  have h5' : ¬ ((5 ≤ o ∧ o ≤ 8) ∨ (10 ≤ o ∧ o ≤ 12)) := by omega
  by_cases h14 : o = 14
  · simp only [if_neg h1, if_neg h3, if_neg h9, if_neg h5, if_neg h5', if_pos h14] at hl ⊢; (try simp only [true_and, and_true]); omega
  by_cases h15 : o = 15
  · simp only [if_neg h1, if_neg h3, if_neg h9, if_neg h5, if_neg h5', if_neg h14, if_pos h15] at hl ⊢; (try simp only [true_and, and_true]); omega
  simp only [if_neg h1, if_neg h3, if_neg h9, if_neg h5, if_neg h5', if_neg h14, if_neg h15] at hl ⊢; (try simp only [true_and, and_true]); omega
def jmp (o : Int) : Prop := o = 14 ∨ o = 15
instance (o : Int) : Decidable (jmp o) := by unfold jmp; infer_instance
def rchD (n : Nat) (dp : Nat → Int) (to d : Int) : Nat → Int := if to < n ∧ dp to.toNat = -1 then upd dp to.toNat d else dp
def rchB (n : Nat) (dp : Nat → Int) (to d : Int) : Prop := (n : Int) ≤ to ∨ rchD n dp to d to.toNat = d
def balP (c : Cd) : Nat → Nat → (Nat → Int) → Prop
  | 0, _, _ => True
  | r + 1, i, dp => (okOp (c.op i) ∧ effLo (c.op i) ≤ dp i ∧ dp i ≤ effHi (c.op i)) ∧
    (jmp (c.op i) → rchB c.n dp (c.arg i) (dp i + effBy (c.op i))) ∧
    (c.op i ≠ 14 → rchB c.n (if jmp (c.op i) then rchD c.n dp (c.arg i) (dp i + effBy (c.op i)) else dp) ((i + 1 : Nat) : Int) (dp i + effBy (c.op i))) ∧
    balP c r (i + 1) (if c.op i ≠ 14 then rchD c.n (if jmp (c.op i) then rchD c.n dp (c.arg i) (dp i + effBy (c.op i)) else dp) ((i + 1 : Nat) : Int) (dp i + effBy (c.op i)) else (if jmp (c.op i) then rchD c.n dp (c.arg i) (dp i + effBy (c.op i)) else dp))
def bad (dp : Nat → Int) (t : Nat) (d : Int) : Prop := 0 ≤ dp t ∧ dp t ≠ d
def depR (c : Cd) : Nat → Nat → (Nat → Int) → Prop
  | 0, _, _ => True
  | r + 1, i, dp => (0 ≤ dp i ∧ leftB (c.op i) (dp i)) ∧
    ((c.op i ≠ 14 ∧ i + 1 < c.n) → ¬ bad dp (i + 1) (leftV (c.op i) (dp i))) ∧
    (jmp (c.op i) → ¬ bad (if c.op i ≠ 14 ∧ i + 1 < c.n then upd dp (i + 1) (leftV (c.op i) (dp i)) else dp) (c.arg i).toNat (leftV (c.op i) (dp i))) ∧
    depR c r (i + 1) (if jmp (c.op i) then upd (if c.op i ≠ 14 ∧ i + 1 < c.n then upd dp (i + 1) (leftV (c.op i) (dp i)) else dp) (c.arg i).toNat (leftV (c.op i) (dp i)) else (if c.op i ≠ 14 ∧ i + 1 < c.n then upd dp (i + 1) (leftV (c.op i) (dp i)) else dp))
def Dv (dp : Nat → Int) : Prop := ∀ t, dp t = -1 ∨ (0 ≤ dp t ∧ dp t ≤ 16)
theorem Dv.upd {dp : Nat → Int} (h : Dv dp) {t : Nat} {d : Int} (h0 : 0 ≤ d) (h1 : d ≤ 16) : Dv (Cv.upd dp t d) := by
  intro j
  unfold Cv.upd
  split
  · exact .inr ⟨h0, h1⟩
  · exact h j
theorem rch_iff {n : Nat} {dp : Nat → Int} {to d : Int} (h : Dv dp) (h0 : 0 ≤ to) (hn : to < n) (hd : 0 ≤ d) (X : (Nat → Int) → Prop) : (rchB n dp to d ∧ X (rchD n dp to d)) ↔ (¬ bad dp to.toNat d ∧ X (upd dp to.toNat d)) := by
  have hv := h to.toNat
  unfold rchB rchD bad
  by_cases hm : dp to.toNat = -1
  · rw [if_pos ⟨hn, hm⟩, upd_same]
    constructor
    · rintro ⟨_, hx⟩; exact ⟨fun hb => by omega, hx⟩
    · rintro ⟨_, hx⟩; exact ⟨.inr rfl, hx⟩
  · rw [if_neg (fun hb => hm hb.2)]
    constructor
    · rintro ⟨h1, hx⟩
      have h2 : dp to.toNat = d := by omega
      exact ⟨fun hb => hb.2 h2, by rw [upd_id h2]; exact hx⟩
    · rintro ⟨h1, hx⟩
      have h2 : dp to.toNat = d := by
        rcases hv with hv | hv
        · exact absurd hv hm
        · exact Classical.not_not.1 fun h3 => h1 ⟨hv.1, h3⟩
      exact ⟨.inr h2, by rw [upd_id h2] at hx; exact hx⟩
theorem rch_end {n : Nat} {dp : Nat → Int} {d : Int} : rchB n dp ((n : Nat) : Int) d ∧ rchD n dp ((n : Nat) : Int) d = dp := by
  unfold rchB rchD
  exact ⟨.inl (Int.le_refl _), if_neg (by omega)⟩
theorem upd_comm {f : Nat → Int} {a b : Nat} {d : Int} : upd (upd f a d) b d = upd (upd f b d) a d := by
  funext j
  unfold upd
  split <;> split <;> simp_all
theorem bal_dep (c : Cd) (hok : ∀ i, i < c.n → okOp (c.op i)) (harg : ∀ i, i < c.n → jmp (c.op i) → (i : Int) + 1 ≤ c.arg i ∧ c.arg i ≤ (c.n : Int) - 1) : ∀ (r i : Nat) (dp : Nat → Int), i + r = c.n → Dv dp → (balP c r i dp ↔ depR c r i dp) := by
  intro r
  induction r with
  | zero => intro i dp _ _; exact Iff.rfl
  | succ r ih =>
    intro i dp hi hv
    have ho := hok i (by omega)
    have hvi := hv i
    have h16 : dp i ≤ 16 := by omega
    rw [balP, depR]
    have e1 := eff_left ho h16
    by_cases hl' : ¬ (0 ≤ dp i ∧ leftB (c.op i) (dp i))
    · constructor
      · rintro ⟨⟨_, h2⟩, _⟩; exact absurd (e1.1 h2) hl'
      · rintro ⟨h2, _⟩; exact absurd h2 hl'
    have hl := Classical.not_not.1 hl'
    obtain ⟨v1, v2, v3⟩ := eff_val ho hl.1 h16 hl.2
    have hA : (okOp (c.op i) ∧ effLo (c.op i) ≤ dp i ∧ dp i ≤ effHi (c.op i)) ↔ (0 ≤ dp i ∧ leftB (c.op i) (dp i)) := ⟨fun _ => hl, fun _ => ⟨ho, e1.2 hl⟩⟩
    rw [hA, v1]
    refine and_congr_right fun _ => ?_
    generalize leftV (c.op i) (dp i) = d at *
    by_cases hj : jmp (c.op i)
    · obtain ⟨a1, a2⟩ := harg i (by omega) hj
      simp only [hj, if_true, true_implies]
      by_cases h14 : c.op i = 14
      · simp only [h14, ne_eq, not_true_eq_false, false_and, if_false, false_implies, true_and]
        rw [rch_iff hv (by omega) (by omega) v2 (fun f => balP c r (i + 1) f)]
        exact and_congr_right fun _ => ih (i + 1) _ (by omega) (hv.upd v2 v3)
      · have hin : c.op i ≠ 14 ∧ i + 1 < c.n := ⟨h14, by omega⟩
        simp only [h14, ne_eq, not_false_eq_true, true_and, if_true, true_implies, show i + 1 < c.n from hin.2]
        have key1 := rch_iff (n := c.n) hv (to := c.arg i) (by omega) (by omega) v2 (fun f => rchB c.n f ((i + 1 : Nat) : Int) d ∧ balP c r (i + 1) (rchD c.n f ((i + 1 : Nat) : Int) d))
        have key2 := rch_iff (n := c.n) (hv.upd (t := (c.arg i).toNat) v2 v3) (to := ((i + 1 : Nat) : Int)) (by omega) (by omega) v2 (fun f => balP c r (i + 1) f)
        rw [key1, key2, Int.toNat_natCast, upd_comm, ih (i + 1) _ (by omega) ((hv.upd v2 v3).upd v2 v3)]
        have hb : ∀ x y : Nat, (¬ bad dp x d ∧ ¬ bad (upd dp x d) y d) ↔ (¬ bad dp x d ∧ ¬ bad dp y d) := by
          intro x y
          refine and_congr_right fun hx => ?_
          by_cases hxy : y = x
          · subst hxy
            refine ⟨fun _ => hx, fun _ h => h.2 (upd_same _ _ _)⟩
          · unfold bad; rw [upd_ne hxy]
        constructor
        · rintro ⟨p1, p2, p3⟩
          have := (hb _ _).1 ⟨p1, p2⟩
          have q := (hb (i + 1) (c.arg i).toNat).2 ⟨this.2, this.1⟩
          exact ⟨q.1, q.2, p3⟩
        · rintro ⟨p1, p2, p3⟩
          have := (hb _ _).1 ⟨p1, p2⟩
          have q := (hb (c.arg i).toNat (i + 1)).2 ⟨this.2, this.1⟩
          exact ⟨q.1, q.2, p3⟩
    · have h14 : c.op i ≠ 14 := fun h => hj (.inl h)
      simp only [hj, if_false, false_implies, true_and]
      by_cases hin : i + 1 < c.n
      · simp only [h14, ne_eq, not_false_eq_true, true_and, hin, if_true, true_implies]
        rw [rch_iff hv (by omega) (by omega) v2 (fun f => balP c r (i + 1) f), Int.toNat_natCast]
        exact and_congr_right fun _ => ih (i + 1) _ (by omega) (hv.upd v2 v3)
      · have hn : i + 1 = c.n := by omega
        simp only [h14, ne_eq, not_false_eq_true, true_and, hin, if_true, if_false, true_implies, false_implies]
        rw [hn]
        obtain ⟨g1, g2⟩ := rch_end (n := c.n) (dp := dp) (d := d)
        rw [g2]
        have hr : r = 0 := by omega
        subst hr
        exact ⟨fun h => h.2, fun h => ⟨g1, h⟩⟩
theorem bal_ok (c : Cd) : ∀ (r i : Nat) (dp : Nat → Int), balP c r i dp → ∀ j, i ≤ j → j < i + r → okOp (c.op j) := by
  intro r
  induction r with
  | zero => intro i dp _ j h1 h2; omega
  | succ r ih =>
    intro i dp h j h1 h2
    rw [balP] at h
    by_cases hj : j = i
    · subst hj; exact h.1.1
    · exact ih (i + 1) _ h.2.2.2 j (by omega) (by omega)
def zero : Nat → Int := fun _ => 0
def dp0 : Nat → Int := fun j => if j = 0 then 0 else -1
def jmps (c : Cd) (oL oW : Nat → Int) : Prop := ∀ i, i < c.n → jmp (c.op i) → oL (c.arg i).toNat = oL i ∧ oW (c.arg i).toNat = oW i
def VP (c : Cd) : Prop := (∀ i, i < c.n → rng c i ∧ stopOk c i) ∧ (∃ q, plcP c c.n 0 ⟨zero, zero, -1, -1⟩ = some q ∧ (q.lo = -1 ∧ q.wa = -1) ∧ jmps c q.oL q.oW) ∧ balP c c.n 0 dp0
def VR (c : Cd) : Prop := (∀ i, i < c.n → stopOk c i ∧ opnd c i) ∧ (∃ q, regR c c.n 0 ⟨zero, zero, 0, zero, -1⟩ = some q ∧ (q.m = 0 ∧ q.wa < 0) ∧ jmps c q.L q.W) ∧ depR c c.n 0 dp0
theorem Dv0 : Dv dp0 := by
  intro t
  unfold dp0
  split
  · exact .inr ⟨by decide, by decide⟩
  · exact .inl rfl
theorem Stk0 : Stk 0 ⟨zero, zero, 0, zero, -1⟩ := ⟨fun k hk => by simp at hk, fun k hk => by simp at hk, fun k hk => by simp at hk, .inl rfl⟩
theorem reg_wa (c : Cd) : ∀ (r i : Nat) (q q' : Rg), (q.wa = -1 ∨ 0 ≤ q.wa) → regR c r i q = some q' → (q'.wa = -1 ∨ 0 ≤ q'.wa) := by
  intro r
  induction r with
  | zero => intro i q q' h e; cases e; exact h
  | succ r ih =>
    intro i q q' h e
    rw [regR] at e
    split at e
    · cases e
    split at e
    · refine ih (i + 1) _ _ ?_ e
      exact h
    split at e
    · split at e
      · cases e
      · refine ih (i + 1) _ _ ?_ e
        exact h
    split at e
    · refine ih (i + 1) _ _ ?_ e
      right; simp only; omega
    split at e
    · split at e
      · cases e
      · refine ih (i + 1) _ _ ?_ e
        exact .inl rfl
    · refine ih (i + 1) _ _ ?_ e
      exact h
theorem VP_VR (c : Cd) : VP c ↔ VR c := by
  have fin : ∀ q, regR c c.n 0 ⟨zero, zero, 0, zero, -1⟩ = some q → ((q.top = -1 ∧ q.wa = -1) ↔ (q.m = 0 ∧ q.wa < 0)) := by
    intro q hq
    have h1 := reg_stk c c.n 0 _ q (by omega) (fun k hk => by simp at hk) hq
    have h2 := reg_wa c c.n 0 _ q (.inl rfl) hq
    unfold Rg.top
    by_cases hm : 0 < q.m
    · have := h1 (q.m - 1) (by omega)
      rw [if_pos hm]; omega
    · rw [if_neg hm]; omega
  constructor
  · rintro ⟨h1, ⟨q, h2, h3, h4⟩, h5⟩
    have hok : ∀ i, i < c.n → okOp (c.op i) := fun i hi => bal_ok c c.n 0 dp0 h5 i (by omega) (by omega)
    have harg : ∀ i, i < c.n → jmp (c.op i) → (i : Int) + 1 ≤ c.arg i ∧ c.arg i ≤ (c.n : Int) - 1 := fun i hi hj => rng_jump hj (h1 i hi).1
    have e := plc_reg c hok c.n 0 ⟨zero, zero, 0, zero, -1⟩ (by omega) Stk0
    have e0 : Rg.pl ⟨zero, zero, 0, zero, -1⟩ = ⟨zero, zero, -1, -1⟩ := rfl
    rw [e0, h2] at e
    obtain ⟨q', g1, g2⟩ : ∃ q', regR c c.n 0 ⟨zero, zero, 0, zero, -1⟩ = some q' ∧ q'.pl = q := by
      cases hr : regR c c.n 0 ⟨zero, zero, 0, zero, -1⟩ with
      | none => rw [hr] at e; cases e
      | some q' => rw [hr] at e; simp only [Option.map_some, Option.some.injEq] at e; exact ⟨q', rfl, e.symm⟩
    subst g2
    refine ⟨fun i hi => ⟨(h1 i hi).2, ?_⟩, ⟨q', g1, (fin q' g1).1 h3, h4⟩, (bal_dep c hok harg c.n 0 dp0 (by omega) Dv0).1 h5⟩
    by_cases h17 : c.op i = 17 ∨ c.op i = 20
    · exact opnd_17 h17
    · exact (opnd_rng (hok i hi) (fun h => h17 (.inl h)) (fun h => h17 (.inr h))).2 (h1 i hi).1
  · rintro ⟨h1, ⟨q, h2, h3, h4⟩, h5⟩
    have hok : ∀ i, i < c.n → okOp (c.op i) := fun i hi => opnd_ok (h1 i hi).2
    have hr : ∀ i, i < c.n → rng c i := by
      intro i hi
      by_cases h17 : c.op i = 17 ∨ c.op i = 20
      · exact (rng_17 h17).2 (plc_args c c.n 0 _ q (by omega) Stk0 h2 i (by omega) hi h17)
      · exact (opnd_rng (hok i hi) (fun h => h17 (.inl h)) (fun h => h17 (.inr h))).1 (h1 i hi).2
    have harg : ∀ i, i < c.n → jmp (c.op i) → (i : Int) + 1 ≤ c.arg i ∧ c.arg i ≤ (c.n : Int) - 1 := fun i hi hj => rng_jump hj (hr i hi)
    have e := plc_reg c hok c.n 0 ⟨zero, zero, 0, zero, -1⟩ (by omega) Stk0
    rw [h2] at e
    exact ⟨fun i hi => ⟨hr i hi, (h1 i hi).1⟩, ⟨q.pl, e, (fin q h2).2 h3, h4⟩, (bal_dep c hok harg c.n 0 dp0 (by omega) Dv0).2 h5⟩
end Go.Proofs.Cv
/- What the small functions of the two checks of code compute. -/
namespace Go.Proofs.YtcljccpddodckaaGreatDoor
open Go Go.Am Go.Proofs
set_option linter.unusedSimpArgs false
set_option linter.unusedVariables false
def ins (op arg : Nat → Int) : Nat → List V := fun j => [i64 (op j), i64 (arg j)]
noncomputable def E2 : Env := { P := Tryz.prog, glob := fun _ => none, ext := fun _ _ => none, way := way, lit := litF, code := fun f => (Tryz.prog.funcs[f]?).bind annF, sett := fun _ => true }
set_option maxRecDepth 100000 in
theorem hW2 : WF E2 := WF.of E2 (fun _ => rfl) (by kernel_rfl)
theorem hX2 : SoundX E2 := SoundX.none fun _ _ => rfl
theorem sc2 {f : FuncId} {args : List V} {L : List (Option Chunk)} {cr : CRes} (h : SC E2 f args L cr) : SC E f args L cr :=
  ⟨h.1, fun β S w us h1 h2 h3 => h.2 β S w us h1 h2 ⟨fun g cs h => (by cases h), fun p hp => (by cases hp)⟩⟩
def K : CRes → Option Ans := fun r => some (.c r)
theorem SC.g2 {n : Nat} {f : FuncId} {args : List V} {L : List (Option Chunk)} {cr : CRes} (h : callG E2 n f args L K = some (.c cr)) : SC E2 f args L cr := by
  obtain ⟨cr', e1, e2⟩ := (sound_G hW2 hX2 n).1 _ _ _ _ _ h
  simp only [K, Option.some.injEq, Ans.c.injEq] at e1
  rwa [e1] at e2
abbrev w (n : Int) : Int := IntKind.wrap .i64 n
theorem w_in {n : Int} (h : inR n) : w n = n := by
  unfold w; rw [IntKind.wrap_i64]; unfold inR at h; omega
def jk (n : Nat) : List V := List.replicate n .junk
def codV (nm : ByteArray) (ps vs : Int) (n : Nat) (op arg : Nat → Int) : V := .agg [st nm, i64 ps, i64 vs, .ro 2 n (ins op arg)]
theorem g69 (nm : ByteArray) (ps vs : Int) (n : Nat) (op arg : Nat → Int) (i : Nat) : callG E2 20 17 [codV nm ps vs n op arg, i64 i] [] K =
  if (0 : Int) ≤ (i : Int) ∧ (i : Int) < (n : Int) then
   if (op (Int.toNat (i : Int)) == (1 : Int)) = true then
    some (Ans.c (CRes.ret (V.tup [i64 (-2147483647), i64 2147483647]) []))
   else
    if (op (Int.toNat (i : Int)) == (2 : Int)) = true then
     some (Ans.c (CRes.ret (V.tup [i64 0, i64 (w (vs - (1 : Int)))]) []))
    else
     if (op (Int.toNat (i : Int)) == (3 : Int)) = true then
      some (Ans.c (CRes.ret (V.tup [i64 0, i64 (w (vs - (1 : Int)))]) []))
     else
      if (op (Int.toNat (i : Int)) == (4 : Int)) = true then
       some (Ans.c (CRes.ret (V.tup [i64 0, i64 5]) []))
      else
       if (op (Int.toNat (i : Int)) == (14 : Int)) = true then
        some (Ans.c (CRes.ret (V.tup [i64 (w ((i : Int) + (1 : Int))), i64 (w ((n : Int) - (1 : Int)))]) []))
       else
        if (op (Int.toNat (i : Int)) == (15 : Int)) = true then
         some (Ans.c (CRes.ret (V.tup [i64 (w ((i : Int) + (1 : Int))), i64 (w ((n : Int) - (1 : Int)))]) []))
        else
         if (op (Int.toNat (i : Int)) == (16 : Int)) = true then
          some (Ans.c (CRes.ret (V.tup [i64 1, i64 100]) []))
         else
          if (op (Int.toNat (i : Int)) == (17 : Int)) = true then
           some (Ans.c (CRes.ret (V.tup [i64 1, i64 (i : Int)]) []))
          else
           if (op (Int.toNat (i : Int)) == (20 : Int)) = true then
            some (Ans.c (CRes.ret (V.tup [i64 1, i64 (i : Int)]) []))
           else
            if (op (Int.toNat (i : Int)) == (18 : Int)) = true then
             some (Ans.c (CRes.ret (V.tup [i64 0, i64 1000000]) []))
            else
             if (op (Int.toNat (i : Int)) == (19 : Int)) = true then
              some (Ans.c (CRes.ret (V.tup [i64 0, i64 1000000]) []))
             else
              if (op (Int.toNat (i : Int)) == (23 : Int)) = true then
               some (Ans.c (CRes.ret (V.tup [i64 0, i64 7999999]) []))
              else
               if (op (Int.toNat (i : Int)) == (24 : Int)) = true then
                some (Ans.c (CRes.ret (V.tup [i64 0, i64 2147483647]) []))
               else
                if (op (Int.toNat (i : Int)) == (25 : Int)) = true then
                 some (Ans.c (CRes.ret (V.tup [i64 0, i64 2147483647]) []))
                else
                 if (op (Int.toNat (i : Int)) == (26 : Int)) = true then
                  some (Ans.c (CRes.ret (V.tup [i64 0, i64 99]) []))
                 else
                  if (op (Int.toNat (i : Int)) == (27 : Int)) = true then
                   some (Ans.c (CRes.ret (V.tup [i64 0, i64 999]) []))
                  else
                   some (Ans.c (CRes.ret (V.tup [i64 0, i64 0]) []))
  else
   none := by kernel_rfl

theorem g75 (o : Int) : callG E2 20 43 [i64 o] [] K =
  if decide (o ≤ (15 : Int)) = true then
   some (Ans.c (CRes.ret (bo ((o != (3 : Int)))) []))
  else
   some (Ans.c (CRes.ret (bo false) [])) := by kernel_rfl

theorem g82 (o : Int) : callG E2 20 23 [i64 o] [] K =
  if (o == (1 : Int)) = true then
   some (Ans.c (CRes.ret (bo true) []))
  else
   if (o == (2 : Int)) = true then
    some (Ans.c (CRes.ret (bo true) []))
   else
    if (o == (4 : Int)) = true then
     some (Ans.c (CRes.ret (bo true) []))
    else
     if decide (o ≥ (5 : Int)) = true then
      if decide (o ≤ (13 : Int)) = true then
       some (Ans.c (CRes.ret (bo true) []))
      else
       if (o == (14 : Int)) = true then
        some (Ans.c (CRes.ret (bo true) []))
       else
        some (Ans.c (CRes.ret (bo ((o == (15 : Int)))) []))
     else
      if (o == (14 : Int)) = true then
       some (Ans.c (CRes.ret (bo true) []))
      else
       some (Ans.c (CRes.ret (bo ((o == (15 : Int)))) [])) := by kernel_rfl

theorem g77 (o : Int) : callG E2 20 45 [i64 o] [] K =
  if decide (o ≥ (1 : Int)) = true then
   if decide (o ≤ (2 : Int)) = true then
    some (Ans.c (CRes.ret (V.tup [V.agg [i64 0, i64 15, i64 1], bo true]) []))
   else
    if (o == (4 : Int)) = true then
     some (Ans.c (CRes.ret (V.tup [V.agg [i64 0, i64 15, i64 1], bo true]) []))
    else
     if (o == (3 : Int)) = true then
      some (Ans.c (CRes.ret (V.tup [V.agg [i64 1, i64 1, i64 (-1)], bo true]) []))
     else
      if (o == (21 : Int)) = true then
       some (Ans.c (CRes.ret (V.tup [V.agg [i64 1, i64 1, i64 (-1)], bo true]) []))
      else
       if (o == (22 : Int)) = true then
        some (Ans.c (CRes.ret (V.tup [V.agg [i64 1, i64 1, i64 (-1)], bo true]) []))
       else
        if (o == (20 : Int)) = true then
         some (Ans.c (CRes.ret (V.tup [V.agg [i64 1, i64 1, i64 (-1)], bo true]) []))
        else
         if (o == (9 : Int)) = true then
          some (Ans.c (CRes.ret (V.tup [V.agg [i64 1, i64 16, i64 0], bo true]) []))
         else
          if (o == (13 : Int)) = true then
           some (Ans.c (CRes.ret (V.tup [V.agg [i64 1, i64 16, i64 0], bo true]) []))
          else
           if decide (o ≥ (5 : Int)) = true then
            if decide (o ≤ (12 : Int)) = true then
             some (Ans.c (CRes.ret (V.tup [V.agg [i64 2, i64 16, i64 (-1)], bo true]) []))
            else
             if (o == (14 : Int)) = true then
              some (Ans.c (CRes.ret (V.tup [V.agg [i64 0, i64 16, i64 0], bo true]) []))
             else
              if (o == (15 : Int)) = true then
               some (Ans.c (CRes.ret (V.tup [V.agg [i64 1, i64 16, i64 (-1)], bo true]) []))
              else
               if decide (o ≥ (1 : Int)) = true then
                some (Ans.c (CRes.ret (V.tup [V.agg [i64 0, i64 0, i64 0], bo ((decide (o ≤ (28 : Int))))]) []))
               else
                some (Ans.c (CRes.ret (V.tup [V.agg [i64 0, i64 0, i64 0], bo false]) []))
           else
            if (o == (14 : Int)) = true then
             some (Ans.c (CRes.ret (V.tup [V.agg [i64 0, i64 16, i64 0], bo true]) []))
            else
             if (o == (15 : Int)) = true then
              some (Ans.c (CRes.ret (V.tup [V.agg [i64 1, i64 16, i64 (-1)], bo true]) []))
             else
              if decide (o ≥ (1 : Int)) = true then
               some (Ans.c (CRes.ret (V.tup [V.agg [i64 0, i64 0, i64 0], bo ((decide (o ≤ (28 : Int))))]) []))
              else
               some (Ans.c (CRes.ret (V.tup [V.agg [i64 0, i64 0, i64 0], bo false]) []))
  else
   if (o == (4 : Int)) = true then
    some (Ans.c (CRes.ret (V.tup [V.agg [i64 0, i64 15, i64 1], bo true]) []))
   else
    if (o == (3 : Int)) = true then
     some (Ans.c (CRes.ret (V.tup [V.agg [i64 1, i64 1, i64 (-1)], bo true]) []))
    else
     if (o == (21 : Int)) = true then
      some (Ans.c (CRes.ret (V.tup [V.agg [i64 1, i64 1, i64 (-1)], bo true]) []))
     else
      if (o == (22 : Int)) = true then
       some (Ans.c (CRes.ret (V.tup [V.agg [i64 1, i64 1, i64 (-1)], bo true]) []))
      else
       if (o == (20 : Int)) = true then
        some (Ans.c (CRes.ret (V.tup [V.agg [i64 1, i64 1, i64 (-1)], bo true]) []))
       else
        if (o == (9 : Int)) = true then
         some (Ans.c (CRes.ret (V.tup [V.agg [i64 1, i64 16, i64 0], bo true]) []))
        else
         if (o == (13 : Int)) = true then
          some (Ans.c (CRes.ret (V.tup [V.agg [i64 1, i64 16, i64 0], bo true]) []))
         else
          if decide (o ≥ (5 : Int)) = true then
           if decide (o ≤ (12 : Int)) = true then
            some (Ans.c (CRes.ret (V.tup [V.agg [i64 2, i64 16, i64 (-1)], bo true]) []))
           else
            if (o == (14 : Int)) = true then
             some (Ans.c (CRes.ret (V.tup [V.agg [i64 0, i64 16, i64 0], bo true]) []))
            else
             if (o == (15 : Int)) = true then
              some (Ans.c (CRes.ret (V.tup [V.agg [i64 1, i64 16, i64 (-1)], bo true]) []))
             else
              if decide (o ≥ (1 : Int)) = true then
               some (Ans.c (CRes.ret (V.tup [V.agg [i64 0, i64 0, i64 0], bo ((decide (o ≤ (28 : Int))))]) []))
              else
               some (Ans.c (CRes.ret (V.tup [V.agg [i64 0, i64 0, i64 0], bo false]) []))
          else
           if (o == (14 : Int)) = true then
            some (Ans.c (CRes.ret (V.tup [V.agg [i64 0, i64 16, i64 0], bo true]) []))
           else
            if (o == (15 : Int)) = true then
             some (Ans.c (CRes.ret (V.tup [V.agg [i64 1, i64 16, i64 (-1)], bo true]) []))
            else
             if decide (o ≥ (1 : Int)) = true then
              some (Ans.c (CRes.ret (V.tup [V.agg [i64 0, i64 0, i64 0], bo ((decide (o ≤ (28 : Int))))]) []))
             else
              some (Ans.c (CRes.ret (V.tup [V.agg [i64 0, i64 0, i64 0], bo false]) [])) := by kernel_rfl

theorem g83 (o d : Int) : callG E2 20 59 [i64 o, i64 d] [] K =
  if (o == (1 : Int)) = true then
   some (Ans.c (CRes.ret (V.tup [i64 (w (d + (1 : Int))), bo ((decide (d < (16 : Int))))]) []))
  else
   if (o == (2 : Int)) = true then
    some (Ans.c (CRes.ret (V.tup [i64 (w (d + (1 : Int))), bo ((decide (d < (16 : Int))))]) []))
   else
    if (o == (4 : Int)) = true then
     some (Ans.c (CRes.ret (V.tup [i64 (w (d + (1 : Int))), bo ((decide (d < (16 : Int))))]) []))
    else
     if (o == (5 : Int)) = true then
      some (Ans.c (CRes.ret (V.tup [i64 (w (d - (1 : Int))), bo ((decide (d ≥ (2 : Int))))]) []))
     else
      if (o == (6 : Int)) = true then
       some (Ans.c (CRes.ret (V.tup [i64 (w (d - (1 : Int))), bo ((decide (d ≥ (2 : Int))))]) []))
      else
       if (o == (7 : Int)) = true then
        some (Ans.c (CRes.ret (V.tup [i64 (w (d - (1 : Int))), bo ((decide (d ≥ (2 : Int))))]) []))
       else
        if (o == (8 : Int)) = true then
         some (Ans.c (CRes.ret (V.tup [i64 (w (d - (1 : Int))), bo ((decide (d ≥ (2 : Int))))]) []))
        else
         if (o == (10 : Int)) = true then
          some (Ans.c (CRes.ret (V.tup [i64 (w (d - (1 : Int))), bo ((decide (d ≥ (2 : Int))))]) []))
         else
          if (o == (11 : Int)) = true then
           some (Ans.c (CRes.ret (V.tup [i64 (w (d - (1 : Int))), bo ((decide (d ≥ (2 : Int))))]) []))
          else
           if (o == (12 : Int)) = true then
            some (Ans.c (CRes.ret (V.tup [i64 (w (d - (1 : Int))), bo ((decide (d ≥ (2 : Int))))]) []))
           else
            if (o == (9 : Int)) = true then
             some (Ans.c (CRes.ret (V.tup [i64 d, bo ((decide (d ≥ (1 : Int))))]) []))
            else
             if (o == (13 : Int)) = true then
              some (Ans.c (CRes.ret (V.tup [i64 d, bo ((decide (d ≥ (1 : Int))))]) []))
             else
              if (o == (14 : Int)) = true then
               some (Ans.c (CRes.ret (V.tup [i64 d, bo true]) []))
              else
               if (o == (15 : Int)) = true then
                some (Ans.c (CRes.ret (V.tup [i64 (w (d - (1 : Int))), bo ((decide (d ≥ (1 : Int))))]) []))
               else
                if (o == (3 : Int)) = true then
                 some (Ans.c (CRes.ret (V.tup [i64 0, bo ((d == (1 : Int)))]) []))
                else
                 if (o == (21 : Int)) = true then
                  some (Ans.c (CRes.ret (V.tup [i64 0, bo ((d == (1 : Int)))]) []))
                 else
                  if (o == (22 : Int)) = true then
                   some (Ans.c (CRes.ret (V.tup [i64 0, bo ((d == (1 : Int)))]) []))
                  else
                   if (o == (20 : Int)) = true then
                    some (Ans.c (CRes.ret (V.tup [i64 0, bo ((d == (1 : Int)))]) []))
                   else
                    some (Ans.c (CRes.ret (V.tup [i64 0, bo ((d == (0 : Int)))]) [])) := by kernel_rfl

theorem g78 (nm : ByteArray) (ps vs : Int) (n : Nat) (op arg : Nat → Int) (i : Nat) : callG E2 20 46 [codV nm ps vs n op arg, i64 i] [] K =
  if (0 : Int) ≤ (i : Int) ∧ (i : Int) < (n : Int) then
   if (0 : Int) ≤ (i : Int) ∧ (i : Int) < (n : Int) then
    if (op (Int.toNat (i : Int)) == (1 : Int)) = true then
     if decide (arg (Int.toNat (i : Int)) ≥ (-2147483647 : Int)) = true then
      some (Ans.c (CRes.ret (bo ((decide (arg (Int.toNat (i : Int)) ≤ (2147483647 : Int))))) []))
     else
      some (Ans.c (CRes.ret (bo false) []))
    else
     if (op (Int.toNat (i : Int)) == (2 : Int)) = true then
      if decide (arg (Int.toNat (i : Int)) ≥ (0 : Int)) = true then
       some (Ans.c (CRes.ret (bo ((decide (arg (Int.toNat (i : Int)) ≤ w (vs - (1 : Int)))))) []))
      else
       some (Ans.c (CRes.ret (bo false) []))
     else
      if (op (Int.toNat (i : Int)) == (3 : Int)) = true then
       if decide (arg (Int.toNat (i : Int)) ≥ (0 : Int)) = true then
        some (Ans.c (CRes.ret (bo ((decide (arg (Int.toNat (i : Int)) ≤ w (vs - (1 : Int)))))) []))
       else
        some (Ans.c (CRes.ret (bo false) []))
      else
       if (op (Int.toNat (i : Int)) == (4 : Int)) = true then
        if decide (arg (Int.toNat (i : Int)) ≥ (0 : Int)) = true then
         some (Ans.c (CRes.ret (bo ((decide (arg (Int.toNat (i : Int)) ≤ (5 : Int))))) []))
        else
         some (Ans.c (CRes.ret (bo false) []))
       else
        if (op (Int.toNat (i : Int)) == (5 : Int)) = true then
         some (Ans.c (CRes.ret (bo ((arg (Int.toNat (i : Int)) == (0 : Int)))) []))
        else
         if (op (Int.toNat (i : Int)) == (6 : Int)) = true then
          some (Ans.c (CRes.ret (bo ((arg (Int.toNat (i : Int)) == (0 : Int)))) []))
         else
          if (op (Int.toNat (i : Int)) == (7 : Int)) = true then
           some (Ans.c (CRes.ret (bo ((arg (Int.toNat (i : Int)) == (0 : Int)))) []))
          else
           if (op (Int.toNat (i : Int)) == (8 : Int)) = true then
            some (Ans.c (CRes.ret (bo ((arg (Int.toNat (i : Int)) == (0 : Int)))) []))
           else
            if (op (Int.toNat (i : Int)) == (9 : Int)) = true then
             some (Ans.c (CRes.ret (bo ((arg (Int.toNat (i : Int)) == (0 : Int)))) []))
            else
             if (op (Int.toNat (i : Int)) == (10 : Int)) = true then
              some (Ans.c (CRes.ret (bo ((arg (Int.toNat (i : Int)) == (0 : Int)))) []))
             else
              if (op (Int.toNat (i : Int)) == (11 : Int)) = true then
               some (Ans.c (CRes.ret (bo ((arg (Int.toNat (i : Int)) == (0 : Int)))) []))
              else
               if (op (Int.toNat (i : Int)) == (12 : Int)) = true then
                some (Ans.c (CRes.ret (bo ((arg (Int.toNat (i : Int)) == (0 : Int)))) []))
               else
                if (op (Int.toNat (i : Int)) == (13 : Int)) = true then
                 some (Ans.c (CRes.ret (bo ((arg (Int.toNat (i : Int)) == (0 : Int)))) []))
                else
                 if (op (Int.toNat (i : Int)) == (21 : Int)) = true then
                  some (Ans.c (CRes.ret (bo ((arg (Int.toNat (i : Int)) == (0 : Int)))) []))
                 else
                  if (op (Int.toNat (i : Int)) == (22 : Int)) = true then
                   some (Ans.c (CRes.ret (bo ((arg (Int.toNat (i : Int)) == (0 : Int)))) []))
                  else
                   if (op (Int.toNat (i : Int)) == (28 : Int)) = true then
                    some (Ans.c (CRes.ret (bo ((arg (Int.toNat (i : Int)) == (0 : Int)))) []))
                   else
                    if (op (Int.toNat (i : Int)) == (14 : Int)) = true then
                     if decide (arg (Int.toNat (i : Int)) ≥ w ((i : Int) + (1 : Int))) = true then
                      some (Ans.c (CRes.ret (bo ((decide (arg (Int.toNat (i : Int)) ≤ w ((n : Int) - (1 : Int)))))) []))
                     else
                      some (Ans.c (CRes.ret (bo false) []))
                    else
                     if (op (Int.toNat (i : Int)) == (15 : Int)) = true then
                      if decide (arg (Int.toNat (i : Int)) ≥ w ((i : Int) + (1 : Int))) = true then
                       some (Ans.c (CRes.ret (bo ((decide (arg (Int.toNat (i : Int)) ≤ w ((n : Int) - (1 : Int)))))) []))
                      else
                       some (Ans.c (CRes.ret (bo false) []))
                     else
                      if (op (Int.toNat (i : Int)) == (16 : Int)) = true then
                       if decide (arg (Int.toNat (i : Int)) ≥ (1 : Int)) = true then
                        some (Ans.c (CRes.ret (bo ((decide (arg (Int.toNat (i : Int)) ≤ (100 : Int))))) []))
                       else
                        some (Ans.c (CRes.ret (bo false) []))
                      else
                       if (op (Int.toNat (i : Int)) == (18 : Int)) = true then
                        if decide (arg (Int.toNat (i : Int)) ≥ (0 : Int)) = true then
                         some (Ans.c (CRes.ret (bo ((decide (arg (Int.toNat (i : Int)) ≤ (1000000 : Int))))) []))
                        else
                         some (Ans.c (CRes.ret (bo false) []))
                       else
                        if (op (Int.toNat (i : Int)) == (19 : Int)) = true then
                         if decide (arg (Int.toNat (i : Int)) ≥ (0 : Int)) = true then
                          some (Ans.c (CRes.ret (bo ((decide (arg (Int.toNat (i : Int)) ≤ (1000000 : Int))))) []))
                         else
                          some (Ans.c (CRes.ret (bo false) []))
                        else
                         if (op (Int.toNat (i : Int)) == (23 : Int)) = true then
                          if decide (arg (Int.toNat (i : Int)) ≥ (0 : Int)) = true then
                           some (Ans.c (CRes.ret (bo ((decide (arg (Int.toNat (i : Int)) ≤ (7999999 : Int))))) []))
                          else
                           some (Ans.c (CRes.ret (bo false) []))
                         else
                          if (op (Int.toNat (i : Int)) == (24 : Int)) = true then
                           if decide (arg (Int.toNat (i : Int)) ≥ (0 : Int)) = true then
                            some (Ans.c (CRes.ret (bo ((decide (arg (Int.toNat (i : Int)) ≤ (2147483647 : Int))))) []))
                           else
                            some (Ans.c (CRes.ret (bo false) []))
                          else
                           if (op (Int.toNat (i : Int)) == (25 : Int)) = true then
                            if decide (arg (Int.toNat (i : Int)) ≥ (0 : Int)) = true then
                             some (Ans.c (CRes.ret (bo ((decide (arg (Int.toNat (i : Int)) ≤ (2147483647 : Int))))) []))
                            else
                             some (Ans.c (CRes.ret (bo false) []))
                           else
                            if (op (Int.toNat (i : Int)) == (26 : Int)) = true then
                             if decide (arg (Int.toNat (i : Int)) ≥ (0 : Int)) = true then
                              some (Ans.c (CRes.ret (bo ((decide (arg (Int.toNat (i : Int)) ≤ (99 : Int))))) []))
                             else
                              some (Ans.c (CRes.ret (bo false) []))
                            else
                             if (op (Int.toNat (i : Int)) == (27 : Int)) = true then
                              if decide (arg (Int.toNat (i : Int)) ≥ (0 : Int)) = true then
                               some (Ans.c (CRes.ret (bo ((decide (arg (Int.toNat (i : Int)) ≤ (999 : Int))))) []))
                              else
                               some (Ans.c (CRes.ret (bo false) []))
                             else
                              if (0 : Int) ≤ (i : Int) ∧ (i : Int) < (n : Int) then
                               if (op (Int.toNat (i : Int)) == (17 : Int)) = true then
                                some (Ans.c (CRes.ret (bo true) []))
                               else
                                if (0 : Int) ≤ (i : Int) ∧ (i : Int) < (n : Int) then
                                 some (Ans.c (CRes.ret (bo ((op (Int.toNat (i : Int)) == (20 : Int)))) []))
                                else
                                 none
                              else
                               none
   else
    none
  else
   none := by kernel_rfl

theorem rng_sc {nm : ByteArray} {ps vs : Int} {n i : Nat} {op arg : Nat → Int} (hi : i < n) (hn : n ≤ 300) (h0 : 0 ≤ vs) (hv : vs ≤ 12) : SC E2 17 [codV nm ps vs n op arg, i64 i] [] (.ret (.tup [i64 (Cv.rngL (op i) i), i64 (Cv.rngH (op i) i n vs)]) []) := by
  refine SC.g2 (n := 20) ((g69 nm ps vs n op arg i).trans ?_)
  have e1 : w (vs - 1) = vs - 1 := w_in (by unfold inR; omega)
  have e2 : w ((i : Int) + 1) = (i : Int) + 1 := w_in (by unfold inR; omega)
  have e3 : w ((n : Int) - 1) = (n : Int) - 1 := w_in (by unfold inR; omega)
  rw [if_pos (by omega)]
  simp only [Int.toNat_natCast, e1, e2, e3]
  by_cases h1 : op i = 1
  · rw [if_pos (show (op i == (1 : Int)) = true by simpa using h1)]; simp [Cv.rngL, Cv.rngH, h1]
  rw [if_neg (show ¬ (op i == (1 : Int)) = true by simpa using h1)]
  by_cases h2 : op i = 2
  · rw [if_pos (show (op i == (2 : Int)) = true by simpa using h2)]; simp [Cv.rngL, Cv.rngH, h2]
  rw [if_neg (show ¬ (op i == (2 : Int)) = true by simpa using h2)]
  by_cases h3 : op i = 3
  · rw [if_pos (show (op i == (3 : Int)) = true by simpa using h3)]; simp [Cv.rngL, Cv.rngH, h3]
  rw [if_neg (show ¬ (op i == (3 : Int)) = true by simpa using h3)]
  by_cases h4 : op i = 4
  · rw [if_pos (show (op i == (4 : Int)) = true by simpa using h4)]; simp [Cv.rngL, Cv.rngH, h4]
  rw [if_neg (show ¬ (op i == (4 : Int)) = true by simpa using h4)]
  by_cases h14 : op i = 14
  · rw [if_pos (show (op i == (14 : Int)) = true by simpa using h14)]; simp [Cv.rngL, Cv.rngH, h14]
  rw [if_neg (show ¬ (op i == (14 : Int)) = true by simpa using h14)]
  by_cases h15 : op i = 15
  · rw [if_pos (show (op i == (15 : Int)) = true by simpa using h15)]; simp [Cv.rngL, Cv.rngH, h15]
  rw [if_neg (show ¬ (op i == (15 : Int)) = true by simpa using h15)]
  by_cases h16 : op i = 16
  · rw [if_pos (show (op i == (16 : Int)) = true by simpa using h16)]; simp [Cv.rngL, Cv.rngH, h16]
  rw [if_neg (show ¬ (op i == (16 : Int)) = true by simpa using h16)]
  by_cases h17 : op i = 17
  · rw [if_pos (show (op i == (17 : Int)) = true by simpa using h17)]; simp [Cv.rngL, Cv.rngH, h17]
  rw [if_neg (show ¬ (op i == (17 : Int)) = true by simpa using h17)]
  by_cases h20 : op i = 20
  · rw [if_pos (show (op i == (20 : Int)) = true by simpa using h20)]; simp [Cv.rngL, Cv.rngH, h20]
  rw [if_neg (show ¬ (op i == (20 : Int)) = true by simpa using h20)]
  by_cases h18 : op i = 18
  · rw [if_pos (show (op i == (18 : Int)) = true by simpa using h18)]; simp [Cv.rngL, Cv.rngH, h18]
  rw [if_neg (show ¬ (op i == (18 : Int)) = true by simpa using h18)]
  by_cases h19 : op i = 19
  · rw [if_pos (show (op i == (19 : Int)) = true by simpa using h19)]; simp [Cv.rngL, Cv.rngH, h19]
  rw [if_neg (show ¬ (op i == (19 : Int)) = true by simpa using h19)]
  by_cases h23 : op i = 23
  · rw [if_pos (show (op i == (23 : Int)) = true by simpa using h23)]; simp [Cv.rngL, Cv.rngH, h23]
  rw [if_neg (show ¬ (op i == (23 : Int)) = true by simpa using h23)]
  by_cases h24 : op i = 24
  · rw [if_pos (show (op i == (24 : Int)) = true by simpa using h24)]; simp [Cv.rngL, Cv.rngH, h24]
  rw [if_neg (show ¬ (op i == (24 : Int)) = true by simpa using h24)]
  by_cases h25 : op i = 25
  · rw [if_pos (show (op i == (25 : Int)) = true by simpa using h25)]; simp [Cv.rngL, Cv.rngH, h25]
  rw [if_neg (show ¬ (op i == (25 : Int)) = true by simpa using h25)]
  by_cases h26 : op i = 26
  · rw [if_pos (show (op i == (26 : Int)) = true by simpa using h26)]; simp [Cv.rngL, Cv.rngH, h26]
  rw [if_neg (show ¬ (op i == (26 : Int)) = true by simpa using h26)]
  by_cases h27 : op i = 27
  · rw [if_pos (show (op i == (27 : Int)) = true by simpa using h27)]; simp [Cv.rngL, Cv.rngH, h27]
  rw [if_neg (show ¬ (op i == (27 : Int)) = true by simpa using h27)]
  simp [Cv.rngL, Cv.rngH, h1, h2, h3, h4, h14, h15, h16, h17, h20, h18, h19, h23, h24, h25, h26, h27]
theorem pureP_sc (o : Int) : SC E2 43 [i64 o] [] (.ret (bo (Cv.pureP o)) []) := by
  refine SC.g2 (n := 20) ((g75 o).trans ?_)
  unfold Cv.pureP
  by_cases h : o ≤ 15
  · rw [if_pos (by simpa using h)]; simp [h]; rfl
  · rw [if_neg (by simpa using h)]; simp [h]
theorem pureR_sc (o : Int) : SC E2 23 [i64 o] [] (.ret (bo (Cv.pureR o)) []) := by
  refine SC.g2 (n := 20) ((g82 o).trans ?_)
  unfold Cv.pureR
  by_cases h1 : o = 1
  · subst h1; rfl
  rw [if_neg (by simpa using h1)]
  by_cases h2 : o = 2
  · subst h2; rfl
  rw [if_neg (by simpa using h2)]
  by_cases h4 : o = 4
  · subst h4; rfl
  rw [if_neg (by simpa using h4)]
  by_cases h14 : o = 14
  · subst h14; rfl
  by_cases h15 : o = 15
  · subst h15; rfl
  by_cases h5 : 5 ≤ o
  · rw [if_pos (by simpa using h5)]
    by_cases h13 : o ≤ 13
    · rw [if_pos (by simpa using h13)]; simp [h5, h13]
    · rw [if_neg (by simpa using h13), if_neg (by simpa using h14)]; simp [h1, h2, h4, h13, h14, h15]
  · rw [if_neg (by simpa using h5), if_neg (by simpa using h14)]; simp [h1, h2, h4, h5, h14, h15]
def okB (o : Int) : Bool := decide (1 ≤ o) && decide (o ≤ 28)
theorem eff_sc (o : Int) : SC E2 45 [i64 o] [] (.ret (.tup [.agg [i64 (Cv.effLo o), i64 (Cv.effHi o), i64 (Cv.effBy o)], bo (okB o)]) []) := by
  refine SC.g2 (n := 20) ((g77 o).trans ?_)
  by_cases h1 : o = 1
  · subst h1; rfl
  by_cases h2 : o = 2
  · subst h2; rfl
  by_cases h4 : o = 4
  · subst h4; rfl
  by_cases h3 : o = 3
  · subst h3; rfl
  by_cases h21 : o = 21
  · subst h21; rfl
  by_cases h22 : o = 22
  · subst h22; rfl
  by_cases h20 : o = 20
  · subst h20; rfl
  by_cases h9 : o = 9
  · subst h9; rfl
  by_cases h13 : o = 13
  · subst h13; rfl
  by_cases h14 : o = 14
  · subst h14; rfl
  by_cases h15 : o = 15
  · subst h15; rfl
  by_cases h5 : o = 5
  · subst h5; rfl
  by_cases h6 : o = 6
  · subst h6; rfl
  by_cases h7 : o = 7
  · subst h7; rfl
  by_cases h8 : o = 8
  · subst h8; rfl
  by_cases h10 : o = 10
  · subst h10; rfl
  by_cases h11 : o = 11
  · subst h11; rfl
  by_cases h12 : o = 12
  · subst h12; rfl
  have h512 : ¬ (5 ≤ o ∧ o ≤ 12) := by omega
  have e : Cv.effLo o = 0 ∧ Cv.effHi o = 0 ∧ Cv.effBy o = 0 := by simp [Cv.effLo, Cv.effHi, Cv.effBy, h1, h2, h4, h3, h21, h22, h20, h9, h13, h14, h15, h5, h6, h7, h8, h10, h11, h12, h512]
  rw [e.1, e.2.1, e.2.2]
  unfold okB
  by_cases a1 : 1 ≤ o
  · have a2 : ¬ o ≤ 2 := by omega
    by_cases a5 : 5 ≤ o
    · have a12 : ¬ o ≤ 12 := by omega
      simp [a1, a2, a5, a12, h1, h2, h4, h3, h21, h22, h20, h9, h13, h14, h15, h5, h6, h7, h8, h10, h11, h12]
    · simp [a1, a2, a5, h1, h2, h4, h3, h21, h22, h20, h9, h13, h14, h15, h5, h6, h7, h8, h10, h11, h12]
  · have a5 : ¬ 5 ≤ o := by omega
    simp [a1, a5, h1, h2, h4, h3, h21, h22, h20, h9, h13, h14, h15, h5, h6, h7, h8, h10, h11, h12]
open Classical in
noncomputable def leftD (o d : Int) : Bool := decide (Cv.leftB o d)
open Classical in
theorem leftD_iff (o d : Int) (b : Bool) (h : b = true ↔ Cv.leftB o d) : b = leftD o d := by
  unfold leftD
  rw [Bool.eq_iff_iff, h, decide_eq_true_eq]
theorem left_sc {o d : Int} (h0 : -1 ≤ d) (hd : d ≤ 16) : SC E2 59 [i64 o, i64 d] [] (.ret (.tup [i64 (Cv.leftV o d), bo (leftD o d)]) []) := by
  refine SC.g2 (n := 20) ((g83 o d).trans ?_)
  have e1 : w (d + 1) = d + 1 := w_in (by unfold inR; omega)
  have e2 : w (d - 1) = d - 1 := w_in (by unfold inR; omega)
  simp only [e1, e2]
  have fin : ∀ v (b : Bool), v = Cv.leftV o d → (b = true ↔ Cv.leftB o d) → some (Ans.c (CRes.ret (V.tup [i64 v, bo b]) [])) = some (Ans.c (CRes.ret (V.tup [i64 (Cv.leftV o d), bo (leftD o d)]) [])) := by
    intro v b h1 h2
    rw [h1, leftD_iff o d b h2]
  by_cases h1 : o = 1
  · subst h1; exact fin _ _ (by simp [Cv.leftV]) (by simp [Cv.leftB])
  rw [if_neg (show ¬ (o == (1 : Int)) = true by simpa using h1)]
  by_cases h2 : o = 2
  · subst h2; exact fin _ _ (by simp [Cv.leftV]) (by simp [Cv.leftB])
  rw [if_neg (show ¬ (o == (2 : Int)) = true by simpa using h2)]
  by_cases h4 : o = 4
  · subst h4; exact fin _ _ (by simp [Cv.leftV]) (by simp [Cv.leftB])
  rw [if_neg (show ¬ (o == (4 : Int)) = true by simpa using h4)]
  by_cases h5 : o = 5
  · subst h5; exact fin _ _ (by simp [Cv.leftV]) (by simp [Cv.leftB])
  rw [if_neg (show ¬ (o == (5 : Int)) = true by simpa using h5)]
  by_cases h6 : o = 6
  · subst h6; exact fin _ _ (by simp [Cv.leftV]) (by simp [Cv.leftB])
  rw [if_neg (show ¬ (o == (6 : Int)) = true by simpa using h6)]
  by_cases h7 : o = 7
  · subst h7; exact fin _ _ (by simp [Cv.leftV]) (by simp [Cv.leftB])
  rw [if_neg (show ¬ (o == (7 : Int)) = true by simpa using h7)]
  by_cases h8 : o = 8
  · subst h8; exact fin _ _ (by simp [Cv.leftV]) (by simp [Cv.leftB])
  rw [if_neg (show ¬ (o == (8 : Int)) = true by simpa using h8)]
  by_cases h10 : o = 10
  · subst h10; exact fin _ _ (by simp [Cv.leftV]) (by simp [Cv.leftB])
  rw [if_neg (show ¬ (o == (10 : Int)) = true by simpa using h10)]
  by_cases h11 : o = 11
  · subst h11; exact fin _ _ (by simp [Cv.leftV]) (by simp [Cv.leftB])
  rw [if_neg (show ¬ (o == (11 : Int)) = true by simpa using h11)]
  by_cases h12 : o = 12
  · subst h12; exact fin _ _ (by simp [Cv.leftV]) (by simp [Cv.leftB])
  rw [if_neg (show ¬ (o == (12 : Int)) = true by simpa using h12)]
  by_cases h9 : o = 9
  · subst h9; exact fin _ _ (by simp [Cv.leftV]) (by simp [Cv.leftB])
  rw [if_neg (show ¬ (o == (9 : Int)) = true by simpa using h9)]
  by_cases h13 : o = 13
  · subst h13; exact fin _ _ (by simp [Cv.leftV]) (by simp [Cv.leftB])
  rw [if_neg (show ¬ (o == (13 : Int)) = true by simpa using h13)]
  by_cases h14 : o = 14
  · subst h14; exact fin _ _ (by simp [Cv.leftV]) (by simp [Cv.leftB])
  rw [if_neg (show ¬ (o == (14 : Int)) = true by simpa using h14)]
  by_cases h15 : o = 15
  · subst h15; exact fin _ _ (by simp [Cv.leftV]) (by simp [Cv.leftB])
  rw [if_neg (show ¬ (o == (15 : Int)) = true by simpa using h15)]
  by_cases h3 : o = 3
  · subst h3; exact fin _ _ (by simp [Cv.leftV]) (by simp [Cv.leftB])
  rw [if_neg (show ¬ (o == (3 : Int)) = true by simpa using h3)]
  by_cases h21 : o = 21
  · subst h21; exact fin _ _ (by simp [Cv.leftV]) (by simp [Cv.leftB])
  rw [if_neg (show ¬ (o == (21 : Int)) = true by simpa using h21)]
  by_cases h22 : o = 22
  · subst h22; exact fin _ _ (by simp [Cv.leftV]) (by simp [Cv.leftB])
  rw [if_neg (show ¬ (o == (22 : Int)) = true by simpa using h22)]
  by_cases h20 : o = 20
  · subst h20; exact fin _ _ (by simp [Cv.leftV]) (by simp [Cv.leftB])
  rw [if_neg (show ¬ (o == (20 : Int)) = true by simpa using h20)]
  have a1 : ¬ ((5 ≤ o ∧ o ≤ 8) ∨ (10 ≤ o ∧ o ≤ 12)) := by omega
  exact fin _ _ (by simp [Cv.leftV, h1, h2, h4, h5, h6, h7, h8, h10, h11, h12, h9, h13, h14, h15, h3, h21, h22, h20, a1]) (by simp [Cv.leftB, h1, h2, h4, h5, h6, h7, h8, h10, h11, h12, h9, h13, h14, h15, h3, h21, h22, h20, a1])
def mkC (vs : Int) (n : Nat) (op arg : Nat → Int) : Cv.Cd := ⟨op, arg, n, vs⟩
open Classical in
noncomputable def opndD (c : Cv.Cd) (i : Nat) : Bool := decide (Cv.opnd c i)
open Classical in
theorem opndD_iff (c : Cv.Cd) (i : Nat) (b : Bool) (h : b = true ↔ Cv.opnd c i) : b = opndD c i := by
  unfold opndD
  rw [Bool.eq_iff_iff, h, decide_eq_true_eq]
theorem opnd_sc {nm : ByteArray} {ps vs : Int} {n i : Nat} {op arg : Nat → Int} (hi : i < n) (hn : n ≤ 300) (h0 : 0 ≤ vs) (hv : vs ≤ 12) : SC E2 46 [codV nm ps vs n op arg, i64 i] [] (.ret (bo (opndD (mkC vs n op arg) i)) []) := by
  refine SC.g2 (n := 20) ((g78 nm ps vs n op arg i).trans ?_)
  have e1 : w (vs - 1) = vs - 1 := w_in (by unfold inR; omega)
  have e2 : w ((i : Int) + 1) = (i : Int) + 1 := w_in (by unfold inR; omega)
  have e3 : w ((n : Int) - 1) = (n : Int) - 1 := w_in (by unfold inR; omega)
  rw [if_pos (by omega), if_pos (by omega)]
  simp only [Int.toNat_natCast, e1, e2, e3]
  have fin : ∀ b : Bool, (b = true ↔ Cv.opnd (mkC vs n op arg) i) → some (Ans.c (CRes.ret (bo b) [])) = some (Ans.c (CRes.ret (bo (opndD (mkC vs n op arg) i)) [])) := by
    intro b h
    have := opndD_iff (mkC vs n op arg) i b h
    rw [this]
  have two : ∀ lo hi : Int, ((lo ≤ arg i ∧ arg i ≤ hi) ↔ Cv.opnd (mkC vs n op arg) i) → (if decide (arg i ≥ lo) = true then some (Ans.c (CRes.ret (bo (decide (arg i ≤ hi))) [])) else some (Ans.c (CRes.ret (bo false) []))) = some (Ans.c (CRes.ret (bo (opndD (mkC vs n op arg) i)) [])) := by
    intro lo hi h
    by_cases h1 : lo ≤ arg i
    · rw [if_pos (by simpa using h1)]; exact fin _ (by rw [← h]; simp [h1])
    · rw [if_neg (by simpa using h1)]; exact fin _ (by rw [← h]; simp [h1])
  have hop : Cv.Cd.op (mkC vs n op arg) i = op i := rfl
  have harg : Cv.Cd.arg (mkC vs n op arg) i = arg i := rfl
  have hnn : Cv.Cd.n (mkC vs n op arg) = n := rfl
  have hvv : Cv.Cd.vars (mkC vs n op arg) = vs := rfl
  unfold Cv.opnd at fin two
  rw [hop, harg, hnn, hvv] at fin two
  clear hop harg hnn hvv
  by_cases h1 : op i = 1
  · rw [if_pos (show (op i == (1 : Int)) = true by simpa using h1)]; exact two _ _ (by simp [h1])
  rw [if_neg (show ¬ (op i == (1 : Int)) = true by simpa using h1)]
  by_cases h2 : op i = 2
  · rw [if_pos (show (op i == (2 : Int)) = true by simpa using h2)]; exact two _ _ (by simp [h2])
  rw [if_neg (show ¬ (op i == (2 : Int)) = true by simpa using h2)]
  by_cases h3 : op i = 3
  · rw [if_pos (show (op i == (3 : Int)) = true by simpa using h3)]; exact two _ _ (by simp [h3])
  rw [if_neg (show ¬ (op i == (3 : Int)) = true by simpa using h3)]
  by_cases h4 : op i = 4
  · rw [if_pos (show (op i == (4 : Int)) = true by simpa using h4)]; exact two _ _ (by simp [h4])
  rw [if_neg (show ¬ (op i == (4 : Int)) = true by simpa using h4)]
  by_cases h5 : op i = 5
  · rw [if_pos (show (op i == (5 : Int)) = true by simpa using h5)]; exact fin _ (by simp [h5])
  rw [if_neg (show ¬ (op i == (5 : Int)) = true by simpa using h5)]
  by_cases h6 : op i = 6
  · rw [if_pos (show (op i == (6 : Int)) = true by simpa using h6)]; exact fin _ (by simp [h6])
  rw [if_neg (show ¬ (op i == (6 : Int)) = true by simpa using h6)]
  by_cases h7 : op i = 7
  · rw [if_pos (show (op i == (7 : Int)) = true by simpa using h7)]; exact fin _ (by simp [h7])
  rw [if_neg (show ¬ (op i == (7 : Int)) = true by simpa using h7)]
  by_cases h8 : op i = 8
  · rw [if_pos (show (op i == (8 : Int)) = true by simpa using h8)]; exact fin _ (by simp [h8])
  rw [if_neg (show ¬ (op i == (8 : Int)) = true by simpa using h8)]
  by_cases h9 : op i = 9
  · rw [if_pos (show (op i == (9 : Int)) = true by simpa using h9)]; exact fin _ (by simp [h9])
  rw [if_neg (show ¬ (op i == (9 : Int)) = true by simpa using h9)]
  by_cases h10 : op i = 10
  · rw [if_pos (show (op i == (10 : Int)) = true by simpa using h10)]; exact fin _ (by simp [h10])
  rw [if_neg (show ¬ (op i == (10 : Int)) = true by simpa using h10)]
  by_cases h11 : op i = 11
  · rw [if_pos (show (op i == (11 : Int)) = true by simpa using h11)]; exact fin _ (by simp [h11])
  rw [if_neg (show ¬ (op i == (11 : Int)) = true by simpa using h11)]
  by_cases h12 : op i = 12
  · rw [if_pos (show (op i == (12 : Int)) = true by simpa using h12)]; exact fin _ (by simp [h12])
  rw [if_neg (show ¬ (op i == (12 : Int)) = true by simpa using h12)]
  by_cases h13 : op i = 13
  · rw [if_pos (show (op i == (13 : Int)) = true by simpa using h13)]; exact fin _ (by simp [h13])
  rw [if_neg (show ¬ (op i == (13 : Int)) = true by simpa using h13)]
  by_cases h21 : op i = 21
  · rw [if_pos (show (op i == (21 : Int)) = true by simpa using h21)]; exact fin _ (by simp [h21])
  rw [if_neg (show ¬ (op i == (21 : Int)) = true by simpa using h21)]
  by_cases h22 : op i = 22
  · rw [if_pos (show (op i == (22 : Int)) = true by simpa using h22)]; exact fin _ (by simp [h22])
  rw [if_neg (show ¬ (op i == (22 : Int)) = true by simpa using h22)]
  by_cases h28 : op i = 28
  · rw [if_pos (show (op i == (28 : Int)) = true by simpa using h28)]; exact fin _ (by simp [h28])
  rw [if_neg (show ¬ (op i == (28 : Int)) = true by simpa using h28)]
  by_cases h14 : op i = 14
  · rw [if_pos (show (op i == (14 : Int)) = true by simpa using h14)]; exact two _ _ (by simp [h14])
  rw [if_neg (show ¬ (op i == (14 : Int)) = true by simpa using h14)]
  by_cases h15 : op i = 15
  · rw [if_pos (show (op i == (15 : Int)) = true by simpa using h15)]; exact two _ _ (by simp [h15])
  rw [if_neg (show ¬ (op i == (15 : Int)) = true by simpa using h15)]
  by_cases h16 : op i = 16
  · rw [if_pos (show (op i == (16 : Int)) = true by simpa using h16)]; exact two _ _ (by simp [h16])
  rw [if_neg (show ¬ (op i == (16 : Int)) = true by simpa using h16)]
  by_cases h18 : op i = 18
  · rw [if_pos (show (op i == (18 : Int)) = true by simpa using h18)]; exact two _ _ (by simp [h18])
  rw [if_neg (show ¬ (op i == (18 : Int)) = true by simpa using h18)]
  by_cases h19 : op i = 19
  · rw [if_pos (show (op i == (19 : Int)) = true by simpa using h19)]; exact two _ _ (by simp [h19])
  rw [if_neg (show ¬ (op i == (19 : Int)) = true by simpa using h19)]
  by_cases h23 : op i = 23
  · rw [if_pos (show (op i == (23 : Int)) = true by simpa using h23)]; exact two _ _ (by simp [h23])
  rw [if_neg (show ¬ (op i == (23 : Int)) = true by simpa using h23)]
  by_cases h24 : op i = 24
  · rw [if_pos (show (op i == (24 : Int)) = true by simpa using h24)]; exact two _ _ (by simp [h24])
  rw [if_neg (show ¬ (op i == (24 : Int)) = true by simpa using h24)]
  by_cases h25 : op i = 25
  · rw [if_pos (show (op i == (25 : Int)) = true by simpa using h25)]; exact two _ _ (by simp [h25])
  rw [if_neg (show ¬ (op i == (25 : Int)) = true by simpa using h25)]
  by_cases h26 : op i = 26
  · rw [if_pos (show (op i == (26 : Int)) = true by simpa using h26)]; exact two _ _ (by simp [h26])
  rw [if_neg (show ¬ (op i == (26 : Int)) = true by simpa using h26)]
  by_cases h27 : op i = 27
  · rw [if_pos (show (op i == (27 : Int)) = true by simpa using h27)]; exact two _ _ (by simp [h27])
  rw [if_neg (show ¬ (op i == (27 : Int)) = true by simpa using h27)]
  rw [if_pos (by omega)]
  by_cases h17 : op i = 17
  · rw [if_pos (show (op i == (17 : Int)) = true by simpa using h17)]; exact fin _ (by simp [h17])
  rw [if_neg (show ¬ (op i == (17 : Int)) = true by simpa using h17)]
  rw [if_pos (by omega)]
  have a1 : ¬ ((5 ≤ op i ∧ op i ≤ 13) ∨ op i = 21 ∨ op i = 22 ∨ op i = 28) := by omega
  have a2 : ¬ (5 ≤ op i ∧ op i ≤ 13) := by omega
  exact fin _ (by simp [h1, h2, h3, h4, h5, h6, h7, h8, h9, h10, h11, h12, h13, h21, h22, h28, h14, h15, h16, h18, h19, h23, h24, h25, h26, h27, h17, a1, a2])
end Go.Proofs.YtcljccpddodckaaGreatDoor
/- The places of instructions (70), walked. -/
namespace Go.Proofs.YtcljccpddodckaaGreatDoor
open Go Go.Am Go.Proofs
set_option linter.unusedSimpArgs false
set_option linter.unusedVariables false
def QI1 (args : List V) : Prop := ∃ o : Int, args = [i64 o]
def vPuP : List V → V
  | [.sc (.int .i64 o)] => bo (Cv.pureP o)
  | _ => .junk
noncomputable def C70 : CallT := ptab 43 QI1 vPuP (tab [])
theorem sC70 : SoundC E2 C70 := ptab_cons (fun args h => by obtain ⟨o, rfl⟩ := h; exact pureP_sc o) tab_nil
def r2 (x y : Nat → Int) : Nat → List V := fun j => [i64 (x j), i64 (y j)]
def r1 (x : Nat → Int) : Nat → List V := fun j => [i64 (x j)]
def cd (n : Nat) (op arg : Nat → Int) : V := .ro 2 n (ins op arg)
def S70 (n : Nat) (op arg : Nat → Int) (i : Nat) (oL oW : Nat → Int) (lo wa : Int) : St := { fr := [.junk, .junk, .junk, .junk, .sl 0 2 0 n, .ptr 1 0] ++ jk 6 ++ [cd n op arg, i64 n, i64 i] ++ jk 69, H := hp [some (.row 49 2 n (r2 oL oW)), some (.blk [i64 lo, i64 wa])], nx := 2, rt := 0, me := 18 }
def T70 (n : Nat) (oL oW : Nat → Int) (lo wa : Int) : St := { fr := [.junk, .junk, .junk, .junk, .sl 0 2 0 n, .ptr 1 0] ++ jk 78, H := hp [some (.row 49 2 n (r2 oL oW)), some (.blk [i64 lo, i64 wa])], nx := 2, rt := 0, me := 18 }
def T70r : St := { fr := [.junk, .junk, .sc (.slice none 0 0), bo false] ++ jk 80, H := hp [], nx := 0, rt := 0, me := 18 }
theorem r70 (n : Nat) (op arg : Nat → Int) (i : Nat) (oL oW : Nat → Int) (lo_ wa : Int) (lo : LoopT) : loopK E2 C70 lo 0 28720 (bodyOf E2 18 0) (S70 n op arg i oL oW lo_ wa) (KC2 48 12) =
  if decide ((i : Int) < (n : Int)) = true then
   if (0 : Int) ≤ (i : Int) ∧ (i : Int) < (n : Int) then
    if (0 : Int) ≤ (i : Int) ∧ (i : Int) < (n : Int) then
     if 0 + Int.toNat (i : Int) < n ∧ 2 = 2 then
      if (wa != (-1 : Int)) = true then
       if (op (Int.toNat (i : Int)) != (20 : Int)) = true then
        cl (QI1 ([i64 (op (Int.toNat (i : Int)))]) ∧ ([] : List (Option Chunk)) = []) (
         if (!Cv.pureP (op (Int.toNat (i : Int)))) = true then
          some (Ans.l Ex.ret { fr := [V.junk, V.junk, V.sc (Value.slice none 0 0), bo false] ++ jk 80, H := hp [], nx := 0, rt := 0, me := 18 })
         else
          if (op (Int.toNat (i : Int)) == (16 : Int)) = true then
           lo 0 28720 (bodyOf E2 18 0) ({ fr := [V.junk, V.junk, V.junk, V.junk, V.sl 0 2 0 n, V.ptr 1 0, V.junk, V.junk, V.junk, V.junk, V.junk, V.junk, V.ro 2 n (ins op arg), i64 (n : Int), i64 (w ((i : Int) + (1 : Int)))] ++ jk 69, H := hp [some (Chunk.row 49 2 n (putF true (0 + Int.toNat (i : Int)) 0 [i64 lo_, i64 wa] (r2 oL oW))), some (Chunk.blk [i64 (i : Int), i64 wa])], nx := 2, rt := 0, me := 18 }) (KC2 48 12)
          else
           if (op (Int.toNat (i : Int)) == (19 : Int)) = true then
            lo 0 28720 (bodyOf E2 18 0) ({ fr := [V.junk, V.junk, V.junk, V.junk, V.sl 0 2 0 n, V.ptr 1 0, V.junk, V.junk, V.junk, V.junk, V.junk, V.junk, V.ro 2 n (ins op arg), i64 (n : Int), i64 (w ((i : Int) + (1 : Int)))] ++ jk 69, H := hp [some (Chunk.row 49 2 n (putF true (0 + Int.toNat (i : Int)) 0 [i64 lo_, i64 wa] (r2 oL oW))), some (Chunk.blk [i64 lo_, i64 (i : Int)])], nx := 2, rt := 0, me := 18 }) (KC2 48 12)
           else
            if (op (Int.toNat (i : Int)) == (17 : Int)) = true then
             if (lo_ == (-1 : Int)) = true then
              some (Ans.l Ex.ret { fr := [V.junk, V.junk, V.sc (Value.slice none 0 0), bo false] ++ jk 80, H := hp [], nx := 0, rt := 0, me := 18 })
             else
              if (arg (Int.toNat (i : Int)) != w (lo_ + (1 : Int))) = true then
               some (Ans.l Ex.ret { fr := [V.junk, V.junk, V.sc (Value.slice none 0 0), bo false] ++ jk 80, H := hp [], nx := 0, rt := 0, me := 18 })
              else
               if (0 : Int) ≤ lo_ ∧ lo_ < (n : Int) then
                if 0 + Int.toNat lo_ < n ∧ 2 = 2 then
                 lo 0 28720 (bodyOf E2 18 0) ({ fr := [V.junk, V.junk, V.junk, V.junk, V.sl 0 2 0 n, V.ptr 1 0, V.junk, V.junk, V.junk, V.junk, V.junk, V.junk, V.ro 2 n (ins op arg), i64 (n : Int), i64 (w ((i : Int) + (1 : Int)))] ++ jk 69, H := hp [some (Chunk.row 49 2 n (putF true (0 + Int.toNat (i : Int)) 0 [i64 lo_, i64 wa] (r2 oL oW))), some (Chunk.blk [i64 (if 0 + Int.toNat lo_ = 0 + Int.toNat (i : Int) then lo_ else oL (0 + Int.toNat lo_)), i64 (if 0 + Int.toNat lo_ = 0 + Int.toNat (i : Int) then wa else oW (0 + Int.toNat lo_))])], nx := 2, rt := 0, me := 18 }) (KC2 48 12)
                else
                 none
               else
                none
            else
             if (op (Int.toNat (i : Int)) == (20 : Int)) = true then
              if (wa == (-1 : Int)) = true then
               some (Ans.l Ex.ret { fr := [V.junk, V.junk, V.sc (Value.slice none 0 0), bo false] ++ jk 80, H := hp [], nx := 0, rt := 0, me := 18 })
              else
               if (arg (Int.toNat (i : Int)) != w (wa + (1 : Int))) = true then
                some (Ans.l Ex.ret { fr := [V.junk, V.junk, V.sc (Value.slice none 0 0), bo false] ++ jk 80, H := hp [], nx := 0, rt := 0, me := 18 })
               else
                lo 0 28720 (bodyOf E2 18 0) ({ fr := [V.junk, V.junk, V.junk, V.junk, V.sl 0 2 0 n, V.ptr 1 0, V.junk, V.junk, V.junk, V.junk, V.junk, V.junk, V.ro 2 n (ins op arg), i64 (n : Int), i64 (w ((i : Int) + (1 : Int)))] ++ jk 69, H := hp [some (Chunk.row 49 2 n (putF true (0 + Int.toNat (i : Int)) 0 [i64 lo_, i64 wa] (r2 oL oW))), some (Chunk.blk [i64 lo_, i64 (-1)])], nx := 2, rt := 0, me := 18 }) (KC2 48 12)
             else
              lo 0 28720 (bodyOf E2 18 0) ({ fr := [V.junk, V.junk, V.junk, V.junk, V.sl 0 2 0 n, V.ptr 1 0, V.junk, V.junk, V.junk, V.junk, V.junk, V.junk, V.ro 2 n (ins op arg), i64 (n : Int), i64 (w ((i : Int) + (1 : Int)))] ++ jk 69, H := hp [some (Chunk.row 49 2 n (putF true (0 + Int.toNat (i : Int)) 0 [i64 lo_, i64 wa] (r2 oL oW))), some (Chunk.blk [i64 lo_, i64 wa])], nx := 2, rt := 0, me := 18 }) (KC2 48 12)) (
         none)
       else
        if (op (Int.toNat (i : Int)) == (16 : Int)) = true then
         lo 0 28720 (bodyOf E2 18 0) ({ fr := [V.junk, V.junk, V.junk, V.junk, V.sl 0 2 0 n, V.ptr 1 0, V.junk, V.junk, V.junk, V.junk, V.junk, V.junk, V.ro 2 n (ins op arg), i64 (n : Int), i64 (w ((i : Int) + (1 : Int)))] ++ jk 69, H := hp [some (Chunk.row 49 2 n (putF true (0 + Int.toNat (i : Int)) 0 [i64 lo_, i64 wa] (r2 oL oW))), some (Chunk.blk [i64 (i : Int), i64 wa])], nx := 2, rt := 0, me := 18 }) (KC2 48 12)
        else
         if (op (Int.toNat (i : Int)) == (19 : Int)) = true then
          lo 0 28720 (bodyOf E2 18 0) ({ fr := [V.junk, V.junk, V.junk, V.junk, V.sl 0 2 0 n, V.ptr 1 0, V.junk, V.junk, V.junk, V.junk, V.junk, V.junk, V.ro 2 n (ins op arg), i64 (n : Int), i64 (w ((i : Int) + (1 : Int)))] ++ jk 69, H := hp [some (Chunk.row 49 2 n (putF true (0 + Int.toNat (i : Int)) 0 [i64 lo_, i64 wa] (r2 oL oW))), some (Chunk.blk [i64 lo_, i64 (i : Int)])], nx := 2, rt := 0, me := 18 }) (KC2 48 12)
         else
          if (op (Int.toNat (i : Int)) == (17 : Int)) = true then
           if (lo_ == (-1 : Int)) = true then
            some (Ans.l Ex.ret { fr := [V.junk, V.junk, V.sc (Value.slice none 0 0), bo false] ++ jk 80, H := hp [], nx := 0, rt := 0, me := 18 })
           else
            if (arg (Int.toNat (i : Int)) != w (lo_ + (1 : Int))) = true then
             some (Ans.l Ex.ret { fr := [V.junk, V.junk, V.sc (Value.slice none 0 0), bo false] ++ jk 80, H := hp [], nx := 0, rt := 0, me := 18 })
            else
             if (0 : Int) ≤ lo_ ∧ lo_ < (n : Int) then
              if 0 + Int.toNat lo_ < n ∧ 2 = 2 then
               lo 0 28720 (bodyOf E2 18 0) ({ fr := [V.junk, V.junk, V.junk, V.junk, V.sl 0 2 0 n, V.ptr 1 0, V.junk, V.junk, V.junk, V.junk, V.junk, V.junk, V.ro 2 n (ins op arg), i64 (n : Int), i64 (w ((i : Int) + (1 : Int)))] ++ jk 69, H := hp [some (Chunk.row 49 2 n (putF true (0 + Int.toNat (i : Int)) 0 [i64 lo_, i64 wa] (r2 oL oW))), some (Chunk.blk [i64 (if 0 + Int.toNat lo_ = 0 + Int.toNat (i : Int) then lo_ else oL (0 + Int.toNat lo_)), i64 (if 0 + Int.toNat lo_ = 0 + Int.toNat (i : Int) then wa else oW (0 + Int.toNat lo_))])], nx := 2, rt := 0, me := 18 }) (KC2 48 12)
              else
               none
             else
              none
          else
           if (op (Int.toNat (i : Int)) == (20 : Int)) = true then
            if (wa == (-1 : Int)) = true then
             some (Ans.l Ex.ret { fr := [V.junk, V.junk, V.sc (Value.slice none 0 0), bo false] ++ jk 80, H := hp [], nx := 0, rt := 0, me := 18 })
            else
             if (arg (Int.toNat (i : Int)) != w (wa + (1 : Int))) = true then
              some (Ans.l Ex.ret { fr := [V.junk, V.junk, V.sc (Value.slice none 0 0), bo false] ++ jk 80, H := hp [], nx := 0, rt := 0, me := 18 })
             else
              lo 0 28720 (bodyOf E2 18 0) ({ fr := [V.junk, V.junk, V.junk, V.junk, V.sl 0 2 0 n, V.ptr 1 0, V.junk, V.junk, V.junk, V.junk, V.junk, V.junk, V.ro 2 n (ins op arg), i64 (n : Int), i64 (w ((i : Int) + (1 : Int)))] ++ jk 69, H := hp [some (Chunk.row 49 2 n (putF true (0 + Int.toNat (i : Int)) 0 [i64 lo_, i64 wa] (r2 oL oW))), some (Chunk.blk [i64 lo_, i64 (-1)])], nx := 2, rt := 0, me := 18 }) (KC2 48 12)
           else
            lo 0 28720 (bodyOf E2 18 0) ({ fr := [V.junk, V.junk, V.junk, V.junk, V.sl 0 2 0 n, V.ptr 1 0, V.junk, V.junk, V.junk, V.junk, V.junk, V.junk, V.ro 2 n (ins op arg), i64 (n : Int), i64 (w ((i : Int) + (1 : Int)))] ++ jk 69, H := hp [some (Chunk.row 49 2 n (putF true (0 + Int.toNat (i : Int)) 0 [i64 lo_, i64 wa] (r2 oL oW))), some (Chunk.blk [i64 lo_, i64 wa])], nx := 2, rt := 0, me := 18 }) (KC2 48 12)
      else
       if (op (Int.toNat (i : Int)) == (16 : Int)) = true then
        lo 0 28720 (bodyOf E2 18 0) ({ fr := [V.junk, V.junk, V.junk, V.junk, V.sl 0 2 0 n, V.ptr 1 0, V.junk, V.junk, V.junk, V.junk, V.junk, V.junk, V.ro 2 n (ins op arg), i64 (n : Int), i64 (w ((i : Int) + (1 : Int)))] ++ jk 69, H := hp [some (Chunk.row 49 2 n (putF true (0 + Int.toNat (i : Int)) 0 [i64 lo_, i64 wa] (r2 oL oW))), some (Chunk.blk [i64 (i : Int), i64 wa])], nx := 2, rt := 0, me := 18 }) (KC2 48 12)
       else
        if (op (Int.toNat (i : Int)) == (19 : Int)) = true then
         lo 0 28720 (bodyOf E2 18 0) ({ fr := [V.junk, V.junk, V.junk, V.junk, V.sl 0 2 0 n, V.ptr 1 0, V.junk, V.junk, V.junk, V.junk, V.junk, V.junk, V.ro 2 n (ins op arg), i64 (n : Int), i64 (w ((i : Int) + (1 : Int)))] ++ jk 69, H := hp [some (Chunk.row 49 2 n (putF true (0 + Int.toNat (i : Int)) 0 [i64 lo_, i64 wa] (r2 oL oW))), some (Chunk.blk [i64 lo_, i64 (i : Int)])], nx := 2, rt := 0, me := 18 }) (KC2 48 12)
        else
         if (op (Int.toNat (i : Int)) == (17 : Int)) = true then
          if (lo_ == (-1 : Int)) = true then
           some (Ans.l Ex.ret { fr := [V.junk, V.junk, V.sc (Value.slice none 0 0), bo false] ++ jk 80, H := hp [], nx := 0, rt := 0, me := 18 })
          else
           if (arg (Int.toNat (i : Int)) != w (lo_ + (1 : Int))) = true then
            some (Ans.l Ex.ret { fr := [V.junk, V.junk, V.sc (Value.slice none 0 0), bo false] ++ jk 80, H := hp [], nx := 0, rt := 0, me := 18 })
           else
            if (0 : Int) ≤ lo_ ∧ lo_ < (n : Int) then
             if 0 + Int.toNat lo_ < n ∧ 2 = 2 then
              lo 0 28720 (bodyOf E2 18 0) ({ fr := [V.junk, V.junk, V.junk, V.junk, V.sl 0 2 0 n, V.ptr 1 0, V.junk, V.junk, V.junk, V.junk, V.junk, V.junk, V.ro 2 n (ins op arg), i64 (n : Int), i64 (w ((i : Int) + (1 : Int)))] ++ jk 69, H := hp [some (Chunk.row 49 2 n (putF true (0 + Int.toNat (i : Int)) 0 [i64 lo_, i64 wa] (r2 oL oW))), some (Chunk.blk [i64 (if 0 + Int.toNat lo_ = 0 + Int.toNat (i : Int) then lo_ else oL (0 + Int.toNat lo_)), i64 (if 0 + Int.toNat lo_ = 0 + Int.toNat (i : Int) then wa else oW (0 + Int.toNat lo_))])], nx := 2, rt := 0, me := 18 }) (KC2 48 12)
             else
              none
            else
             none
         else
          if (op (Int.toNat (i : Int)) == (20 : Int)) = true then
           if (wa == (-1 : Int)) = true then
            some (Ans.l Ex.ret { fr := [V.junk, V.junk, V.sc (Value.slice none 0 0), bo false] ++ jk 80, H := hp [], nx := 0, rt := 0, me := 18 })
           else
            if (arg (Int.toNat (i : Int)) != w (wa + (1 : Int))) = true then
             some (Ans.l Ex.ret { fr := [V.junk, V.junk, V.sc (Value.slice none 0 0), bo false] ++ jk 80, H := hp [], nx := 0, rt := 0, me := 18 })
            else
             lo 0 28720 (bodyOf E2 18 0) ({ fr := [V.junk, V.junk, V.junk, V.junk, V.sl 0 2 0 n, V.ptr 1 0, V.junk, V.junk, V.junk, V.junk, V.junk, V.junk, V.ro 2 n (ins op arg), i64 (n : Int), i64 (w ((i : Int) + (1 : Int)))] ++ jk 69, H := hp [some (Chunk.row 49 2 n (putF true (0 + Int.toNat (i : Int)) 0 [i64 lo_, i64 wa] (r2 oL oW))), some (Chunk.blk [i64 lo_, i64 (-1)])], nx := 2, rt := 0, me := 18 }) (KC2 48 12)
          else
           lo 0 28720 (bodyOf E2 18 0) ({ fr := [V.junk, V.junk, V.junk, V.junk, V.sl 0 2 0 n, V.ptr 1 0, V.junk, V.junk, V.junk, V.junk, V.junk, V.junk, V.ro 2 n (ins op arg), i64 (n : Int), i64 (w ((i : Int) + (1 : Int)))] ++ jk 69, H := hp [some (Chunk.row 49 2 n (putF true (0 + Int.toNat (i : Int)) 0 [i64 lo_, i64 wa] (r2 oL oW))), some (Chunk.blk [i64 lo_, i64 wa])], nx := 2, rt := 0, me := 18 }) (KC2 48 12)
     else
      none
    else
     none
   else
    none
  else
   some (Ans.l (Ex.exit 0) { fr := [V.junk, V.junk, V.junk, V.junk, V.sl 0 2 0 n, V.ptr 1 0] ++ jk 78, H := hp [some (Chunk.row 49 2 n (r2 oL oW)), some (Chunk.blk [i64 lo_, i64 wa])], nx := 2, rt := 0, me := 18 }) := by kernel_rfl

theorem f70 (n : Nat) (op arg oL oW : Nat → Int) (a b : Int) (S1 : St) (P : Prop) : callK E2 C70 (ltab2 [⟨0, bodyOf E2 18 0, S1, P, .exit 0, T70 n oL oW a b, .ret, T70r⟩]) 18 [.ro 2 n (ins op arg)] [] K =
  if (n : Int) = (n : Int) ∧ (0 : Int) ≤ (n : Int) ∧ 0 < 2 ∧ 2 = 2 ∧ Int.toNat (n : Int) * 16 ≤ 281474976710656 ∧ Int.toNat (n : Int) ≤ maxLen ∧ (allOk 2 1 fun (x : Nat) => List.map V.sc (Array.toList (Value.cells (Value.agg #[Value.int IntKind.i64 0, Value.int IntKind.i64 0])))) = true then
   cl ((bodyOf E2 18 0) = (bodyOf E2 18 0) ∧ LeSt ({ fr := [V.junk, V.junk, V.junk, V.junk, V.sl 0 2 0 (Int.toNat (n : Int)), V.ptr 1 0, V.junk, V.junk, V.junk, V.junk, V.junk, V.junk, V.ro 2 n (ins op arg), i64 (n : Int), i64 0] ++ jk 69, H := hp [some (Chunk.row 49 2 (Int.toNat (n : Int)) fun (x : Nat) => List.map V.sc (Array.toList (Value.cells (Value.agg #[Value.int IntKind.i64 0, Value.int IntKind.i64 0])))), some (Chunk.blk [i64 (-1), i64 (-1)])], nx := 2, rt := 0, me := 18 }) (S1)) (
    cl (P) (
     some (Ans.c (CRes.ret (V.tup [V.sl 0 2 0 n, bo ((if false = true then !(a == (-1 : Int) && (b == (-1 : Int) && true)) else a == (-1 : Int) && (b == (-1 : Int) && true)))]) [some (Chunk.row 49 2 n (r2 oL oW))]))) (
     some (Ans.c (CRes.ret (V.tup [V.sc (Value.slice none 0 0), bo false]) [])))) (
    none)
  else
   none := by kernel_rfl

theorem one2 {c : ACode} {S T T' : St} {e e' : Ex} (id : Nat) (h : SL E2 c S e T) : SoundL E2 (ltab2 [⟨id, c, S, True, e, T, e', T'⟩]) := ltab2_cons ⟨fun _ => h, fun h => absurd trivial h⟩ ltab2_nil
theorem oneF2 {c : ACode} {S T T' : St} {e e' : Ex} (id : Nat) (h : SL E2 c S e' T') : SoundL E2 (ltab2 [⟨id, c, S, False, e, T, e', T'⟩]) := ltab2_cons ⟨fun h => False.elim h, fun _ => h⟩ ltab2_nil
theorem k70 (n : Nat) (oL oW : Nat → Int) (a b : Int) : KC2 48 12 (.exit 0) (T70 n oL oW a b) = some (.l (.exit 0) (T70 n oL oW a b)) := by kernel_rfl
theorem k70r : KC2 48 12 .ret T70r = some (.l .ret T70r) := by kernel_rfl
def ends70 (n : Nat) (x : Option Cv.Pl) (S : St) : Prop := match x with
  | none => SL E2 (bodyOf E2 18 0) S .ret T70r
  | some q => SL E2 (bodyOf E2 18 0) S (.exit 0) (T70 n q.oL q.oW q.lo q.wa)
theorem ends70_next {n : Nat} {x : Option Cv.Pl} {S S' S1 : St} (h : ends70 n x S1) (hle : LeSt S' S1) (hn : ∀ lo, loopK E2 C70 lo 0 28720 (bodyOf E2 18 0) S (KC2 48 12) = lo 0 28720 (bodyOf E2 18 0) S' (KC2 48 12)) : ends70 n x S := by
  cases x with
  | none => exact SL.by2 sC70 hX2 (oneF2 0 (e := .exit 0) (T := T70r) h) ((hn _).trans ((ltab2_hit hle).trans ((cl_neg (fun h => h)).trans k70r)))
  | some q => exact SL.by2 sC70 hX2 (one2 0 (e' := .ret) (T' := T70r) h) ((hn _).trans ((ltab2_hit hle).trans ((cl_pos trivial).trans (k70 _ _ _ _ _))))
theorem row_put2 (x y : Nat → Int) (i : Nat) (a b : Int) (j : Nat) : putF true i 0 [i64 a, i64 b] (r2 x y) j = r2 (Cv.upd x i a) (Cv.upd y i b) j := by
  rw [putF_eq]
  by_cases h : j = i
  · subst h; simp only [if_true]; unfold r2; rw [Cv.upd_same, Cv.upd_same]; rfl
  · simp only [if_neg h]; unfold r2; rw [Cv.upd_ne h, Cv.upd_ne h]
/-- The entries are places before. -/
def Bel (i : Nat) (v : Int) : Prop := v = -1 ∨ (0 ≤ v ∧ v < i)
structure I70 (i : Nat) (q : Cv.Pl) : Prop where
  oL : ∀ j, j < i → Bel j (q.oL j)
  oW : ∀ j, j < i → Bel j (q.oW j)
  lo : Bel i q.lo
  wa : Bel i q.wa
theorem Bel.up {i : Nat} {v : Int} (h : Bel i v) : Bel (i + 1) v := by unfold Bel at *; omega
theorem I70.push {i : Nat} {q : Cv.Pl} (h : I70 i q) {a b : Int} (ha : Bel (i + 1) a) (hb : Bel (i + 1) b) : I70 (i + 1) ⟨Cv.upd q.oL i q.lo, Cv.upd q.oW i q.wa, a, b⟩ := by
  refine ⟨fun j hj => ?_, fun j hj => ?_, ha, hb⟩
  · show Bel j (Cv.upd q.oL i q.lo j)
    by_cases hji : j = i
    · subst hji; rw [Cv.upd_same]; exact h.lo
    · rw [Cv.upd_ne hji]; exact h.oL j (by omega)
  · show Bel j (Cv.upd q.oW i q.wa j)
    by_cases hji : j = i
    · subst hji; rw [Cv.upd_same]; exact h.wa
    · rw [Cv.upd_ne hji]; exact h.oW j (by omega)
theorem I70.pop {i : Nat} {q : Cv.Pl} (h : I70 i q) (hlo : 0 ≤ q.lo ∧ q.lo < i) : Bel (i + 1) (Cv.upd q.oL i q.lo q.lo.toNat) ∧ Bel (i + 1) (Cv.upd q.oW i q.wa q.lo.toNat) := by
  have hne : q.lo.toNat ≠ i := by omega
  rw [Cv.upd_ne hne, Cv.upd_ne hne]
  have h1 := h.oL q.lo.toNat (by omega)
  have h2 := h.oW q.lo.toNat (by omega)
  unfold Bel at *
  omega
set_option maxRecDepth 100000 in
theorem loop70 {n : Nat} {op arg : Nat → Int} (vs : Int) (hn : n ≤ 300) : ∀ (r i : Nat) (q : Cv.Pl), i + r = n → I70 i q → ends70 n (Cv.plcP (mkC vs n op arg) r i q) (S70 n op arg i q.oL q.oW q.lo q.wa) := by
  intro r
  induction r with
  | zero =>
    intro i q hi hv
    exact SL.by2 (m := 48) (r := 12) sC70 hX2 ltab2_nil ((r70 _ _ _ _ _ _ _ _ _).trans (by rw [if_neg (by simp; omega)]; rfl))
  | succ r ih =>
    intro i q hi hv
    have hi' : i < n := by omega
    have hlo' := hv.lo.up
    have hwa' := hv.wa.up
    have hbl := hv.lo
    have hbw := hv.wa
    have hid : decide ((i : Int) < (n : Int)) = true := by simpa using hi'
    have hbb : (0 : Int) ≤ (i : Int) ∧ (i : Int) < (n : Int) := by omega
    have hcc : i < n ∧ True := ⟨hi', trivial⟩
    have ew : w ((i : Int) + 1) = ((i + 1 : Nat) : Int) := by rw [w_in (by unfold inR; omega)]; omega
    have el : w (q.lo + 1) = q.lo + 1 := w_in (by unfold Bel at hbl; unfold inR; omega)
    have ea : w (q.wa + 1) = q.wa + 1 := w_in (by unfold Bel at hbw; unfold inR; omega)
    have tree := fun lo => r70 n op arg i q.oL q.oW q.lo q.wa lo
    simp only [Int.toNat_natCast, Nat.zero_add, ew, el, ea, if_pos hid, if_pos hbb, eq_self, if_pos hcc] at tree
    have pl := Cv.plcP.eq_2 (mkC vs n op arg) i q r
    generalize hc : mkC vs n op arg = c at *
    have hop : c.op i = op i := by rw [← hc]; rfl
    have harg : c.arg i = arg i := by rw [← hc]; rfl
    have hq : QI1 [i64 (op i)] ∧ True := ⟨⟨_, rfl⟩, trivial⟩
    have nx : ∀ {x x' : Option Cv.Pl} {a b : Int}, ends70 n x (S70 n op arg (i + 1) (Cv.upd q.oL i q.lo) (Cv.upd q.oW i q.wa) a b) → x' = x → (∀ lo, loopK E2 C70 lo 0 28720 (bodyOf E2 18 0) (S70 n op arg i q.oL q.oW q.lo q.wa) (KC2 48 12) = lo 0 28720 (bodyOf E2 18 0) ({ fr := [V.junk, V.junk, V.junk, V.junk, V.sl 0 2 0 n, V.ptr 1 0, V.junk, V.junk, V.junk, V.junk, V.junk, V.junk, V.ro 2 n (ins op arg), i64 (n : Int), i64 ((i + 1 : Nat) : Int)] ++ jk 69, H := hp [some (Chunk.row 49 2 n (putF true i 0 [i64 q.lo, i64 q.wa] (r2 q.oL q.oW))), some (Chunk.blk [i64 a, i64 b])], nx := 2, rt := 0, me := 18 }) (KC2 48 12)) → ends70 n x' (S70 n op arg i q.oL q.oW q.lo q.wa) := by
      intro x x' a b h1 h2 h3
      subst h2
      refine ends70_next h1 ?_ h3
      exact LeSt.mk' (LeL.refl _) ⟨ChLe.row fun j _ => row_put2 _ _ _ _ _ j, ChLe.refl _, trivial⟩
    have stop : ∀ {x : Option Cv.Pl}, x = none → (∀ lo, loopK E2 C70 lo 0 28720 (bodyOf E2 18 0) (S70 n op arg i q.oL q.oW q.lo q.wa) (KC2 48 12) = some (.l .ret T70r)) → ends70 n x (S70 n op arg i q.oL q.oW q.lo q.wa) := by
      intro x h1 h3
      subst h1
      exact SL.by2 sC70 hX2 ltab2_nil (h3 _)
    rw [hop, harg] at pl
    by_cases hw : q.wa = -1
    · have hbad : ¬ (q.wa ≠ -1 ∧ op i ≠ 20 ∧ Cv.pureP (op i) = false) := fun h => h.1 hw
      rw [if_neg hbad] at pl
      by_cases h16 : op i = 16
      · refine nx (ih (i + 1) ⟨Cv.upd q.oL i q.lo, Cv.upd q.oW i q.wa, i, q.wa⟩ (by omega) (hv.push (.inr ⟨by omega, by omega⟩) hwa')) (by rw [pl, if_pos h16]) fun lo => (tree lo).trans ?_
        rw [if_neg (show ¬ (q.wa != (-1 : Int)) = true by simpa using hw)]
        rw [if_pos (show (op i == (16 : Int)) = true by simpa using h16)]
      by_cases h19 : op i = 19
      · refine nx (ih (i + 1) ⟨Cv.upd q.oL i q.lo, Cv.upd q.oW i q.wa, q.lo, i⟩ (by omega) (hv.push hlo' (.inr ⟨by omega, by omega⟩))) (by rw [pl, if_neg h16, if_pos h19]) fun lo => (tree lo).trans ?_
        rw [if_neg (show ¬ (q.wa != (-1 : Int)) = true by simpa using hw)]
        rw [if_neg (show ¬ (op i == (16 : Int)) = true by simpa using h16), if_pos (show (op i == (19 : Int)) = true by simpa using h19)]
      by_cases h17 : op i = 17
      · by_cases hb : q.lo = -1 ∨ arg i ≠ q.lo + 1
        · refine stop (by rw [pl, if_neg h16, if_neg h19, if_pos h17, if_pos hb]) fun lo => (tree lo).trans ?_
          rw [if_neg (show ¬ (q.wa != (-1 : Int)) = true by simpa using hw)]
          rw [if_neg (show ¬ (op i == (16 : Int)) = true by simpa using h16), if_neg (show ¬ (op i == (19 : Int)) = true by simpa using h19), if_pos (show (op i == (17 : Int)) = true by simpa using h17)]
          by_cases hm : q.lo = -1
          · rw [if_pos (by simpa using hm)]; rfl
          · rw [if_neg (by simpa using hm), if_pos (by have h9 := hb.resolve_left hm; simpa using h9)]; rfl
        · have hm : ¬ q.lo = -1 := fun h => hb (.inl h)
          have ha : arg i = q.lo + 1 := Classical.not_not.1 fun h => hb (.inr h)
          have hlo : 0 ≤ q.lo ∧ q.lo < i := by rcases hv.lo with h | h; exact absurd h hm; exact h
          refine nx (ih (i + 1) ⟨Cv.upd q.oL i q.lo, Cv.upd q.oW i q.wa, Cv.upd q.oL i q.lo q.lo.toNat, Cv.upd q.oW i q.wa q.lo.toNat⟩ (by omega) (hv.push (hv.pop hlo).1 (hv.pop hlo).2)) (by rw [pl, if_neg h16, if_neg h19, if_pos h17, if_neg hb]) fun lo => (tree lo).trans ?_
          rw [if_neg (show ¬ (q.wa != (-1 : Int)) = true by simpa using hw)]
          rw [if_neg (show ¬ (op i == (16 : Int)) = true by simpa using h16), if_neg (show ¬ (op i == (19 : Int)) = true by simpa using h19), if_pos (show (op i == (17 : Int)) = true by simpa using h17), if_neg (by simpa using hm), if_neg (by have h9 : arg i = q.lo + 1 := ha; simp [h9]), if_pos (show (0 : Int) ≤ q.lo ∧ q.lo < (n : Int) by omega), if_pos (show q.lo.toNat < n ∧ True from ⟨by omega, trivial⟩)]
          rfl
      by_cases h20 : op i = 20
      · by_cases hb : q.wa = -1 ∨ arg i ≠ q.wa + 1
        · refine stop (by rw [pl, if_neg h16, if_neg h19, if_neg h17, if_pos h20, if_pos hb]) fun lo => (tree lo).trans ?_
          rw [if_neg (show ¬ (q.wa != (-1 : Int)) = true by simpa using hw)]
          rw [if_neg (show ¬ (op i == (16 : Int)) = true by simpa using h16), if_neg (show ¬ (op i == (19 : Int)) = true by simpa using h19), if_neg (show ¬ (op i == (17 : Int)) = true by simpa using h17), if_pos (show (op i == (20 : Int)) = true by simpa using h20)]
          by_cases hm : q.wa = -1
          · rw [if_pos (by simpa using hm)]; rfl
          · rw [if_neg (by simpa using hm), if_pos (by have h9 := hb.resolve_left hm; simpa using h9)]; rfl
        · have hm : ¬ q.wa = -1 := fun h => hb (.inl h)
          have ha : arg i = q.wa + 1 := Classical.not_not.1 fun h => hb (.inr h)
          refine nx (ih (i + 1) ⟨Cv.upd q.oL i q.lo, Cv.upd q.oW i q.wa, q.lo, -1⟩ (by omega) (hv.push hlo' (.inl rfl))) (by rw [pl, if_neg h16, if_neg h19, if_neg h17, if_pos h20, if_neg hb]) fun lo => (tree lo).trans ?_
          rw [if_neg (show ¬ (q.wa != (-1 : Int)) = true by simpa using hw)]
          rw [if_neg (show ¬ (op i == (16 : Int)) = true by simpa using h16), if_neg (show ¬ (op i == (19 : Int)) = true by simpa using h19), if_neg (show ¬ (op i == (17 : Int)) = true by simpa using h17), if_pos (show (op i == (20 : Int)) = true by simpa using h20), if_neg (by simpa using hm), if_neg (by have h9 : arg i = q.wa + 1 := ha; simp [h9])]
      refine nx (ih (i + 1) ⟨Cv.upd q.oL i q.lo, Cv.upd q.oW i q.wa, q.lo, q.wa⟩ (by omega) (hv.push hlo' hwa')) (by rw [pl, if_neg h16, if_neg h19, if_neg h17, if_neg h20]) fun lo => (tree lo).trans ?_
      rw [if_neg (show ¬ (q.wa != (-1 : Int)) = true by simpa using hw)]
      rw [if_neg (show ¬ (op i == (16 : Int)) = true by simpa using h16), if_neg (show ¬ (op i == (19 : Int)) = true by simpa using h19), if_neg (show ¬ (op i == (17 : Int)) = true by simpa using h17), if_neg (show ¬ (op i == (20 : Int)) = true by simpa using h20)]
    by_cases h20' : op i = 20
    · have hbad : ¬ (q.wa ≠ -1 ∧ op i ≠ 20 ∧ Cv.pureP (op i) = false) := fun h => h.2.1 h20'
      rw [if_neg hbad] at pl
      by_cases h16 : op i = 16
      · refine nx (ih (i + 1) ⟨Cv.upd q.oL i q.lo, Cv.upd q.oW i q.wa, i, q.wa⟩ (by omega) (hv.push (.inr ⟨by omega, by omega⟩) hwa')) (by rw [pl, if_pos h16]) fun lo => (tree lo).trans ?_
        rw [if_pos (show (q.wa != (-1 : Int)) = true by simpa using hw), if_neg (show ¬ (op i != (20 : Int)) = true by simpa using h20')]
        rw [if_pos (show (op i == (16 : Int)) = true by simpa using h16)]
      by_cases h19 : op i = 19
      · refine nx (ih (i + 1) ⟨Cv.upd q.oL i q.lo, Cv.upd q.oW i q.wa, q.lo, i⟩ (by omega) (hv.push hlo' (.inr ⟨by omega, by omega⟩))) (by rw [pl, if_neg h16, if_pos h19]) fun lo => (tree lo).trans ?_
        rw [if_pos (show (q.wa != (-1 : Int)) = true by simpa using hw), if_neg (show ¬ (op i != (20 : Int)) = true by simpa using h20')]
        rw [if_neg (show ¬ (op i == (16 : Int)) = true by simpa using h16), if_pos (show (op i == (19 : Int)) = true by simpa using h19)]
      by_cases h17 : op i = 17
      · by_cases hb : q.lo = -1 ∨ arg i ≠ q.lo + 1
        · refine stop (by rw [pl, if_neg h16, if_neg h19, if_pos h17, if_pos hb]) fun lo => (tree lo).trans ?_
          rw [if_pos (show (q.wa != (-1 : Int)) = true by simpa using hw), if_neg (show ¬ (op i != (20 : Int)) = true by simpa using h20')]
          rw [if_neg (show ¬ (op i == (16 : Int)) = true by simpa using h16), if_neg (show ¬ (op i == (19 : Int)) = true by simpa using h19), if_pos (show (op i == (17 : Int)) = true by simpa using h17)]
          by_cases hm : q.lo = -1
          · rw [if_pos (by simpa using hm)]; rfl
          · rw [if_neg (by simpa using hm), if_pos (by have h9 := hb.resolve_left hm; simpa using h9)]; rfl
        · have hm : ¬ q.lo = -1 := fun h => hb (.inl h)
          have ha : arg i = q.lo + 1 := Classical.not_not.1 fun h => hb (.inr h)
          have hlo : 0 ≤ q.lo ∧ q.lo < i := by rcases hv.lo with h | h; exact absurd h hm; exact h
          refine nx (ih (i + 1) ⟨Cv.upd q.oL i q.lo, Cv.upd q.oW i q.wa, Cv.upd q.oL i q.lo q.lo.toNat, Cv.upd q.oW i q.wa q.lo.toNat⟩ (by omega) (hv.push (hv.pop hlo).1 (hv.pop hlo).2)) (by rw [pl, if_neg h16, if_neg h19, if_pos h17, if_neg hb]) fun lo => (tree lo).trans ?_
          rw [if_pos (show (q.wa != (-1 : Int)) = true by simpa using hw), if_neg (show ¬ (op i != (20 : Int)) = true by simpa using h20')]
          rw [if_neg (show ¬ (op i == (16 : Int)) = true by simpa using h16), if_neg (show ¬ (op i == (19 : Int)) = true by simpa using h19), if_pos (show (op i == (17 : Int)) = true by simpa using h17), if_neg (by simpa using hm), if_neg (by have h9 : arg i = q.lo + 1 := ha; simp [h9]), if_pos (show (0 : Int) ≤ q.lo ∧ q.lo < (n : Int) by omega), if_pos (show q.lo.toNat < n ∧ True from ⟨by omega, trivial⟩)]
          rfl
      by_cases h20 : op i = 20
      · by_cases hb : q.wa = -1 ∨ arg i ≠ q.wa + 1
        · refine stop (by rw [pl, if_neg h16, if_neg h19, if_neg h17, if_pos h20, if_pos hb]) fun lo => (tree lo).trans ?_
          rw [if_pos (show (q.wa != (-1 : Int)) = true by simpa using hw), if_neg (show ¬ (op i != (20 : Int)) = true by simpa using h20')]
          rw [if_neg (show ¬ (op i == (16 : Int)) = true by simpa using h16), if_neg (show ¬ (op i == (19 : Int)) = true by simpa using h19), if_neg (show ¬ (op i == (17 : Int)) = true by simpa using h17), if_pos (show (op i == (20 : Int)) = true by simpa using h20)]
          by_cases hm : q.wa = -1
          · rw [if_pos (by simpa using hm)]; rfl
          · rw [if_neg (by simpa using hm), if_pos (by have h9 := hb.resolve_left hm; simpa using h9)]; rfl
        · have hm : ¬ q.wa = -1 := fun h => hb (.inl h)
          have ha : arg i = q.wa + 1 := Classical.not_not.1 fun h => hb (.inr h)
          refine nx (ih (i + 1) ⟨Cv.upd q.oL i q.lo, Cv.upd q.oW i q.wa, q.lo, -1⟩ (by omega) (hv.push hlo' (.inl rfl))) (by rw [pl, if_neg h16, if_neg h19, if_neg h17, if_pos h20, if_neg hb]) fun lo => (tree lo).trans ?_
          rw [if_pos (show (q.wa != (-1 : Int)) = true by simpa using hw), if_neg (show ¬ (op i != (20 : Int)) = true by simpa using h20')]
          rw [if_neg (show ¬ (op i == (16 : Int)) = true by simpa using h16), if_neg (show ¬ (op i == (19 : Int)) = true by simpa using h19), if_neg (show ¬ (op i == (17 : Int)) = true by simpa using h17), if_pos (show (op i == (20 : Int)) = true by simpa using h20), if_neg (by simpa using hm), if_neg (by have h9 : arg i = q.wa + 1 := ha; simp [h9])]
      refine nx (ih (i + 1) ⟨Cv.upd q.oL i q.lo, Cv.upd q.oW i q.wa, q.lo, q.wa⟩ (by omega) (hv.push hlo' hwa')) (by rw [pl, if_neg h16, if_neg h19, if_neg h17, if_neg h20]) fun lo => (tree lo).trans ?_
      rw [if_pos (show (q.wa != (-1 : Int)) = true by simpa using hw), if_neg (show ¬ (op i != (20 : Int)) = true by simpa using h20')]
      rw [if_neg (show ¬ (op i == (16 : Int)) = true by simpa using h16), if_neg (show ¬ (op i == (19 : Int)) = true by simpa using h19), if_neg (show ¬ (op i == (17 : Int)) = true by simpa using h17), if_neg (show ¬ (op i == (20 : Int)) = true by simpa using h20)]
    by_cases hpu : Cv.pureP (op i) = false
    · refine stop (by rw [pl, if_pos ⟨hw, h20', hpu⟩]) fun lo => (tree lo).trans ?_
      rw [if_pos (show (q.wa != (-1 : Int)) = true by simpa using hw), if_pos (show (op i != (20 : Int)) = true by simpa using h20'), cl_pos hq]
      show (if (!Cv.pureP (op i)) = true then _ else _) = _
      rw [if_pos (by rw [hpu]; rfl)]
      rfl
    · have hbad : ¬ (q.wa ≠ -1 ∧ op i ≠ 20 ∧ Cv.pureP (op i) = false) := fun h => hpu h.2.2
      rw [if_neg hbad] at pl
      by_cases h16 : op i = 16
      · refine nx (ih (i + 1) ⟨Cv.upd q.oL i q.lo, Cv.upd q.oW i q.wa, i, q.wa⟩ (by omega) (hv.push (.inr ⟨by omega, by omega⟩) hwa')) (by rw [pl, if_pos h16]) fun lo => (tree lo).trans ?_
        rw [if_pos (show (q.wa != (-1 : Int)) = true by simpa using hw), if_pos (show (op i != (20 : Int)) = true by simpa using h20'), cl_pos hq]; (show (if (!Cv.pureP (op i)) = true then _ else _) = _); rw [if_neg (show ¬ (!Cv.pureP (op i)) = true by simpa using hpu)]
        rw [if_pos (show (op i == (16 : Int)) = true by simpa using h16)]
      by_cases h19 : op i = 19
      · refine nx (ih (i + 1) ⟨Cv.upd q.oL i q.lo, Cv.upd q.oW i q.wa, q.lo, i⟩ (by omega) (hv.push hlo' (.inr ⟨by omega, by omega⟩))) (by rw [pl, if_neg h16, if_pos h19]) fun lo => (tree lo).trans ?_
        rw [if_pos (show (q.wa != (-1 : Int)) = true by simpa using hw), if_pos (show (op i != (20 : Int)) = true by simpa using h20'), cl_pos hq]; (show (if (!Cv.pureP (op i)) = true then _ else _) = _); rw [if_neg (show ¬ (!Cv.pureP (op i)) = true by simpa using hpu)]
        rw [if_neg (show ¬ (op i == (16 : Int)) = true by simpa using h16), if_pos (show (op i == (19 : Int)) = true by simpa using h19)]
      by_cases h17 : op i = 17
      · by_cases hb : q.lo = -1 ∨ arg i ≠ q.lo + 1
        · refine stop (by rw [pl, if_neg h16, if_neg h19, if_pos h17, if_pos hb]) fun lo => (tree lo).trans ?_
          rw [if_pos (show (q.wa != (-1 : Int)) = true by simpa using hw), if_pos (show (op i != (20 : Int)) = true by simpa using h20'), cl_pos hq]; (show (if (!Cv.pureP (op i)) = true then _ else _) = _); rw [if_neg (show ¬ (!Cv.pureP (op i)) = true by simpa using hpu)]
          rw [if_neg (show ¬ (op i == (16 : Int)) = true by simpa using h16), if_neg (show ¬ (op i == (19 : Int)) = true by simpa using h19), if_pos (show (op i == (17 : Int)) = true by simpa using h17)]
          by_cases hm : q.lo = -1
          · rw [if_pos (by simpa using hm)]; rfl
          · rw [if_neg (by simpa using hm), if_pos (by have h9 := hb.resolve_left hm; simpa using h9)]; rfl
        · have hm : ¬ q.lo = -1 := fun h => hb (.inl h)
          have ha : arg i = q.lo + 1 := Classical.not_not.1 fun h => hb (.inr h)
          have hlo : 0 ≤ q.lo ∧ q.lo < i := by rcases hv.lo with h | h; exact absurd h hm; exact h
          refine nx (ih (i + 1) ⟨Cv.upd q.oL i q.lo, Cv.upd q.oW i q.wa, Cv.upd q.oL i q.lo q.lo.toNat, Cv.upd q.oW i q.wa q.lo.toNat⟩ (by omega) (hv.push (hv.pop hlo).1 (hv.pop hlo).2)) (by rw [pl, if_neg h16, if_neg h19, if_pos h17, if_neg hb]) fun lo => (tree lo).trans ?_
          rw [if_pos (show (q.wa != (-1 : Int)) = true by simpa using hw), if_pos (show (op i != (20 : Int)) = true by simpa using h20'), cl_pos hq]; (show (if (!Cv.pureP (op i)) = true then _ else _) = _); rw [if_neg (show ¬ (!Cv.pureP (op i)) = true by simpa using hpu)]
          rw [if_neg (show ¬ (op i == (16 : Int)) = true by simpa using h16), if_neg (show ¬ (op i == (19 : Int)) = true by simpa using h19), if_pos (show (op i == (17 : Int)) = true by simpa using h17), if_neg (by simpa using hm), if_neg (by have h9 : arg i = q.lo + 1 := ha; simp [h9]), if_pos (show (0 : Int) ≤ q.lo ∧ q.lo < (n : Int) by omega), if_pos (show q.lo.toNat < n ∧ True from ⟨by omega, trivial⟩)]
          rfl
      by_cases h20 : op i = 20
      · by_cases hb : q.wa = -1 ∨ arg i ≠ q.wa + 1
        · refine stop (by rw [pl, if_neg h16, if_neg h19, if_neg h17, if_pos h20, if_pos hb]) fun lo => (tree lo).trans ?_
          rw [if_pos (show (q.wa != (-1 : Int)) = true by simpa using hw), if_pos (show (op i != (20 : Int)) = true by simpa using h20'), cl_pos hq]; (show (if (!Cv.pureP (op i)) = true then _ else _) = _); rw [if_neg (show ¬ (!Cv.pureP (op i)) = true by simpa using hpu)]
          rw [if_neg (show ¬ (op i == (16 : Int)) = true by simpa using h16), if_neg (show ¬ (op i == (19 : Int)) = true by simpa using h19), if_neg (show ¬ (op i == (17 : Int)) = true by simpa using h17), if_pos (show (op i == (20 : Int)) = true by simpa using h20)]
          by_cases hm : q.wa = -1
          · rw [if_pos (by simpa using hm)]; rfl
          · rw [if_neg (by simpa using hm), if_pos (by have h9 := hb.resolve_left hm; simpa using h9)]; rfl
        · have hm : ¬ q.wa = -1 := fun h => hb (.inl h)
          have ha : arg i = q.wa + 1 := Classical.not_not.1 fun h => hb (.inr h)
          refine nx (ih (i + 1) ⟨Cv.upd q.oL i q.lo, Cv.upd q.oW i q.wa, q.lo, -1⟩ (by omega) (hv.push hlo' (.inl rfl))) (by rw [pl, if_neg h16, if_neg h19, if_neg h17, if_pos h20, if_neg hb]) fun lo => (tree lo).trans ?_
          rw [if_pos (show (q.wa != (-1 : Int)) = true by simpa using hw), if_pos (show (op i != (20 : Int)) = true by simpa using h20'), cl_pos hq]; (show (if (!Cv.pureP (op i)) = true then _ else _) = _); rw [if_neg (show ¬ (!Cv.pureP (op i)) = true by simpa using hpu)]
          rw [if_neg (show ¬ (op i == (16 : Int)) = true by simpa using h16), if_neg (show ¬ (op i == (19 : Int)) = true by simpa using h19), if_neg (show ¬ (op i == (17 : Int)) = true by simpa using h17), if_pos (show (op i == (20 : Int)) = true by simpa using h20), if_neg (by simpa using hm), if_neg (by have h9 : arg i = q.wa + 1 := ha; simp [h9])]
      refine nx (ih (i + 1) ⟨Cv.upd q.oL i q.lo, Cv.upd q.oW i q.wa, q.lo, q.wa⟩ (by omega) (hv.push hlo' hwa')) (by rw [pl, if_neg h16, if_neg h19, if_neg h17, if_neg h20]) fun lo => (tree lo).trans ?_
      rw [if_pos (show (q.wa != (-1 : Int)) = true by simpa using hw), if_pos (show (op i != (20 : Int)) = true by simpa using h20'), cl_pos hq]; (show (if (!Cv.pureP (op i)) = true then _ else _) = _); rw [if_neg (show ¬ (!Cv.pureP (op i)) = true by simpa using hpu)]
      rw [if_neg (show ¬ (op i == (16 : Int)) = true by simpa using h16), if_neg (show ¬ (op i == (19 : Int)) = true by simpa using h19), if_neg (show ¬ (op i == (17 : Int)) = true by simpa using h17), if_neg (show ¬ (op i == (20 : Int)) = true by simpa using h20)]
theorem bw_row {T z n : Nat} {f : Nat → List V} : V.bw1 (hp [some (Chunk.row T z n f)]) (V.sl 0 z 0 n) = .ro z n (fun j => f (0 + j)) := by
  simp [V.bw1, hp]
def plN : V := .tup [.sc (.slice none 0 0), bo false]
def plS (n : Nat) (oL oW : Nat → Int) (b : Bool) : V := .tup [.ro 2 n (r2 oL oW), bo b]
def pl0 : Cv.Pl := ⟨Cv.zero, Cv.zero, -1, -1⟩
def plV (n : Nat) (x : Option Cv.Pl) : V := match x with
  | none => plN
  | some q => plS n q.oL q.oW (decide (q.lo = -1 ∧ q.wa = -1))
set_option maxRecDepth 100000 in
theorem places_sc {n : Nat} {op arg : Nat → Int} (vs : Int) (hn : n ≤ 300) : SC E2 18 [cd n op arg] [] (.ret (plV n (Cv.plcP (mkC vs n op arg) n 0 pl0)) []) := by
  have key := loop70 (n := n) (op := op) (arg := arg) vs hn n 0 pl0 (by omega) ⟨fun j hj => by omega, fun j hj => by omega, .inl rfl, .inl rfl⟩
  have hc : (n : Int) = (n : Int) ∧ (0 : Int) ≤ (n : Int) ∧ 0 < 2 ∧ 2 = 2 ∧ Int.toNat (n : Int) * 16 ≤ 281474976710656 ∧ Int.toNat (n : Int) ≤ Go.maxLen ∧ (allOk 2 1 fun (x : Nat) => List.map V.sc (Array.toList (Value.cells (Value.agg #[Value.int IntKind.i64 0, Value.int IntKind.i64 0])))) = true := by
    refine ⟨rfl, by omega, by decide, rfl, by rw [Int.toNat_natCast]; omega, by rw [Int.toNat_natCast]; unfold Go.maxLen; omega, by kernel_rfl⟩
  have hle : LeSt ({ fr := [V.junk, V.junk, V.junk, V.junk, V.sl 0 2 0 (Int.toNat (n : Int)), V.ptr 1 0, V.junk, V.junk, V.junk, V.junk, V.junk, V.junk, V.ro 2 n (ins op arg), i64 (n : Int), i64 0] ++ jk 69, H := hp [some (Chunk.row 49 2 (Int.toNat (n : Int)) fun (x : Nat) => List.map V.sc (Array.toList (Value.cells (Value.agg #[Value.int IntKind.i64 0, Value.int IntKind.i64 0])))), some (Chunk.blk [i64 (-1), i64 (-1)])], nx := 2, rt := 0, me := 18 }) (S70 n op arg 0 Cv.zero Cv.zero (-1) (-1)) := by
    rw [Int.toNat_natCast]
    exact LeSt.mk' (LeL.refl _) ⟨ChLe.row fun j _ => rfl, ChLe.refl _, trivial⟩
  revert key
  cases hx : Cv.plcP (mkC vs n op arg) n 0 pl0 with
  | none =>
    intro key
    refine SC.of hW2 hX2 sC70 (oneF2 0 (e := .exit 0) (T := T70 n Cv.zero Cv.zero 0 0) key) ((f70 n op arg Cv.zero Cv.zero 0 0 _ _).trans ?_)
    rw [if_pos hc, cl_pos ⟨rfl, hle⟩, cl_neg (fun h => h)]
    rfl
  | some q =>
    intro key
    have h : SC E2 18 [cd n op arg] [] (.ret (.tup [.sl 0 2 0 n, bo (q.lo == (-1 : Int) && (q.wa == (-1 : Int) && true))]) [some (Chunk.row 49 2 n (r2 q.oL q.oW))]) := by
      refine SC.of hW2 hX2 sC70 (one2 0 (e' := .ret) (T' := T70r) key) ((f70 n op arg q.oL q.oW q.lo q.wa _ _).trans ?_)
      rw [if_pos hc, cl_pos ⟨rfl, hle⟩, cl_pos trivial]
      rfl
    have hbw : V.bw (hp [some (Chunk.row 49 2 n (r2 q.oL q.oW))]) (.tup [.sl 0 2 0 n, bo (q.lo == (-1 : Int) && (q.wa == (-1 : Int) && true))]) = .tup [.ro 2 n (fun j => r2 q.oL q.oW (0 + j)), bo (q.lo == (-1 : Int) && (q.wa == (-1 : Int) && true))] := by
      have h3 := bw_row (T := 49) (z := 2) (n := n) (f := r2 q.oL q.oW)
      simp only [V.bw, List.map_cons, List.map_nil, V.bw2, h3]
      rfl
    refine (SC.give h (by rw [hbw]; rfl)).le ?_
    rw [hbw]
    have hb : (q.lo == (-1 : Int) && (q.wa == (-1 : Int) && true)) = decide (q.lo = -1 ∧ q.wa = -1) := by rw [Bool.eq_iff_iff]; simp
    rw [hb]
    exact Le.tup (LeL.cons (Le.ro_eq fun j hj => ⟨by rw [Nat.zero_add], rfl⟩) (LeL.refl _))
end Go.Proofs.YtcljccpddodckaaGreatDoor
/- Depths of the stack (71), walked. -/
namespace Go.Proofs.YtcljccpddodckaaGreatDoor
open Go Go.Am Go.Proofs
set_option linter.unusedSimpArgs false
set_option linter.unusedVariables false
set_option maxRecDepth 100000
open Classical in
noncomputable def rchBD (n : Nat) (dp : Nat → Int) (t d : Int) : Bool := decide (Cv.rchB n dp t d)
open Classical in
theorem rchBD_iff (n : Nat) (dp : Nat → Int) (t d : Int) : rchBD n dp t d = true ↔ Cv.rchB n dp t d := by unfold rchBD; rw [decide_eq_true_eq]
theorem rchBD_of {n : Nat} {dp : Nat → Int} {t d : Int} {b : Bool} (h : b = true ↔ Cv.rchB n dp t d) : b = rchBD n dp t d := by rw [Bool.eq_iff_iff, h, rchBD_iff]
def vEff : List V → V
  | [.sc (.int .i64 o)] => .tup [.agg [i64 (Cv.effLo o), i64 (Cv.effHi o), i64 (Cv.effBy o)], bo (okB o)]
  | _ => .junk
def dpOf (f : Nat → List V) : Nat → Int := fun j => match f j with | [.sc (.int _ x)] => x | _ => 0
theorem dpOf_r1 (x : Nat → Int) : dpOf (r1 x) = x := rfl
noncomputable def vRch : List V → List (Option Chunk) → CRes
  | [.sc (.int .i64 t), .sc (.int .i64 d), .ptr 0 0, .ptr 1 0], [some (.blk [.ro 2 n g]), some (.blk [.sl 2 1 0 n']), some (.row 3 1 m f)] => .ret (bo (rchBD m (dpOf f) t d)) [some (.blk [.ro 2 n g]), some (.blk [.sl 2 1 0 n']), some (.row 3 1 m (r1 (Cv.rchD m (dpOf f) t d)))]
  | _, _ => .ret .junk []
def QRch (args : List V) (L : List (Option Chunk)) : Prop := ∃ (t d : Int) (n : Nat) (op arg dp : Nat → Int), args = [i64 t, i64 d, .ptr 0 0, .ptr 1 0] ∧ L = [some (.blk [cd n op arg]), some (.blk [.sl 2 1 0 n]), some (.row 3 1 n (r1 dp))] ∧ 0 ≤ t
noncomputable def C71b : CallT := ptab 45 QI1 vEff (ptabL 44 QRch vRch (tab []))
def S71a (n : Nat) (op arg : Nat → Int) (k : Nat) (dp : Nat → Int) : St := { fr := [.junk, .ptr 0 0, .junk, .ptr 1 0] ++ jk 13 ++ [i64 ((n - 1 : Nat) : Int), i64 k] ++ jk 76, H := hp [some (.blk [cd n op arg]), some (.blk [.sl 2 1 0 n]), some (.row 3 1 n (r1 dp))], nx := 3, rt := 0, me := 19 }
def T71a (n : Nat) (op arg : Nat → Int) (dp : Nat → Int) : St := { fr := [.junk, .ptr 0 0, .junk, .ptr 1 0] ++ jk 91, H := hp [some (.blk [cd n op arg]), some (.blk [.sl 2 1 0 n]), some (.row 3 1 n (r1 dp))], nx := 3, rt := 0, me := 19 }
def S71b (n : Nat) (op arg : Nat → Int) (i : Nat) (dp : Nat → Int) : St := { fr := [.junk, .junk, .junk, .ptr 0 0, .junk, .fn 44 [.ptr 2 0, .ptr 0 0]] ++ jk 21 ++ [cd n op arg, i64 n, i64 i] ++ jk 65, H := hp [some (.blk [.sl 1 1 0 n]), some (.row 3 1 n (r1 dp)), some (.blk [cd n op arg])], nx := 3, rt := 0, me := 19 }
def T71b : St := { fr := jk 95, H := hp [], nx := 0, rt := 0, me := 19 }
def T71r : St := { fr := [.junk, .junk, bo false] ++ jk 92, H := hp [], nx := 0, rt := 0, me := 19 }
theorem g76 (n : Nat) (op arg dp : Nat → Int) (t d : Int) : callK E2 T0 L0 44 [i64 t, i64 d, .ptr 0 0, .ptr 1 0] [some (.blk [cd n op arg]), some (.blk [.sl 2 1 0 n]), some (.row 3 1 n (r1 dp))] K =
  if decide (t < (n : Int)) = true then
   if (0 : Int) ≤ t ∧ t < (n : Int) then
    if 0 + Int.toNat t < n ∧ 1 = 1 then
     if (dp (0 + Int.toNat t) == (-1 : Int)) = true then
      if (0 : Int) ≤ t ∧ t < (n : Int) then
       if 0 + Int.toNat t < n ∧ 1 = 1 then
        if decide (t ≥ (n : Int)) = true then
         some (Ans.c (CRes.ret (bo true) [some (Chunk.blk [V.ro 2 n (ins op arg)]), some (Chunk.blk [V.sl 2 1 0 n]), some (Chunk.row 3 1 n (putF true (0 + Int.toNat t) 0 [i64 d] (r1 dp)))]))
        else
         if (0 : Int) ≤ t ∧ t < (n : Int) then
          if 0 + Int.toNat t < n ∧ 1 = 1 then
           some (Ans.c (CRes.ret (bo (((if 0 + Int.toNat t = 0 + Int.toNat t then d else dp (0 + Int.toNat t)) == d))) [some (Chunk.blk [V.ro 2 n (ins op arg)]), some (Chunk.blk [V.sl 2 1 0 n]), some (Chunk.row 3 1 n (putF true (0 + Int.toNat t) 0 [i64 d] (r1 dp)))]))
          else
           none
         else
          none
       else
        none
      else
       none
     else
      if decide (t ≥ (n : Int)) = true then
       some (Ans.c (CRes.ret (bo true) [some (Chunk.blk [V.ro 2 n (ins op arg)]), some (Chunk.blk [V.sl 2 1 0 n]), some (Chunk.row 3 1 n (r1 dp))]))
      else
       if (0 : Int) ≤ t ∧ t < (n : Int) then
        if 0 + Int.toNat t < n ∧ 1 = 1 then
         some (Ans.c (CRes.ret (bo ((dp (0 + Int.toNat t) == d))) [some (Chunk.blk [V.ro 2 n (ins op arg)]), some (Chunk.blk [V.sl 2 1 0 n]), some (Chunk.row 3 1 n (r1 dp))]))
        else
         none
       else
        none
    else
     none
   else
    none
  else
   if decide (t ≥ (n : Int)) = true then
    some (Ans.c (CRes.ret (bo true) [some (Chunk.blk [V.ro 2 n (ins op arg)]), some (Chunk.blk [V.sl 2 1 0 n]), some (Chunk.row 3 1 n (r1 dp))]))
   else
    if (0 : Int) ≤ t ∧ t < (n : Int) then
     if 0 + Int.toNat t < n ∧ 1 = 1 then
      some (Ans.c (CRes.ret (bo ((dp (0 + Int.toNat t) == d))) [some (Chunk.blk [V.ro 2 n (ins op arg)]), some (Chunk.blk [V.sl 2 1 0 n]), some (Chunk.row 3 1 n (r1 dp))]))
     else
      none
    else
     none := by kernel_rfl

theorem r71a (n : Nat) (op arg : Nat → Int) (k : Nat) (dp : Nat → Int) (lo : LoopT) : loopK E2 C71b lo 0 393226 (bodyOf E2 19 0) (S71a n op arg k dp) (KC 10) =
  if decide ((k : Int) < ((n - 1 : Nat) : Int)) = true then
   if (0 : Int) ≤ w ((k : Int) + (1 : Int)) ∧ w ((k : Int) + (1 : Int)) < (n : Int) then
    if 0 + Int.toNat (w ((k : Int) + (1 : Int))) < n ∧ 1 = 1 then
     lo 0 393226 (bodyOf E2 19 0) ({ fr := [V.junk, V.ptr 0 0, V.junk, V.ptr 1 0, V.junk, V.junk, V.junk, V.junk, V.junk, V.junk, V.junk, V.junk, V.junk, V.junk, V.junk, V.junk, V.junk, i64 ((n - 1 : Nat) : Int), i64 (w ((k : Int) + (1 : Int)))] ++ jk 76, H := hp [some (Chunk.blk [V.ro 2 n (ins op arg)]), some (Chunk.blk [V.sl 2 1 0 n]), some (Chunk.row 3 1 n (putF true (0 + Int.toNat (w ((k : Int) + (1 : Int)))) 0 [i64 (-1)] (r1 dp)))], nx := 3, rt := 0, me := 19 }) (KC 10)
    else
     none
   else
    none
  else
   some (Ans.l (Ex.exit 0) { fr := [V.junk, V.ptr 0 0, V.junk, V.ptr 1 0] ++ jk 91, H := hp [some (Chunk.blk [V.ro 2 n (ins op arg)]), some (Chunk.blk [V.sl 2 1 0 n]), some (Chunk.row 3 1 n (r1 dp))], nx := 3, rt := 0, me := 19 }) := by kernel_rfl

theorem r71b (n : Nat) (op arg : Nat → Int) (i : Nat) (dp : Nat → Int) (lo : LoopT) : loopK E2 C71b lo 2 939524136 (bodyOf E2 19 2) (S71b n op arg i dp) (KC2 0 4) =
  if decide ((i : Int) < (n : Int)) = true then
   if (0 : Int) ≤ (i : Int) ∧ (i : Int) < (n : Int) then
    cl (QI1 ([i64 (op (Int.toNat (i : Int)))]) ∧ ([] : List (Option Chunk)) = []) (
     if (0 : Int) ≤ (i : Int) ∧ (i : Int) < (n : Int) then
      if 0 + Int.toNat (i : Int) < n ∧ 1 = 1 then
       if (!okB (op (Int.toNat (i : Int)))) = true then
        some (Ans.l Ex.ret { fr := [V.junk, V.junk, bo false] ++ jk 92, H := hp [], nx := 0, rt := 0, me := 19 })
       else
        if decide (dp (0 + Int.toNat (i : Int)) < Cv.effLo (op (Int.toNat (i : Int)))) = true then
         some (Ans.l Ex.ret { fr := [V.junk, V.junk, bo false] ++ jk 92, H := hp [], nx := 0, rt := 0, me := 19 })
        else
         if decide (dp (0 + Int.toNat (i : Int)) > Cv.effHi (op (Int.toNat (i : Int)))) = true then
          some (Ans.l Ex.ret { fr := [V.junk, V.junk, bo false] ++ jk 92, H := hp [], nx := 0, rt := 0, me := 19 })
         else
          if (op (Int.toNat (i : Int)) == (14 : Int)) = true then
           cl (QRch ([i64 (arg (Int.toNat (i : Int))), i64 (w (dp (0 + Int.toNat (i : Int)) + Cv.effBy (op (Int.toNat (i : Int))))), V.ptr 0 0, V.ptr 1 0]) ([some (Chunk.blk [V.ro 2 n (ins op arg)]), some (Chunk.blk [V.sl 2 1 0 n]), some (Chunk.row 3 1 n (r1 dp))])) (
            if (!rchBD n (dpOf (r1 dp)) (arg (Int.toNat (i : Int))) (w (dp (0 + Int.toNat (i : Int)) + Cv.effBy (op (Int.toNat (i : Int)))))) = true then
             some (Ans.l Ex.ret { fr := [V.junk, V.junk, bo false] ++ jk 92, H := hp [], nx := 0, rt := 0, me := 19 })
            else
             if (op (Int.toNat (i : Int)) != (14 : Int)) = true then
              cl (QRch ([i64 (w ((i : Int) + (1 : Int))), i64 (w (dp (0 + Int.toNat (i : Int)) + Cv.effBy (op (Int.toNat (i : Int))))), V.ptr 0 0, V.ptr 1 0]) ([some (Chunk.blk [V.ro 2 n (ins op arg)]), some (Chunk.blk [V.sl 2 1 0 n]), some (Chunk.row 3 1 n (r1 (Cv.rchD n (dpOf (r1 dp)) (arg (Int.toNat (i : Int))) (w (dp (0 + Int.toNat (i : Int)) + Cv.effBy (op (Int.toNat (i : Int))))))))])) (
               if (!rchBD n (dpOf (r1 (Cv.rchD n (dpOf (r1 dp)) (arg (Int.toNat (i : Int))) (w (dp (0 + Int.toNat (i : Int)) + Cv.effBy (op (Int.toNat (i : Int)))))))) (w ((i : Int) + (1 : Int))) (w (dp (0 + Int.toNat (i : Int)) + Cv.effBy (op (Int.toNat (i : Int)))))) = true then
                some (Ans.l Ex.ret { fr := [V.junk, V.junk, bo false] ++ jk 92, H := hp [], nx := 0, rt := 0, me := 19 })
               else
                lo 2 939524136 (bodyOf E2 19 2) ({ fr := [V.junk, V.junk, V.junk, V.ptr 0 0, V.junk, V.fn 44 [V.ptr 2 0, V.ptr 0 0], V.junk, V.junk, V.junk, V.junk, V.junk, V.junk, V.junk, V.junk, V.junk, V.junk, V.junk, V.junk, V.junk, V.junk, V.junk, V.junk, V.junk, V.junk, V.junk, V.junk, V.junk, V.ro 2 n (ins op arg), i64 (n : Int), i64 (w ((i : Int) + (1 : Int)))] ++ jk 65, H := hp [some (Chunk.blk [V.sl 1 1 0 n]), some (Chunk.row 3 1 n (r1 (Cv.rchD n (dpOf (r1 (Cv.rchD n (dpOf (r1 dp)) (arg (Int.toNat (i : Int))) (w (dp (0 + Int.toNat (i : Int)) + Cv.effBy (op (Int.toNat (i : Int)))))))) (w ((i : Int) + (1 : Int))) (w (dp (0 + Int.toNat (i : Int)) + Cv.effBy (op (Int.toNat (i : Int)))))))), some (Chunk.blk [V.ro 2 n (ins op arg)])], nx := 3, rt := 0, me := 19 }) (KC2 0 4)) (
               none)
             else
              lo 2 939524136 (bodyOf E2 19 2) ({ fr := [V.junk, V.junk, V.junk, V.ptr 0 0, V.junk, V.fn 44 [V.ptr 2 0, V.ptr 0 0], V.junk, V.junk, V.junk, V.junk, V.junk, V.junk, V.junk, V.junk, V.junk, V.junk, V.junk, V.junk, V.junk, V.junk, V.junk, V.junk, V.junk, V.junk, V.junk, V.junk, V.junk, V.ro 2 n (ins op arg), i64 (n : Int), i64 (w ((i : Int) + (1 : Int)))] ++ jk 65, H := hp [some (Chunk.blk [V.sl 1 1 0 n]), some (Chunk.row 3 1 n (r1 (Cv.rchD n (dpOf (r1 dp)) (arg (Int.toNat (i : Int))) (w (dp (0 + Int.toNat (i : Int)) + Cv.effBy (op (Int.toNat (i : Int)))))))), some (Chunk.blk [V.ro 2 n (ins op arg)])], nx := 3, rt := 0, me := 19 }) (KC2 0 4)) (
            none)
          else
           if (op (Int.toNat (i : Int)) == (15 : Int)) = true then
            cl (QRch ([i64 (arg (Int.toNat (i : Int))), i64 (w (dp (0 + Int.toNat (i : Int)) + Cv.effBy (op (Int.toNat (i : Int))))), V.ptr 0 0, V.ptr 1 0]) ([some (Chunk.blk [V.ro 2 n (ins op arg)]), some (Chunk.blk [V.sl 2 1 0 n]), some (Chunk.row 3 1 n (r1 dp))])) (
             if (!rchBD n (dpOf (r1 dp)) (arg (Int.toNat (i : Int))) (w (dp (0 + Int.toNat (i : Int)) + Cv.effBy (op (Int.toNat (i : Int)))))) = true then
              some (Ans.l Ex.ret { fr := [V.junk, V.junk, bo false] ++ jk 92, H := hp [], nx := 0, rt := 0, me := 19 })
             else
              if (op (Int.toNat (i : Int)) != (14 : Int)) = true then
               cl (QRch ([i64 (w ((i : Int) + (1 : Int))), i64 (w (dp (0 + Int.toNat (i : Int)) + Cv.effBy (op (Int.toNat (i : Int))))), V.ptr 0 0, V.ptr 1 0]) ([some (Chunk.blk [V.ro 2 n (ins op arg)]), some (Chunk.blk [V.sl 2 1 0 n]), some (Chunk.row 3 1 n (r1 (Cv.rchD n (dpOf (r1 dp)) (arg (Int.toNat (i : Int))) (w (dp (0 + Int.toNat (i : Int)) + Cv.effBy (op (Int.toNat (i : Int))))))))])) (
                if (!rchBD n (dpOf (r1 (Cv.rchD n (dpOf (r1 dp)) (arg (Int.toNat (i : Int))) (w (dp (0 + Int.toNat (i : Int)) + Cv.effBy (op (Int.toNat (i : Int)))))))) (w ((i : Int) + (1 : Int))) (w (dp (0 + Int.toNat (i : Int)) + Cv.effBy (op (Int.toNat (i : Int)))))) = true then
                 some (Ans.l Ex.ret { fr := [V.junk, V.junk, bo false] ++ jk 92, H := hp [], nx := 0, rt := 0, me := 19 })
                else
                 lo 2 939524136 (bodyOf E2 19 2) ({ fr := [V.junk, V.junk, V.junk, V.ptr 0 0, V.junk, V.fn 44 [V.ptr 2 0, V.ptr 0 0], V.junk, V.junk, V.junk, V.junk, V.junk, V.junk, V.junk, V.junk, V.junk, V.junk, V.junk, V.junk, V.junk, V.junk, V.junk, V.junk, V.junk, V.junk, V.junk, V.junk, V.junk, V.ro 2 n (ins op arg), i64 (n : Int), i64 (w ((i : Int) + (1 : Int)))] ++ jk 65, H := hp [some (Chunk.blk [V.sl 1 1 0 n]), some (Chunk.row 3 1 n (r1 (Cv.rchD n (dpOf (r1 (Cv.rchD n (dpOf (r1 dp)) (arg (Int.toNat (i : Int))) (w (dp (0 + Int.toNat (i : Int)) + Cv.effBy (op (Int.toNat (i : Int)))))))) (w ((i : Int) + (1 : Int))) (w (dp (0 + Int.toNat (i : Int)) + Cv.effBy (op (Int.toNat (i : Int)))))))), some (Chunk.blk [V.ro 2 n (ins op arg)])], nx := 3, rt := 0, me := 19 }) (KC2 0 4)) (
                none)
              else
               lo 2 939524136 (bodyOf E2 19 2) ({ fr := [V.junk, V.junk, V.junk, V.ptr 0 0, V.junk, V.fn 44 [V.ptr 2 0, V.ptr 0 0], V.junk, V.junk, V.junk, V.junk, V.junk, V.junk, V.junk, V.junk, V.junk, V.junk, V.junk, V.junk, V.junk, V.junk, V.junk, V.junk, V.junk, V.junk, V.junk, V.junk, V.junk, V.ro 2 n (ins op arg), i64 (n : Int), i64 (w ((i : Int) + (1 : Int)))] ++ jk 65, H := hp [some (Chunk.blk [V.sl 1 1 0 n]), some (Chunk.row 3 1 n (r1 (Cv.rchD n (dpOf (r1 dp)) (arg (Int.toNat (i : Int))) (w (dp (0 + Int.toNat (i : Int)) + Cv.effBy (op (Int.toNat (i : Int)))))))), some (Chunk.blk [V.ro 2 n (ins op arg)])], nx := 3, rt := 0, me := 19 }) (KC2 0 4)) (
             none)
           else
            if (op (Int.toNat (i : Int)) != (14 : Int)) = true then
             cl (QRch ([i64 (w ((i : Int) + (1 : Int))), i64 (w (dp (0 + Int.toNat (i : Int)) + Cv.effBy (op (Int.toNat (i : Int))))), V.ptr 0 0, V.ptr 1 0]) ([some (Chunk.blk [V.ro 2 n (ins op arg)]), some (Chunk.blk [V.sl 2 1 0 n]), some (Chunk.row 3 1 n (r1 dp))])) (
              if (!rchBD n (dpOf (r1 dp)) (w ((i : Int) + (1 : Int))) (w (dp (0 + Int.toNat (i : Int)) + Cv.effBy (op (Int.toNat (i : Int)))))) = true then
               some (Ans.l Ex.ret { fr := [V.junk, V.junk, bo false] ++ jk 92, H := hp [], nx := 0, rt := 0, me := 19 })
              else
               lo 2 939524136 (bodyOf E2 19 2) ({ fr := [V.junk, V.junk, V.junk, V.ptr 0 0, V.junk, V.fn 44 [V.ptr 2 0, V.ptr 0 0], V.junk, V.junk, V.junk, V.junk, V.junk, V.junk, V.junk, V.junk, V.junk, V.junk, V.junk, V.junk, V.junk, V.junk, V.junk, V.junk, V.junk, V.junk, V.junk, V.junk, V.junk, V.ro 2 n (ins op arg), i64 (n : Int), i64 (w ((i : Int) + (1 : Int)))] ++ jk 65, H := hp [some (Chunk.blk [V.sl 1 1 0 n]), some (Chunk.row 3 1 n (r1 (Cv.rchD n (dpOf (r1 dp)) (w ((i : Int) + (1 : Int))) (w (dp (0 + Int.toNat (i : Int)) + Cv.effBy (op (Int.toNat (i : Int)))))))), some (Chunk.blk [V.ro 2 n (ins op arg)])], nx := 3, rt := 0, me := 19 }) (KC2 0 4)) (
              none)
            else
             lo 2 939524136 (bodyOf E2 19 2) ({ fr := [V.junk, V.junk, V.junk, V.ptr 0 0, V.junk, V.fn 44 [V.ptr 2 0, V.ptr 0 0], V.junk, V.junk, V.junk, V.junk, V.junk, V.junk, V.junk, V.junk, V.junk, V.junk, V.junk, V.junk, V.junk, V.junk, V.junk, V.junk, V.junk, V.junk, V.junk, V.junk, V.junk, V.ro 2 n (ins op arg), i64 (n : Int), i64 (w ((i : Int) + (1 : Int)))] ++ jk 65, H := hp [some (Chunk.blk [V.sl 1 1 0 n]), some (Chunk.row 3 1 n (r1 dp)), some (Chunk.blk [V.ro 2 n (ins op arg)])], nx := 3, rt := 0, me := 19 }) (KC2 0 4)
      else
       none
     else
      none) (
     none)
   else
    none
  else
   some (Ans.l (Ex.exit 2) { fr := [V.junk] ++ jk 94, H := hp [], nx := 0, rt := 0, me := 19 }) := by kernel_rfl

theorem f71 (n : Nat) (op arg : Nat → Int) (dp : Nat → Int) (S1 S2 : St) (P : Prop) : callK E2 C71b (ltab2 [⟨0, bodyOf E2 19 0, S1, True, .exit 0, T71a n op arg dp, .ret, T71r⟩, ⟨2, bodyOf E2 19 2, S2, P, .exit 2, T71b, .ret, T71r⟩]) 19 [.ro 2 n (ins op arg)] [] K =
  if (n : Int) = (n : Int) ∧ (0 : Int) ≤ (n : Int) ∧ 0 < 1 ∧ 1 = 1 ∧ Int.toNat (n : Int) * 8 ≤ 281474976710656 ∧ Int.toNat (n : Int) ≤ maxLen ∧ (allOk 1 1 fun (x : Nat) => List.map V.sc (Array.toList (Value.cells (Value.int IntKind.i64 0)))) = true then
   if (0 : Int) ≤ (1 : Int) ∧ (1 : Int) ≤ ((Int.toNat (n : Int) : Nat) : Int) ∧ ((Int.toNat (n : Int) : Nat) : Int) ≤ ((Int.toNat (n : Int) : Nat) : Int) then
    cl ((bodyOf E2 19 0) = (bodyOf E2 19 0) ∧ LeSt ({ fr := [V.junk, V.ptr 0 0, V.junk, V.ptr 1 0, V.junk, V.junk, V.junk, V.junk, V.junk, V.junk, V.junk, V.junk, V.junk, V.junk, V.junk, V.junk, V.junk, i64 ((Int.toNat ((Int.toNat (n : Int) : Nat) : Int) - 1 : Nat) : Int), i64 0] ++ jk 76, H := hp [some (Chunk.blk [V.ro 2 n (ins op arg)]), some (Chunk.blk [V.sl 2 1 0 (Int.toNat (n : Int))]), some (Chunk.row 3 1 (Int.toNat (n : Int)) fun (x : Nat) => List.map V.sc (Array.toList (Value.cells (Value.int IntKind.i64 0))))], nx := 3, rt := 0, me := 19 }) (S1)) (
     cl (True) (
      cl ((bodyOf E2 19 2) = (bodyOf E2 19 2) ∧ LeSt ({ fr := [V.junk, V.junk, V.junk, V.ptr 0 0, V.junk, V.fn 44 [V.ptr 2 0, V.ptr 0 0], V.junk, V.junk, V.junk, V.junk, V.junk, V.junk, V.junk, V.junk, V.junk, V.junk, V.junk, V.junk, V.junk, V.junk, V.junk, V.junk, V.junk, V.junk, V.junk, V.junk, V.junk, V.ro 2 n (ins op arg), i64 (n : Int), i64 0] ++ jk 65, H := hp [some (Chunk.blk [V.sl 1 1 0 n]), some (Chunk.row 3 1 n (r1 dp)), some (Chunk.blk [V.ro 2 n (ins op arg)])], nx := 3, rt := 0, me := 19 }) (S2)) (
       cl (P) (
        some (Ans.c (CRes.ret (bo true) []))) (
        some (Ans.c (CRes.ret (bo false) [])))) (
       none)) (
      some (Ans.c (CRes.ret (bo false) [])))) (
     none)
   else
    none
  else
   none := by kernel_rfl

theorem row_put1 (x : Nat → Int) (i : Nat) (a : Int) (j : Nat) : putF true i 0 [i64 a] (r1 x) j = r1 (Cv.upd x i a) j := by
  rw [putF_eq]
  by_cases h : j = i
  · subst h; simp only [if_true]; unfold r1; rw [Cv.upd_same]; rfl
  · simp only [if_neg h]; unfold r1; rw [Cv.upd_ne h]
theorem putF_r1 (x : Nat → Int) (i : Nat) (a : Int) : putF true i 0 [i64 a] (r1 x) = r1 (Cv.upd x i a) := funext fun j => row_put1 x i a j
theorem rch_sc : ∀ args L, QRch args L → SC E2 44 args L (vRch args L) := by
  rintro _ _ ⟨t, d, n, op, arg, dp, rfl, rfl, h0⟩
  refine SC.of hW2 hX2 (sound_none E2) (soundL_none E2) ((g76 n op arg dp t d).trans ?_)
  show _ = some (Ans.c (CRes.ret (bo (rchBD n dp t d)) [some (Chunk.blk [V.ro 2 n (ins op arg)]), some (Chunk.blk [V.sl 2 1 0 n]), some (Chunk.row 3 1 n (r1 (Cv.rchD n dp t d)))]))
  simp only [Nat.zero_add, if_true]
  by_cases ht : t < n
  · have hb : (0 : Int) ≤ t ∧ t < (n : Int) := ⟨h0, ht⟩
    have hc : t.toNat < n ∧ True := ⟨by omega, trivial⟩
    have hg : ¬ decide (t ≥ (n : Int)) = true := by simp; omega
    rw [if_pos (show decide (t < (n : Int)) = true by simpa using ht), if_pos hb, if_pos hc]
    by_cases hm : dp t.toNat = -1
    · rw [if_pos (by simpa using hm), if_pos hb, if_pos hc, if_neg hg, if_pos hb, if_pos hc, putF_r1]
      have e1 : Cv.rchD n dp t d = Cv.upd dp t.toNat d := if_pos ⟨ht, hm⟩
      have e2 : (d == d) = rchBD n dp t d := rchBD_of (by simp [Cv.rchB, e1, Cv.upd_same])
      rw [e1, e2]
    · rw [if_neg (by simpa using hm), if_neg hg, if_pos hb, if_pos hc]
      have e1 : Cv.rchD n dp t d = dp := if_neg (fun h => hm h.2)
      have e2 : (dp t.toNat == d) = rchBD n dp t d := rchBD_of (by rw [beq_iff_eq]; unfold Cv.rchB; rw [e1]; constructor; exact .inr; exact fun h => h.resolve_left (by omega))
      rw [e1, e2]
  · have hg : decide (t ≥ (n : Int)) = true := by simp; omega
    rw [if_neg (show ¬ decide (t < (n : Int)) = true by simpa using ht), if_pos hg]
    have e1 : Cv.rchD n dp t d = dp := if_neg (fun h => ht h.1)
    have e2 : true = rchBD n dp t d := rchBD_of (by simp only [true_iff]; exact .inl (by omega))
    rw [e1, ← e2]
theorem sC71b : SoundC E2 C71b := ptab_cons (fun args h => by obtain ⟨o, rfl⟩ := h; exact eff_sc o) (ptabL_cons rch_sc tab_nil)
theorem k71a (n : Nat) (op arg dp : Nat → Int) : KC 10 (.exit 0) (T71a n op arg dp) = some (.l (.exit 0) (T71a n op arg dp)) := by kernel_rfl
def dpk (k : Nat) : Nat → Int := fun j => if j = 0 then 0 else if j ≤ k then -1 else 0
theorem dpk_next (k j : Nat) : Cv.upd (dpk k) (k + 1) (-1) j = dpk (k + 1) j := by
  unfold Cv.upd dpk
  by_cases h : j = k + 1
  · subst h; simp
  · rw [if_neg h]
    by_cases h0 : j = 0
    · simp [h0]
    · simp only [h0, if_false]
      by_cases h1 : j ≤ k
      · rw [if_pos h1, if_pos (by omega)]
      · rw [if_neg h1, if_neg (by omega)]
set_option maxRecDepth 100000 in
theorem loop71a {n : Nat} {op arg : Nat → Int} (hn : n ≤ 300) (h1 : 1 ≤ n) : ∀ (r k : Nat), k + r = n - 1 → SL E2 (bodyOf E2 19 0) (S71a n op arg k (dpk k)) (.exit 0) (T71a n op arg (dpk (n - 1))) := by
  intro r
  induction r with
  | zero =>
    intro k hk
    have : k = n - 1 := by omega
    subst this
    exact SL.by (m := 10) sC71b hX2 ltab2_nil ((r71a _ _ _ _ _ _).trans (by rw [if_neg (by simp)]; rfl))
  | succ r ih =>
    intro k hk
    have ew : w ((k : Int) + 1) = ((k + 1 : Nat) : Int) := by rw [w_in (by unfold inR; omega)]; omega
    refine SL.by (m := 10) sC71b hX2 (one2 0 (e' := .ret) (T' := T71r) (ih (k + 1) (by omega))) ((r71a _ _ _ _ _ _).trans ?_)
    rw [if_pos (by simp; omega), ew, if_pos (by omega), Int.toNat_natCast, Nat.zero_add, if_pos ⟨by omega, rfl⟩, putF_r1]
    refine (ltab2_hit ?_).trans ((cl_pos trivial).trans (k71a _ _ _ _))
    exact LeSt.mk' (LeL.refl _) ⟨ChLe.refl _, ChLe.refl _, ChLe.row fun j _ => (by unfold r1; rw [dpk_next]), trivial⟩
theorem k71b : KC2 0 4 (.exit 2) T71b = some (.l (.exit 2) T71b) := by kernel_rfl
theorem k71r : KC2 0 4 .ret T71r = some (.l .ret T71r) := by kernel_rfl
def ends71 (P : Prop) (S : St) : Prop := (P → SL E2 (bodyOf E2 19 2) S (.exit 2) T71b) ∧ (¬ P → SL E2 (bodyOf E2 19 2) S .ret T71r)
theorem ends71_next {P : Prop} {S S1 : St} (h : ends71 P S1) (hn : ∀ lo, loopK E2 C71b lo 2 939524136 (bodyOf E2 19 2) S (KC2 0 4) = lo 2 939524136 (bodyOf E2 19 2) S1 (KC2 0 4)) : ends71 P S := by
  have h0 : loopK E2 C71b (ltab2 [⟨2, bodyOf E2 19 2, S1, P, .exit 2, T71b, .ret, T71r⟩]) 2 939524136 (bodyOf E2 19 2) S (KC2 0 4) = cl P (some (.l (.exit 2) T71b)) (some (.l .ret T71r)) := by
    refine (hn _).trans ((ltab2_hit (LeSt.refl _)).trans ?_)
    rw [k71b, k71r]
  have hs := ltab2_cons (x := ⟨2, bodyOf E2 19 2, S1, P, .exit 2, T71b, .ret, T71r⟩) h ltab2_nil
  exact ⟨fun p => SL.by2 sC71b hX2 hs (h0.trans (cl_pos p)), fun p => SL.by2 sC71b hX2 hs (h0.trans (cl_neg p))⟩
theorem ends71_ret {P : Prop} {S : St} (hp : ¬ P) (hn : ∀ lo, loopK E2 C71b lo 2 939524136 (bodyOf E2 19 2) S (KC2 0 4) = some (.l .ret T71r)) : ends71 P S :=
  ⟨fun p => absurd p hp, fun _ => SL.by2 sC71b hX2 ltab2_nil (hn _)⟩
theorem ends71_iff {P P' : Prop} {S : St} (h : ends71 P S) (e : P' ↔ P) : ends71 P' S := ⟨fun p => h.1 (e.1 p), fun p => h.2 (fun q => p (e.2 q))⟩
def sml (dp : Nat → Int) : Prop := ∀ j, -1 ≤ dp j ∧ dp j ≤ 17
theorem sml.rch {dp : Nat → Int} (h : sml dp) {n : Nat} {t d : Int} (hd : -1 ≤ d ∧ d ≤ 17) : sml (Cv.rchD n dp t d) := by
  intro j
  unfold Cv.rchD
  split
  · unfold Cv.upd
    split
    · exact hd
    · exact h j
  · exact h j
theorem eff_range {o d : Int} (h1 : Cv.effLo o ≤ d) (h2 : d ≤ Cv.effHi o) : -1 ≤ d + Cv.effBy o ∧ d + Cv.effBy o ≤ 17 := by
  unfold Cv.effLo at h1
  unfold Cv.effHi at h2
  unfold Cv.effBy
  by_cases a1 : o = 1 ∨ o = 2 ∨ o = 4
  · simp only [if_pos a1] at *; omega
  by_cases a3 : o = 3 ∨ o = 21 ∨ o = 22 ∨ o = 20
  · simp only [if_neg a1, if_pos a3] at *; omega
  by_cases a9 : o = 9 ∨ o = 13
  · simp only [if_neg a1, if_neg a3, if_pos a9] at *; omega
  by_cases a5 : 5 ≤ o ∧ o ≤ 12
  · simp only [if_neg a1, if_neg a3, if_neg a9, if_pos a5] at *; omega
  by_cases a14 : o = 14
  · simp only [if_neg a1, if_neg a3, if_neg a9, if_neg a5, if_pos a14] at *; omega
  by_cases a15 : o = 15
  · simp only [if_neg a1, if_neg a3, if_neg a9, if_neg a5, if_neg a14, if_pos a15] at *; omega
  simp only [if_neg a1, if_neg a3, if_neg a9, if_neg a5, if_neg a14, if_neg a15] at *; omega
theorem okB_iff (o : Int) : okB o = true ↔ Cv.okOp o := by unfold okB Cv.okOp; simp
set_option maxRecDepth 100000 in
theorem loop71b {n : Nat} {op arg : Nat → Int} (vs : Int) (hn : n ≤ 300) (harg : ∀ i, i < n → Cv.jmp (op i) → 0 ≤ arg i) : ∀ (r i : Nat) (dp : Nat → Int), i + r = n → sml dp → ends71 (Cv.balP (mkC vs n op arg) r i dp) (S71b n op arg i dp) := by
  intro r
  induction r with
  | zero =>
    intro i dp hi _
    exact ⟨fun _ => SL.by2 (m := 0) (r := 4) sC71b hX2 ltab2_nil ((r71b _ _ _ _ _ _).trans (by rw [if_neg (by simp; omega)]; rfl)), fun h => absurd trivial h⟩
  | succ r ih =>
    intro i dp hi hs
    have hi' : i < n := by omega
    have hsi := hs i
    have hid : decide ((i : Int) < (n : Int)) = true := by simpa using hi'
    have hbb : (0 : Int) ≤ (i : Int) ∧ (i : Int) < (n : Int) := by omega
    have hcc : i < n ∧ True := ⟨hi', trivial⟩
    have hq : QI1 [i64 (op i)] ∧ True := ⟨⟨_, rfl⟩, trivial⟩
    have ew : w ((i : Int) + 1) = ((i + 1 : Nat) : Int) := by rw [w_in (by unfold inR; omega)]; omega
    have tree := fun lo => r71b n op arg i dp lo
    simp only [Int.toNat_natCast, Nat.zero_add, ew, if_pos hid, if_pos hbb, eq_self, if_pos hcc, cl_pos hq, dpOf_r1] at tree
    have bl := iff_of_eq (Cv.balP.eq_2 (mkC vs n op arg) i dp r)
    have hop : Cv.Cd.op (mkC vs n op arg) i = op i := rfl
    have har : Cv.Cd.arg (mkC vs n op arg) i = arg i := rfl
    have hnn : Cv.Cd.n (mkC vs n op arg) = n := rfl
    rw [hop, har, hnn] at bl
    by_cases hok' : ¬ Cv.okOp (op i)
    · refine ends71_ret (fun h => hok' (bl.1 h).1.1) fun lo => (tree lo).trans ?_
      have : okB (op i) = false := by cases hb : okB (op i) with | false => rfl | true => exact absurd ((okB_iff _).1 hb) hok'
      rw [if_pos (by rw [this]; rfl)]
      rfl
    have hok := Classical.not_not.1 hok'
    have hokb : ¬ (!okB (op i)) = true := by rw [(okB_iff _).2 hok]; decide
    by_cases hlo' : ¬ Cv.effLo (op i) ≤ dp i
    · refine ends71_ret (fun h => hlo' (bl.1 h).1.2.1) fun lo => (tree lo).trans ?_
      rw [if_neg hokb, if_pos (by simp; omega)]
      rfl
    have hlo := Classical.not_not.1 hlo'
    have hlob : ¬ decide (dp i < Cv.effLo (op i)) = true := by simp; omega
    by_cases hhi' : ¬ dp i ≤ Cv.effHi (op i)
    · refine ends71_ret (fun h => hhi' (bl.1 h).1.2.2) fun lo => (tree lo).trans ?_
      rw [if_neg hokb, if_neg hlob, if_pos (by simp; omega)]
      rfl
    have hhi := Classical.not_not.1 hhi'
    have hhib : ¬ decide (dp i > Cv.effHi (op i)) = true := by simp; omega
    have hd := eff_range hlo hhi
    have ed : w (dp i + Cv.effBy (op i)) = dp i + Cv.effBy (op i) := w_in (by unfold inR; omega)
    simp only [if_neg hokb, if_neg hlob, if_neg hhib, ed] at tree
    generalize dp i + Cv.effBy (op i) = d at *
    have QR : ∀ (t : Int) (x : Nat → Int), 0 ≤ t → QRch [i64 t, i64 d, V.ptr 0 0, V.ptr 1 0] [some (Chunk.blk [V.ro 2 n (ins op arg)]), some (Chunk.blk [V.sl 2 1 0 n]), some (Chunk.row 3 1 n (r1 x))] := fun t x h => ⟨t, d, n, op, arg, x, rfl, rfl, h⟩
    have neg : ∀ {x : Nat → Int} {t : Int}, ¬ Cv.rchB n x t d → (!rchBD n x t d) = true := by
      intro x t h
      have : rchBD n x t d = false := by cases hb : rchBD n x t d with | false => rfl | true => exact absurd ((rchBD_iff _ _ _ _).1 hb) h
      rw [this]; rfl
    have pos : ∀ {x : Nat → Int} {t : Int}, Cv.rchB n x t d → ¬ (!rchBD n x t d) = true := by
      intro x t h
      rw [(rchBD_iff _ _ _ _).2 h]; decide
    by_cases h14 : op i = 14
    · have hj : Cv.jmp (op i) := .inl h14
      have ha := harg i hi' hj
      have bl' : Cv.balP (mkC vs n op arg) (r + 1) i dp ↔ (Cv.rchB n dp (arg i) d ∧ Cv.balP (mkC vs n op arg) r (i + 1) (Cv.rchD n dp (arg i) d)) := by
        rw [bl]
        have hj' : Cv.jmp (14 : Int) := .inl rfl
        rw [h14] at hok hlo hhi
        simp only [hj', if_true, true_implies, h14, ne_eq, not_true_eq_false, false_implies, if_false, true_and]
        exact ⟨fun h => h.2, fun h => ⟨⟨hok, hlo, hhi⟩, h⟩⟩
      by_cases hr : Cv.rchB n dp (arg i) d
      · refine ends71_iff (ends71_next (ih (i + 1) _ (by omega) (hs.rch hd)) fun lo => (tree lo).trans ?_) (bl'.trans ⟨fun h => h.2, fun h => ⟨hr, h⟩⟩)
        rw [if_pos (by simpa using h14), cl_pos (QR _ _ ha), if_neg (pos hr), if_neg (show ¬ (op i != (14 : Int)) = true by simpa using h14)]
        rfl
      · refine ends71_ret (fun h => hr (bl'.1 h).1) fun lo => (tree lo).trans ?_
        rw [if_pos (by simpa using h14), cl_pos (QR _ _ ha), if_pos (neg hr)]
        rfl
    have h14b : (op i != (14 : Int)) = true := by simpa using h14
    have h14n : ¬ (op i == (14 : Int)) = true := by simpa using h14
    by_cases h15 : op i = 15
    · have hj : Cv.jmp (op i) := .inr h15
      have ha := harg i hi' hj
      have bl' : Cv.balP (mkC vs n op arg) (r + 1) i dp ↔ (Cv.rchB n dp (arg i) d ∧ Cv.rchB n (Cv.rchD n dp (arg i) d) ((i + 1 : Nat) : Int) d ∧ Cv.balP (mkC vs n op arg) r (i + 1) (Cv.rchD n (Cv.rchD n dp (arg i) d) ((i + 1 : Nat) : Int) d)) := by
        rw [bl]
        simp only [hj, if_true, true_implies, h14, ne_eq, not_false_eq_true]
        exact ⟨fun h => h.2, fun h => ⟨⟨hok, hlo, hhi⟩, h⟩⟩
      by_cases hr : Cv.rchB n dp (arg i) d
      · by_cases hr2 : Cv.rchB n (Cv.rchD n dp (arg i) d) ((i + 1 : Nat) : Int) d
        · refine ends71_iff (ends71_next (ih (i + 1) _ (by omega) ((hs.rch hd).rch hd)) fun lo => (tree lo).trans ?_) (bl'.trans ⟨fun h => h.2.2, fun h => ⟨hr, hr2, h⟩⟩)
          rw [if_neg h14n, if_pos (by simpa using h15), cl_pos (QR _ _ ha), if_neg (pos hr), if_pos h14b, cl_pos (QR _ _ (by omega)), if_neg (pos hr2)]
          rfl
        · refine ends71_ret (fun h => hr2 (bl'.1 h).2.1) fun lo => (tree lo).trans ?_
          rw [if_neg h14n, if_pos (by simpa using h15), cl_pos (QR _ _ ha), if_neg (pos hr), if_pos h14b, cl_pos (QR _ _ (by omega)), if_pos (neg hr2)]
          rfl
      · refine ends71_ret (fun h => hr (bl'.1 h).1) fun lo => (tree lo).trans ?_
        rw [if_neg h14n, if_pos (by simpa using h15), cl_pos (QR _ _ ha), if_pos (neg hr)]
        rfl
    have h15n : ¬ (op i == (15 : Int)) = true := by simpa using h15
    have hj : ¬ Cv.jmp (op i) := fun h => h.elim h14 h15
    have bl' : Cv.balP (mkC vs n op arg) (r + 1) i dp ↔ (Cv.rchB n dp ((i + 1 : Nat) : Int) d ∧ Cv.balP (mkC vs n op arg) r (i + 1) (Cv.rchD n dp ((i + 1 : Nat) : Int) d)) := by
      rw [bl]
      simp only [hj, if_false, false_implies, true_and, h14, ne_eq, not_false_eq_true, if_true, true_implies]
      exact ⟨fun h => h.2, fun h => ⟨⟨hok, hlo, hhi⟩, h⟩⟩
    by_cases hr : Cv.rchB n dp ((i + 1 : Nat) : Int) d
    · refine ends71_iff (ends71_next (ih (i + 1) _ (by omega) (hs.rch hd)) fun lo => (tree lo).trans ?_) (bl'.trans ⟨fun h => h.2, fun h => ⟨hr, h⟩⟩)
      rw [if_neg h14n, if_neg h15n, if_pos h14b, cl_pos (QR _ _ (by omega)), if_neg (pos hr)]
      rfl
    · refine ends71_ret (fun h => hr (bl'.1 h).1) fun lo => (tree lo).trans ?_
      rw [if_neg h14n, if_neg h15n, if_pos h14b, cl_pos (QR _ _ (by omega)), if_pos (neg hr)]
      rfl
open Classical in
noncomputable def balD (c : Cv.Cd) : Bool := decide (Cv.balP c c.n 0 Cv.dp0)
open Classical in
theorem balD_iff (c : Cv.Cd) : balD c = true ↔ Cv.balP c c.n 0 Cv.dp0 := by unfold balD; rw [decide_eq_true_eq]
set_option maxRecDepth 100000 in
theorem bal_sc {n : Nat} {op arg : Nat → Int} (vs : Int) (hn : n ≤ 300) (h1 : 1 ≤ n) (harg : ∀ i, i < n → Cv.jmp (op i) → 0 ≤ arg i) : SC E2 19 [cd n op arg] [] (.ret (bo (balD (mkC vs n op arg))) []) := by
  have l1 := loop71a (op := op) (arg := arg) hn h1 (n - 1) 0 (by omega)
  have hs0 : sml Cv.dp0 := fun j => by unfold Cv.dp0; split <;> omega
  have l2 := loop71b (arg := arg) vs hn harg n 0 Cv.dp0 (by omega) hs0
  have hc : (n : Int) = (n : Int) ∧ (0 : Int) ≤ (n : Int) ∧ 0 < 1 ∧ 1 = 1 ∧ Int.toNat (n : Int) * 8 ≤ 281474976710656 ∧ Int.toNat (n : Int) ≤ Go.maxLen ∧ (allOk 1 1 fun (x : Nat) => List.map V.sc (Array.toList (Value.cells (Value.int IntKind.i64 0)))) = true := by
    refine ⟨rfl, by omega, by decide, rfl, by rw [Int.toNat_natCast]; omega, by rw [Int.toNat_natCast]; unfold Go.maxLen; omega, by kernel_rfl⟩
  have hsnd : SoundL E2 (ltab2 [⟨0, bodyOf E2 19 0, S71a n op arg 0 (dpk 0), True, .exit 0, T71a n op arg (dpk (n - 1)), .ret, T71r⟩, ⟨2, bodyOf E2 19 2, S71b n op arg 0 Cv.dp0, Cv.balP (mkC vs n op arg) n 0 Cv.dp0, .exit 2, T71b, .ret, T71r⟩]) :=
    ltab2_cons ⟨fun _ => l1, fun h => absurd trivial h⟩ (ltab2_cons l2 ltab2_nil)
  refine SC.of hW2 hX2 sC71b hsnd ((f71 n op arg (dpk (n - 1)) _ _ _).trans ?_)
  have e0 : ∀ j, (fun (x : Nat) => List.map V.sc (Array.toList (Value.cells (Value.int IntKind.i64 0)))) j = r1 (dpk 0) j := by
    intro j
    show [i64 0] = [i64 (dpk 0 j)]
    unfold dpk
    by_cases h : j = 0
    · rw [if_pos h]
    · rw [if_neg h, if_neg (by omega)]
  rw [if_pos hc, if_pos (by rw [Int.toNat_natCast]; omega)]
  rw [cl_pos ⟨rfl, (by
    rw [Int.toNat_natCast, Int.toNat_natCast]
    exact LeSt.mk' (LeL.refl _) ⟨ChLe.refl _, ChLe.refl _, ChLe.row fun j _ => e0 j, trivial⟩)⟩, cl_pos trivial]
  rw [cl_pos ⟨rfl, (by
    refine LeSt.mk' (LeL.refl _) ⟨ChLe.refl _, ChLe.row fun j hj => ?_, ChLe.refl _, trivial⟩
    show [i64 (dpk (n - 1) j)] = [i64 (Cv.dp0 j)]
    unfold dpk Cv.dp0
    by_cases h : j = 0
    · rw [if_pos h, if_pos h]
    · rw [if_neg h, if_neg h, if_pos (by omega)])⟩]
  by_cases hb : Cv.balP (mkC vs n op arg) n 0 Cv.dp0
  · rw [cl_pos hb]
    have : balD (mkC vs n op arg) = true := (balD_iff _).2 hb
    rw [this]
  · rw [cl_neg hb]
    have : balD (mkC vs n op arg) = false := by cases h : balD (mkC vs n op arg) with | false => rfl | true => exact absurd ((balD_iff _).1 h) hb
    rw [this]
end Go.Proofs.YtcljccpddodckaaGreatDoor
/- compile.Verify (56), walked. -/
namespace Go.Proofs.YtcljccpddodckaaGreatDoor
open Go Go.Am Go.Proofs
set_option linter.unusedSimpArgs false
set_option linter.unusedVariables false
set_option maxRecDepth 100000
/-- A loop that ends in one way, if P is so, and in the other, if not. -/
def Ends (c : ACode) (P : Prop) (S : St) (e1 : Ex) (T1 : St) (e2 : Ex) (T2 : St) : Prop := (P → SL E2 c S e1 T1) ∧ (¬ P → SL E2 c S e2 T2)
theorem Ends.iff {c : ACode} {P P' : Prop} {S : St} {e1 e2 : Ex} {T1 T2 : St} (h : Ends c P S e1 T1 e2 T2) (e : P' ↔ P) : Ends c P' S e1 T1 e2 T2 := ⟨fun p => h.1 (e.1 p), fun p => h.2 (fun q => p (e.2 q))⟩
theorem Ends.next {C : CallT} (hC : SoundC E2 C) {id live m r : Nat} {c : ACode} {P : Prop} {S S' S1 : St} {e1 e2 : Ex} {T1 T2 : St} (h : Ends c P S1 e1 T1 e2 T2) (k1 : KC2 m r e1 T1 = some (.l e1 T1)) (k2 : KC2 m r e2 T2 = some (.l e2 T2)) (hle : LeSt S' S1) (hn : ∀ lo, loopK E2 C lo id live c S (KC2 m r) = lo id live c S' (KC2 m r)) : Ends c P S e1 T1 e2 T2 := by
  have h0 : loopK E2 C (ltab2 [⟨id, c, S1, P, e1, T1, e2, T2⟩]) id live c S (KC2 m r) = cl P (some (.l e1 T1)) (some (.l e2 T2)) := by
    refine (hn _).trans ((ltab2_hit hle).trans ?_)
    rw [k1, k2]
  have hs := ltab2_cons (x := ⟨id, c, S1, P, e1, T1, e2, T2⟩) h ltab2_nil
  exact ⟨fun p => SL.by2 hC hX2 hs (h0.trans (cl_pos p)), fun p => SL.by2 hC hX2 hs (h0.trans (cl_neg p))⟩
theorem Ends.ret {C : CallT} (hC : SoundC E2 C) {id live m r : Nat} {c : ACode} {P : Prop} {S : St} {e1 e2 : Ex} {T1 T2 : St} (hp : ¬ P) (hn : ∀ lo, loopK E2 C lo id live c S (KC2 m r) = some (.l e2 T2)) : Ends c P S e1 T1 e2 T2 :=
  ⟨fun p => absurd p hp, fun _ => SL.by2 hC hX2 ltab2_nil (hn _)⟩
theorem Ends.fin {C : CallT} (hC : SoundC E2 C) {id live m r : Nat} {c : ACode} {P : Prop} {S : St} {e1 e2 : Ex} {T1 T2 : St} (hp : P) (hn : ∀ lo, loopK E2 C lo id live c S (KC2 m r) = some (.l e1 T1)) : Ends c P S e1 T1 e2 T2 :=
  ⟨fun _ => SL.by2 hC hX2 ltab2_nil (hn _), fun p => absurd hp p⟩
theorem all_from {n i r : Nat} {X : Nat → Prop} (h : i + (r + 1) = n) : (∀ j, i ≤ j → j < n → X j) ↔ (X i ∧ ∀ j, i + 1 ≤ j → j < n → X j) := by
  constructor
  · intro g; exact ⟨g i (Nat.le_refl _) (by omega), fun j h1 h2 => g j (by omega) h2⟩
  · rintro ⟨g1, g2⟩ j h1 h2
    by_cases hj : j = i
    · subst hj; exact g1
    · exact g2 j (by omega) h2
def QRng (args : List V) : Prop := ∃ (nm : ByteArray) (ps vs : Int) (n : Nat) (op arg : Nat → Int) (i : Nat), args = [codV nm ps vs n op arg, i64 i] ∧ i < n ∧ n ≤ 300 ∧ 0 ≤ vs ∧ vs ≤ 12
def vRng : List V → V
  | [.agg [.sc (.string _), .sc (.int .i64 ps), .sc (.int .i64 vs), .ro 2 n g], .sc (.int .i64 i)] => match g i.toNat with
    | [.sc (.int .i64 o), .sc (.int .i64 a)] => .tup [i64 (Cv.rngL o i.toNat), i64 (Cv.rngH o i.toNat n vs)]
    | _ => .junk
  | _ => .junk
def QPl (n : Nat) (op arg : Nat → Int) (args : List V) : Prop := args = [cd n op arg]
def QBal (n : Nat) (op arg : Nat → Int) (args : List V) : Prop := args = [cd n op arg] ∧ ∀ i, i < n → Cv.jmp (op i) → 0 ≤ arg i
noncomputable def C56 (n : Nat) (op arg : Nat → Int) (F : V) (B : Bool) : CallT := ptab 17 QRng vRng (ptab 18 (QPl n op arg) (fun _ => F) (ptab 19 (QBal n op arg) (fun _ => bo B) (tab [])))
theorem sC56 {n : Nat} {op arg : Nat → Int} (vs : Int) (hn : n ≤ 300) (h1 : 1 ≤ n) {F : V} (hF : F = plV n (Cv.plcP (mkC vs n op arg) n 0 pl0)) : SoundC E2 (C56 n op arg F (balD (mkC vs n op arg))) := by
  subst hF
  refine ptab_cons (fun args h => ?_) (ptab_cons (fun args h => ?_) (ptab_cons (fun args h => ?_) tab_nil))
  · obtain ⟨nm, ps, vs, n, op, arg, i, rfl, g1, g2, g3, g4⟩ := h
    exact rng_sc g1 g2 g3 g4
  · cases h
    exact places_sc vs hn
  · obtain ⟨rfl, g⟩ := h
    exact bal_sc vs hn h1 g
def S56a (nm : ByteArray) (ps vs : Int) (n : Nat) (op arg : Nat → Int) (i : Nat) : St := { fr := [.junk, .ptr 0 0] ++ jk 35 ++ [cd n op arg, i64 n, i64 i] ++ jk 74, H := hp [some (.blk [st nm, i64 ps, i64 vs, cd n op arg])], nx := 1, rt := 0, me := 7 }
def T56a (nm : ByteArray) (ps vs : Int) (n : Nat) (op arg : Nat → Int) : St := { fr := [.junk, .ptr 0 0] ++ jk 112, H := hp [some (.blk [st nm, i64 ps, i64 vs, cd n op arg])], nx := 1, rt := 0, me := 7 }
def T56r : St := { fr := [.junk, .junk, i64 13] ++ jk 111, H := hp [], nx := 0, rt := 0, me := 7 }
def S56b (nm : ByteArray) (ps vs : Int) (n : Nat) (op arg : Nat → Int) (oL oW : Nat → Int) (i : Nat) : St := { fr := [.junk, .ptr 0 0] ++ jk 5 ++ [.ro 2 n (r2 oL oW)] ++ jk 74 ++ [cd n op arg, i64 n, i64 i] ++ jk 29, H := hp [some (.blk [st nm, i64 ps, i64 vs, cd n op arg])], nx := 1, rt := 0, me := 7 }
theorem r56a (nm : ByteArray) (B : Bool) (ps vs : Int) (n : Nat) (op arg : Nat → Int) (i : Nat) (F : V) (lo : LoopT) : loopK E2 (C56 n op arg F B) lo 0 962072674306 (bodyOf E2 7 0) (S56a nm ps vs n op arg i) (KC2 2 4) =
  if decide ((i : Int) < (n : Int)) = true then
   if (0 : Int) ≤ (i : Int) ∧ (i : Int) < (n : Int) then
    cl (QRng ([V.agg [V.sc (Value.string nm), i64 ps, i64 vs, V.ro 2 n (ins op arg)], i64 (i : Int)]) ∧ ([] : List (Option Chunk)) = []) (
     if decide (arg (Int.toNat (i : Int)) < Cv.rngL (op (Int.toNat (i : Int))) (Int.toNat (i : Int))) = true then
      some (Ans.l Ex.ret { fr := [V.junk, V.junk, i64 13] ++ jk 111, H := hp [], nx := 0, rt := 0, me := 7 })
     else
      if decide (arg (Int.toNat (i : Int)) > Cv.rngH (op (Int.toNat (i : Int))) (Int.toNat (i : Int)) n vs) = true then
       some (Ans.l Ex.ret { fr := [V.junk, V.junk, i64 13] ++ jk 111, H := hp [], nx := 0, rt := 0, me := 7 })
      else
       if (!(op (Int.toNat (i : Int)) == (28 : Int)) == ((i : Int) == w ((n : Int) - (1 : Int)))) = true then
        some (Ans.l Ex.ret { fr := [V.junk, V.junk, i64 13] ++ jk 111, H := hp [], nx := 0, rt := 0, me := 7 })
       else
        lo 0 962072674306 (bodyOf E2 7 0) ({ fr := [V.junk, V.ptr 0 0, V.junk, V.junk, V.junk, V.junk, V.junk, V.junk, V.junk, V.junk, V.junk, V.junk, V.junk, V.junk, V.junk, V.junk, V.junk, V.junk, V.junk, V.junk, V.junk, V.junk, V.junk, V.junk, V.junk, V.junk, V.junk, V.junk, V.junk, V.junk, V.junk, V.junk, V.junk, V.junk, V.junk, V.junk, V.junk, V.ro 2 n (ins op arg), i64 (n : Int), i64 (w ((i : Int) + (1 : Int)))] ++ jk 74, H := hp [some (Chunk.blk [V.sc (Value.string nm), i64 ps, i64 vs, V.ro 2 n (ins op arg)])], nx := 1, rt := 0, me := 7 }) (KC2 2 4)) (
     none)
   else
    none
  else
   some (Ans.l (Ex.exit 0) { fr := [V.junk, V.ptr 0 0] ++ jk 112, H := hp [some (Chunk.blk [V.sc (Value.string nm), i64 ps, i64 vs, V.ro 2 n (ins op arg)])], nx := 1, rt := 0, me := 7 }) := by kernel_rfl

theorem r56b (nm : ByteArray) (B : Bool) (ps vs : Int) (n : Nat) (op arg oL oW : Nat → Int) (i : Nat) (F : V) (lo : LoopT) : loopK E2 (C56 n op arg F B) lo 2 33849922949209616891773058 (bodyOf E2 7 2) (S56b nm ps vs n op arg oL oW i) (KC2 2 4) =
  if decide ((i : Int) < (n : Int)) = true then
   if (0 : Int) ≤ (i : Int) ∧ (i : Int) < (n : Int) then
    if (op (Int.toNat (i : Int)) == (14 : Int)) = true then
     if (0 : Int) ≤ arg (Int.toNat (i : Int)) ∧ arg (Int.toNat (i : Int)) < (n : Int) then
      if (0 : Int) ≤ (i : Int) ∧ (i : Int) < (n : Int) then
       if (if true = true then !(oL (Int.toNat (arg (Int.toNat (i : Int)))) == oL (Int.toNat (i : Int)) && (oW (Int.toNat (arg (Int.toNat (i : Int)))) == oW (Int.toNat (i : Int)) && true)) else oL (Int.toNat (arg (Int.toNat (i : Int)))) == oL (Int.toNat (i : Int)) && (oW (Int.toNat (arg (Int.toNat (i : Int)))) == oW (Int.toNat (i : Int)) && true)) = true then
        some (Ans.l Ex.ret { fr := [V.junk, V.junk, i64 13] ++ jk 111, H := hp [], nx := 0, rt := 0, me := 7 })
       else
        lo 2 33849922949209616891773058 (bodyOf E2 7 2) ({ fr := [V.junk, V.ptr 0 0, V.junk, V.junk, V.junk, V.junk, V.junk, V.ro 2 n (r2 oL oW), V.junk, V.junk, V.junk, V.junk, V.junk, V.junk, V.junk, V.junk, V.junk, V.junk, V.junk, V.junk, V.junk, V.junk, V.junk, V.junk, V.junk, V.junk, V.junk, V.junk, V.junk, V.junk, V.junk, V.junk, V.junk, V.junk, V.junk, V.junk, V.junk, V.junk, V.junk, V.junk, V.junk, V.junk, V.junk, V.junk, V.junk, V.junk, V.junk, V.junk, V.junk, V.junk, V.junk, V.junk, V.junk, V.junk, V.junk, V.junk, V.junk, V.junk, V.junk, V.junk, V.junk, V.junk, V.junk, V.junk, V.junk, V.junk, V.junk, V.junk, V.junk, V.junk, V.junk, V.junk, V.junk, V.junk, V.junk, V.junk, V.junk, V.junk, V.junk, V.junk, V.junk, V.junk, V.ro 2 n (ins op arg), i64 (n : Int), i64 (w ((i : Int) + (1 : Int)))] ++ jk 29, H := hp [some (Chunk.blk [V.sc (Value.string nm), i64 ps, i64 vs, V.ro 2 n (ins op arg)])], nx := 1, rt := 0, me := 7 }) (KC2 2 4)
      else
       none
     else
      none
    else
     if (op (Int.toNat (i : Int)) == (15 : Int)) = true then
      if (0 : Int) ≤ arg (Int.toNat (i : Int)) ∧ arg (Int.toNat (i : Int)) < (n : Int) then
       if (0 : Int) ≤ (i : Int) ∧ (i : Int) < (n : Int) then
        if (if true = true then !(oL (Int.toNat (arg (Int.toNat (i : Int)))) == oL (Int.toNat (i : Int)) && (oW (Int.toNat (arg (Int.toNat (i : Int)))) == oW (Int.toNat (i : Int)) && true)) else oL (Int.toNat (arg (Int.toNat (i : Int)))) == oL (Int.toNat (i : Int)) && (oW (Int.toNat (arg (Int.toNat (i : Int)))) == oW (Int.toNat (i : Int)) && true)) = true then
         some (Ans.l Ex.ret { fr := [V.junk, V.junk, i64 13] ++ jk 111, H := hp [], nx := 0, rt := 0, me := 7 })
        else
         lo 2 33849922949209616891773058 (bodyOf E2 7 2) ({ fr := [V.junk, V.ptr 0 0, V.junk, V.junk, V.junk, V.junk, V.junk, V.ro 2 n (r2 oL oW), V.junk, V.junk, V.junk, V.junk, V.junk, V.junk, V.junk, V.junk, V.junk, V.junk, V.junk, V.junk, V.junk, V.junk, V.junk, V.junk, V.junk, V.junk, V.junk, V.junk, V.junk, V.junk, V.junk, V.junk, V.junk, V.junk, V.junk, V.junk, V.junk, V.junk, V.junk, V.junk, V.junk, V.junk, V.junk, V.junk, V.junk, V.junk, V.junk, V.junk, V.junk, V.junk, V.junk, V.junk, V.junk, V.junk, V.junk, V.junk, V.junk, V.junk, V.junk, V.junk, V.junk, V.junk, V.junk, V.junk, V.junk, V.junk, V.junk, V.junk, V.junk, V.junk, V.junk, V.junk, V.junk, V.junk, V.junk, V.junk, V.junk, V.junk, V.junk, V.junk, V.junk, V.junk, V.ro 2 n (ins op arg), i64 (n : Int), i64 (w ((i : Int) + (1 : Int)))] ++ jk 29, H := hp [some (Chunk.blk [V.sc (Value.string nm), i64 ps, i64 vs, V.ro 2 n (ins op arg)])], nx := 1, rt := 0, me := 7 }) (KC2 2 4)
       else
        none
      else
       none
     else
      lo 2 33849922949209616891773058 (bodyOf E2 7 2) ({ fr := [V.junk, V.ptr 0 0, V.junk, V.junk, V.junk, V.junk, V.junk, V.ro 2 n (r2 oL oW), V.junk, V.junk, V.junk, V.junk, V.junk, V.junk, V.junk, V.junk, V.junk, V.junk, V.junk, V.junk, V.junk, V.junk, V.junk, V.junk, V.junk, V.junk, V.junk, V.junk, V.junk, V.junk, V.junk, V.junk, V.junk, V.junk, V.junk, V.junk, V.junk, V.junk, V.junk, V.junk, V.junk, V.junk, V.junk, V.junk, V.junk, V.junk, V.junk, V.junk, V.junk, V.junk, V.junk, V.junk, V.junk, V.junk, V.junk, V.junk, V.junk, V.junk, V.junk, V.junk, V.junk, V.junk, V.junk, V.junk, V.junk, V.junk, V.junk, V.junk, V.junk, V.junk, V.junk, V.junk, V.junk, V.junk, V.junk, V.junk, V.junk, V.junk, V.junk, V.junk, V.junk, V.junk, V.ro 2 n (ins op arg), i64 (n : Int), i64 (w ((i : Int) + (1 : Int)))] ++ jk 29, H := hp [some (Chunk.blk [V.sc (Value.string nm), i64 ps, i64 vs, V.ro 2 n (ins op arg)])], nx := 1, rt := 0, me := 7 }) (KC2 2 4)
   else
    none
  else
   some (Ans.l (Ex.exit 2) { fr := [V.junk, V.ptr 0 0] ++ jk 112, H := hp [some (Chunk.blk [V.sc (Value.string nm), i64 ps, i64 vs, V.ro 2 n (ins op arg)])], nx := 1, rt := 0, me := 7 }) := by kernel_rfl

theorem f56s (nm : ByteArray) (B : Bool) (ps vs : Int) (n : Nat) (op arg oL oW : Nat → Int) (b : Bool) (S1 S2 : St) (P P2 : Prop) : callK E2 (C56 n op arg (plS n oL oW b) B) (ltab2 [⟨0, bodyOf E2 7 0, S1, P, .exit 0, T56a nm ps vs n op arg, .ret, T56r⟩, ⟨2, bodyOf E2 7 2, S2, P2, .exit 2, T56a nm ps vs n op arg, .ret, T56r⟩]) 7 [codV nm ps vs n op arg] [] K =
  if decide ((n : Int) > (300 : Int)) = true then
   some (Ans.c (CRes.ret (i64 2) []))
  else
   if decide (vs > (12 : Int)) = true then
    some (Ans.c (CRes.ret (i64 2) []))
   else
    if decide (ps < (0 : Int)) = true then
     some (Ans.c (CRes.ret (i64 13) []))
    else
     if decide (ps > vs) = true then
      some (Ans.c (CRes.ret (i64 13) []))
     else
      if ((n : Int) == (0 : Int)) = true then
       some (Ans.c (CRes.ret (i64 13) []))
      else
       cl ((bodyOf E2 7 0) = (bodyOf E2 7 0) ∧ LeSt ({ fr := [V.junk, V.ptr 0 0, V.junk, V.junk, V.junk, V.junk, V.junk, V.junk, V.junk, V.junk, V.junk, V.junk, V.junk, V.junk, V.junk, V.junk, V.junk, V.junk, V.junk, V.junk, V.junk, V.junk, V.junk, V.junk, V.junk, V.junk, V.junk, V.junk, V.junk, V.junk, V.junk, V.junk, V.junk, V.junk, V.junk, V.junk, V.junk, V.ro 2 n (ins op arg), i64 (n : Int), i64 0] ++ jk 74, H := hp [some (Chunk.blk [V.sc (Value.string nm), i64 ps, i64 vs, V.ro 2 n (ins op arg)])], nx := 1, rt := 0, me := 7 }) (S1)) (
        cl (P) (
         cl ((QPl n op arg) ([V.ro 2 n (ins op arg)]) ∧ ([] : List (Option Chunk)) = []) (
          if (!b) = true then
           some (Ans.c (CRes.ret (i64 13) []))
          else
           cl ((bodyOf E2 7 2) = (bodyOf E2 7 2) ∧ LeSt ({ fr := [V.junk, V.ptr 0 0, V.junk, V.junk, V.junk, V.junk, V.junk, V.ro 2 n (r2 oL oW), V.junk, V.junk, V.junk, V.junk, V.junk, V.junk, V.junk, V.junk, V.junk, V.junk, V.junk, V.junk, V.junk, V.junk, V.junk, V.junk, V.junk, V.junk, V.junk, V.junk, V.junk, V.junk, V.junk, V.junk, V.junk, V.junk, V.junk, V.junk, V.junk, V.junk, V.junk, V.junk, V.junk, V.junk, V.junk, V.junk, V.junk, V.junk, V.junk, V.junk, V.junk, V.junk, V.junk, V.junk, V.junk, V.junk, V.junk, V.junk, V.junk, V.junk, V.junk, V.junk, V.junk, V.junk, V.junk, V.junk, V.junk, V.junk, V.junk, V.junk, V.junk, V.junk, V.junk, V.junk, V.junk, V.junk, V.junk, V.junk, V.junk, V.junk, V.junk, V.junk, V.junk, V.junk, V.ro 2 n (ins op arg), i64 (n : Int), i64 0] ++ jk 29, H := hp [some (Chunk.blk [V.sc (Value.string nm), i64 ps, i64 vs, V.ro 2 n (ins op arg)])], nx := 1, rt := 0, me := 7 }) (S2)) (
            cl (P2) (
             cl ((QBal n op arg) ([V.ro 2 n (ins op arg)]) ∧ ([] : List (Option Chunk)) = []) (
              if (!B) = true then
               some (Ans.c (CRes.ret (i64 13) []))
              else
               some (Ans.c (CRes.ret (i64 0) []))) (
              none)) (
             some (Ans.c (CRes.ret (i64 13) [])))) (
            none)) (
          none)) (
         some (Ans.c (CRes.ret (i64 13) [])))) (
        none) := by kernel_rfl

theorem f56n (nm : ByteArray) (B : Bool) (ps vs : Int) (n : Nat) (op arg : Nat → Int) (S1 : St) (P : Prop) : callK E2 (C56 n op arg plN B) (ltab2 [⟨0, bodyOf E2 7 0, S1, P, .exit 0, T56a nm ps vs n op arg, .ret, T56r⟩]) 7 [codV nm ps vs n op arg] [] K =
  if decide ((n : Int) > (300 : Int)) = true then
   some (Ans.c (CRes.ret (i64 2) []))
  else
   if decide (vs > (12 : Int)) = true then
    some (Ans.c (CRes.ret (i64 2) []))
   else
    if decide (ps < (0 : Int)) = true then
     some (Ans.c (CRes.ret (i64 13) []))
    else
     if decide (ps > vs) = true then
      some (Ans.c (CRes.ret (i64 13) []))
     else
      if ((n : Int) == (0 : Int)) = true then
       some (Ans.c (CRes.ret (i64 13) []))
      else
       cl ((bodyOf E2 7 0) = (bodyOf E2 7 0) ∧ LeSt ({ fr := [V.junk, V.ptr 0 0, V.junk, V.junk, V.junk, V.junk, V.junk, V.junk, V.junk, V.junk, V.junk, V.junk, V.junk, V.junk, V.junk, V.junk, V.junk, V.junk, V.junk, V.junk, V.junk, V.junk, V.junk, V.junk, V.junk, V.junk, V.junk, V.junk, V.junk, V.junk, V.junk, V.junk, V.junk, V.junk, V.junk, V.junk, V.junk, V.ro 2 n (ins op arg), i64 (n : Int), i64 0] ++ jk 74, H := hp [some (Chunk.blk [V.sc (Value.string nm), i64 ps, i64 vs, V.ro 2 n (ins op arg)])], nx := 1, rt := 0, me := 7 }) (S1)) (
        cl (P) (
         cl ((QPl n op arg) ([V.ro 2 n (ins op arg)]) ∧ ([] : List (Option Chunk)) = []) (
          some (Ans.c (CRes.ret (i64 13) []))) (
          none)) (
         some (Ans.c (CRes.ret (i64 13) [])))) (
        none) := by kernel_rfl

theorem f56_e (nm : ByteArray) (ps vs : Int) (n : Nat) (op arg : Nat → Int) : callK E2 (tab []) (ltab2 []) 7 [codV nm ps vs n op arg] [] K =
  if decide ((n : Int) > (300 : Int)) = true then
   some (Ans.c (CRes.ret (i64 2) []))
  else
   if decide (vs > (12 : Int)) = true then
    some (Ans.c (CRes.ret (i64 2) []))
   else
    if decide (ps < (0 : Int)) = true then
     some (Ans.c (CRes.ret (i64 13) []))
    else
     if decide (ps > vs) = true then
      some (Ans.c (CRes.ret (i64 13) []))
     else
      if ((n : Int) == (0 : Int)) = true then
       some (Ans.c (CRes.ret (i64 13) []))
      else
       none := by kernel_rfl

theorem k56a (nm : ByteArray) (ps vs : Int) (n : Nat) (op arg : Nat → Int) : KC2 2 4 (.exit 0) (T56a nm ps vs n op arg) = some (.l (.exit 0) (T56a nm ps vs n op arg)) := by kernel_rfl
theorem k56b (nm : ByteArray) (ps vs : Int) (n : Nat) (op arg : Nat → Int) : KC2 2 4 (.exit 2) (T56a nm ps vs n op arg) = some (.l (.exit 2) (T56a nm ps vs n op arg)) := by kernel_rfl
theorem k56r : KC2 2 4 .ret T56r = some (.l .ret T56r) := by kernel_rfl
set_option maxRecDepth 100000 in
theorem loop56a {nm : ByteArray} {ps vs : Int} {n : Nat} {op arg : Nat → Int} {F : V} {B : Bool} (hC : SoundC E2 (C56 n op arg F B)) (hn : n ≤ 300) (h0 : 0 ≤ vs) (hv : vs ≤ 12) : ∀ (r i : Nat), i + r = n → Ends (bodyOf E2 7 0) (∀ j, i ≤ j → j < n → Cv.rng (mkC vs n op arg) j ∧ Cv.stopOk (mkC vs n op arg) j) (S56a nm ps vs n op arg i) (.exit 0) (T56a nm ps vs n op arg) .ret T56r := by
  intro r
  induction r with
  | zero =>
    intro i hi
    exact Ends.fin hC (fun j h1 h2 => by omega) fun lo => (r56a _ _ _ _ _ _ _ _ _ _).trans (by rw [if_neg (by simp; omega)]; rfl)
  | succ r ih =>
    intro i hi
    have hi' : i < n := by omega
    have hid : decide ((i : Int) < (n : Int)) = true := by simpa using hi'
    have hbb : (0 : Int) ≤ (i : Int) ∧ (i : Int) < (n : Int) := by omega
    have hq : QRng [V.agg [V.sc (Value.string nm), i64 ps, i64 vs, V.ro 2 n (ins op arg)], i64 (i : Int)] ∧ True := ⟨⟨nm, ps, vs, n, op, arg, i, rfl, hi', hn, h0, hv⟩, trivial⟩
    have ew : w ((i : Int) + 1) = ((i + 1 : Nat) : Int) := by rw [w_in (by unfold inR; omega)]; omega
    have en : w ((n : Int) - 1) = (n : Int) - 1 := w_in (by unfold inR; omega)
    have tree := fun lo => r56a nm B ps vs n op arg i F lo
    simp only [if_pos hid, if_pos hbb, eq_self, cl_pos hq, Int.toNat_natCast, ew, en] at tree
    refine Ends.iff ?_ (all_from hi)
    have er : Cv.rng (mkC vs n op arg) i ↔ Cv.rngL (op i) i ≤ arg i ∧ arg i ≤ Cv.rngH (op i) i n vs := Iff.rfl
    have es : Cv.stopOk (mkC vs n op arg) i ↔ (op i = 28 ↔ i + 1 = n) := Iff.rfl
    rw [er, es]
    by_cases hlo : arg i < Cv.rngL (op i) i
    · refine Ends.ret hC (fun h => by omega) fun lo => (tree lo).trans ?_
      rw [if_pos (by simpa using hlo)]; rfl
    by_cases hhi : arg i > Cv.rngH (op i) i n vs
    · refine Ends.ret hC (fun h => by omega) fun lo => (tree lo).trans ?_
      rw [if_neg (by simpa using hlo), if_pos (by simpa using hhi)]; rfl
    have e28 : (!(op i == (28 : Int)) == ((i : Int) == (n : Int) - 1)) = true ↔ ¬ (op i = 28 ↔ i + 1 = n) := by
      have eb1 : ((i : Int) == (n : Int) - 1) = decide (i + 1 = n) := by rw [Bool.eq_iff_iff, beq_iff_eq, decide_eq_true_eq]; omega
      have eb2 : (op i == (28 : Int)) = decide (op i = 28) := rfl
      rw [eb1, eb2]
      by_cases a : op i = 28 <;> by_cases b : i + 1 = n
      · rw [decide_eq_true a, decide_eq_true b]; simp [a, b]
      · rw [decide_eq_true a, decide_eq_false b]; simp [a, b]
      · rw [decide_eq_false a, decide_eq_true b]; simp [a, b]
      · rw [decide_eq_false a, decide_eq_false b]; simp [a, b]
    by_cases hs : (op i = 28 ↔ i + 1 = n)
    · refine Ends.iff (Ends.next hC (ih (i + 1) (by omega)) (k56a _ _ _ _ _ _) k56r (LeSt.refl _) fun lo => (tree lo).trans ?_) ⟨fun h => h.2, fun h => ⟨⟨⟨by omega, by omega⟩, hs⟩, h⟩⟩
      rw [if_neg (by simpa using hlo), if_neg (by simpa using hhi), if_neg (fun h => e28.1 h hs)]; rfl
    · refine Ends.ret hC (fun h => hs h.1.2) fun lo => (tree lo).trans ?_
      rw [if_neg (by simpa using hlo), if_neg (by simpa using hhi), if_pos (e28.2 hs)]; rfl
theorem end56b {nm : ByteArray} {ps vs : Int} {n : Nat} {op arg oL oW : Nat → Int} {F : V} {B : Bool} (hC : SoundC E2 (C56 n op arg F B)) : Ends (bodyOf E2 7 2) True (S56b nm ps vs n op arg oL oW n) (.exit 2) (T56a nm ps vs n op arg) .ret T56r :=
  Ends.fin hC trivial fun lo => (r56b _ _ _ _ _ _ _ _ _ _ _ _).trans (by rw [if_neg (by simp)]; rfl)
def jump1 (c : Cv.Cd) (oL oW : Nat → Int) (i : Nat) : Prop := Cv.jmp (c.op i) → oL (c.arg i).toNat = oL i ∧ oW (c.arg i).toNat = oW i
set_option maxRecDepth 100000 in
theorem loop56b {nm : ByteArray} {ps vs : Int} {n : Nat} {op arg oL oW : Nat → Int} {F : V} {B : Bool} (hC : SoundC E2 (C56 n op arg F B)) (hn : n ≤ 300) (harg : ∀ i, i < n → Cv.jmp (op i) → 0 ≤ arg i ∧ arg i < n) : ∀ (r i : Nat), i + r = n → Ends (bodyOf E2 7 2) (∀ j, i ≤ j → j < n → jump1 (mkC vs n op arg) oL oW j) (S56b nm ps vs n op arg oL oW i) (.exit 2) (T56a nm ps vs n op arg) .ret T56r := by
  intro r
  induction r with
  | zero =>
    intro i hi
    exact Ends.fin hC (fun j h1 h2 => by omega) fun lo => (r56b _ _ _ _ _ _ _ _ _ _ _ _).trans (by rw [if_neg (by simp; omega)]; rfl)
  | succ r ih =>
    intro i hi
    have hi' : i < n := by omega
    have hid : decide ((i : Int) < (n : Int)) = true := by simpa using hi'
    have hbb : (0 : Int) ≤ (i : Int) ∧ (i : Int) < (n : Int) := by omega
    have ew : w ((i : Int) + 1) = ((i + 1 : Nat) : Int) := by rw [w_in (by unfold inR; omega)]; omega
    have tree := fun lo => r56b nm B ps vs n op arg oL oW i F lo
    simp only [if_pos hid, if_pos hbb, Int.toNat_natCast, ew, if_true] at tree
    refine Ends.iff ?_ (all_from hi)
    have ej : jump1 (mkC vs n op arg) oL oW i ↔ (Cv.jmp (op i) → oL (arg i).toNat = oL i ∧ oW (arg i).toNat = oW i) := Iff.rfl
    rw [ej]
    have eb : (!(oL (arg i).toNat == oL i && (oW (arg i).toNat == oW i && true))) = true ↔ ¬ (oL (arg i).toNat = oL i ∧ oW (arg i).toNat = oW i) := by
      rw [Bool.and_true]
      by_cases a : oL (arg i).toNat = oL i <;> by_cases b : oW (arg i).toNat = oW i <;> simp [a, b]
    by_cases h14 : op i = 14
    · have hj : Cv.jmp (op i) := .inl h14
      have ha := harg i hi' hj
      by_cases hs : (oL (arg i).toNat = oL i ∧ oW (arg i).toNat = oW i)
      · refine Ends.iff (Ends.next hC (ih (i + 1) (by omega)) (k56b _ _ _ _ _ _) k56r (LeSt.refl _) fun lo => (tree lo).trans ?_) ⟨fun h => h.2, fun h => ⟨fun _ => hs, h⟩⟩
        rw [if_pos (by simpa using h14), if_pos ha, if_neg (fun h => eb.1 h hs)]; rfl
      · refine Ends.ret hC (fun h => hs (h.1 hj)) fun lo => (tree lo).trans ?_
        rw [if_pos (by simpa using h14), if_pos ha, if_pos (eb.2 hs)]; rfl
    by_cases h15 : op i = 15
    · have hj : Cv.jmp (op i) := .inr h15
      have ha := harg i hi' hj
      by_cases hs : (oL (arg i).toNat = oL i ∧ oW (arg i).toNat = oW i)
      · refine Ends.iff (Ends.next hC (ih (i + 1) (by omega)) (k56b _ _ _ _ _ _) k56r (LeSt.refl _) fun lo => (tree lo).trans ?_) ⟨fun h => h.2, fun h => ⟨fun _ => hs, h⟩⟩
        rw [if_neg (by simpa using h14), if_pos (by simpa using h15), if_pos ha, if_neg (fun h => eb.1 h hs)]; rfl
      · refine Ends.ret hC (fun h => hs (h.1 hj)) fun lo => (tree lo).trans ?_
        rw [if_neg (by simpa using h14), if_pos (by simpa using h15), if_pos ha, if_pos (eb.2 hs)]; rfl
    refine Ends.iff (Ends.next hC (ih (i + 1) (by omega)) (k56b _ _ _ _ _ _) k56r (LeSt.refl _) fun lo => (tree lo).trans ?_) ⟨fun h => h.2, fun h => ⟨fun hj => (hj.elim h14 h15).elim, h⟩⟩
    rw [if_neg (by simpa using h14), if_neg (by simpa using h15)]; rfl
open Classical in
/-- What both checks of code answer. -/
noncomputable def verV (ps : Int) (c : Cv.Cd) : Int := if c.n > 300 ∨ c.vars > 12 then 2 else if ps < 0 ∨ ps > c.vars ∨ c.n = 0 ∨ ¬ Cv.VP c then 13 else 0
theorem verV_2 {ps : Int} {c : Cv.Cd} (h : c.n > 300 ∨ c.vars > 12) : verV ps c = 2 := by unfold verV; exact if_pos h
theorem verV_13 {ps : Int} {c : Cv.Cd} (h : ¬ (c.n > 300 ∨ c.vars > 12)) (h2 : ps < 0 ∨ ps > c.vars ∨ c.n = 0 ∨ ¬ Cv.VP c) : verV ps c = 13 := by unfold verV; rw [if_neg h, if_pos h2]
theorem verV_0 {ps : Int} {c : Cv.Cd} (h : ¬ (c.n > 300 ∨ c.vars > 12)) (h2 : ¬ (ps < 0 ∨ ps > c.vars ∨ c.n = 0 ∨ ¬ Cv.VP c)) : verV ps c = 0 := by unfold verV; rw [if_neg h, if_neg h2]
theorem jmps_all (c : Cv.Cd) (oL oW : Nat → Int) : Cv.jmps c oL oW ↔ ∀ j, 0 ≤ j → j < c.n → jump1 c oL oW j := ⟨fun h j _ hj => h j hj, fun h j hj => h j (Nat.zero_le _) hj⟩
set_option maxRecDepth 100000 in
theorem verify_sc (nm : ByteArray) (ps vs : Int) (n : Nat) (op arg : Nat → Int) : SC E2 7 [codV nm ps vs n op arg] [] (.ret (i64 (verV ps (mkC vs n op arg))) []) := by
  have hcn : (mkC vs n op arg).n = n := rfl
  have hcv : (mkC vs n op arg).vars = vs := rfl
  by_cases hn : n > 300
  · rw [verV_2 (.inl hn)]
    refine SC.of hW2 hX2 tab_nil ltab2_nil ((f56_e ..).trans ?_)
    rw [if_pos (by simp; omega)]
  have hnn : ¬ decide ((n : Int) > (300 : Int)) = true := by simp; omega
  by_cases hv : vs > 12
  · rw [verV_2 (.inr hv)]
    refine SC.of hW2 hX2 tab_nil ltab2_nil ((f56_e ..).trans ?_)
    rw [if_neg hnn, if_pos (by simpa using hv)]
  have hvv : ¬ decide (vs > (12 : Int)) = true := by simpa using hv
  have h2 : ¬ ((mkC vs n op arg).n > 300 ∨ (mkC vs n op arg).vars > 12) := by rw [hcn, hcv]; omega
  by_cases hp : ps < 0
  · rw [verV_13 h2 (.inl hp)]
    refine SC.of hW2 hX2 tab_nil ltab2_nil ((f56_e ..).trans ?_)
    rw [if_neg hnn, if_neg hvv, if_pos (by simpa using hp)]
  have hpp : ¬ decide (ps < (0 : Int)) = true := by simpa using hp
  by_cases hp2 : ps > vs
  · rw [verV_13 h2 (.inr (.inl hp2))]
    refine SC.of hW2 hX2 tab_nil ltab2_nil ((f56_e ..).trans ?_)
    rw [if_neg hnn, if_neg hvv, if_neg hpp, if_pos (by simpa using hp2)]
  have hpp2 : ¬ decide (ps > vs) = true := by simpa using hp2
  by_cases hz : n = 0
  · rw [verV_13 h2 (.inr (.inr (.inl hz)))]
    refine SC.of hW2 hX2 tab_nil ltab2_nil ((f56_e ..).trans ?_)
    rw [if_neg hnn, if_neg hvv, if_neg hpp, if_neg hpp2, if_pos (by simp; omega)]
  have hzz : ¬ ((n : Int) == (0 : Int)) = true := by simp; omega
  have hn3 : n ≤ 300 := by omega
  have h0 : 0 ≤ vs := by omega
  have hv12 : vs ≤ 12 := by omega
  have bad : ¬ Cv.VP (mkC vs n op arg) → verV ps (mkC vs n op arg) = 13 := fun h => verV_13 h2 (.inr (.inr (.inr h)))
  have good : Cv.VP (mkC vs n op arg) → verV ps (mkC vs n op arg) = 0 := fun h => verV_0 h2 (fun g => by rcases g with g | g | g | g; exact hp g; exact hp2 g; exact hz g; exact g h)
  have hpl : ∀ q, Cv.plcP (mkC vs n op arg) n 0 pl0 = q → Cv.plcP (mkC vs n op arg) (mkC vs n op arg).n 0 ⟨Cv.zero, Cv.zero, -1, -1⟩ = q := fun q h => h
  cases hx : Cv.plcP (mkC vs n op arg) n 0 pl0 with
  | none =>
    have hC := sC56 (F := plN) vs hn3 (by omega) (by rw [hx]; rfl)
    have l1 := loop56a (nm := nm) (ps := ps) (vs := vs) hC hn3 h0 hv12 n 0 (by omega)
    have hnv : ¬ Cv.VP (mkC vs n op arg) := by
      rintro ⟨_, ⟨q, hq, _⟩, _⟩
      rw [hpl _ hx] at hq
      cases hq
    rw [bad hnv]
    refine SC.of hW2 hX2 hC (ltab2_cons (x := ⟨0, _, _, _, _, _, _, _⟩) l1 ltab2_nil) ((f56n _ _ _ _ _ _ _ _ _).trans ?_)
    rw [if_neg hnn, if_neg hvv, if_neg hpp, if_neg hpp2, if_neg hzz, cl_pos ⟨rfl, LeSt.refl _⟩]
    by_cases hP : (∀ j, 0 ≤ j → j < n → Cv.rng (mkC vs n op arg) j ∧ Cv.stopOk (mkC vs n op arg) j)
    · rw [cl_pos hP, cl_pos ⟨rfl, rfl⟩]
    · rw [cl_neg hP]
  | some q =>
    have hC := sC56 (F := plS n q.oL q.oW (decide (q.lo = -1 ∧ q.wa = -1))) vs hn3 (by omega) (by rw [hx]; rfl)
    have l1 := loop56a (nm := nm) (ps := ps) (vs := vs) hC hn3 h0 hv12 n 0 (by omega)
    by_cases hP : (∀ j, 0 ≤ j → j < n → Cv.rng (mkC vs n op arg) j ∧ Cv.stopOk (mkC vs n op arg) j)
    · have harg : ∀ i, i < n → Cv.jmp (op i) → 0 ≤ arg i ∧ arg i < n := by
        intro i hi hj
        have h1 := Cv.rng_jump (c := mkC vs n op arg) (i := i) hj (hP i (Nat.zero_le _) hi).1
        have e1 : (mkC vs n op arg).arg i = arg i := rfl
        rw [e1, hcn] at h1
        omega
      have l2 := loop56b (nm := nm) (ps := ps) (vs := vs) (oL := q.oL) (oW := q.oW) hC hn3 harg n 0 (by omega)
      refine SC.of hW2 hX2 hC (ltab2_cons (x := ⟨0, _, _, _, _, _, _, _⟩) l1 (ltab2_cons (x := ⟨2, _, _, _, _, _, _, _⟩) l2 ltab2_nil)) ((f56s _ _ _ _ _ _ _ _ _ _ _ _ _ _).trans ?_)
      rw [if_neg hnn, if_neg hvv, if_neg hpp, if_neg hpp2, if_neg hzz, cl_pos ⟨rfl, LeSt.refl _⟩, cl_pos hP, cl_pos ⟨rfl, rfl⟩]
      have hvp : Cv.VP (mkC vs n op arg) ↔ ((q.lo = -1 ∧ q.wa = -1) ∧ (∀ j, 0 ≤ j → j < n → jump1 (mkC vs n op arg) q.oL q.oW j) ∧ balD (mkC vs n op arg) = true) := by
        rw [balD_iff]
        constructor
        · rintro ⟨g1, ⟨q', g2, g3, g4⟩, g5⟩
          rw [hpl _ hx] at g2
          cases g2
          exact ⟨g3, (jmps_all _ _ _).1 g4, g5⟩
        · rintro ⟨g1, g2, g3⟩
          exact ⟨fun i hi => hP i (Nat.zero_le _) hi, ⟨q, hpl _ hx, g1, (jmps_all _ _ _).2 g2⟩, g3⟩
      by_cases hb : q.lo = -1 ∧ q.wa = -1
      · rw [if_neg (by rw [decide_eq_true hb]; decide), cl_pos ⟨rfl, LeSt.refl _⟩]
        by_cases hJ : ∀ j, 0 ≤ j → j < n → jump1 (mkC vs n op arg) q.oL q.oW j
        · rw [cl_pos hJ, cl_pos ⟨⟨rfl, fun i hi hj => (harg i hi hj).1⟩, rfl⟩]
          cases hB : balD (mkC vs n op arg) with
          | true => rw [if_neg (by decide), good (hvp.2 ⟨hb, hJ, hB⟩)]
          | false => rw [if_pos (by decide), bad (fun h => by have := (hvp.1 h).2.2; rw [hB] at this; cases this)]
        · rw [cl_neg hJ, bad (fun h => hJ (hvp.1 h).2.1)]
      · rw [if_pos (by rw [decide_eq_false hb]; decide), bad (fun h => hb (hvp.1 h).1)]
    · refine SC.of hW2 hX2 hC (ltab2_cons (x := ⟨0, _, _, _, _, _, _, _⟩) l1 (ltab2_cons (x := ⟨2, _, S56b nm ps vs n op arg q.oL q.oW n, True, _, _, _, _⟩) (end56b (nm := nm) (ps := ps) (vs := vs) (oL := q.oL) (oW := q.oW) hC) ltab2_nil)) ((f56s _ _ _ _ _ _ _ _ _ _ _ _ _ _).trans ?_)
      rw [if_neg hnn, if_neg hvv, if_neg hpp, if_neg hpp2, if_neg hzz, cl_pos ⟨rfl, LeSt.refl _⟩, cl_neg hP, bad (fun h => hP fun j _ hj => h.1 j hj)]
end Go.Proofs.YtcljccpddodckaaGreatDoor
