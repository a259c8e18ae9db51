/- Texts joined. -/
import Derived.Test.YthkioinnobiieaaGreatDoorQC
import Derived.Test.YthkioinnobiieaaGreatDoorProg
import Derived.Test.YthkioinnobiieaaGreatDoorRows
import Derived.Lib.Strings
import Derived.Lib.IndexMore
import Derived.Recover
import Derived.Test.YthkioinnobiieaaGreatDoorShelf
import Derived.Test.YthkioinnobiieaaGreatDoorCards
import Derived.Test.YthkioinnobiieaaGreatDoorTie
import Derived.Deep.DeepHandedRow
import Derived.Deep.DeepWitnessRowRef
import Derived.LaidMore
import Derived.KernelRfl
import Derived.Test.YthkioinnobiieaaGreatDoorQB
/- The environment of this seat: variables of the packages, library functions by contract. -/
set_option linter.unusedSimpArgs false
set_option linter.unusedVariables false
namespace Go.Proofs.YthkioinnobiieaaGreatDoor
open Go Go.Am
abbrev i64 (n : Int) : V := .sc (.int .i64 n)
abbrev bo (b : Bool) : V := .sc (.bool b)
abbrev st (s : ByteArray) : V := .sc (.string s)
def tabL : List (List V) := [
 [.sc (.string ⟨#[74]⟩), i64 1, i64 1, i64 0, i64 0, i64 0, i64 0],
 [.sc (.string ⟨#[107, 74]⟩), i64 1000, i64 1, i64 0, i64 0, i64 0, i64 0],
 [.sc (.string ⟨#[87, 104]⟩), i64 3600, i64 1, i64 0, i64 0, i64 0, i64 0],
 [.sc (.string ⟨#[66]⟩), i64 1, i64 0, i64 1, i64 0, i64 0, i64 0],
 [.sc (.string ⟨#[107, 66]⟩), i64 1000, i64 0, i64 1, i64 0, i64 0, i64 0],
 [.sc (.string ⟨#[115]⟩), i64 1, i64 0, i64 0, i64 1, i64 0, i64 0],
 [.sc (.string ⟨#[109, 105, 110]⟩), i64 60, i64 0, i64 0, i64 1, i64 0, i64 0],
 [.sc (.string ⟨#[104]⟩), i64 3600, i64 0, i64 0, i64 1, i64 0, i64 0],
 [.sc (.string ⟨#[100, 101, 103]⟩), i64 1, i64 0, i64 0, i64 0, i64 1, i64 0],
 [.sc (.string ⟨#[75]⟩), i64 1, i64 0, i64 0, i64 0, i64 0, i64 1],
 [.sc (.string ⟨#[87]⟩), i64 1, i64 1, i64 0, i64 (-1), i64 0, i64 0],
 [.sc (.string ⟨#[107, 87]⟩), i64 1000, i64 1, i64 0, i64 (-1), i64 0, i64 0],
 [.sc (.string ⟨#[66, 112, 115]⟩), i64 1, i64 0, i64 1, i64 (-1), i64 0, i64 0]]
def tabV : V := .ro 7 13 (fun j => tabL.getD j [])
def opsL : List V := [.sc (.string ⟨#[124, 124]⟩), i64 1, .sc (.string ⟨#[38, 38]⟩), i64 1, .sc (.string ⟨#[43]⟩), i64 2, .sc (.string ⟨#[45]⟩), i64 2, .sc (.string ⟨#[42]⟩), i64 3, .sc (.string ⟨#[47]⟩), i64 3, .sc (.string ⟨#[60]⟩), i64 4, .sc (.string ⟨#[60, 61]⟩), i64 4, .sc (.string ⟨#[62]⟩), i64 4, .sc (.string ⟨#[62, 61]⟩), i64 4, .sc (.string ⟨#[61, 61]⟩), i64 4, .sc (.string ⟨#[33, 61]⟩), i64 4]
def globF : Nat → Option (List V)
 | 0 => some [tabV]
 | 2 => some opsL
 | _ => none
def extF (f : FuncId) (args : List V) : Option V :=
 if f = 171 then match args with
  | [.sc (.string s), .sc (.string sub)] => if s.size < 4294967281 then some (bo (Lib.contains s.data.toList sub.data.toList)) else none
  | _ => none
 else if f = 143 then match args with
  | [.sc (.string s), .sc (.int .u8 c)] => some (i64 (Lib.indexByte s.data.toList (UInt8.ofNat c.toNat)))
  | _ => none
 else none
def way (a b : Nat) : Am.Way := if b ∈ [114, 133, 134, 148, 172, 173, 174, 175, 176, 177, 178, 179, 190, 198, 199] then .giveM else if b ∈ [89, 111, 48, 10, 11, 12, 14, 15, 16, 20, 21] then .give else if b ∈ [13, 18, 79, 26, 29] then .lend else .plain
def litF (f : FuncId) : Bool := f == 9
def dfnF (f : FuncId) : Bool := f == 89
def idleF (f : FuncId) : Option Nat := if f = 112 then some 3 else none
open Go.RowKit
set_option linter.unusedVariables false
noncomputable def E : Env := { P := Tryz.prog, glob := globF, ext := extF, way := way, lit := litF, code := fun f => (Tryz.prog.funcs[f]?).bind annF, inv := [(1, intCell .i64)], dfn := dfnF, idle := idleF, allR := true }
noncomputable def E0 : Env := { P := Tryz.prog, glob := fun _ => none, ext := fun _ _ => none, way := fun _ _ => .plain, lit := fun _ => false, code := fun f => (Tryz.prog.funcs[f]?).bind annF, allR := true }
noncomputable def rest65 : ACode := match E0.code 112 with | some (.seq _ b) => b | _ => .skip
def fr65 : List V := [.junk, .junk, .junk, .sc .nilIface] ++ List.replicate 2 (.sc undef) ++ [.sc .nilIface] ++ List.replicate 13 (.sc undef)
def T0 : CallT := fun _ _ _ _ => none
def L0 : LoopT := fun _ _ _ _ _ => none
def isNormal : Ex → Bool | .normal => true | _ => false
theorem run65 : execK E0 T0 L0 rest65 { fr := fr65, H := hp [], nx := 0, rt := 0, me := 112 } (fun e _ => if isNormal e then some (.c (.pan .junk)) else none) = some (.c (.pan .junk)) := by kernel_rfl
theorem body65 (a : Act) (w : World) (hd : a.defers = []) (ht : denL (fun _ => none) (fun _ => False) w (fun _ => False) fr65 a.tmps.toList) : Code.wp Tryz.prog rest65.erase (fun e a' w' => e = .normal ∧ a'.defers = [] ∧ Below w.heap.size w w') a w := by
 obtain ⟨e, s', h1, h2⟩ := exec_sound (E := E0) (ca := T0) (lo := L0) (fun _ _ _ _ _ h => by cases h) (SoundX.none fun _ _ => rfl) (fun _ _ _ _ _ _ h => by cases h) rest65 _ _ _ run65
 split at h1
 case isFalse => cases h1
 rename_i he
 have he : e = .normal := by cases e <;> simp_all [isNormal]
 subst he
 refine wp_mono (h2 (fun _ => none) (fun _ => False) (fun _ => False) a w ⟨ht, ⟨fun i c hc => (by simp [hp] at hc), fun _ _ => rfl, fun i b m h => (by cases h), fun i b m h => (by cases h), fun i j b m m' h => (by cases h), fun b hb => hb.elim⟩, ⟨fun _ => hd, fun d h => (by rw [hd] at h; cases h)⟩, fun i hi => hi.elim, ⟨fun g cs h => (by cases h), fun p hp => (by cases hp)⟩, fun i hi => absurd hi (Nat.not_lt_zero i)⟩) fun e' a' w' hp => ?_
 obtain ⟨β', S', D', q1, q2, q3, q4, q5, q6⟩ := hp.ex
 cases e' <;> simp only [ExR] at q1
 exact ⟨rfl, q2.df.1 rfl, below_of_evo q3⟩
theorem idle65 : Idle Tryz.prog 112 3 := by
  intro us w hus
  refine ⟨?_, ?_⟩
  · have hb : ∃ fn, Tryz.prog.funcs[112]? = some fn ∧ fn.body.isSome = true ∧ fn.name ≠ "runtime.NumGoroutine" := ⟨_, Tryz.func112, by kernel_rfl, by intro e; exact absurd e (by decide +kernel)⟩
    obtain ⟨fn, h1, h2, h3⟩ := hb
    have hb : ¬ fn.body = none := by intro hb; rw [hb] at h2; cases h2
    simp [callFunc, Sem.run_bind, h1, h3, hb, program, Sem.run]
  · match us, hus with
    | ⟨[x, y, z]⟩, _ =>
      refine callsD_of_wpS Tryz.func112 rfl fun c₀ cs hu => ?_
      apply wpS_seq
      apply wpS_region
      simp [wpOpsS, go_sem, recoverD, hu, Tryz.ntmps112, Exit.thenS]
      refine wpS_of_wp ?_
      refine (congrArg (fun c => Code.wp Tryz.prog c _ _ _) (?_ : rest65.erase = _)).mp (wp_mono (body65 _ w rfl ?_) ?_)
      · kernel_rfl
      · simp [fr65, denL, den]
        exact ⟨_, _, ⟨rfl, rfl⟩, _, _, rfl, _, rfl⟩
      · rintro e a' w' ⟨rfl, hd, hb⟩
        refine ⟨hd, _, ?_, _, by simp [results, Tryz.results112, go_sem]; rfl, ⟨_, rfl⟩, rfl, hb⟩
        cases c₀; simp_all
set_option maxRecDepth 100000 in
theorem hW : WF E := WF.of E (fun _ => rfl) (by kernel_rfl) (fun g n h => by
 have h' : idleF g = some n := h
 unfold idleF at h'
 split at h'
 ·rename_i hg; subst hg; cases h'; exact idle65
 ·cases h')
end Go.Proofs.YthkioinnobiieaaGreatDoor
/- The library's contracts, as the environment has them; the examples hold. -/
set_option linter.unusedSimpArgs false
set_option linter.unusedVariables false
namespace Go.Proofs.YthkioinnobiieaaGreatDoor
open Go Go.Am Go.RowKit
set_option linter.unusedVariables false
theorem maxLen_at {S : Pr} {w : World} (hG : Glob E S w) : ∃ m, w.cell? ⟨1, 0, none⟩ = some (.int .i64 m) := by
 obtain ⟨_, x, h1, h2⟩ := hG.inv (1, intCell .i64) (by simp [E])
 exact intCell_cell h1 h2
theorem hX : SoundX E := by
 intro f args v h
 have h' : extF f args = some v := h
 unfold extF at h'
 split at h'
 ·rename_i hf; subst hf
  split at h'
  ·rename_i s sub
   split at h'
   ·rename_i hn
    cases h'
    refine ⟨⟨_, Tryz.func171, by kernel_rfl, by intro e; exact absurd e (by decide +kernel)⟩, rfl, fun β S D w us hd hG hS => ?_⟩
    obtain rfl : us = [.string s, .string sub] := by simpa [denL, den] using hd
    obtain ⟨m, hm⟩ := maxLen_at hG
    refine (Tryz.strings_Contains s sub m w hn hm).mono ?_
    rintro e w' ⟨rfl, rfl⟩
    exact ⟨_, S, rfl, Below.refl _ _, by simp only [den], fun _ h => h, fun _ h => .inl h⟩
   ·cases h'
  ·cases h'
 split at h'
 ·rename_i hf; subst hf
  split at h'
  ·rename_i s c
   cases h'
   refine ⟨⟨_, Tryz.func143, by kernel_rfl, by intro e; exact absurd e (by decide +kernel)⟩, rfl, fun β S D w us hd hG hS => ?_⟩
   obtain rfl : us = [.string s, .int .u8 c] := by simpa [denL, den] using hd
   refine (Tryz.strings_IndexByte s c w).mono ?_
   rintro e w' ⟨rfl, rfl⟩
   exact ⟨_, S, rfl, Below.refl _ _, by simp only [den], fun _ h => h, fun _ h => .inl h⟩
  ·cases h'
 ·cases h'
end Go.Proofs.YthkioinnobiieaaGreatDoor
/- What the rows list of the packages' variables; a world that holds it. -/
set_option linter.unusedSimpArgs false
set_option linter.unusedVariables false
namespace Go.Proofs.YthkioinnobiieaaGreatDoor
open Go Go.Am Go.RowKit
theorem packed : packB Tryz.prog = true := by kernel_rfl
abbrev laidL : List (String × DataW Unit) := Rows.vmStartsRow.laid
theorem laidPlain {W : World} (h : laidMetH Tryz.prog laidL W) : laidMet Tryz.prog laidL W := by
 rw [MakeChecks.laidMetH_plain _ _ _ (by kernel_rfl)] at h; exact h
theorem globAt0 : GlobAt Tryz.prog laidL 0 [tabV] := ⟨"perigee/unit.table", Rows.laid_perigee_unit_table, 187, 8, by simp [laidL, Rows.vmStartsRow], by kernel_rfl, by kernel_rfl, of_decide_eq_true (by kernel_rfl), by kernel_rfl, by simp⟩
theorem globAt1 : GlobAt Tryz.prog laidL 2 opsL := ⟨"perigee/types.operators", Rows.laid_perigee_types_operators, 220, 8, by simp [laidL, Rows.vmStartsRow], by kernel_rfl, by kernel_rfl, of_decide_eq_true (by kernel_rfl), by kernel_rfl, by simp [opsL]⟩
theorem glob_of {W : World} (h : laidMetH Tryz.prog laidL W) (hs : W.ShapedOpen Tryz.prog) : Glob E (· < W.heap.size) W := by
 have hl := laidPlain h
 refine Glob.of_laid (laid := laidL) packed hl (fun g cs hg => ?_) (fun p hp => ?_)
 ·have hg' : globF g = some cs := hg
  unfold globF at hg'
  split at hg'
  ·cases hg'; exact globAt0
  ·cases hg'; exact globAt1
  ·cases hg'
 ·simp only [E, List.mem_cons, List.mem_nil_iff, or_false] at hp
  rcases hp with rfl
  exact intCell_of (cell_of_shapedOpen_int (t := 3) (zero := #[.int .i64 0]) hs (of_decide_eq_true (by kernel_rfl)) (by kernel_rfl) rfl (by kernel_rfl) (by kernel_rfl) (by kernel_rfl))
noncomputable def laidWorld (os : Os) : World := World.doorLaid Tryz.prog 4000 os
theorem laid_met0 (os : Os) (args : Array Value) : laidMet Tryz.prog laidL ((laidWorld os).forCall (fun _ _ => 0) ⟨#[], args, []⟩).memory :=
 laidMet_of_run' 8 (by kernel_rfl) (by kernel_rfl)
theorem laid_met (os : Os) (args : Array Value) : laidMetH Tryz.prog laidL ((laidWorld os).forCall (fun _ _ => 0) ⟨#[], args, []⟩).memory := by
 rw [MakeChecks.laidMetH_plain _ _ _ (by kernel_rfl)]; exact laid_met0 os args
end Go.Proofs.YthkioinnobiieaaGreatDoor
/- For closed runs. -/
set_option linter.unusedSimpArgs false
set_option linter.unusedVariables false
namespace Go.Proofs.YthkioinnobiieaaGreatDoor
open Go Go.Am
def maskTab : List (Nat × List (Nat × Nat)) := [(4, [(0, 1357880)]), (5, [(0, 1416), (2, 15752)]), (6, [(0, 542), (2, 74752)]), (7, [(0, 935936), (2, 1984512)]), (11, [(0, 86)]), (12, [(0, 102)]), (13, [(0, 44)]), (14, [(0, 25), (2, 121)]), (15, [(0, 27164)]), (16, [(0, 140737488357192)]), (18, [(0, 35)]), (19, [(0, 40), (2, 72)]), (20, [(0, 113)]), (21, [(0, 908)]), (29, [(0, 294920)]), (34, [(0, 35)]), (42, [(0, 14344)]), (44, [(0, 16836)]), (47, [(0, 10), (2, 178)]), (48, [(0, 29360256)]), (49, [(0, 387)]), (79, [(0, 962072674306), (2, 33849922949209616891773058)]), (80, [(0, 7516192780), (2, 126100789566373896)]), (87, [(0, 993)]), (88, [(0, 25), (2, 41), (4, 873)]), (89, [(0, 92)]), (90, [(0, 57354)]), (91, [(0, 14358)]), (104, [(0, 28720)]), (105, [(0, 393226), (2, 939524136)]), (111, [(0, 65633)]), (114, [(0, 114701)]), (115, [(0, 901)]), (123, [(0, 259)]), (128, [(0, 4194356)]), (133, [(0, 9)]), (134, [(0, 13)]), (140, [(0, 1793)]), (146, [(0, 1835017)]), (150, [(0, 939524518)]), (163, [(0, 897)]), (190, [(1, 51)]), (193, [(0, 97)]), (196, [(0, 98304)]), (197, [(1, 2019)]), (204, [(0, 995), (2, 1507)]), (205, [(0, 49), (2, 464)])]
noncomputable def EL : Env := { P := Tryz.prog, glob := globF, ext := extF, way := way, lit := litF, code := annFL maskTab Tryz.prog, inv := [(1, intCell .i64)], dfn := dfnF, idle := idleF, push := false, allR := true }
set_option maxRecDepth 100000 in
theorem hWL : WF EL := WF.ofL EL maskTab rfl (by kernel_rfl) (fun g n h => by
 have h' : idleF g = some n := h
 unfold idleF at h'
 split at h'
 ·rename_i hg; subst hg; cases h'; exact idle65
 ·cases h')
theorem hXL : SoundX EL := fun f args v h => by
 obtain ⟨h1, h2, h3⟩ := hX f args v h
 exact ⟨h1, h2, fun β S D w us a b c => h3 β S D w us a ⟨b.rd, b.inv⟩ c⟩
theorem scL {f : FuncId} {args : List V} {L : List (Option Chunk)} {cr : CRes} (h : SC EL f args L cr) : SC E f args L cr :=
 ⟨h.1, fun β S w us h1 h2 h3 => h.2 β S w us h1 h2 ⟨h3.rd, h3.inv⟩⟩
end Go.Proofs.YthkioinnobiieaaGreatDoor
/- Plain: two ways to check code are the same. -/
namespace Go.Proofs.Cv
set_option linter.unusedSimpArgs false
set_option linter.unusedVariables false
structure Cd where
 op : Nat → Int
 arg : Nat → Int
 n : Nat
 vars : Int
def upd (f : Nat → Int) (k : Nat) (v : Int) : Nat → Int := fun j => if j = k then v else f j
theorem upd_same (f : Nat → Int) (k : Nat) (v : Int) : upd f k v k = v := by simp [upd]
theorem upd_ne {f : Nat → Int} {k j : Nat} {v : Int} (h : j ≠ k) : upd f k v j = f j := by simp [upd, h]
theorem upd_id {f : Nat → Int} {k : Nat} {v : Int} (h : f k = v) : upd f k v = f := by
 funext j
 unfold upd
 split
 ·rename_i e; rw [e, h]
 ·rfl
def rngL (o : Int) (i : Nat) : Int :=
 if o = 1 then -2147483647 else if o = 14 ∨ o = 15 then (i : Int) + 1 else if o = 16 ∨ o = 17 ∨ o = 20 then 1 else 0
def rngH (o : Int) (i n : Nat) (vars : Int) : Int :=
 if o = 1 then 2147483647 else if o = 2 ∨ o = 3 then vars - 1 else if o = 4 then 5 else if o = 14 ∨ o = 15 then (n : Int) - 1
 else if o = 16 then 100 else if o = 17 ∨ o = 20 then (i : Int) else if o = 18 ∨ o = 19 then 1000000 else if o = 23 then 7999999
 else if o = 24 ∨ o = 25 then 2147483647 else if o = 26 then 99 else if o = 27 then 999 else 0
def okOp (o : Int) : Prop := 1 ≤ o ∧ o ≤ 28
def rng (c : Cd) (i : Nat) : Prop := rngL (c.op i) i ≤ c.arg i ∧ c.arg i ≤ rngH (c.op i) i c.n c.vars
def stopOk (c : Cd) (i : Nat) : Prop := c.op i = 28 ↔ i + 1 = c.n
def opnd (c : Cd) (i : Nat) : Prop :=
 if c.op i = 1 then -2147483647 ≤ c.arg i ∧ c.arg i ≤ 2147483647
 else if c.op i = 2 ∨ c.op i = 3 then 0 ≤ c.arg i ∧ c.arg i ≤ c.vars - 1
 else if c.op i = 4 then 0 ≤ c.arg i ∧ c.arg i ≤ 5
 else if (5 ≤ c.op i ∧ c.op i ≤ 13) ∨ c.op i = 21 ∨ c.op i = 22 ∨ c.op i = 28 then c.arg i = 0
 else if c.op i = 14 ∨ c.op i = 15 then (i : Int) + 1 ≤ c.arg i ∧ c.arg i ≤ (c.n : Int) - 1
 else if c.op i = 16 then 1 ≤ c.arg i ∧ c.arg i ≤ 100
 else if c.op i = 18 ∨ c.op i = 19 then 0 ≤ c.arg i ∧ c.arg i ≤ 1000000
 else if c.op i = 23 then 0 ≤ c.arg i ∧ c.arg i ≤ 7999999
 else if c.op i = 24 ∨ c.op i = 25 then 0 ≤ c.arg i ∧ c.arg i ≤ 2147483647
 else if c.op i = 26 then 0 ≤ c.arg i ∧ c.arg i ≤ 99
 else if c.op i = 27 then 0 ≤ c.arg i ∧ c.arg i ≤ 999
 else c.op i = 17 ∨ c.op i = 20
theorem opnd_ok {c : Cd} {i : Nat} (h : opnd c i) : okOp (c.op i) := by
 unfold opnd at h
 unfold okOp
 generalize c.op i = o at *
 generalize c.arg i = a at *
 repeat' split at h
 all_goals omega
theorem opnd_rng {c : Cd} {i : Nat} (h : okOp (c.op i)) (h17 : c.op i ≠ 17) (h20 : c.op i ≠ 20) : opnd c i ↔ rng c i := by
 unfold okOp at h
 unfold opnd rng rngL rngH
 generalize c.op i = o at *
 generalize c.arg i = a at *
 by_cases h1 : o = 1
 ·subst h1; simp
 by_cases h2 : o = 2 ∨ o = 3
 ·have e1 : ¬ (o = 14 ∨ o = 15) := by omega
  have e2 : ¬ (o = 16 ∨ o = 17 ∨ o = 20) := by omega
  simp only [if_neg h1, if_pos h2, if_neg e1, if_neg e2]
 by_cases h4 : o = 4
 ·subst h4; simp
 by_cases h5 : (5 ≤ o ∧ o ≤ 13) ∨ o = 21 ∨ o = 22 ∨ o = 28
 ·have e1 : ¬ (o = 14 ∨ o = 15) := by omega
  have e2 : ¬ (o = 16 ∨ o = 17 ∨ o = 20) := by omega
  have e3 : ¬ o = 16 := by omega
  have e4 : ¬ (o = 17 ∨ o = 20) := by omega
  have e5 : ¬ (o = 18 ∨ o = 19) := by omega
  have e6 : ¬ o = 23 := by omega
  have e7 : ¬ (o = 24 ∨ o = 25) := by omega
  have e8 : ¬ o = 26 := by omega
  have e9 : ¬ o = 27 := by omega
  simp only [if_neg h1, if_neg h2, if_neg h4, if_pos h5, if_neg e1, if_neg e2, if_neg e3, if_neg e4, if_neg e5, if_neg e6, if_neg e7, if_neg e8, if_neg e9]
  omega
 by_cases h14 : o = 14 ∨ o = 15
 ·simp only [if_neg h1, if_neg h2, if_neg h4, if_neg h5, if_pos h14]
 by_cases h16 : o = 16
 ·subst h16; simp
 have e2 : ¬ (o = 16 ∨ o = 17 ∨ o = 20) := by omega
 have e4 : ¬ (o = 17 ∨ o = 20) := by omega
 simp only [if_neg h1, if_neg h2, if_neg h4, if_neg h5, if_neg h14, if_neg h16, if_neg e2, if_neg e4]
 by_cases h18 : o = 18 ∨ o = 19
 ·simp only [if_pos h18]
 by_cases h23 : o = 23
 ·subst h23; simp
 by_cases h24 : o = 24 ∨ o = 25
 ·simp only [if_neg h18, if_neg h23, if_pos h24]
 by_cases h26 : o = 26
 ·subst h26; simp
 by_cases h27 : o = 27
 ·subst h27; simp
 omega
theorem rng_17 {c : Cd} {i : Nat} (h : c.op i = 17 ∨ c.op i = 20) : rng c i ↔ 1 ≤ c.arg i ∧ c.arg i ≤ (i : Int) := by
 unfold rng rngL rngH
 rcases h with h | h <;> rw [h] <;> simp
theorem opnd_17 {c : Cd} {i : Nat} (h : c.op i = 17 ∨ c.op i = 20) : opnd c i := by
 unfold opnd
 rcases h with h | h <;> rw [h] <;> simp
theorem rng_jump {c : Cd} {i : Nat} (h : c.op i = 14 ∨ c.op i = 15) (hr : rng c i) : (i : Int) + 1 ≤ c.arg i ∧ c.arg i ≤ (c.n : Int) - 1 := by
 unfold rng rngL rngH at hr
 rcases h with h | h <;> rw [h] at hr <;> simpa using hr
def pureP (o : Int) : Bool := decide (o ≤ 15) && decide (o ≠ 3)
def pureR (o : Int) : Bool := decide (o = 1 ∨ o = 2 ∨ o = 4 ∨ (5 ≤ o ∧ o ≤ 13) ∨ o = 14 ∨ o = 15)
theorem pure_same {o : Int} (h : okOp o) : pureP o = pureR o := by
 unfold okOp at h
 unfold pureP pureR
 rw [Bool.eq_iff_iff]
 simp
 omega
structure Pl where
 oL : Nat → Int
 oW : Nat → Int
 lo : Int
 wa : Int
def plcP (c : Cd) : Nat → Nat → Pl → Option Pl
 | 0, _, q => some q
 | r + 1, i, q =>
  if q.wa ≠ -1 ∧ c.op i ≠ 20 ∧ pureP (c.op i) = false then none
  else if c.op i = 16 then plcP c r (i + 1) ⟨upd q.oL i q.lo, upd q.oW i q.wa, i, q.wa⟩
  else if c.op i = 19 then plcP c r (i + 1) ⟨upd q.oL i q.lo, upd q.oW i q.wa, q.lo, i⟩
  else if c.op i = 17 then (if q.lo = -1 ∨ c.arg i ≠ q.lo + 1 then none else plcP c r (i + 1) ⟨upd q.oL i q.lo, upd q.oW i q.wa, upd q.oL i q.lo q.lo.toNat, upd q.oW i q.wa q.lo.toNat⟩)
  else if c.op i = 20 then (if q.wa = -1 ∨ c.arg i ≠ q.wa + 1 then none else plcP c r (i + 1) ⟨upd q.oL i q.lo, upd q.oW i q.wa, q.lo, -1⟩)
  else plcP c r (i + 1) ⟨upd q.oL i q.lo, upd q.oW i q.wa, q.lo, q.wa⟩
structure Rg where
 L : Nat → Int
 W : Nat → Int
 m : Nat
 stk : Nat → Int
 wa : Int
def Rg.top (q : Rg) : Int := if 0 < q.m then q.stk (q.m - 1) else -1
def regR (c : Cd) : Nat → Nat → Rg → Option Rg
 | 0, _, q => some q
 | r + 1, i, q =>
  if 0 ≤ q.wa ∧ c.op i ≠ 20 ∧ pureR (c.op i) = false then none
  else if c.op i = 16 then regR c r (i + 1) ⟨upd q.L i q.top, upd q.W i q.wa, q.m + 1, upd q.stk q.m i, q.wa⟩
  else if c.op i = 17 then (if q.top < 0 ∨ c.arg i ≠ q.top + 1 then none else regR c r (i + 1) ⟨upd q.L i q.top, upd q.W i q.wa, q.m - 1, q.stk, q.wa⟩)
  else if c.op i = 19 then regR c r (i + 1) ⟨upd q.L i q.top, upd q.W i q.wa, q.m, q.stk, i⟩
  else if c.op i = 20 then (if q.wa < 0 ∨ c.arg i ≠ q.wa + 1 then none else regR c r (i + 1) ⟨upd q.L i q.top, upd q.W i q.wa, q.m, q.stk, -1⟩)
  else regR c r (i + 1) ⟨upd q.L i q.top, upd q.W i q.wa, q.m, q.stk, q.wa⟩
structure Stk (i : Nat) (q : Rg) : Prop where
 lt : ∀ k, k < q.m → 0 ≤ q.stk k ∧ q.stk k < i
 loop : ∀ k, k < q.m → q.L (q.stk k).toNat = if 0 < k then q.stk (k - 1) else -1
 wait : ∀ k, k < q.m → q.W (q.stk k).toNat = -1
 wa : q.wa = -1 ∨ (0 ≤ q.wa ∧ q.wa < i)
def Rg.pl (q : Rg) : Pl := ⟨q.L, q.W, q.top, q.wa⟩
theorem top_cases {i : Nat} {q : Rg} (h : Stk i q) : (q.m = 0 ∧ q.top = -1) ∨ (0 < q.m ∧ q.top = q.stk (q.m - 1) ∧ 0 ≤ q.top ∧ q.top < i) := by
 unfold Rg.top
 by_cases hm : 0 < q.m
 ·rw [if_pos hm]; exact .inr ⟨hm, rfl, h.lt _ (by omega)⟩
 ·rw [if_neg hm]; exact .inl ⟨by omega, rfl⟩
theorem Stk.keep {i : Nat} {q : Rg} (h : Stk i q) {wa : Int} (hw : wa = -1 ∨ (0 ≤ wa ∧ wa < (i + 1 : Nat))) : Stk (i + 1) ⟨upd q.L i q.top, upd q.W i q.wa, q.m, q.stk, wa⟩ := by
 refine ⟨fun k hk => ?_, fun k hk => ?_, fun k hk => ?_, hw⟩
 ·have := h.lt k hk; simp only at hk ⊢; omega
 ·have h1 := h.lt k hk
  have := h.loop k hk
  show upd q.L i q.top (q.stk k).toNat = _
  rw [upd_ne (by omega)]; exact this
 ·have h1 := h.lt k hk
  show upd q.W i q.wa (q.stk k).toNat = _
  rw [upd_ne (by omega)]; exact h.wait k hk
theorem plc_reg (c : Cd) (hok : ∀ i, i < c.n → okOp (c.op i)) : ∀ (r i : Nat) (q : Rg), i + r = c.n → Stk i q → plcP c r i q.pl = (regR c r i q).map Rg.pl := by
 intro r
 induction r with
 | zero => intro i q _ _; rfl
 | succ r ih =>
  intro i q hi hs
  have ho := hok i (by omega)
  have hp := pure_same ho
  have ht := top_cases hs
  have e1 : (q.wa ≠ -1 ∧ c.op i ≠ 20 ∧ pureP (c.op i) = false) ↔ (0 ≤ q.wa ∧ c.op i ≠ 20 ∧ pureR (c.op i) = false) := by
   rw [hp]
   have := hs.wa
   constructor
   ·rintro ⟨a, b⟩; exact ⟨by omega, b⟩
   ·rintro ⟨a, b⟩; exact ⟨by omega, b⟩
  rw [plcP, regR]
  show (if q.wa ≠ -1 ∧ c.op i ≠ 20 ∧ pureP (c.op i) = false then none else _) = _
  by_cases hbad : 0 ≤ q.wa ∧ c.op i ≠ 20 ∧ pureR (c.op i) = false
  ·rw [if_pos hbad, if_pos (e1.2 hbad)]; rfl
  rw [if_neg hbad, if_neg (fun h => hbad (e1.1 h))]
  have impure : (c.op i = 16 ∨ c.op i = 17 ∨ c.op i = 19) → q.wa = -1 := by
   intro h
   have h1 : pureR (c.op i) = false := by unfold pureR; simp; omega
   have := hs.wa
   by_cases hw : 0 ≤ q.wa
   ·exact absurd ⟨hw, by omega, h1⟩ hbad
   ·omega
  by_cases h16 : c.op i = 16
  ·rw [if_pos h16, if_pos h16]
   have hw := impure (.inl h16)
   have := ih (i + 1) ⟨upd q.L i q.top, upd q.W i q.wa, q.m + 1, upd q.stk q.m i, q.wa⟩ (by omega) ?_
   ·rw [← this]
    have et : Rg.top ⟨upd q.L i q.top, upd q.W i q.wa, q.m + 1, upd q.stk q.m i, q.wa⟩ = i := by
     unfold Rg.top
     rw [if_pos (by simp)]
     exact upd_same _ _ _
    unfold Rg.pl
    rw [et]
   ·refine ⟨fun k hk => ?_, fun k hk => ?_, fun k hk => ?_, by simp only; omega⟩
    ·simp only at hk ⊢
     by_cases hk2 : k = q.m
     ·subst hk2; rw [upd_same]; omega
     ·rw [upd_ne hk2]; have := hs.lt k (by omega); omega
    ·simp only at hk ⊢
     by_cases hk2 : k = q.m
     ·subst hk2
      rw [upd_same, Int.toNat_natCast, upd_same]
      by_cases h0 : 0 < q.m
      ·rw [if_pos h0, upd_ne (by omega)]; unfold Rg.top; rw [if_pos h0]
      ·rw [if_neg h0]; unfold Rg.top; rw [if_neg h0]
     ·have h1 := hs.lt k (by omega)
      have h2 := hs.loop k (by omega)
      rw [upd_ne hk2, upd_ne (by omega), h2]
      by_cases h0 : 0 < k
      ·rw [if_pos h0, if_pos h0, upd_ne (by omega)]
      ·rw [if_neg h0, if_neg h0]
    ·simp only at hk ⊢
     by_cases hk2 : k = q.m
     ·subst hk2
      rw [upd_same, Int.toNat_natCast, upd_same]; exact hw
     ·have h1 := hs.lt k (by omega)
      rw [upd_ne hk2, upd_ne (by omega)]; exact hs.wait k (by omega)
  rw [if_neg h16, if_neg h16]
  by_cases h19 : c.op i = 19
  ·rw [if_pos h19, if_neg (by omega), if_pos h19]
   exact ih (i + 1) _ (by omega) (hs.keep (wa := (i : Int)) (by omega))
  rw [if_neg h19]
  by_cases h17 : c.op i = 17
  ·rw [if_pos h17, if_pos h17]
   have hw := impure (.inr (.inl h17))
   show (if q.top = -1 ∨ c.arg i ≠ q.top + 1 then none else _) = _
   by_cases hb : q.top < 0 ∨ c.arg i ≠ q.top + 1
   ·rw [if_pos hb, if_pos (by omega)]; rfl
   ·rw [if_neg hb, if_neg (by omega)]
    rcases ht with ⟨h1, h2⟩ | ⟨h1, h2, h3, h4⟩
    ·omega
    ·have hk := hs.keep (wa := q.wa) (by omega)
     have := ih (i + 1) ⟨upd q.L i q.top, upd q.W i q.wa, q.m - 1, q.stk, q.wa⟩ (by omega) ⟨fun k hk' => hk.lt k (by simp only at hk' ⊢; omega), fun k hk' => hk.loop k (by simp only at hk' ⊢; omega), fun k hk' => hk.wait k (by simp only at hk' ⊢; omega), hk.wa⟩
     rw [← this]
     have a1 : upd q.L i q.top q.top.toNat = Rg.top ⟨upd q.L i q.top, upd q.W i q.wa, q.m - 1, q.stk, q.wa⟩ := by
      rw [upd_ne (by omega), h2, hs.loop _ (by omega)]
      unfold Rg.top
      simp only
     have a2 : upd q.W i q.wa q.top.toNat = q.wa := by
      rw [upd_ne (by omega), h2, hs.wait _ (by omega), hw]
     show plcP c r (i + 1) ⟨upd q.L i q.top, upd q.W i q.wa, upd q.L i q.top q.top.toNat, upd q.W i q.wa q.top.toNat⟩ = _
     rw [a1, a2]
     rfl
  rw [if_neg h17, if_neg h17, if_neg h19]
  by_cases h20 : c.op i = 20
  ·rw [if_pos h20, if_pos h20]
   have := hs.wa
   show (if q.wa = -1 ∨ c.arg i ≠ q.wa + 1 then none else _) = _
   by_cases hb : q.wa < 0 ∨ c.arg i ≠ q.wa + 1
   ·rw [if_pos hb, if_pos (by omega)]; rfl
   ·rw [if_neg hb, if_neg (by omega)]
    exact ih (i + 1) _ (by omega) (hs.keep (wa := -1) (.inl rfl))
  rw [if_neg h20, if_neg h20]
  exact ih (i + 1) _ (by omega) (hs.keep (wa := q.wa) (by have := hs.wa; omega))
theorem reg_stk (c : Cd) : ∀ (r i : Nat) (q q' : Rg), i + r = c.n → (∀ k, k < q.m → 0 ≤ q.stk k) → regR c r i q = some q' → ∀ k, k < q'.m → 0 ≤ q'.stk k := by
 intro r
 induction r with
 | zero => intro i q q' _ h e; cases e; exact h
 | succ r ih =>
  intro i q q' hi h e
  rw [regR] at e
  split at e
  ·cases e
  split at e
  ·refine ih (i + 1) _ _ (by omega) (fun k hk => ?_) e
   simp only at hk ⊢
   by_cases hk2 : k = q.m
   ·subst hk2; rw [upd_same]; omega
   ·rw [upd_ne hk2]; exact h k (by omega)
  split at e
  ·split at e
   ·cases e
   ·refine ih (i + 1) _ _ (by omega) ?_ e
    intro k hk
    simp only at hk ⊢
    exact h k (by omega)
  split at e
  ·refine ih (i + 1) _ _ (by omega) ?_ e
   exact h
  split at e
  ·split at e
   ·cases e
   ·refine ih (i + 1) _ _ (by omega) ?_ e
    exact h
  ·refine ih (i + 1) _ _ (by omega) ?_ e
   exact h
theorem plc_args (c : Cd) : ∀ (r i : Nat) (q q' : Rg), i + r = c.n → Stk i q → regR c r i q = some q' → ∀ j, i ≤ j → j < c.n → (c.op j = 17 ∨ c.op j = 20) → 1 ≤ c.arg j ∧ c.arg j ≤ (j : Int) := by
 intro r
 induction r with
 | zero => intro i q q' hi _ _ j h1 h2; omega
 | succ r ih =>
  intro i q q' hi hs e j hj1 hj2 hj
  have ht := top_cases hs
  have hwa := hs.wa
  rw [regR] at e
  split at e
  ·cases e
  rename_i hbad
  have impure : (c.op i = 16 ∨ c.op i = 17 ∨ c.op i = 19) → q.wa = -1 := by
   intro h
   have h1 : pureR (c.op i) = false := by unfold pureR; simp; omega
   by_cases hw : 0 ≤ q.wa
   ·exact absurd ⟨hw, by omega, h1⟩ hbad
   ·omega
  by_cases hji : j = i
  ·subst hji
   rcases hj with h | h
   ·rw [if_neg (by omega), if_pos h] at e
    split at e
    ·cases e
    ·omega
   ·rw [if_neg (by omega), if_neg (by omega), if_neg (by omega), if_pos h] at e
    split at e
    ·cases e
    ·omega
  split at e
  ·rename_i h16
   have hw := impure (.inl h16)
   refine ih (i + 1) _ _ (by omega) ?_ e j (by omega) hj2 hj
   refine ⟨fun k hk => ?_, fun k hk => ?_, fun k hk => ?_, by simp only; omega⟩
   ·simp only at hk ⊢
    by_cases hk2 : k = q.m
    ·subst hk2; rw [upd_same]; omega
    ·rw [upd_ne hk2]; have := hs.lt k (by omega); omega
   ·simp only at hk ⊢
    by_cases hk2 : k = q.m
    ·subst hk2
     rw [upd_same, Int.toNat_natCast, upd_same]
     by_cases h0 : 0 < q.m
     ·rw [if_pos h0, upd_ne (by omega)]; unfold Rg.top; rw [if_pos h0]
     ·rw [if_neg h0]; unfold Rg.top; rw [if_neg h0]
    ·have h1 := hs.lt k (by omega)
     have h2 := hs.loop k (by omega)
     rw [upd_ne hk2, upd_ne (by omega), h2]
     by_cases h0 : 0 < k
     ·rw [if_pos h0, if_pos h0, upd_ne (by omega)]
     ·rw [if_neg h0, if_neg h0]
   ·simp only at hk ⊢
    by_cases hk2 : k = q.m
    ·subst hk2
     rw [upd_same, Int.toNat_natCast, upd_same]; exact hw
    ·have h1 := hs.lt k (by omega)
     rw [upd_ne hk2, upd_ne (by omega)]; exact hs.wait k (by omega)
  split at e
  ·split at e
   ·cases e
   ·have hk := hs.keep (wa := q.wa) (by omega)
    refine ih (i + 1) _ _ (by omega) ?_ e j (by omega) hj2 hj
    exact ⟨fun k hk' => hk.lt k (by simp only at hk' ⊢; omega), fun k hk' => hk.loop k (by simp only at hk' ⊢; omega), fun k hk' => hk.wait k (by simp only at hk' ⊢; omega), hk.wa⟩
  split at e
  ·exact ih (i + 1) _ _ (by omega) (hs.keep (wa := (i : Int)) (by omega)) e j (by omega) hj2 hj
  split at e
  ·split at e
   ·cases e
   ·exact ih (i + 1) _ _ (by omega) (hs.keep (wa := -1) (.inl rfl)) e j (by omega) hj2 hj
  ·exact ih (i + 1) _ _ (by omega) (hs.keep (wa := q.wa) (by omega)) e j (by omega) hj2 hj
def effLo (o : Int) : Int := if o = 1 ∨ o = 2 ∨ o = 4 then 0 else if o = 3 ∨ o = 21 ∨ o = 22 ∨ o = 20 then 1 else if o = 9 ∨ o = 13 then 1 else if 5 ≤ o ∧ o ≤ 12 then 2 else if o = 14 then 0 else if o = 15 then 1 else 0
def effHi (o : Int) : Int := if o = 1 ∨ o = 2 ∨ o = 4 then 15 else if o = 3 ∨ o = 21 ∨ o = 22 ∨ o = 20 then 1 else if o = 9 ∨ o = 13 then 16 else if 5 ≤ o ∧ o ≤ 12 then 16 else if o = 14 then 16 else if o = 15 then 16 else 0
def effBy (o : Int) : Int := if o = 1 ∨ o = 2 ∨ o = 4 then 1 else if o = 3 ∨ o = 21 ∨ o = 22 ∨ o = 20 then -1 else if o = 9 ∨ o = 13 then 0 else if 5 ≤ o ∧ o ≤ 12 then -1 else if o = 14 then 0 else if o = 15 then -1 else 0
def leftV (o d : Int) : Int := if o = 1 ∨ o = 2 ∨ o = 4 then d + 1 else if (5 ≤ o ∧ o ≤ 8) ∨ (10 ≤ o ∧ o ≤ 12) then d - 1 else if o = 9 ∨ o = 13 then d else if o = 14 then d else if o = 15 then d - 1 else 0
def leftB (o d : Int) : Prop := if o = 1 ∨ o = 2 ∨ o = 4 then d < 16 else if (5 ≤ o ∧ o ≤ 8) ∨ (10 ≤ o ∧ o ≤ 12) then 2 ≤ d else if o = 9 ∨ o = 13 then 1 ≤ d else if o = 14 then True else if o = 15 then 1 ≤ d else if o = 3 ∨ o = 21 ∨ o = 22 ∨ o = 20 then d = 1 else d = 0
theorem eff_left {o d : Int} (ho : okOp o) (hd : d ≤ 16) : (effLo o ≤ d ∧ d ≤ effHi o) ↔ (0 ≤ d ∧ leftB o d) := by
 unfold okOp at ho
 unfold effLo effHi leftB
 by_cases h1 : o = 1 ∨ o = 2 ∨ o = 4
 ·simp only [if_pos h1]; (try simp only [true_and, and_true]); omega
 by_cases h3 : o = 3 ∨ o = 21 ∨ o = 22 ∨ o = 20
 ·simp only [if_neg h1, if_pos h3, if_neg (show ¬ ((5 ≤ o ∧ o ≤ 8) ∨ (10 ≤ o ∧ o ≤ 12)) by omega), if_neg (show ¬ (o = 9 ∨ o = 13) by omega), if_neg (show ¬ o = 14 by omega), if_neg (show ¬ o = 15 by omega)]; (try simp only [true_and, and_true]); omega
 by_cases h9 : o = 9 ∨ o = 13
 ·simp only [if_neg h1, if_neg h3, if_pos h9, if_neg (show ¬ ((5 ≤ o ∧ o ≤ 8) ∨ (10 ≤ o ∧ o ≤ 12)) by omega)]; (try simp only [true_and, and_true]); omega
 by_cases h5 : 5 ≤ o ∧ o ≤ 12
 ·simp only [if_neg h1, if_neg h3, if_neg h9, if_pos h5, if_pos (show ((5 ≤ o ∧ o ≤ 8) ∨ (10 ≤ o ∧ o ≤ 12)) by omega)]; (try simp only [true_and, and_true]); omega
 have h5' : ¬ ((5 ≤ o ∧ o ≤ 8) ∨ (10 ≤ o ∧ o ≤ 12)) := by omega
 by_cases h14 : o = 14
 ·simp only [if_neg h1, if_neg h3, if_neg h9, if_neg h5, if_neg h5', if_pos h14]; (try simp only [true_and, and_true]); omega
 by_cases h15 : o = 15
 ·simp only [if_neg h1, if_neg h3, if_neg h9, if_neg h5, if_neg h5', if_neg h14, if_pos h15]; (try simp only [true_and, and_true]); omega
 simp only [if_neg h1, if_neg h3, if_neg h9, if_neg h5, if_neg h5', if_neg h14, if_neg h15]; (try simp only [true_and, and_true]); omega
theorem eff_val {o d : Int} (ho : okOp o) (h0 : 0 ≤ d) (h16 : d ≤ 16) (hl : leftB o d) : d + effBy o = leftV o d ∧ 0 ≤ leftV o d ∧ leftV o d ≤ 16 := by
 unfold okOp at ho
 unfold leftB at hl
 unfold effBy leftV
 by_cases h1 : o = 1 ∨ o = 2 ∨ o = 4
 ·simp only [if_pos h1] at hl ⊢; (try simp only [true_and, and_true]); omega
 by_cases h3 : o = 3 ∨ o = 21 ∨ o = 22 ∨ o = 20
 ·simp only [if_neg h1, if_pos h3, if_neg (show ¬ ((5 ≤ o ∧ o ≤ 8) ∨ (10 ≤ o ∧ o ≤ 12)) by omega), if_neg (show ¬ (o = 9 ∨ o = 13) by omega), if_neg (show ¬ o = 14 by omega), if_neg (show ¬ o = 15 by omega)] at hl ⊢; (try simp only [true_and, and_true]); omega
 by_cases h9 : o = 9 ∨ o = 13
 ·simp only [if_neg h1, if_neg h3, if_pos h9, if_neg (show ¬ ((5 ≤ o ∧ o ≤ 8) ∨ (10 ≤ o ∧ o ≤ 12)) by omega)] at hl ⊢; (try simp only [true_and, and_true]); omega
 by_cases h5 : 5 ≤ o ∧ o ≤ 12
 ·simp only [if_neg h1, if_neg h3, if_neg h9, if_pos h5, if_pos (show ((5 ≤ o ∧ o ≤ 8) ∨ (10 ≤ o ∧ o ≤ 12)) by omega)] at hl ⊢; (try simp only [true_and, and_true]); omega
 have h5' : ¬ ((5 ≤ o ∧ o ≤ 8) ∨ (10 ≤ o ∧ o ≤ 12)) := by omega
 by_cases h14 : o = 14
 ·simp only [if_neg h1, if_neg h3, if_neg h9, if_neg h5, if_neg h5', if_pos h14] at hl ⊢; (try simp only [true_and, and_true]); omega
 by_cases h15 : o = 15
 ·simp only [if_neg h1, if_neg h3, if_neg h9, if_neg h5, if_neg h5', if_neg h14, if_pos h15] at hl ⊢; (try simp only [true_and, and_true]); omega
 simp only [if_neg h1, if_neg h3, if_neg h9, if_neg h5, if_neg h5', if_neg h14, if_neg h15] at hl ⊢; (try simp only [true_and, and_true]); omega
def jmp (o : Int) : Prop := o = 14 ∨ o = 15
instance (o : Int) : Decidable (jmp o) := by unfold jmp; infer_instance
def rchD (n : Nat) (dp : Nat → Int) (to d : Int) : Nat → Int := if to < n ∧ dp to.toNat = -1 then upd dp to.toNat d else dp
def rchB (n : Nat) (dp : Nat → Int) (to d : Int) : Prop := (n : Int) ≤ to ∨ rchD n dp to d to.toNat = d
def balP (c : Cd) : Nat → Nat → (Nat → Int) → Prop
 | 0, _, _ => True
 | r + 1, i, dp => (okOp (c.op i) ∧ effLo (c.op i) ≤ dp i ∧ dp i ≤ effHi (c.op i)) ∧
  (jmp (c.op i) → rchB c.n dp (c.arg i) (dp i + effBy (c.op i))) ∧
  (c.op i ≠ 14 → rchB c.n (if jmp (c.op i) then rchD c.n dp (c.arg i) (dp i + effBy (c.op i)) else dp) ((i + 1 : Nat) : Int) (dp i + effBy (c.op i))) ∧
  balP c r (i + 1) (if c.op i ≠ 14 then rchD c.n (if jmp (c.op i) then rchD c.n dp (c.arg i) (dp i + effBy (c.op i)) else dp) ((i + 1 : Nat) : Int) (dp i + effBy (c.op i)) else (if jmp (c.op i) then rchD c.n dp (c.arg i) (dp i + effBy (c.op i)) else dp))
def bad (dp : Nat → Int) (t : Nat) (d : Int) : Prop := 0 ≤ dp t ∧ dp t ≠ d
def depR (c : Cd) : Nat → Nat → (Nat → Int) → Prop
 | 0, _, _ => True
 | r + 1, i, dp => (0 ≤ dp i ∧ leftB (c.op i) (dp i)) ∧
  ((c.op i ≠ 14 ∧ i + 1 < c.n) → ¬ bad dp (i + 1) (leftV (c.op i) (dp i))) ∧
  (jmp (c.op i) → ¬ bad (if c.op i ≠ 14 ∧ i + 1 < c.n then upd dp (i + 1) (leftV (c.op i) (dp i)) else dp) (c.arg i).toNat (leftV (c.op i) (dp i))) ∧
  depR c r (i + 1) (if jmp (c.op i) then upd (if c.op i ≠ 14 ∧ i + 1 < c.n then upd dp (i + 1) (leftV (c.op i) (dp i)) else dp) (c.arg i).toNat (leftV (c.op i) (dp i)) else (if c.op i ≠ 14 ∧ i + 1 < c.n then upd dp (i + 1) (leftV (c.op i) (dp i)) else dp))
def Dv (dp : Nat → Int) : Prop := ∀ t, dp t = -1 ∨ (0 ≤ dp t ∧ dp t ≤ 16)
theorem Dv.upd {dp : Nat → Int} (h : Dv dp) {t : Nat} {d : Int} (h0 : 0 ≤ d) (h1 : d ≤ 16) : Dv (Cv.upd dp t d) := by
 intro j
 unfold Cv.upd
 split
 ·exact .inr ⟨h0, h1⟩
 ·exact h j
theorem rch_iff {n : Nat} {dp : Nat → Int} {to d : Int} (h : Dv dp) (h0 : 0 ≤ to) (hn : to < n) (hd : 0 ≤ d) (X : (Nat → Int) → Prop) : (rchB n dp to d ∧ X (rchD n dp to d)) ↔ (¬ bad dp to.toNat d ∧ X (upd dp to.toNat d)) := by
 have hv := h to.toNat
 unfold rchB rchD bad
 by_cases hm : dp to.toNat = -1
 ·rw [if_pos ⟨hn, hm⟩, upd_same]
  constructor
  ·rintro ⟨_, hx⟩; exact ⟨fun hb => by omega, hx⟩
  ·rintro ⟨_, hx⟩; exact ⟨.inr rfl, hx⟩
 ·rw [if_neg (fun hb => hm hb.2)]
  constructor
  ·rintro ⟨h1, hx⟩
   have h2 : dp to.toNat = d := by omega
   exact ⟨fun hb => hb.2 h2, by rw [upd_id h2]; exact hx⟩
  ·rintro ⟨h1, hx⟩
   have h2 : dp to.toNat = d := by
    rcases hv with hv | hv
    ·exact absurd hv hm
    ·exact Classical.not_not.1 fun h3 => h1 ⟨hv.1, h3⟩
   exact ⟨.inr h2, by rw [upd_id h2] at hx; exact hx⟩
theorem rch_end {n : Nat} {dp : Nat → Int} {d : Int} : rchB n dp ((n : Nat) : Int) d ∧ rchD n dp ((n : Nat) : Int) d = dp := by
 unfold rchB rchD
 exact ⟨.inl (Int.le_refl _), if_neg (by omega)⟩
theorem upd_comm {f : Nat → Int} {a b : Nat} {d : Int} : upd (upd f a d) b d = upd (upd f b d) a d := by
 funext j
 unfold upd
 split <;> split <;> simp_all
theorem bal_dep (c : Cd) (hok : ∀ i, i < c.n → okOp (c.op i)) (harg : ∀ i, i < c.n → jmp (c.op i) → (i : Int) + 1 ≤ c.arg i ∧ c.arg i ≤ (c.n : Int) - 1) : ∀ (r i : Nat) (dp : Nat → Int), i + r = c.n → Dv dp → (balP c r i dp ↔ depR c r i dp) := by
 intro r
 induction r with
 | zero => intro i dp _ _; exact Iff.rfl
 | succ r ih =>
  intro i dp hi hv
  have ho := hok i (by omega)
  have hvi := hv i
  have h16 : dp i ≤ 16 := by omega
  rw [balP, depR]
  have e1 := eff_left ho h16
  by_cases hl' : ¬ (0 ≤ dp i ∧ leftB (c.op i) (dp i))
  ·constructor
   ·rintro ⟨⟨_, h2⟩, _⟩; exact absurd (e1.1 h2) hl'
   ·rintro ⟨h2, _⟩; exact absurd h2 hl'
  have hl := Classical.not_not.1 hl'
  obtain ⟨v1, v2, v3⟩ := eff_val ho hl.1 h16 hl.2
  have hA : (okOp (c.op i) ∧ effLo (c.op i) ≤ dp i ∧ dp i ≤ effHi (c.op i)) ↔ (0 ≤ dp i ∧ leftB (c.op i) (dp i)) := ⟨fun _ => hl, fun _ => ⟨ho, e1.2 hl⟩⟩
  rw [hA, v1]
  refine and_congr_right fun _ => ?_
  generalize leftV (c.op i) (dp i) = d at *
  by_cases hj : jmp (c.op i)
  ·obtain ⟨a1, a2⟩ := harg i (by omega) hj
   simp only [hj, if_true, true_implies]
   by_cases h14 : c.op i = 14
   ·simp only [h14, ne_eq, not_true_eq_false, false_and, if_false, false_implies, true_and]
    rw [rch_iff hv (by omega) (by omega) v2 (fun f => balP c r (i + 1) f)]
    exact and_congr_right fun _ => ih (i + 1) _ (by omega) (hv.upd v2 v3)
   ·have hin : c.op i ≠ 14 ∧ i + 1 < c.n := ⟨h14, by omega⟩
    simp only [h14, ne_eq, not_false_eq_true, true_and, if_true, true_implies, show i + 1 < c.n from hin.2]
    have key1 := rch_iff (n := c.n) hv (to := c.arg i) (by omega) (by omega) v2 (fun f => rchB c.n f ((i + 1 : Nat) : Int) d ∧ balP c r (i + 1) (rchD c.n f ((i + 1 : Nat) : Int) d))
    have key2 := rch_iff (n := c.n) (hv.upd (t := (c.arg i).toNat) v2 v3) (to := ((i + 1 : Nat) : Int)) (by omega) (by omega) v2 (fun f => balP c r (i + 1) f)
    rw [key1, key2, Int.toNat_natCast, upd_comm, ih (i + 1) _ (by omega) ((hv.upd v2 v3).upd v2 v3)]
    have hb : ∀ x y : Nat, (¬ bad dp x d ∧ ¬ bad (upd dp x d) y d) ↔ (¬ bad dp x d ∧ ¬ bad dp y d) := by
     intro x y
     refine and_congr_right fun hx => ?_
     by_cases hxy : y = x
     ·subst hxy
      refine ⟨fun _ => hx, fun _ h => h.2 (upd_same _ _ _)⟩
     ·unfold bad; rw [upd_ne hxy]
    constructor
    ·rintro ⟨p1, p2, p3⟩
     have := (hb _ _).1 ⟨p1, p2⟩
     have q := (hb (i + 1) (c.arg i).toNat).2 ⟨this.2, this.1⟩
     exact ⟨q.1, q.2, p3⟩
    ·rintro ⟨p1, p2, p3⟩
     have := (hb _ _).1 ⟨p1, p2⟩
     have q := (hb (c.arg i).toNat (i + 1)).2 ⟨this.2, this.1⟩
     exact ⟨q.1, q.2, p3⟩
  ·have h14 : c.op i ≠ 14 := fun h => hj (.inl h)
   simp only [hj, if_false, false_implies, true_and]
   by_cases hin : i + 1 < c.n
   ·simp only [h14, ne_eq, not_false_eq_true, true_and, hin, if_true, true_implies]
    rw [rch_iff hv (by omega) (by omega) v2 (fun f => balP c r (i + 1) f), Int.toNat_natCast]
    exact and_congr_right fun _ => ih (i + 1) _ (by omega) (hv.upd v2 v3)
   ·have hn : i + 1 = c.n := by omega
    simp only [h14, ne_eq, not_false_eq_true, true_and, hin, if_true, if_false, true_implies, false_implies]
    rw [hn]
    obtain ⟨g1, g2⟩ := rch_end (n := c.n) (dp := dp) (d := d)
    rw [g2]
    have hr : r = 0 := by omega
    subst hr
    exact ⟨fun h => h.2, fun h => ⟨g1, h⟩⟩
theorem bal_ok (c : Cd) : ∀ (r i : Nat) (dp : Nat → Int), balP c r i dp → ∀ j, i ≤ j → j < i + r → okOp (c.op j) := by
 intro r
 induction r with
 | zero => intro i dp _ j h1 h2; omega
 | succ r ih =>
  intro i dp h j h1 h2
  rw [balP] at h
  by_cases hj : j = i
  ·subst hj; exact h.1.1
  ·exact ih (i + 1) _ h.2.2.2 j (by omega) (by omega)
def zero : Nat → Int := fun _ => 0
def dp0 : Nat → Int := fun j => if j = 0 then 0 else -1
def jmps (c : Cd) (oL oW : Nat → Int) : Prop := ∀ i, i < c.n → jmp (c.op i) → oL (c.arg i).toNat = oL i ∧ oW (c.arg i).toNat = oW i
def VP (c : Cd) : Prop := (∀ i, i < c.n → rng c i ∧ stopOk c i) ∧ (∃ q, plcP c c.n 0 ⟨zero, zero, -1, -1⟩ = some q ∧ (q.lo = -1 ∧ q.wa = -1) ∧ jmps c q.oL q.oW) ∧ balP c c.n 0 dp0
def VR (c : Cd) : Prop := (∀ i, i < c.n → stopOk c i ∧ opnd c i) ∧ (∃ q, regR c c.n 0 ⟨zero, zero, 0, zero, -1⟩ = some q ∧ (q.m = 0 ∧ q.wa < 0) ∧ jmps c q.L q.W) ∧ depR c c.n 0 dp0
theorem Dv0 : Dv dp0 := by
 intro t
 unfold dp0
 split
 ·exact .inr ⟨by decide, by decide⟩
 ·exact .inl rfl
theorem Stk0 : Stk 0 ⟨zero, zero, 0, zero, -1⟩ := ⟨fun k hk => by simp at hk, fun k hk => by simp at hk, fun k hk => by simp at hk, .inl rfl⟩
theorem reg_wa (c : Cd) : ∀ (r i : Nat) (q q' : Rg), (q.wa = -1 ∨ 0 ≤ q.wa) → regR c r i q = some q' → (q'.wa = -1 ∨ 0 ≤ q'.wa) := by
 intro r
 induction r with
 | zero => intro i q q' h e; cases e; exact h
 | succ r ih =>
  intro i q q' h e
  rw [regR] at e
  split at e
  ·cases e
  split at e
  ·refine ih (i + 1) _ _ ?_ e
   exact h
  split at e
  ·split at e
   ·cases e
   ·refine ih (i + 1) _ _ ?_ e
    exact h
  split at e
  ·refine ih (i + 1) _ _ ?_ e
   right; simp only; omega
  split at e
  ·split at e
   ·cases e
   ·refine ih (i + 1) _ _ ?_ e
    exact .inl rfl
  ·refine ih (i + 1) _ _ ?_ e
   exact h
theorem VP_VR (c : Cd) : VP c ↔ VR c := by
 have fin : ∀ q, regR c c.n 0 ⟨zero, zero, 0, zero, -1⟩ = some q → ((q.top = -1 ∧ q.wa = -1) ↔ (q.m = 0 ∧ q.wa < 0)) := by
  intro q hq
  have h1 := reg_stk c c.n 0 _ q (by omega) (fun k hk => by simp at hk) hq
  have h2 := reg_wa c c.n 0 _ q (.inl rfl) hq
  unfold Rg.top
  by_cases hm : 0 < q.m
  ·have := h1 (q.m - 1) (by omega)
   rw [if_pos hm]; omega
  ·rw [if_neg hm]; omega
 constructor
 ·rintro ⟨h1, ⟨q, h2, h3, h4⟩, h5⟩
  have hok : ∀ i, i < c.n → okOp (c.op i) := fun i hi => bal_ok c c.n 0 dp0 h5 i (by omega) (by omega)
  have harg : ∀ i, i < c.n → jmp (c.op i) → (i : Int) + 1 ≤ c.arg i ∧ c.arg i ≤ (c.n : Int) - 1 := fun i hi hj => rng_jump hj (h1 i hi).1
  have e := plc_reg c hok c.n 0 ⟨zero, zero, 0, zero, -1⟩ (by omega) Stk0
  have e0 : Rg.pl ⟨zero, zero, 0, zero, -1⟩ = ⟨zero, zero, -1, -1⟩ := rfl
  rw [e0, h2] at e
  obtain ⟨q', g1, g2⟩ : ∃ q', regR c c.n 0 ⟨zero, zero, 0, zero, -1⟩ = some q' ∧ q'.pl = q := by
   cases hr : regR c c.n 0 ⟨zero, zero, 0, zero, -1⟩ with
   | none => rw [hr] at e; cases e
   | some q' => rw [hr] at e; simp only [Option.map_some, Option.some.injEq] at e; exact ⟨q', rfl, e.symm⟩
  subst g2
  refine ⟨fun i hi => ⟨(h1 i hi).2, ?_⟩, ⟨q', g1, (fin q' g1).1 h3, h4⟩, (bal_dep c hok harg c.n 0 dp0 (by omega) Dv0).1 h5⟩
  by_cases h17 : c.op i = 17 ∨ c.op i = 20
  ·exact opnd_17 h17
  ·exact (opnd_rng (hok i hi) (fun h => h17 (.inl h)) (fun h => h17 (.inr h))).2 (h1 i hi).1
 ·rintro ⟨h1, ⟨q, h2, h3, h4⟩, h5⟩
  have hok : ∀ i, i < c.n → okOp (c.op i) := fun i hi => opnd_ok (h1 i hi).2
  have hr : ∀ i, i < c.n → rng c i := by
   intro i hi
   by_cases h17 : c.op i = 17 ∨ c.op i = 20
   ·exact (rng_17 h17).2 (plc_args c c.n 0 _ q (by omega) Stk0 h2 i (by omega) hi h17)
   ·exact (opnd_rng (hok i hi) (fun h => h17 (.inl h)) (fun h => h17 (.inr h))).1 (h1 i hi).2
  have harg : ∀ i, i < c.n → jmp (c.op i) → (i : Int) + 1 ≤ c.arg i ∧ c.arg i ≤ (c.n : Int) - 1 := fun i hi hj => rng_jump hj (hr i hi)
  have e := plc_reg c hok c.n 0 ⟨zero, zero, 0, zero, -1⟩ (by omega) Stk0
  rw [h2] at e
  exact ⟨fun i hi => ⟨hr i hi, (h1 i hi).1⟩, ⟨q.pl, e, (fin q h2).2 h3, h4⟩, (bal_dep c hok harg c.n 0 dp0 (by omega) Dv0).2 h5⟩
end Go.Proofs.Cv
/- What the small functions of the two checks of code compute. -/
namespace Go.Proofs.YthkioinnobiieaaGreatDoor
open Go Go.Am Go.Proofs
set_option linter.unusedSimpArgs false
set_option linter.unusedVariables false
set_option maxRecDepth 100000
def ins (op arg : Nat → Int) : Nat → List V := fun j => [i64 (op j), i64 (arg j)]
noncomputable def E2 : Env := { P := Tryz.prog, glob := fun _ => none, ext := fun _ _ => none, way := way, lit := litF, code := fun f => (Tryz.prog.funcs[f]?).bind annF, sett := fun _ => true, allR := true }
set_option maxRecDepth 100000 in
theorem hW2 : WF E2 := WF.of E2 (fun _ => rfl) (by kernel_rfl)
theorem hX2 : SoundX E2 := SoundX.none fun _ _ => rfl
theorem sc2 {f : FuncId} {args : List V} {L : List (Option Chunk)} {cr : CRes} (h : SC E2 f args L cr) : SC E f args L cr :=
 ⟨h.1, fun β S w us h1 h2 h3 => h.2 β S w us h1 h2 ⟨fun g cs h => (by cases h), fun p hp => (by cases hp)⟩⟩
def K : CRes → Option Ans := fun r => some (.c r)
theorem SC.g2 {n : Nat} {f : FuncId} {args : List V} {L : List (Option Chunk)} {cr : CRes} (h : callG E2 n f args L K = some (.c cr)) : SC E2 f args L cr := by
 obtain ⟨cr', e1, e2⟩ := (sound_G hW2 hX2 n).1 _ _ _ _ _ h
 simp only [K, Option.some.injEq, Ans.c.injEq] at e1
 rwa [e1] at e2
abbrev w (n : Int) : Int := IntKind.wrap .i64 n
theorem w_in {n : Int} (h : inR n) : w n = n := by
 unfold w; rw [IntKind.wrap_i64]; unfold inR at h; omega
def jk (n : Nat) : List V := List.replicate n .junk
def codV (nm : ByteArray) (ps vs : Int) (n : Nat) (op arg : Nat → Int) : V := .agg [st nm, i64 ps, i64 vs, .ro 2 n (ins op arg)]
theorem g82 (o : Int) : callG E2 20 109 [i64 o] [] K =
 if (o == (1 : Int)) = true then
 some (Ans.c (CRes.ret (bo true) []))
 else
 if (o == (2 : Int)) = true then
 some (Ans.c (CRes.ret (bo true) []))
 else
 if (o == (4 : Int)) = true then
 some (Ans.c (CRes.ret (bo true) []))
 else
 if decide (o ≥ (5 : Int)) = true then
 if decide (o ≤ (13 : Int)) = true then
 some (Ans.c (CRes.ret (bo true) []))
 else
 if (o == (14 : Int)) = true then
 some (Ans.c (CRes.ret (bo true) []))
 else
 some (Ans.c (CRes.ret (bo ((o == (15 : Int)))) []))
 else
 if (o == (14 : Int)) = true then
 some (Ans.c (CRes.ret (bo true) []))
 else
 some (Ans.c (CRes.ret (bo ((o == (15 : Int)))) [])) := by kernel_rfl

theorem g83 (o d : Int) : callG E2 20 110 [i64 o, i64 d] [] K =
 if (o == (1 : Int)) = true then
 some (Ans.c (CRes.ret (V.tup [i64 (w (d + (1 : Int))), bo ((decide (d < (16 : Int))))]) []))
 else
 if (o == (2 : Int)) = true then
 some (Ans.c (CRes.ret (V.tup [i64 (w (d + (1 : Int))), bo ((decide (d < (16 : Int))))]) []))
 else
 if (o == (4 : Int)) = true then
 some (Ans.c (CRes.ret (V.tup [i64 (w (d + (1 : Int))), bo ((decide (d < (16 : Int))))]) []))
 else
 if (o == (5 : Int)) = true then
 some (Ans.c (CRes.ret (V.tup [i64 (w (d - (1 : Int))), bo ((decide (d ≥ (2 : Int))))]) []))
 else
 if (o == (6 : Int)) = true then
 some (Ans.c (CRes.ret (V.tup [i64 (w (d - (1 : Int))), bo ((decide (d ≥ (2 : Int))))]) []))
 else
 if (o == (7 : Int)) = true then
 some (Ans.c (CRes.ret (V.tup [i64 (w (d - (1 : Int))), bo ((decide (d ≥ (2 : Int))))]) []))
 else
 if (o == (8 : Int)) = true then
 some (Ans.c (CRes.ret (V.tup [i64 (w (d - (1 : Int))), bo ((decide (d ≥ (2 : Int))))]) []))
 else
 if (o == (10 : Int)) = true then
 some (Ans.c (CRes.ret (V.tup [i64 (w (d - (1 : Int))), bo ((decide (d ≥ (2 : Int))))]) []))
 else
 if (o == (11 : Int)) = true then
 some (Ans.c (CRes.ret (V.tup [i64 (w (d - (1 : Int))), bo ((decide (d ≥ (2 : Int))))]) []))
 else
 if (o == (12 : Int)) = true then
 some (Ans.c (CRes.ret (V.tup [i64 (w (d - (1 : Int))), bo ((decide (d ≥ (2 : Int))))]) []))
 else
 if (o == (9 : Int)) = true then
 some (Ans.c (CRes.ret (V.tup [i64 d, bo ((decide (d ≥ (1 : Int))))]) []))
 else
 if (o == (13 : Int)) = true then
 some (Ans.c (CRes.ret (V.tup [i64 d, bo ((decide (d ≥ (1 : Int))))]) []))
 else
 if (o == (14 : Int)) = true then
 some (Ans.c (CRes.ret (V.tup [i64 d, bo true]) []))
 else
 if (o == (15 : Int)) = true then
 some (Ans.c (CRes.ret (V.tup [i64 (w (d - (1 : Int))), bo ((decide (d ≥ (1 : Int))))]) []))
 else
 if (o == (3 : Int)) = true then
 some (Ans.c (CRes.ret (V.tup [i64 0, bo ((d == (1 : Int)))]) []))
 else
 if (o == (21 : Int)) = true then
 some (Ans.c (CRes.ret (V.tup [i64 0, bo ((d == (1 : Int)))]) []))
 else
 if (o == (22 : Int)) = true then
 some (Ans.c (CRes.ret (V.tup [i64 0, bo ((d == (1 : Int)))]) []))
 else
 if (o == (20 : Int)) = true then
 some (Ans.c (CRes.ret (V.tup [i64 0, bo ((d == (1 : Int)))]) []))
 else
 some (Ans.c (CRes.ret (V.tup [i64 0, bo ((d == (0 : Int)))]) [])) := by kernel_rfl

theorem g78 (nm : ByteArray) (ps vs : Int) (n : Nat) (op arg : Nat → Int) (i : Nat) : callG E2 20 86 [codV nm ps vs n op arg, i64 i] [] K =
 if (0 : Int) ≤ (i : Int) ∧ (i : Int) < (n : Int) then
 if (0 : Int) ≤ (i : Int) ∧ (i : Int) < (n : Int) then
 if (op (Int.toNat (i : Int)) == (1 : Int)) = true then
 if decide (arg (Int.toNat (i : Int)) ≥ (-2147483647 : Int)) = true then
 some (Ans.c (CRes.ret (bo ((decide (arg (Int.toNat (i : Int)) ≤ (2147483647 : Int))))) []))
 else
 some (Ans.c (CRes.ret (bo false) []))
 else
 if (op (Int.toNat (i : Int)) == (2 : Int)) = true then
 if decide (arg (Int.toNat (i : Int)) ≥ (0 : Int)) = true then
 some (Ans.c (CRes.ret (bo ((decide (arg (Int.toNat (i : Int)) ≤ w (vs - (1 : Int)))))) []))
 else
 some (Ans.c (CRes.ret (bo false) []))
 else
 if (op (Int.toNat (i : Int)) == (3 : Int)) = true then
 if decide (arg (Int.toNat (i : Int)) ≥ (0 : Int)) = true then
 some (Ans.c (CRes.ret (bo ((decide (arg (Int.toNat (i : Int)) ≤ w (vs - (1 : Int)))))) []))
 else
 some (Ans.c (CRes.ret (bo false) []))
 else
 if (op (Int.toNat (i : Int)) == (4 : Int)) = true then
 if decide (arg (Int.toNat (i : Int)) ≥ (0 : Int)) = true then
 some (Ans.c (CRes.ret (bo ((decide (arg (Int.toNat (i : Int)) ≤ (5 : Int))))) []))
 else
 some (Ans.c (CRes.ret (bo false) []))
 else
 if (op (Int.toNat (i : Int)) == (5 : Int)) = true then
 some (Ans.c (CRes.ret (bo ((arg (Int.toNat (i : Int)) == (0 : Int)))) []))
 else
 if (op (Int.toNat (i : Int)) == (6 : Int)) = true then
 some (Ans.c (CRes.ret (bo ((arg (Int.toNat (i : Int)) == (0 : Int)))) []))
 else
 if (op (Int.toNat (i : Int)) == (7 : Int)) = true then
 some (Ans.c (CRes.ret (bo ((arg (Int.toNat (i : Int)) == (0 : Int)))) []))
 else
 if (op (Int.toNat (i : Int)) == (8 : Int)) = true then
 some (Ans.c (CRes.ret (bo ((arg (Int.toNat (i : Int)) == (0 : Int)))) []))
 else
 if (op (Int.toNat (i : Int)) == (9 : Int)) = true then
 some (Ans.c (CRes.ret (bo ((arg (Int.toNat (i : Int)) == (0 : Int)))) []))
 else
 if (op (Int.toNat (i : Int)) == (10 : Int)) = true then
 some (Ans.c (CRes.ret (bo ((arg (Int.toNat (i : Int)) == (0 : Int)))) []))
 else
 if (op (Int.toNat (i : Int)) == (11 : Int)) = true then
 some (Ans.c (CRes.ret (bo ((arg (Int.toNat (i : Int)) == (0 : Int)))) []))
 else
 if (op (Int.toNat (i : Int)) == (12 : Int)) = true then
 some (Ans.c (CRes.ret (bo ((arg (Int.toNat (i : Int)) == (0 : Int)))) []))
 else
 if (op (Int.toNat (i : Int)) == (13 : Int)) = true then
 some (Ans.c (CRes.ret (bo ((arg (Int.toNat (i : Int)) == (0 : Int)))) []))
 else
 if (op (Int.toNat (i : Int)) == (21 : Int)) = true then
 some (Ans.c (CRes.ret (bo ((arg (Int.toNat (i : Int)) == (0 : Int)))) []))
 else
 if (op (Int.toNat (i : Int)) == (22 : Int)) = true then
 some (Ans.c (CRes.ret (bo ((arg (Int.toNat (i : Int)) == (0 : Int)))) []))
 else
 if (op (Int.toNat (i : Int)) == (28 : Int)) = true then
 some (Ans.c (CRes.ret (bo ((arg (Int.toNat (i : Int)) == (0 : Int)))) []))
 else
 if (op (Int.toNat (i : Int)) == (14 : Int)) = true then
 if decide (arg (Int.toNat (i : Int)) ≥ w ((i : Int) + (1 : Int))) = true then
 some (Ans.c (CRes.ret (bo ((decide (arg (Int.toNat (i : Int)) ≤ w ((n : Int) - (1 : Int)))))) []))
 else
 some (Ans.c (CRes.ret (bo false) []))
 else
 if (op (Int.toNat (i : Int)) == (15 : Int)) = true then
 if decide (arg (Int.toNat (i : Int)) ≥ w ((i : Int) + (1 : Int))) = true then
 some (Ans.c (CRes.ret (bo ((decide (arg (Int.toNat (i : Int)) ≤ w ((n : Int) - (1 : Int)))))) []))
 else
 some (Ans.c (CRes.ret (bo false) []))
 else
 if (op (Int.toNat (i : Int)) == (16 : Int)) = true then
 if decide (arg (Int.toNat (i : Int)) ≥ (1 : Int)) = true then
 some (Ans.c (CRes.ret (bo ((decide (arg (Int.toNat (i : Int)) ≤ (100 : Int))))) []))
 else
 some (Ans.c (CRes.ret (bo false) []))
 else
 if (op (Int.toNat (i : Int)) == (18 : Int)) = true then
 if decide (arg (Int.toNat (i : Int)) ≥ (0 : Int)) = true then
 some (Ans.c (CRes.ret (bo ((decide (arg (Int.toNat (i : Int)) ≤ (1000000 : Int))))) []))
 else
 some (Ans.c (CRes.ret (bo false) []))
 else
 if (op (Int.toNat (i : Int)) == (19 : Int)) = true then
 if decide (arg (Int.toNat (i : Int)) ≥ (0 : Int)) = true then
 some (Ans.c (CRes.ret (bo ((decide (arg (Int.toNat (i : Int)) ≤ (1000000 : Int))))) []))
 else
 some (Ans.c (CRes.ret (bo false) []))
 else
 if (op (Int.toNat (i : Int)) == (23 : Int)) = true then
 if decide (arg (Int.toNat (i : Int)) ≥ (0 : Int)) = true then
 some (Ans.c (CRes.ret (bo ((decide (arg (Int.toNat (i : Int)) ≤ (7999999 : Int))))) []))
 else
 some (Ans.c (CRes.ret (bo false) []))
 else
 if (op (Int.toNat (i : Int)) == (24 : Int)) = true then
 if decide (arg (Int.toNat (i : Int)) ≥ (0 : Int)) = true then
 some (Ans.c (CRes.ret (bo ((decide (arg (Int.toNat (i : Int)) ≤ (2147483647 : Int))))) []))
 else
 some (Ans.c (CRes.ret (bo false) []))
 else
 if (op (Int.toNat (i : Int)) == (25 : Int)) = true then
 if decide (arg (Int.toNat (i : Int)) ≥ (0 : Int)) = true then
 some (Ans.c (CRes.ret (bo ((decide (arg (Int.toNat (i : Int)) ≤ (2147483647 : Int))))) []))
 else
 some (Ans.c (CRes.ret (bo false) []))
 else
 if (op (Int.toNat (i : Int)) == (26 : Int)) = true then
 if decide (arg (Int.toNat (i : Int)) ≥ (0 : Int)) = true then
 some (Ans.c (CRes.ret (bo ((decide (arg (Int.toNat (i : Int)) ≤ (99 : Int))))) []))
 else
 some (Ans.c (CRes.ret (bo false) []))
 else
 if (op (Int.toNat (i : Int)) == (27 : Int)) = true then
 if decide (arg (Int.toNat (i : Int)) ≥ (0 : Int)) = true then
 some (Ans.c (CRes.ret (bo ((decide (arg (Int.toNat (i : Int)) ≤ (999 : Int))))) []))
 else
 some (Ans.c (CRes.ret (bo false) []))
 else
 if (0 : Int) ≤ (i : Int) ∧ (i : Int) < (n : Int) then
 if (op (Int.toNat (i : Int)) == (17 : Int)) = true then
 some (Ans.c (CRes.ret (bo true) []))
 else
 if (0 : Int) ≤ (i : Int) ∧ (i : Int) < (n : Int) then
 some (Ans.c (CRes.ret (bo ((op (Int.toNat (i : Int)) == (20 : Int)))) []))
 else
 none
 else
 none
 else
 none
 else
 none := by kernel_rfl

theorem pureR_sc (o : Int) : SC E2 109 [i64 o] [] (.ret (bo (Cv.pureR o)) []) := by
 refine SC.g2 (n := 20) ((g82 o).trans ?_)
 unfold Cv.pureR
 by_cases h1 : o = 1
 ·subst h1; rfl
 rw [if_neg (by simpa using h1)]
 by_cases h2 : o = 2
 ·subst h2; rfl
 rw [if_neg (by simpa using h2)]
 by_cases h4 : o = 4
 ·subst h4; rfl
 rw [if_neg (by simpa using h4)]
 by_cases h14 : o = 14
 ·subst h14; rfl
 by_cases h15 : o = 15
 ·subst h15; rfl
 by_cases h5 : 5 ≤ o
 ·rw [if_pos (by simpa using h5)]
  by_cases h13 : o ≤ 13
  ·rw [if_pos (by simpa using h13)]; simp [h5, h13]
  ·rw [if_neg (by simpa using h13), if_neg (by simpa using h14)]; simp [h1, h2, h4, h13, h14, h15]
 ·rw [if_neg (by simpa using h5), if_neg (by simpa using h14)]; simp [h1, h2, h4, h5, h14, h15]
open Classical in
noncomputable def leftD (o d : Int) : Bool := decide (Cv.leftB o d)
open Classical in
theorem leftD_iff (o d : Int) (b : Bool) (h : b = true ↔ Cv.leftB o d) : b = leftD o d := by
 unfold leftD
 rw [Bool.eq_iff_iff, h, decide_eq_true_eq]
theorem left_sc {o d : Int} (h0 : -1 ≤ d) (hd : d ≤ 16) : SC E2 110 [i64 o, i64 d] [] (.ret (.tup [i64 (Cv.leftV o d), bo (leftD o d)]) []) := by
 refine SC.g2 (n := 20) ((g83 o d).trans ?_)
 have e1 : w (d + 1) = d + 1 := w_in (by unfold inR; omega)
 have e2 : w (d - 1) = d - 1 := w_in (by unfold inR; omega)
 simp only [e1, e2]
 have fin : ∀ v (b : Bool), v = Cv.leftV o d → (b = true ↔ Cv.leftB o d) → some (Ans.c (CRes.ret (V.tup [i64 v, bo b]) [])) = some (Ans.c (CRes.ret (V.tup [i64 (Cv.leftV o d), bo (leftD o d)]) [])) := by
  intro v b h1 h2
  rw [h1, leftD_iff o d b h2]
 by_cases h1 : o = 1
 ·subst h1; exact fin _ _ (by simp [Cv.leftV]) (by simp [Cv.leftB])
 rw [if_neg (show ¬ (o == (1 : Int)) = true by simpa using h1)]
 by_cases h2 : o = 2
 ·subst h2; exact fin _ _ (by simp [Cv.leftV]) (by simp [Cv.leftB])
 rw [if_neg (show ¬ (o == (2 : Int)) = true by simpa using h2)]
 by_cases h4 : o = 4
 ·subst h4; exact fin _ _ (by simp [Cv.leftV]) (by simp [Cv.leftB])
 rw [if_neg (show ¬ (o == (4 : Int)) = true by simpa using h4)]
 by_cases h5 : o = 5
 ·subst h5; exact fin _ _ (by simp [Cv.leftV]) (by simp [Cv.leftB])
 rw [if_neg (show ¬ (o == (5 : Int)) = true by simpa using h5)]
 by_cases h6 : o = 6
 ·subst h6; exact fin _ _ (by simp [Cv.leftV]) (by simp [Cv.leftB])
 rw [if_neg (show ¬ (o == (6 : Int)) = true by simpa using h6)]
 by_cases h7 : o = 7
 ·subst h7; exact fin _ _ (by simp [Cv.leftV]) (by simp [Cv.leftB])
 rw [if_neg (show ¬ (o == (7 : Int)) = true by simpa using h7)]
 by_cases h8 : o = 8
 ·subst h8; exact fin _ _ (by simp [Cv.leftV]) (by simp [Cv.leftB])
 rw [if_neg (show ¬ (o == (8 : Int)) = true by simpa using h8)]
 by_cases h10 : o = 10
 ·subst h10; exact fin _ _ (by simp [Cv.leftV]) (by simp [Cv.leftB])
 rw [if_neg (show ¬ (o == (10 : Int)) = true by simpa using h10)]
 by_cases h11 : o = 11
 ·subst h11; exact fin _ _ (by simp [Cv.leftV]) (by simp [Cv.leftB])
 rw [if_neg (show ¬ (o == (11 : Int)) = true by simpa using h11)]
 by_cases h12 : o = 12
 ·subst h12; exact fin _ _ (by simp [Cv.leftV]) (by simp [Cv.leftB])
 rw [if_neg (show ¬ (o == (12 : Int)) = true by simpa using h12)]
 by_cases h9 : o = 9
 ·subst h9; exact fin _ _ (by simp [Cv.leftV]) (by simp [Cv.leftB])
 rw [if_neg (show ¬ (o == (9 : Int)) = true by simpa using h9)]
 by_cases h13 : o = 13
 ·subst h13; exact fin _ _ (by simp [Cv.leftV]) (by simp [Cv.leftB])
 rw [if_neg (show ¬ (o == (13 : Int)) = true by simpa using h13)]
 by_cases h14 : o = 14
 ·subst h14; exact fin _ _ (by simp [Cv.leftV]) (by simp [Cv.leftB])
 rw [if_neg (show ¬ (o == (14 : Int)) = true by simpa using h14)]
 by_cases h15 : o = 15
 ·subst h15; exact fin _ _ (by simp [Cv.leftV]) (by simp [Cv.leftB])
 rw [if_neg (show ¬ (o == (15 : Int)) = true by simpa using h15)]
 by_cases h3 : o = 3
 ·subst h3; exact fin _ _ (by simp [Cv.leftV]) (by simp [Cv.leftB])
 rw [if_neg (show ¬ (o == (3 : Int)) = true by simpa using h3)]
 by_cases h21 : o = 21
 ·subst h21; exact fin _ _ (by simp [Cv.leftV]) (by simp [Cv.leftB])
 rw [if_neg (show ¬ (o == (21 : Int)) = true by simpa using h21)]
 by_cases h22 : o = 22
 ·subst h22; exact fin _ _ (by simp [Cv.leftV]) (by simp [Cv.leftB])
 rw [if_neg (show ¬ (o == (22 : Int)) = true by simpa using h22)]
 by_cases h20 : o = 20
 ·subst h20; exact fin _ _ (by simp [Cv.leftV]) (by simp [Cv.leftB])
 rw [if_neg (show ¬ (o == (20 : Int)) = true by simpa using h20)]
 have a1 : ¬ ((5 ≤ o ∧ o ≤ 8) ∨ (10 ≤ o ∧ o ≤ 12)) := by omega
 exact fin _ _ (by simp [Cv.leftV, h1, h2, h4, h5, h6, h7, h8, h10, h11, h12, h9, h13, h14, h15, h3, h21, h22, h20, a1]) (by simp [Cv.leftB, h1, h2, h4, h5, h6, h7, h8, h10, h11, h12, h9, h13, h14, h15, h3, h21, h22, h20, a1])
def mkC (vs : Int) (n : Nat) (op arg : Nat → Int) : Cv.Cd := ⟨op, arg, n, vs⟩
open Classical in
noncomputable def opndD (c : Cv.Cd) (i : Nat) : Bool := decide (Cv.opnd c i)
open Classical in
theorem opndD_iff (c : Cv.Cd) (i : Nat) (b : Bool) (h : b = true ↔ Cv.opnd c i) : b = opndD c i := by
 unfold opndD
 rw [Bool.eq_iff_iff, h, decide_eq_true_eq]
theorem opnd_sc {nm : ByteArray} {ps vs : Int} {n i : Nat} {op arg : Nat → Int} (hi : i < n) (hn : n ≤ 300) (h0 : 0 ≤ vs) (hv : vs ≤ 12) : SC E2 86 [codV nm ps vs n op arg, i64 i] [] (.ret (bo (opndD (mkC vs n op arg) i)) []) := by
 refine SC.g2 (n := 20) ((g78 nm ps vs n op arg i).trans ?_)
 have e1 : w (vs - 1) = vs - 1 := w_in (by unfold inR; omega)
 have e2 : w ((i : Int) + 1) = (i : Int) + 1 := w_in (by unfold inR; omega)
 have e3 : w ((n : Int) - 1) = (n : Int) - 1 := w_in (by unfold inR; omega)
 rw [if_pos (by omega), if_pos (by omega)]
 simp only [Int.toNat_natCast, e1, e2, e3]
 have fin : ∀ b : Bool, (b = true ↔ Cv.opnd (mkC vs n op arg) i) → some (Ans.c (CRes.ret (bo b) [])) = some (Ans.c (CRes.ret (bo (opndD (mkC vs n op arg) i)) [])) := by
  intro b h
  have := opndD_iff (mkC vs n op arg) i b h
  rw [this]
 have two : ∀ lo hi : Int, ((lo ≤ arg i ∧ arg i ≤ hi) ↔ Cv.opnd (mkC vs n op arg) i) → (if decide (arg i ≥ lo) = true then some (Ans.c (CRes.ret (bo (decide (arg i ≤ hi))) [])) else some (Ans.c (CRes.ret (bo false) []))) = some (Ans.c (CRes.ret (bo (opndD (mkC vs n op arg) i)) [])) := by
  intro lo hi h
  by_cases h1 : lo ≤ arg i
  ·rw [if_pos (by simpa using h1)]; exact fin _ (by rw [← h]; simp [h1])
  ·rw [if_neg (by simpa using h1)]; exact fin _ (by rw [← h]; simp [h1])
 have hop : Cv.Cd.op (mkC vs n op arg) i = op i := rfl
 have harg : Cv.Cd.arg (mkC vs n op arg) i = arg i := rfl
 have hnn : Cv.Cd.n (mkC vs n op arg) = n := rfl
 have hvv : Cv.Cd.vars (mkC vs n op arg) = vs := rfl
 unfold Cv.opnd at fin two
 rw [hop, harg, hnn, hvv] at fin two
 clear hop harg hnn hvv
 by_cases h1 : op i = 1
 ·rw [if_pos (show (op i == (1 : Int)) = true by simpa using h1)]; exact two _ _ (by simp [h1])
 rw [if_neg (show ¬ (op i == (1 : Int)) = true by simpa using h1)]
 by_cases h2 : op i = 2
 ·rw [if_pos (show (op i == (2 : Int)) = true by simpa using h2)]; exact two _ _ (by simp [h2])
 rw [if_neg (show ¬ (op i == (2 : Int)) = true by simpa using h2)]
 by_cases h3 : op i = 3
 ·rw [if_pos (show (op i == (3 : Int)) = true by simpa using h3)]; exact two _ _ (by simp [h3])
 rw [if_neg (show ¬ (op i == (3 : Int)) = true by simpa using h3)]
 by_cases h4 : op i = 4
 ·rw [if_pos (show (op i == (4 : Int)) = true by simpa using h4)]; exact two _ _ (by simp [h4])
 rw [if_neg (show ¬ (op i == (4 : Int)) = true by simpa using h4)]
 by_cases h5 : op i = 5
 ·rw [if_pos (show (op i == (5 : Int)) = true by simpa using h5)]; exact fin _ (by simp [h5])
 rw [if_neg (show ¬ (op i == (5 : Int)) = true by simpa using h5)]
 by_cases h6 : op i = 6
 ·rw [if_pos (show (op i == (6 : Int)) = true by simpa using h6)]; exact fin _ (by simp [h6])
 rw [if_neg (show ¬ (op i == (6 : Int)) = true by simpa using h6)]
 by_cases h7 : op i = 7
 ·rw [if_pos (show (op i == (7 : Int)) = true by simpa using h7)]; exact fin _ (by simp [h7])
 rw [if_neg (show ¬ (op i == (7 : Int)) = true by simpa using h7)]
 by_cases h8 : op i = 8
 ·rw [if_pos (show (op i == (8 : Int)) = true by simpa using h8)]; exact fin _ (by simp [h8])
 rw [if_neg (show ¬ (op i == (8 : Int)) = true by simpa using h8)]
 by_cases h9 : op i = 9
 ·rw [if_pos (show (op i == (9 : Int)) = true by simpa using h9)]; exact fin _ (by simp [h9])
 rw [if_neg (show ¬ (op i == (9 : Int)) = true by simpa using h9)]
 by_cases h10 : op i = 10
 ·rw [if_pos (show (op i == (10 : Int)) = true by simpa using h10)]; exact fin _ (by simp [h10])
 rw [if_neg (show ¬ (op i == (10 : Int)) = true by simpa using h10)]
 by_cases h11 : op i = 11
 ·rw [if_pos (show (op i == (11 : Int)) = true by simpa using h11)]; exact fin _ (by simp [h11])
 rw [if_neg (show ¬ (op i == (11 : Int)) = true by simpa using h11)]
 by_cases h12 : op i = 12
 ·rw [if_pos (show (op i == (12 : Int)) = true by simpa using h12)]; exact fin _ (by simp [h12])
 rw [if_neg (show ¬ (op i == (12 : Int)) = true by simpa using h12)]
 by_cases h13 : op i = 13
 ·rw [if_pos (show (op i == (13 : Int)) = true by simpa using h13)]; exact fin _ (by simp [h13])
 rw [if_neg (show ¬ (op i == (13 : Int)) = true by simpa using h13)]
 by_cases h21 : op i = 21
 ·rw [if_pos (show (op i == (21 : Int)) = true by simpa using h21)]; exact fin _ (by simp [h21])
 rw [if_neg (show ¬ (op i == (21 : Int)) = true by simpa using h21)]
 by_cases h22 : op i = 22
 ·rw [if_pos (show (op i == (22 : Int)) = true by simpa using h22)]; exact fin _ (by simp [h22])
 rw [if_neg (show ¬ (op i == (22 : Int)) = true by simpa using h22)]
 by_cases h28 : op i = 28
 ·rw [if_pos (show (op i == (28 : Int)) = true by simpa using h28)]; exact fin _ (by simp [h28])
 rw [if_neg (show ¬ (op i == (28 : Int)) = true by simpa using h28)]
 by_cases h14 : op i = 14
 ·rw [if_pos (show (op i == (14 : Int)) = true by simpa using h14)]; exact two _ _ (by simp [h14])
 rw [if_neg (show ¬ (op i == (14 : Int)) = true by simpa using h14)]
 by_cases h15 : op i = 15
 ·rw [if_pos (show (op i == (15 : Int)) = true by simpa using h15)]; exact two _ _ (by simp [h15])
 rw [if_neg (show ¬ (op i == (15 : Int)) = true by simpa using h15)]
 by_cases h16 : op i = 16
 ·rw [if_pos (show (op i == (16 : Int)) = true by simpa using h16)]; exact two _ _ (by simp [h16])
 rw [if_neg (show ¬ (op i == (16 : Int)) = true by simpa using h16)]
 by_cases h18 : op i = 18
 ·rw [if_pos (show (op i == (18 : Int)) = true by simpa using h18)]; exact two _ _ (by simp [h18])
 rw [if_neg (show ¬ (op i == (18 : Int)) = true by simpa using h18)]
 by_cases h19 : op i = 19
 ·rw [if_pos (show (op i == (19 : Int)) = true by simpa using h19)]; exact two _ _ (by simp [h19])
 rw [if_neg (show ¬ (op i == (19 : Int)) = true by simpa using h19)]
 by_cases h23 : op i = 23
 ·rw [if_pos (show (op i == (23 : Int)) = true by simpa using h23)]; exact two _ _ (by simp [h23])
 rw [if_neg (show ¬ (op i == (23 : Int)) = true by simpa using h23)]
 by_cases h24 : op i = 24
 ·rw [if_pos (show (op i == (24 : Int)) = true by simpa using h24)]; exact two _ _ (by simp [h24])
 rw [if_neg (show ¬ (op i == (24 : Int)) = true by simpa using h24)]
 by_cases h25 : op i = 25
 ·rw [if_pos (show (op i == (25 : Int)) = true by simpa using h25)]; exact two _ _ (by simp [h25])
 rw [if_neg (show ¬ (op i == (25 : Int)) = true by simpa using h25)]
 by_cases h26 : op i = 26
 ·rw [if_pos (show (op i == (26 : Int)) = true by simpa using h26)]; exact two _ _ (by simp [h26])
 rw [if_neg (show ¬ (op i == (26 : Int)) = true by simpa using h26)]
 by_cases h27 : op i = 27
 ·rw [if_pos (show (op i == (27 : Int)) = true by simpa using h27)]; exact two _ _ (by simp [h27])
 rw [if_neg (show ¬ (op i == (27 : Int)) = true by simpa using h27)]
 rw [if_pos (by omega)]
 by_cases h17 : op i = 17
 ·rw [if_pos (show (op i == (17 : Int)) = true by simpa using h17)]; exact fin _ (by simp [h17])
 rw [if_neg (show ¬ (op i == (17 : Int)) = true by simpa using h17)]
 rw [if_pos (by omega)]
 have a1 : ¬ ((5 ≤ op i ∧ op i ≤ 13) ∨ op i = 21 ∨ op i = 22 ∨ op i = 28) := by omega
 have a2 : ¬ (5 ≤ op i ∧ op i ≤ 13) := by omega
 exact fin _ (by simp [h1, h2, h3, h4, h5, h6, h7, h8, h9, h10, h11, h12, h13, h21, h22, h28, h14, h15, h16, h18, h19, h23, h24, h25, h26, h27, h17, a1, a2])
end Go.Proofs.YthkioinnobiieaaGreatDoor
/- The places of instructions (70), walked. -/
namespace Go.Proofs.YthkioinnobiieaaGreatDoor
open Go Go.Am Go.Proofs
set_option linter.unusedSimpArgs false
set_option linter.unusedVariables false
set_option maxRecDepth 100000
def QI1 (args : List V) : Prop := ∃ o : Int, args = [i64 o]
def r2 (x y : Nat → Int) : Nat → List V := fun j => [i64 (x j), i64 (y j)]
def r1 (x : Nat → Int) : Nat → List V := fun j => [i64 (x j)]
def cd (n : Nat) (op arg : Nat → Int) : V := .ro 2 n (ins op arg)
theorem one2 {c : ACode} {S T T' : St} {e e' : Ex} (id : Nat) (h : SL E2 c S e T) : SoundL E2 (ltab2 [⟨id, c, S, True, e, T, e', T'⟩]) := ltab2_cons ⟨fun _ => h, fun h => absurd trivial h⟩ ltab2_nil
theorem oneF2 {c : ACode} {S T T' : St} {e e' : Ex} (id : Nat) (h : SL E2 c S e' T') : SoundL E2 (ltab2 [⟨id, c, S, False, e, T, e', T'⟩]) := ltab2_cons ⟨fun h => False.elim h, fun _ => h⟩ ltab2_nil
def Bel (i : Nat) (v : Int) : Prop := v = -1 ∨ (0 ≤ v ∧ v < i)
structure I70 (i : Nat) (q : Cv.Pl) : Prop where
 oL : ∀ j, j < i → Bel j (q.oL j)
 oW : ∀ j, j < i → Bel j (q.oW j)
 lo : Bel i q.lo
 wa : Bel i q.wa
theorem Bel.up {i : Nat} {v : Int} (h : Bel i v) : Bel (i + 1) v := by unfold Bel at *; omega
theorem I70.push {i : Nat} {q : Cv.Pl} (h : I70 i q) {a b : Int} (ha : Bel (i + 1) a) (hb : Bel (i + 1) b) : I70 (i + 1) ⟨Cv.upd q.oL i q.lo, Cv.upd q.oW i q.wa, a, b⟩ := by
 refine ⟨fun j hj => ?_, fun j hj => ?_, ha, hb⟩
 ·show Bel j (Cv.upd q.oL i q.lo j)
  by_cases hji : j = i
  ·subst hji; rw [Cv.upd_same]; exact h.lo
  ·rw [Cv.upd_ne hji]; exact h.oL j (by omega)
 ·show Bel j (Cv.upd q.oW i q.wa j)
  by_cases hji : j = i
  ·subst hji; rw [Cv.upd_same]; exact h.wa
  ·rw [Cv.upd_ne hji]; exact h.oW j (by omega)
theorem I70.pop {i : Nat} {q : Cv.Pl} (h : I70 i q) (hlo : 0 ≤ q.lo ∧ q.lo < i) : Bel (i + 1) (Cv.upd q.oL i q.lo q.lo.toNat) ∧ Bel (i + 1) (Cv.upd q.oW i q.wa q.lo.toNat) := by
 have hne : q.lo.toNat ≠ i := by omega
 rw [Cv.upd_ne hne, Cv.upd_ne hne]
 have h1 := h.oL q.lo.toNat (by omega)
 have h2 := h.oW q.lo.toNat (by omega)
 unfold Bel at *
 omega
end Go.Proofs.YthkioinnobiieaaGreatDoor
/- Depths of the stack (71), walked. -/
namespace Go.Proofs.YthkioinnobiieaaGreatDoor
open Go Go.Am Go.Proofs
set_option linter.unusedSimpArgs false
set_option linter.unusedVariables false
set_option maxRecDepth 100000
theorem row_put1 (x : Nat → Int) (i : Nat) (a : Int) (j : Nat) : putF true i 0 [i64 a] (r1 x) j = r1 (Cv.upd x i a) j := by
 rw [putF_eq]
 by_cases h : j = i
 ·subst h; simp only [if_true]; unfold r1; rw [Cv.upd_same]; rfl
 ·simp only [if_neg h]; unfold r1; rw [Cv.upd_ne h]
end Go.Proofs.YthkioinnobiieaaGreatDoor
/- compile.Verify (56), walked. -/
namespace Go.Proofs.YthkioinnobiieaaGreatDoor
open Go Go.Am Go.Proofs
set_option linter.unusedSimpArgs false
set_option linter.unusedVariables false
set_option maxRecDepth 100000
def Ends (c : ACode) (P : Prop) (S : St) (e1 : Ex) (T1 : St) (e2 : Ex) (T2 : St) : Prop := (P → SL E2 c S e1 T1) ∧ (¬ P → SL E2 c S e2 T2)
theorem Ends.iff {c : ACode} {P P' : Prop} {S : St} {e1 e2 : Ex} {T1 T2 : St} (h : Ends c P S e1 T1 e2 T2) (e : P' ↔ P) : Ends c P' S e1 T1 e2 T2 := ⟨fun p => h.1 (e.1 p), fun p => h.2 (fun q => p (e.2 q))⟩
theorem Ends.next {C : CallT} (hC : SoundC E2 C) {id live m r : Nat} {c : ACode} {P : Prop} {S S' S1 : St} {e1 e2 : Ex} {T1 T2 : St} (h : Ends c P S1 e1 T1 e2 T2) (k1 : KC2 m r e1 T1 = some (.l e1 T1)) (k2 : KC2 m r e2 T2 = some (.l e2 T2)) (hle : LeSt S' S1) (hn : ∀ lo, loopK E2 C lo id live c S (KC2 m r) = lo id live c S' (KC2 m r)) : Ends c P S e1 T1 e2 T2 := by
 have h0 : loopK E2 C (ltab2 [⟨id, c, S1, P, e1, T1, e2, T2⟩]) id live c S (KC2 m r) = cl P (some (.l e1 T1)) (some (.l e2 T2)) := by
  refine (hn _).trans ((ltab2_hit hle).trans ?_)
  rw [k1, k2]
 have hs := ltab2_cons (x := ⟨id, c, S1, P, e1, T1, e2, T2⟩) h ltab2_nil
 exact ⟨fun p => SL.by2 hC hX2 hs (h0.trans (cl_pos p)), fun p => SL.by2 hC hX2 hs (h0.trans (cl_neg p))⟩
theorem Ends.ret {C : CallT} (hC : SoundC E2 C) {id live m r : Nat} {c : ACode} {P : Prop} {S : St} {e1 e2 : Ex} {T1 T2 : St} (hp : ¬ P) (hn : ∀ lo, loopK E2 C lo id live c S (KC2 m r) = some (.l e2 T2)) : Ends c P S e1 T1 e2 T2 :=
 ⟨fun p => absurd p hp, fun _ => SL.by2 hC hX2 ltab2_nil (hn _)⟩
theorem Ends.fin {C : CallT} (hC : SoundC E2 C) {id live m r : Nat} {c : ACode} {P : Prop} {S : St} {e1 e2 : Ex} {T1 T2 : St} (hp : P) (hn : ∀ lo, loopK E2 C lo id live c S (KC2 m r) = some (.l e1 T1)) : Ends c P S e1 T1 e2 T2 :=
 ⟨fun _ => SL.by2 hC hX2 ltab2_nil (hn _), fun p => absurd hp p⟩
theorem all_from {n i r : Nat} {X : Nat → Prop} (h : i + (r + 1) = n) : (∀ j, i ≤ j → j < n → X j) ↔ (X i ∧ ∀ j, i + 1 ≤ j → j < n → X j) := by
 constructor
 ·intro g; exact ⟨g i (Nat.le_refl _) (by omega), fun j h1 h2 => g j (by omega) h2⟩
 ·rintro ⟨g1, g2⟩ j h1 h2
  by_cases hj : j = i
  ·subst hj; exact g1
  ·exact g2 j (by omega) h2
def jump1 (c : Cv.Cd) (oL oW : Nat → Int) (i : Nat) : Prop := Cv.jmp (c.op i) → oL (c.arg i).toNat = oL i ∧ oW (c.arg i).toNat = oW i
open Classical in
noncomputable def verV (ps : Int) (c : Cv.Cd) : Int := if c.n > 300 ∨ c.vars > 12 then 2 else if ps < 0 ∨ ps > c.vars ∨ c.n = 0 ∨ ¬ Cv.VP c then 13 else 0
theorem verV_2 {ps : Int} {c : Cv.Cd} (h : c.n > 300 ∨ c.vars > 12) : verV ps c = 2 := by unfold verV; exact if_pos h
theorem verV_13 {ps : Int} {c : Cv.Cd} (h : ¬ (c.n > 300 ∨ c.vars > 12)) (h2 : ps < 0 ∨ ps > c.vars ∨ c.n = 0 ∨ ¬ Cv.VP c) : verV ps c = 13 := by unfold verV; rw [if_neg h, if_pos h2]
theorem verV_0 {ps : Int} {c : Cv.Cd} (h : ¬ (c.n > 300 ∨ c.vars > 12)) (h2 : ¬ (ps < 0 ∨ ps > c.vars ∨ c.n = 0 ∨ ¬ Cv.VP c)) : verV ps c = 0 := by unfold verV; rw [if_neg h, if_neg h2]
theorem jmps_all (c : Cv.Cd) (oL oW : Nat → Int) : Cv.jmps c oL oW ↔ ∀ j, 0 ≤ j → j < c.n → jump1 c oL oW j := ⟨fun h j _ hj => h j hj, fun h j hj => h j (Nat.zero_le _) hj⟩
end Go.Proofs.YthkioinnobiieaaGreatDoor
/- Regions (79), walked. -/
namespace Go.Proofs.YthkioinnobiieaaGreatDoor
open Go Go.Am Go.Proofs
set_option linter.unusedSimpArgs false
set_option linter.unusedVariables false
set_option maxRecDepth 100000
def vPuR : List V → V
 | [.sc (.int .i64 o)] => bo (Cv.pureR o)
 | _ => .junk
noncomputable def C79 : CallT := ptab 109 QI1 vPuR (tab [])
theorem sC79 : SoundC E2 C79 := ptab_cons (fun args h => by obtain ⟨o, rfl⟩ := h; exact pureR_sc o) tab_nil
def S79a (n : Nat) (op arg : Nat → Int) : St := { fr := [cd n op arg, .junk, .junk, .junk, .junk, .sc (.slice none 0 0), .sc (.slice none 0 0), .sc (.slice none 0 0), i64 (-1), i64 0] ++ jk 93, H := hp [], nx := 0, rt := 0, me := 87 }
def S79b (n : Nat) (op arg : Nat → Int) (i : Nat) (L W : Nat → Int) (wa : Int) : St := { fr := [cd n op arg, .junk, .junk, .junk, .junk, .sl 0 1 0 i, .sl 1 1 0 i, .sc (.slice none 0 0), i64 wa, i64 i] ++ jk 93, H := hp [some (.row 3 1 i (r1 L)), some (.row 3 1 i (r1 W))], nx := 2, rt := 0, me := 87 }
def S79c (n : Nat) (op arg : Nat → Int) (i : Nat) (L W : Nat → Int) (m cp : Nat) (stk : Nat → Int) (wa : Int) : St := { fr := [cd n op arg, .junk, .junk, .junk, .junk, .sl 0 1 0 i, .sl 1 1 0 i, .sl 2 1 0 m, i64 wa, i64 i] ++ jk 93, H := hp [some (.row 3 1 i (r1 L)), some (.row 3 1 i (r1 W)), some (.row 3 1 cp (r1 stk))], nx := 3, rt := 0, me := 87 }
def T79b (n : Nat) (L W : Nat → Int) (wa : Int) : St := { fr := jk 5 ++ [.sl 0 1 0 n, .sl 1 1 0 n, .sc (.slice none 0 0), i64 wa] ++ jk 94, H := hp [some (.row 3 1 n (r1 L)), some (.row 3 1 n (r1 W))], nx := 2, rt := 0, me := 87 }
def T79c (n : Nat) (L W : Nat → Int) (m cp : Nat) (stk : Nat → Int) (wa : Int) : St := { fr := jk 5 ++ [.sl 0 1 0 n, .sl 1 1 0 n, .sl 2 1 0 m, i64 wa] ++ jk 94, H := hp [some (.row 3 1 n (r1 L)), some (.row 3 1 n (r1 W)), some (.row 3 1 cp (r1 stk))], nx := 3, rt := 0, me := 87 }
def T79r : St := { fr := [.junk, .junk, .sc (.slice none 0 0), .sc (.slice none 0 0), bo false] ++ jk 98, H := hp [], nx := 0, rt := 0, me := 87 }
theorem r79a (n : Nat) (op arg : Nat → Int) (lo : LoopT) : loopK E2 C79 lo 0 993 (bodyOf E2 87 0) (S79a n op arg) (KC2 480 28) =
 if decide ((0 : Int) < (n : Int)) = true then
 if (0 : Int) ≤ (0 : Int) ∧ (0 : Int) < (n : Int) then
 if (op 0 == (16 : Int)) = true then
 lo 0 993 (bodyOf E2 87 0) ({ fr := [V.ro 2 n (ins op arg), V.junk, V.junk, V.junk, V.junk, V.sl 0 1 0 1, V.sl 1 1 0 1, V.sl 2 1 0 1, i64 (-1), i64 (w ((0 : Int) + (1 : Int)))] ++ jk 93, H := hp [some (Chunk.row 3 1 1 fun (j : Nat) => List.getD [[i64 (-1)]] (0 + j) []), some (Chunk.row 3 1 1 fun (j : Nat) => List.getD [[i64 (-1)]] (0 + j) []), some (Chunk.row 3 1 1 fun (j : Nat) => List.getD [[i64 0]] (0 + j) [])], nx := 3, rt := 0, me := 87 }) (KC2 480 28)
 else
 if (op 0 == (17 : Int)) = true then
 some (Ans.l Ex.ret { fr := [V.junk, V.junk, V.sc (Value.slice none 0 0), V.sc (Value.slice none 0 0), bo false] ++ jk 98, H := hp [], nx := 0, rt := 0, me := 87 })
 else
 if (op 0 == (19 : Int)) = true then
 lo 0 993 (bodyOf E2 87 0) ({ fr := [V.ro 2 n (ins op arg), V.junk, V.junk, V.junk, V.junk, V.sl 0 1 0 1, V.sl 1 1 0 1, V.sc (Value.slice none 0 0), i64 0, i64 (w ((0 : Int) + (1 : Int)))] ++ jk 93, H := hp [some (Chunk.row 3 1 1 fun (j : Nat) => List.getD [[i64 (-1)]] (0 + j) []), some (Chunk.row 3 1 1 fun (j : Nat) => List.getD [[i64 (-1)]] (0 + j) [])], nx := 2, rt := 0, me := 87 }) (KC2 480 28)
 else
 if (op 0 == (20 : Int)) = true then
 some (Ans.l Ex.ret { fr := [V.junk, V.junk, V.sc (Value.slice none 0 0), V.sc (Value.slice none 0 0), bo false] ++ jk 98, H := hp [], nx := 0, rt := 0, me := 87 })
 else
 lo 0 993 (bodyOf E2 87 0) ({ fr := [V.ro 2 n (ins op arg), V.junk, V.junk, V.junk, V.junk, V.sl 0 1 0 1, V.sl 1 1 0 1, V.sc (Value.slice none 0 0), i64 (-1), i64 (w ((0 : Int) + (1 : Int)))] ++ jk 93, H := hp [some (Chunk.row 3 1 1 fun (j : Nat) => List.getD [[i64 (-1)]] (0 + j) []), some (Chunk.row 3 1 1 fun (j : Nat) => List.getD [[i64 (-1)]] (0 + j) [])], nx := 2, rt := 0, me := 87 }) (KC2 480 28)
 else
 none
 else
 some (Ans.l (Ex.exit 0) { fr := [V.junk, V.junk, V.junk, V.junk, V.junk, V.sc (Value.slice none 0 0), V.sc (Value.slice none 0 0), V.sc (Value.slice none 0 0), i64 (-1)] ++ jk 94, H := hp [], nx := 0, rt := 0, me := 87 }) := by kernel_rfl

theorem r79b (n : Nat) (op arg : Nat → Int) (i : Nat) (L W : Nat → Int) (wa : Int) (lo : LoopT) : loopK E2 C79 lo 0 993 (bodyOf E2 87 0) (S79b n op arg i L W wa) (KC2 480 28) =
 if decide ((i : Int) < (n : Int)) = true then
 if (0 : Int) ≤ (i : Int) ∧ (i : Int) < (n : Int) then
 if decide (wa ≥ (0 : Int)) = true then
 if (op (Int.toNat (i : Int)) != (20 : Int)) = true then
 cl (QI1 ([i64 (op (Int.toNat (i : Int)))]) ∧ ([] : List (Option Chunk)) = []) (
 if (!Cv.pureR (op (Int.toNat (i : Int)))) = true then
 some (Ans.l Ex.ret { fr := [V.junk, V.junk, V.sc (Value.slice none 0 0), V.sc (Value.slice none 0 0), bo false] ++ jk 98, H := hp [], nx := 0, rt := 0, me := 87 })
 else
 if (i + 1) * 8 ≤ roomBound ∧ i + 1 ≤ maxLen ∧ i ≤ i then
 if (i + 1) * 8 ≤ roomBound ∧ i + 1 ≤ maxLen ∧ i ≤ i then
 if (op (Int.toNat (i : Int)) == (16 : Int)) = true then
 lo 0 993 (bodyOf E2 87 0) ({ fr := [V.ro 2 n (ins op arg), V.junk, V.junk, V.junk, V.junk, V.sl 0 1 0 (i + 1), V.sl 1 1 0 (i + 1), V.sl 2 1 0 1, i64 wa, i64 (w ((i : Int) + (1 : Int)))] ++ jk 93, H := hp [some (Chunk.row 3 1 (i + 1) (joinF i (r1 L) fun (j : Nat) => List.getD [[i64 (-1)]] (0 + j) [])), some (Chunk.row 3 1 (i + 1) (joinF i (r1 W) fun (j : Nat) => List.getD [[i64 wa]] (0 + j) [])), some (Chunk.row 3 1 1 fun (j : Nat) => List.getD [[i64 (i : Int)]] (0 + j) [])], nx := 3, rt := 0, me := 87 }) (KC2 480 28)
 else
 if (op (Int.toNat (i : Int)) == (17 : Int)) = true then
 some (Ans.l Ex.ret { fr := [V.junk, V.junk, V.sc (Value.slice none 0 0), V.sc (Value.slice none 0 0), bo false] ++ jk 98, H := hp [], nx := 0, rt := 0, me := 87 })
 else
 if (op (Int.toNat (i : Int)) == (19 : Int)) = true then
 lo 0 993 (bodyOf E2 87 0) ({ fr := [V.ro 2 n (ins op arg), V.junk, V.junk, V.junk, V.junk, V.sl 0 1 0 (i + 1), V.sl 1 1 0 (i + 1), V.sc (Value.slice none 0 0), i64 (i : Int), i64 (w ((i : Int) + (1 : Int)))] ++ jk 93, H := hp [some (Chunk.row 3 1 (i + 1) (joinF i (r1 L) fun (j : Nat) => List.getD [[i64 (-1)]] (0 + j) [])), some (Chunk.row 3 1 (i + 1) (joinF i (r1 W) fun (j : Nat) => List.getD [[i64 wa]] (0 + j) []))], nx := 2, rt := 0, me := 87 }) (KC2 480 28)
 else
 if (op (Int.toNat (i : Int)) == (20 : Int)) = true then
 if decide (wa < (0 : Int)) = true then
 some (Ans.l Ex.ret { fr := [V.junk, V.junk, V.sc (Value.slice none 0 0), V.sc (Value.slice none 0 0), bo false] ++ jk 98, H := hp [], nx := 0, rt := 0, me := 87 })
 else
 if (0 : Int) ≤ (i : Int) ∧ (i : Int) < (n : Int) then
 if (arg (Int.toNat (i : Int)) != w (wa + (1 : Int))) = true then
 some (Ans.l Ex.ret { fr := [V.junk, V.junk, V.sc (Value.slice none 0 0), V.sc (Value.slice none 0 0), bo false] ++ jk 98, H := hp [], nx := 0, rt := 0, me := 87 })
 else
 lo 0 993 (bodyOf E2 87 0) ({ fr := [V.ro 2 n (ins op arg), V.junk, V.junk, V.junk, V.junk, V.sl 0 1 0 (i + 1), V.sl 1 1 0 (i + 1), V.sc (Value.slice none 0 0), i64 (-1), i64 (w ((i : Int) + (1 : Int)))] ++ jk 93, H := hp [some (Chunk.row 3 1 (i + 1) (joinF i (r1 L) fun (j : Nat) => List.getD [[i64 (-1)]] (0 + j) [])), some (Chunk.row 3 1 (i + 1) (joinF i (r1 W) fun (j : Nat) => List.getD [[i64 wa]] (0 + j) []))], nx := 2, rt := 0, me := 87 }) (KC2 480 28)
 else
 none
 else
 lo 0 993 (bodyOf E2 87 0) ({ fr := [V.ro 2 n (ins op arg), V.junk, V.junk, V.junk, V.junk, V.sl 0 1 0 (i + 1), V.sl 1 1 0 (i + 1), V.sc (Value.slice none 0 0), i64 wa, i64 (w ((i : Int) + (1 : Int)))] ++ jk 93, H := hp [some (Chunk.row 3 1 (i + 1) (joinF i (r1 L) fun (j : Nat) => List.getD [[i64 (-1)]] (0 + j) [])), some (Chunk.row 3 1 (i + 1) (joinF i (r1 W) fun (j : Nat) => List.getD [[i64 wa]] (0 + j) []))], nx := 2, rt := 0, me := 87 }) (KC2 480 28)
 else
 none
 else
 none) (
 none)
 else
 if (i + 1) * 8 ≤ roomBound ∧ i + 1 ≤ maxLen ∧ i ≤ i then
 if (i + 1) * 8 ≤ roomBound ∧ i + 1 ≤ maxLen ∧ i ≤ i then
 if (op (Int.toNat (i : Int)) == (16 : Int)) = true then
 lo 0 993 (bodyOf E2 87 0) ({ fr := [V.ro 2 n (ins op arg), V.junk, V.junk, V.junk, V.junk, V.sl 0 1 0 (i + 1), V.sl 1 1 0 (i + 1), V.sl 2 1 0 1, i64 wa, i64 (w ((i : Int) + (1 : Int)))] ++ jk 93, H := hp [some (Chunk.row 3 1 (i + 1) (joinF i (r1 L) fun (j : Nat) => List.getD [[i64 (-1)]] (0 + j) [])), some (Chunk.row 3 1 (i + 1) (joinF i (r1 W) fun (j : Nat) => List.getD [[i64 wa]] (0 + j) [])), some (Chunk.row 3 1 1 fun (j : Nat) => List.getD [[i64 (i : Int)]] (0 + j) [])], nx := 3, rt := 0, me := 87 }) (KC2 480 28)
 else
 if (op (Int.toNat (i : Int)) == (17 : Int)) = true then
 some (Ans.l Ex.ret { fr := [V.junk, V.junk, V.sc (Value.slice none 0 0), V.sc (Value.slice none 0 0), bo false] ++ jk 98, H := hp [], nx := 0, rt := 0, me := 87 })
 else
 if (op (Int.toNat (i : Int)) == (19 : Int)) = true then
 lo 0 993 (bodyOf E2 87 0) ({ fr := [V.ro 2 n (ins op arg), V.junk, V.junk, V.junk, V.junk, V.sl 0 1 0 (i + 1), V.sl 1 1 0 (i + 1), V.sc (Value.slice none 0 0), i64 (i : Int), i64 (w ((i : Int) + (1 : Int)))] ++ jk 93, H := hp [some (Chunk.row 3 1 (i + 1) (joinF i (r1 L) fun (j : Nat) => List.getD [[i64 (-1)]] (0 + j) [])), some (Chunk.row 3 1 (i + 1) (joinF i (r1 W) fun (j : Nat) => List.getD [[i64 wa]] (0 + j) []))], nx := 2, rt := 0, me := 87 }) (KC2 480 28)
 else
 if (op (Int.toNat (i : Int)) == (20 : Int)) = true then
 if decide (wa < (0 : Int)) = true then
 some (Ans.l Ex.ret { fr := [V.junk, V.junk, V.sc (Value.slice none 0 0), V.sc (Value.slice none 0 0), bo false] ++ jk 98, H := hp [], nx := 0, rt := 0, me := 87 })
 else
 if (0 : Int) ≤ (i : Int) ∧ (i : Int) < (n : Int) then
 if (arg (Int.toNat (i : Int)) != w (wa + (1 : Int))) = true then
 some (Ans.l Ex.ret { fr := [V.junk, V.junk, V.sc (Value.slice none 0 0), V.sc (Value.slice none 0 0), bo false] ++ jk 98, H := hp [], nx := 0, rt := 0, me := 87 })
 else
 lo 0 993 (bodyOf E2 87 0) ({ fr := [V.ro 2 n (ins op arg), V.junk, V.junk, V.junk, V.junk, V.sl 0 1 0 (i + 1), V.sl 1 1 0 (i + 1), V.sc (Value.slice none 0 0), i64 (-1), i64 (w ((i : Int) + (1 : Int)))] ++ jk 93, H := hp [some (Chunk.row 3 1 (i + 1) (joinF i (r1 L) fun (j : Nat) => List.getD [[i64 (-1)]] (0 + j) [])), some (Chunk.row 3 1 (i + 1) (joinF i (r1 W) fun (j : Nat) => List.getD [[i64 wa]] (0 + j) []))], nx := 2, rt := 0, me := 87 }) (KC2 480 28)
 else
 none
 else
 lo 0 993 (bodyOf E2 87 0) ({ fr := [V.ro 2 n (ins op arg), V.junk, V.junk, V.junk, V.junk, V.sl 0 1 0 (i + 1), V.sl 1 1 0 (i + 1), V.sc (Value.slice none 0 0), i64 wa, i64 (w ((i : Int) + (1 : Int)))] ++ jk 93, H := hp [some (Chunk.row 3 1 (i + 1) (joinF i (r1 L) fun (j : Nat) => List.getD [[i64 (-1)]] (0 + j) [])), some (Chunk.row 3 1 (i + 1) (joinF i (r1 W) fun (j : Nat) => List.getD [[i64 wa]] (0 + j) []))], nx := 2, rt := 0, me := 87 }) (KC2 480 28)
 else
 none
 else
 none
 else
 if (i + 1) * 8 ≤ roomBound ∧ i + 1 ≤ maxLen ∧ i ≤ i then
 if (i + 1) * 8 ≤ roomBound ∧ i + 1 ≤ maxLen ∧ i ≤ i then
 if (op (Int.toNat (i : Int)) == (16 : Int)) = true then
 lo 0 993 (bodyOf E2 87 0) ({ fr := [V.ro 2 n (ins op arg), V.junk, V.junk, V.junk, V.junk, V.sl 0 1 0 (i + 1), V.sl 1 1 0 (i + 1), V.sl 2 1 0 1, i64 wa, i64 (w ((i : Int) + (1 : Int)))] ++ jk 93, H := hp [some (Chunk.row 3 1 (i + 1) (joinF i (r1 L) fun (j : Nat) => List.getD [[i64 (-1)]] (0 + j) [])), some (Chunk.row 3 1 (i + 1) (joinF i (r1 W) fun (j : Nat) => List.getD [[i64 wa]] (0 + j) [])), some (Chunk.row 3 1 1 fun (j : Nat) => List.getD [[i64 (i : Int)]] (0 + j) [])], nx := 3, rt := 0, me := 87 }) (KC2 480 28)
 else
 if (op (Int.toNat (i : Int)) == (17 : Int)) = true then
 some (Ans.l Ex.ret { fr := [V.junk, V.junk, V.sc (Value.slice none 0 0), V.sc (Value.slice none 0 0), bo false] ++ jk 98, H := hp [], nx := 0, rt := 0, me := 87 })
 else
 if (op (Int.toNat (i : Int)) == (19 : Int)) = true then
 lo 0 993 (bodyOf E2 87 0) ({ fr := [V.ro 2 n (ins op arg), V.junk, V.junk, V.junk, V.junk, V.sl 0 1 0 (i + 1), V.sl 1 1 0 (i + 1), V.sc (Value.slice none 0 0), i64 (i : Int), i64 (w ((i : Int) + (1 : Int)))] ++ jk 93, H := hp [some (Chunk.row 3 1 (i + 1) (joinF i (r1 L) fun (j : Nat) => List.getD [[i64 (-1)]] (0 + j) [])), some (Chunk.row 3 1 (i + 1) (joinF i (r1 W) fun (j : Nat) => List.getD [[i64 wa]] (0 + j) []))], nx := 2, rt := 0, me := 87 }) (KC2 480 28)
 else
 if (op (Int.toNat (i : Int)) == (20 : Int)) = true then
 if decide (wa < (0 : Int)) = true then
 some (Ans.l Ex.ret { fr := [V.junk, V.junk, V.sc (Value.slice none 0 0), V.sc (Value.slice none 0 0), bo false] ++ jk 98, H := hp [], nx := 0, rt := 0, me := 87 })
 else
 if (0 : Int) ≤ (i : Int) ∧ (i : Int) < (n : Int) then
 if (arg (Int.toNat (i : Int)) != w (wa + (1 : Int))) = true then
 some (Ans.l Ex.ret { fr := [V.junk, V.junk, V.sc (Value.slice none 0 0), V.sc (Value.slice none 0 0), bo false] ++ jk 98, H := hp [], nx := 0, rt := 0, me := 87 })
 else
 lo 0 993 (bodyOf E2 87 0) ({ fr := [V.ro 2 n (ins op arg), V.junk, V.junk, V.junk, V.junk, V.sl 0 1 0 (i + 1), V.sl 1 1 0 (i + 1), V.sc (Value.slice none 0 0), i64 (-1), i64 (w ((i : Int) + (1 : Int)))] ++ jk 93, H := hp [some (Chunk.row 3 1 (i + 1) (joinF i (r1 L) fun (j : Nat) => List.getD [[i64 (-1)]] (0 + j) [])), some (Chunk.row 3 1 (i + 1) (joinF i (r1 W) fun (j : Nat) => List.getD [[i64 wa]] (0 + j) []))], nx := 2, rt := 0, me := 87 }) (KC2 480 28)
 else
 none
 else
 lo 0 993 (bodyOf E2 87 0) ({ fr := [V.ro 2 n (ins op arg), V.junk, V.junk, V.junk, V.junk, V.sl 0 1 0 (i + 1), V.sl 1 1 0 (i + 1), V.sc (Value.slice none 0 0), i64 wa, i64 (w ((i : Int) + (1 : Int)))] ++ jk 93, H := hp [some (Chunk.row 3 1 (i + 1) (joinF i (r1 L) fun (j : Nat) => List.getD [[i64 (-1)]] (0 + j) [])), some (Chunk.row 3 1 (i + 1) (joinF i (r1 W) fun (j : Nat) => List.getD [[i64 wa]] (0 + j) []))], nx := 2, rt := 0, me := 87 }) (KC2 480 28)
 else
 none
 else
 none
 else
 none
 else
 some (Ans.l (Ex.exit 0) { fr := [V.junk, V.junk, V.junk, V.junk, V.junk, V.sl 0 1 0 i, V.sl 1 1 0 i, V.sc (Value.slice none 0 0), i64 wa] ++ jk 94, H := hp [some (Chunk.row 3 1 i (r1 L)), some (Chunk.row 3 1 i (r1 W))], nx := 2, rt := 0, me := 87 }) := by kernel_rfl

theorem r79c (n : Nat) (op arg : Nat → Int) (i : Nat) (L W : Nat → Int) (m cp : Nat) (stk : Nat → Int) (wa : Int) (lo : LoopT) : loopK E2 C79 lo 0 993 (bodyOf E2 87 0) (S79c n op arg i L W m cp stk wa) (KC2 480 28) =
 if decide ((i : Int) < (n : Int)) = true then
 if (0 : Int) ≤ (i : Int) ∧ (i : Int) < (n : Int) then
 if decide (wa ≥ (0 : Int)) = true then
 if (op (Int.toNat (i : Int)) != (20 : Int)) = true then
 cl (QI1 ([i64 (op (Int.toNat (i : Int)))]) ∧ ([] : List (Option Chunk)) = []) (
 if (!Cv.pureR (op (Int.toNat (i : Int)))) = true then
 some (Ans.l Ex.ret { fr := [V.junk, V.junk, V.sc (Value.slice none 0 0), V.sc (Value.slice none 0 0), bo false] ++ jk 98, H := hp [], nx := 0, rt := 0, me := 87 })
 else
 if decide ((m : Int) > (0 : Int)) = true then
 if (0 : Int) ≤ w ((m : Int) - (1 : Int)) ∧ w ((m : Int) - (1 : Int)) < (m : Int) then
 if 0 + Int.toNat (w ((m : Int) - (1 : Int))) < cp ∧ 1 = 1 then
 if (i + 1) * 8 ≤ roomBound ∧ i + 1 ≤ maxLen ∧ i ≤ i then
 if (i + 1) * 8 ≤ roomBound ∧ i + 1 ≤ maxLen ∧ i ≤ i then
 if (op (Int.toNat (i : Int)) == (16 : Int)) = true then
 if (m + 1) * 8 ≤ roomBound ∧ m + 1 ≤ maxLen ∧ m ≤ cp then
 lo 0 993 (bodyOf E2 87 0) ({ fr := [V.ro 2 n (ins op arg), V.junk, V.junk, V.junk, V.junk, V.sl 0 1 0 (i + 1), V.sl 1 1 0 (i + 1), V.sl 2 1 0 (m + 1), i64 wa, i64 (w ((i : Int) + (1 : Int)))] ++ jk 93, H := hp [some (Chunk.row 3 1 (i + 1) (joinF i (r1 L) fun (j : Nat) => List.getD [[i64 (stk (0 + Int.toNat (w ((m : Int) - (1 : Int)))))]] (0 + j) [])), some (Chunk.row 3 1 (i + 1) (joinF i (r1 W) fun (j : Nat) => List.getD [[i64 wa]] (0 + j) [])), some (Chunk.row 3 1 (m + 1) (joinF m (r1 stk) fun (j : Nat) => List.getD [[i64 (i : Int)]] (0 + j) []))], nx := 3, rt := 0, me := 87 }) (KC2 480 28)
 else
 none
 else
 if (op (Int.toNat (i : Int)) == (17 : Int)) = true then
 if decide (stk (0 + Int.toNat (w ((m : Int) - (1 : Int)))) < (0 : Int)) = true then
 some (Ans.l Ex.ret { fr := [V.junk, V.junk, V.sc (Value.slice none 0 0), V.sc (Value.slice none 0 0), bo false] ++ jk 98, H := hp [], nx := 0, rt := 0, me := 87 })
 else
 if (0 : Int) ≤ (i : Int) ∧ (i : Int) < (n : Int) then
 if (arg (Int.toNat (i : Int)) != w (stk (0 + Int.toNat (w ((m : Int) - (1 : Int)))) + (1 : Int))) = true then
 some (Ans.l Ex.ret { fr := [V.junk, V.junk, V.sc (Value.slice none 0 0), V.sc (Value.slice none 0 0), bo false] ++ jk 98, H := hp [], nx := 0, rt := 0, me := 87 })
 else
 if (0 : Int) ≤ (0 : Int) ∧ (0 : Int) ≤ w ((m : Int) - (1 : Int)) ∧ w ((m : Int) - (1 : Int)) ≤ (m : Int) then
 lo 0 993 (bodyOf E2 87 0) ({ fr := [V.ro 2 n (ins op arg), V.junk, V.junk, V.junk, V.junk, V.sl 0 1 0 (i + 1), V.sl 1 1 0 (i + 1), V.sl 2 1 0 (Int.toNat (w ((m : Int) - (1 : Int))) - Int.toNat (0 : Int)), i64 wa, i64 (w ((i : Int) + (1 : Int)))] ++ jk 93, H := hp [some (Chunk.row 3 1 (i + 1) (joinF i (r1 L) fun (j : Nat) => List.getD [[i64 (stk (0 + Int.toNat (w ((m : Int) - (1 : Int)))))]] (0 + j) [])), some (Chunk.row 3 1 (i + 1) (joinF i (r1 W) fun (j : Nat) => List.getD [[i64 wa]] (0 + j) [])), some (Chunk.row 3 1 cp (r1 stk))], nx := 3, rt := 0, me := 87 }) (KC2 480 28)
 else
 none
 else
 none
 else
 if (op (Int.toNat (i : Int)) == (19 : Int)) = true then
 lo 0 993 (bodyOf E2 87 0) ({ fr := [V.ro 2 n (ins op arg), V.junk, V.junk, V.junk, V.junk, V.sl 0 1 0 (i + 1), V.sl 1 1 0 (i + 1), V.sl 2 1 0 m, i64 (i : Int), i64 (w ((i : Int) + (1 : Int)))] ++ jk 93, H := hp [some (Chunk.row 3 1 (i + 1) (joinF i (r1 L) fun (j : Nat) => List.getD [[i64 (stk (0 + Int.toNat (w ((m : Int) - (1 : Int)))))]] (0 + j) [])), some (Chunk.row 3 1 (i + 1) (joinF i (r1 W) fun (j : Nat) => List.getD [[i64 wa]] (0 + j) [])), some (Chunk.row 3 1 cp (r1 stk))], nx := 3, rt := 0, me := 87 }) (KC2 480 28)
 else
 if (op (Int.toNat (i : Int)) == (20 : Int)) = true then
 if decide (wa < (0 : Int)) = true then
 some (Ans.l Ex.ret { fr := [V.junk, V.junk, V.sc (Value.slice none 0 0), V.sc (Value.slice none 0 0), bo false] ++ jk 98, H := hp [], nx := 0, rt := 0, me := 87 })
 else
 if (0 : Int) ≤ (i : Int) ∧ (i : Int) < (n : Int) then
 if (arg (Int.toNat (i : Int)) != w (wa + (1 : Int))) = true then
 some (Ans.l Ex.ret { fr := [V.junk, V.junk, V.sc (Value.slice none 0 0), V.sc (Value.slice none 0 0), bo false] ++ jk 98, H := hp [], nx := 0, rt := 0, me := 87 })
 else
 lo 0 993 (bodyOf E2 87 0) ({ fr := [V.ro 2 n (ins op arg), V.junk, V.junk, V.junk, V.junk, V.sl 0 1 0 (i + 1), V.sl 1 1 0 (i + 1), V.sl 2 1 0 m, i64 (-1), i64 (w ((i : Int) + (1 : Int)))] ++ jk 93, H := hp [some (Chunk.row 3 1 (i + 1) (joinF i (r1 L) fun (j : Nat) => List.getD [[i64 (stk (0 + Int.toNat (w ((m : Int) - (1 : Int)))))]] (0 + j) [])), some (Chunk.row 3 1 (i + 1) (joinF i (r1 W) fun (j : Nat) => List.getD [[i64 wa]] (0 + j) [])), some (Chunk.row 3 1 cp (r1 stk))], nx := 3, rt := 0, me := 87 }) (KC2 480 28)
 else
 none
 else
 lo 0 993 (bodyOf E2 87 0) ({ fr := [V.ro 2 n (ins op arg), V.junk, V.junk, V.junk, V.junk, V.sl 0 1 0 (i + 1), V.sl 1 1 0 (i + 1), V.sl 2 1 0 m, i64 wa, i64 (w ((i : Int) + (1 : Int)))] ++ jk 93, H := hp [some (Chunk.row 3 1 (i + 1) (joinF i (r1 L) fun (j : Nat) => List.getD [[i64 (stk (0 + Int.toNat (w ((m : Int) - (1 : Int)))))]] (0 + j) [])), some (Chunk.row 3 1 (i + 1) (joinF i (r1 W) fun (j : Nat) => List.getD [[i64 wa]] (0 + j) [])), some (Chunk.row 3 1 cp (r1 stk))], nx := 3, rt := 0, me := 87 }) (KC2 480 28)
 else
 none
 else
 none
 else
 none
 else
 none
 else
 if (i + 1) * 8 ≤ roomBound ∧ i + 1 ≤ maxLen ∧ i ≤ i then
 if (i + 1) * 8 ≤ roomBound ∧ i + 1 ≤ maxLen ∧ i ≤ i then
 if (op (Int.toNat (i : Int)) == (16 : Int)) = true then
 if (m + 1) * 8 ≤ roomBound ∧ m + 1 ≤ maxLen ∧ m ≤ cp then
 lo 0 993 (bodyOf E2 87 0) ({ fr := [V.ro 2 n (ins op arg), V.junk, V.junk, V.junk, V.junk, V.sl 0 1 0 (i + 1), V.sl 1 1 0 (i + 1), V.sl 2 1 0 (m + 1), i64 wa, i64 (w ((i : Int) + (1 : Int)))] ++ jk 93, H := hp [some (Chunk.row 3 1 (i + 1) (joinF i (r1 L) fun (j : Nat) => List.getD [[i64 (-1)]] (0 + j) [])), some (Chunk.row 3 1 (i + 1) (joinF i (r1 W) fun (j : Nat) => List.getD [[i64 wa]] (0 + j) [])), some (Chunk.row 3 1 (m + 1) (joinF m (r1 stk) fun (j : Nat) => List.getD [[i64 (i : Int)]] (0 + j) []))], nx := 3, rt := 0, me := 87 }) (KC2 480 28)
 else
 none
 else
 if (op (Int.toNat (i : Int)) == (17 : Int)) = true then
 some (Ans.l Ex.ret { fr := [V.junk, V.junk, V.sc (Value.slice none 0 0), V.sc (Value.slice none 0 0), bo false] ++ jk 98, H := hp [], nx := 0, rt := 0, me := 87 })
 else
 if (op (Int.toNat (i : Int)) == (19 : Int)) = true then
 lo 0 993 (bodyOf E2 87 0) ({ fr := [V.ro 2 n (ins op arg), V.junk, V.junk, V.junk, V.junk, V.sl 0 1 0 (i + 1), V.sl 1 1 0 (i + 1), V.sl 2 1 0 m, i64 (i : Int), i64 (w ((i : Int) + (1 : Int)))] ++ jk 93, H := hp [some (Chunk.row 3 1 (i + 1) (joinF i (r1 L) fun (j : Nat) => List.getD [[i64 (-1)]] (0 + j) [])), some (Chunk.row 3 1 (i + 1) (joinF i (r1 W) fun (j : Nat) => List.getD [[i64 wa]] (0 + j) [])), some (Chunk.row 3 1 cp (r1 stk))], nx := 3, rt := 0, me := 87 }) (KC2 480 28)
 else
 if (op (Int.toNat (i : Int)) == (20 : Int)) = true then
 if decide (wa < (0 : Int)) = true then
 some (Ans.l Ex.ret { fr := [V.junk, V.junk, V.sc (Value.slice none 0 0), V.sc (Value.slice none 0 0), bo false] ++ jk 98, H := hp [], nx := 0, rt := 0, me := 87 })
 else
 if (0 : Int) ≤ (i : Int) ∧ (i : Int) < (n : Int) then
 if (arg (Int.toNat (i : Int)) != w (wa + (1 : Int))) = true then
 some (Ans.l Ex.ret { fr := [V.junk, V.junk, V.sc (Value.slice none 0 0), V.sc (Value.slice none 0 0), bo false] ++ jk 98, H := hp [], nx := 0, rt := 0, me := 87 })
 else
 lo 0 993 (bodyOf E2 87 0) ({ fr := [V.ro 2 n (ins op arg), V.junk, V.junk, V.junk, V.junk, V.sl 0 1 0 (i + 1), V.sl 1 1 0 (i + 1), V.sl 2 1 0 m, i64 (-1), i64 (w ((i : Int) + (1 : Int)))] ++ jk 93, H := hp [some (Chunk.row 3 1 (i + 1) (joinF i (r1 L) fun (j : Nat) => List.getD [[i64 (-1)]] (0 + j) [])), some (Chunk.row 3 1 (i + 1) (joinF i (r1 W) fun (j : Nat) => List.getD [[i64 wa]] (0 + j) [])), some (Chunk.row 3 1 cp (r1 stk))], nx := 3, rt := 0, me := 87 }) (KC2 480 28)
 else
 none
 else
 lo 0 993 (bodyOf E2 87 0) ({ fr := [V.ro 2 n (ins op arg), V.junk, V.junk, V.junk, V.junk, V.sl 0 1 0 (i + 1), V.sl 1 1 0 (i + 1), V.sl 2 1 0 m, i64 wa, i64 (w ((i : Int) + (1 : Int)))] ++ jk 93, H := hp [some (Chunk.row 3 1 (i + 1) (joinF i (r1 L) fun (j : Nat) => List.getD [[i64 (-1)]] (0 + j) [])), some (Chunk.row 3 1 (i + 1) (joinF i (r1 W) fun (j : Nat) => List.getD [[i64 wa]] (0 + j) [])), some (Chunk.row 3 1 cp (r1 stk))], nx := 3, rt := 0, me := 87 }) (KC2 480 28)
 else
 none
 else
 none) (
 none)
 else
 if decide ((m : Int) > (0 : Int)) = true then
 if (0 : Int) ≤ w ((m : Int) - (1 : Int)) ∧ w ((m : Int) - (1 : Int)) < (m : Int) then
 if 0 + Int.toNat (w ((m : Int) - (1 : Int))) < cp ∧ 1 = 1 then
 if (i + 1) * 8 ≤ roomBound ∧ i + 1 ≤ maxLen ∧ i ≤ i then
 if (i + 1) * 8 ≤ roomBound ∧ i + 1 ≤ maxLen ∧ i ≤ i then
 if (op (Int.toNat (i : Int)) == (16 : Int)) = true then
 if (m + 1) * 8 ≤ roomBound ∧ m + 1 ≤ maxLen ∧ m ≤ cp then
 lo 0 993 (bodyOf E2 87 0) ({ fr := [V.ro 2 n (ins op arg), V.junk, V.junk, V.junk, V.junk, V.sl 0 1 0 (i + 1), V.sl 1 1 0 (i + 1), V.sl 2 1 0 (m + 1), i64 wa, i64 (w ((i : Int) + (1 : Int)))] ++ jk 93, H := hp [some (Chunk.row 3 1 (i + 1) (joinF i (r1 L) fun (j : Nat) => List.getD [[i64 (stk (0 + Int.toNat (w ((m : Int) - (1 : Int)))))]] (0 + j) [])), some (Chunk.row 3 1 (i + 1) (joinF i (r1 W) fun (j : Nat) => List.getD [[i64 wa]] (0 + j) [])), some (Chunk.row 3 1 (m + 1) (joinF m (r1 stk) fun (j : Nat) => List.getD [[i64 (i : Int)]] (0 + j) []))], nx := 3, rt := 0, me := 87 }) (KC2 480 28)
 else
 none
 else
 if (op (Int.toNat (i : Int)) == (17 : Int)) = true then
 if decide (stk (0 + Int.toNat (w ((m : Int) - (1 : Int)))) < (0 : Int)) = true then
 some (Ans.l Ex.ret { fr := [V.junk, V.junk, V.sc (Value.slice none 0 0), V.sc (Value.slice none 0 0), bo false] ++ jk 98, H := hp [], nx := 0, rt := 0, me := 87 })
 else
 if (0 : Int) ≤ (i : Int) ∧ (i : Int) < (n : Int) then
 if (arg (Int.toNat (i : Int)) != w (stk (0 + Int.toNat (w ((m : Int) - (1 : Int)))) + (1 : Int))) = true then
 some (Ans.l Ex.ret { fr := [V.junk, V.junk, V.sc (Value.slice none 0 0), V.sc (Value.slice none 0 0), bo false] ++ jk 98, H := hp [], nx := 0, rt := 0, me := 87 })
 else
 if (0 : Int) ≤ (0 : Int) ∧ (0 : Int) ≤ w ((m : Int) - (1 : Int)) ∧ w ((m : Int) - (1 : Int)) ≤ (m : Int) then
 lo 0 993 (bodyOf E2 87 0) ({ fr := [V.ro 2 n (ins op arg), V.junk, V.junk, V.junk, V.junk, V.sl 0 1 0 (i + 1), V.sl 1 1 0 (i + 1), V.sl 2 1 0 (Int.toNat (w ((m : Int) - (1 : Int))) - Int.toNat (0 : Int)), i64 wa, i64 (w ((i : Int) + (1 : Int)))] ++ jk 93, H := hp [some (Chunk.row 3 1 (i + 1) (joinF i (r1 L) fun (j : Nat) => List.getD [[i64 (stk (0 + Int.toNat (w ((m : Int) - (1 : Int)))))]] (0 + j) [])), some (Chunk.row 3 1 (i + 1) (joinF i (r1 W) fun (j : Nat) => List.getD [[i64 wa]] (0 + j) [])), some (Chunk.row 3 1 cp (r1 stk))], nx := 3, rt := 0, me := 87 }) (KC2 480 28)
 else
 none
 else
 none
 else
 if (op (Int.toNat (i : Int)) == (19 : Int)) = true then
 lo 0 993 (bodyOf E2 87 0) ({ fr := [V.ro 2 n (ins op arg), V.junk, V.junk, V.junk, V.junk, V.sl 0 1 0 (i + 1), V.sl 1 1 0 (i + 1), V.sl 2 1 0 m, i64 (i : Int), i64 (w ((i : Int) + (1 : Int)))] ++ jk 93, H := hp [some (Chunk.row 3 1 (i + 1) (joinF i (r1 L) fun (j : Nat) => List.getD [[i64 (stk (0 + Int.toNat (w ((m : Int) - (1 : Int)))))]] (0 + j) [])), some (Chunk.row 3 1 (i + 1) (joinF i (r1 W) fun (j : Nat) => List.getD [[i64 wa]] (0 + j) [])), some (Chunk.row 3 1 cp (r1 stk))], nx := 3, rt := 0, me := 87 }) (KC2 480 28)
 else
 if (op (Int.toNat (i : Int)) == (20 : Int)) = true then
 if decide (wa < (0 : Int)) = true then
 some (Ans.l Ex.ret { fr := [V.junk, V.junk, V.sc (Value.slice none 0 0), V.sc (Value.slice none 0 0), bo false] ++ jk 98, H := hp [], nx := 0, rt := 0, me := 87 })
 else
 if (0 : Int) ≤ (i : Int) ∧ (i : Int) < (n : Int) then
 if (arg (Int.toNat (i : Int)) != w (wa + (1 : Int))) = true then
 some (Ans.l Ex.ret { fr := [V.junk, V.junk, V.sc (Value.slice none 0 0), V.sc (Value.slice none 0 0), bo false] ++ jk 98, H := hp [], nx := 0, rt := 0, me := 87 })
 else
 lo 0 993 (bodyOf E2 87 0) ({ fr := [V.ro 2 n (ins op arg), V.junk, V.junk, V.junk, V.junk, V.sl 0 1 0 (i + 1), V.sl 1 1 0 (i + 1), V.sl 2 1 0 m, i64 (-1), i64 (w ((i : Int) + (1 : Int)))] ++ jk 93, H := hp [some (Chunk.row 3 1 (i + 1) (joinF i (r1 L) fun (j : Nat) => List.getD [[i64 (stk (0 + Int.toNat (w ((m : Int) - (1 : Int)))))]] (0 + j) [])), some (Chunk.row 3 1 (i + 1) (joinF i (r1 W) fun (j : Nat) => List.getD [[i64 wa]] (0 + j) [])), some (Chunk.row 3 1 cp (r1 stk))], nx := 3, rt := 0, me := 87 }) (KC2 480 28)
 else
 none
 else
 lo 0 993 (bodyOf E2 87 0) ({ fr := [V.ro 2 n (ins op arg), V.junk, V.junk, V.junk, V.junk, V.sl 0 1 0 (i + 1), V.sl 1 1 0 (i + 1), V.sl 2 1 0 m, i64 wa, i64 (w ((i : Int) + (1 : Int)))] ++ jk 93, H := hp [some (Chunk.row 3 1 (i + 1) (joinF i (r1 L) fun (j : Nat) => List.getD [[i64 (stk (0 + Int.toNat (w ((m : Int) - (1 : Int)))))]] (0 + j) [])), some (Chunk.row 3 1 (i + 1) (joinF i (r1 W) fun (j : Nat) => List.getD [[i64 wa]] (0 + j) [])), some (Chunk.row 3 1 cp (r1 stk))], nx := 3, rt := 0, me := 87 }) (KC2 480 28)
 else
 none
 else
 none
 else
 none
 else
 none
 else
 if (i + 1) * 8 ≤ roomBound ∧ i + 1 ≤ maxLen ∧ i ≤ i then
 if (i + 1) * 8 ≤ roomBound ∧ i + 1 ≤ maxLen ∧ i ≤ i then
 if (op (Int.toNat (i : Int)) == (16 : Int)) = true then
 if (m + 1) * 8 ≤ roomBound ∧ m + 1 ≤ maxLen ∧ m ≤ cp then
 lo 0 993 (bodyOf E2 87 0) ({ fr := [V.ro 2 n (ins op arg), V.junk, V.junk, V.junk, V.junk, V.sl 0 1 0 (i + 1), V.sl 1 1 0 (i + 1), V.sl 2 1 0 (m + 1), i64 wa, i64 (w ((i : Int) + (1 : Int)))] ++ jk 93, H := hp [some (Chunk.row 3 1 (i + 1) (joinF i (r1 L) fun (j : Nat) => List.getD [[i64 (-1)]] (0 + j) [])), some (Chunk.row 3 1 (i + 1) (joinF i (r1 W) fun (j : Nat) => List.getD [[i64 wa]] (0 + j) [])), some (Chunk.row 3 1 (m + 1) (joinF m (r1 stk) fun (j : Nat) => List.getD [[i64 (i : Int)]] (0 + j) []))], nx := 3, rt := 0, me := 87 }) (KC2 480 28)
 else
 none
 else
 if (op (Int.toNat (i : Int)) == (17 : Int)) = true then
 some (Ans.l Ex.ret { fr := [V.junk, V.junk, V.sc (Value.slice none 0 0), V.sc (Value.slice none 0 0), bo false] ++ jk 98, H := hp [], nx := 0, rt := 0, me := 87 })
 else
 if (op (Int.toNat (i : Int)) == (19 : Int)) = true then
 lo 0 993 (bodyOf E2 87 0) ({ fr := [V.ro 2 n (ins op arg), V.junk, V.junk, V.junk, V.junk, V.sl 0 1 0 (i + 1), V.sl 1 1 0 (i + 1), V.sl 2 1 0 m, i64 (i : Int), i64 (w ((i : Int) + (1 : Int)))] ++ jk 93, H := hp [some (Chunk.row 3 1 (i + 1) (joinF i (r1 L) fun (j : Nat) => List.getD [[i64 (-1)]] (0 + j) [])), some (Chunk.row 3 1 (i + 1) (joinF i (r1 W) fun (j : Nat) => List.getD [[i64 wa]] (0 + j) [])), some (Chunk.row 3 1 cp (r1 stk))], nx := 3, rt := 0, me := 87 }) (KC2 480 28)
 else
 if (op (Int.toNat (i : Int)) == (20 : Int)) = true then
 if decide (wa < (0 : Int)) = true then
 some (Ans.l Ex.ret { fr := [V.junk, V.junk, V.sc (Value.slice none 0 0), V.sc (Value.slice none 0 0), bo false] ++ jk 98, H := hp [], nx := 0, rt := 0, me := 87 })
 else
 if (0 : Int) ≤ (i : Int) ∧ (i : Int) < (n : Int) then
 if (arg (Int.toNat (i : Int)) != w (wa + (1 : Int))) = true then
 some (Ans.l Ex.ret { fr := [V.junk, V.junk, V.sc (Value.slice none 0 0), V.sc (Value.slice none 0 0), bo false] ++ jk 98, H := hp [], nx := 0, rt := 0, me := 87 })
 else
 lo 0 993 (bodyOf E2 87 0) ({ fr := [V.ro 2 n (ins op arg), V.junk, V.junk, V.junk, V.junk, V.sl 0 1 0 (i + 1), V.sl 1 1 0 (i + 1), V.sl 2 1 0 m, i64 (-1), i64 (w ((i : Int) + (1 : Int)))] ++ jk 93, H := hp [some (Chunk.row 3 1 (i + 1) (joinF i (r1 L) fun (j : Nat) => List.getD [[i64 (-1)]] (0 + j) [])), some (Chunk.row 3 1 (i + 1) (joinF i (r1 W) fun (j : Nat) => List.getD [[i64 wa]] (0 + j) [])), some (Chunk.row 3 1 cp (r1 stk))], nx := 3, rt := 0, me := 87 }) (KC2 480 28)
 else
 none
 else
 lo 0 993 (bodyOf E2 87 0) ({ fr := [V.ro 2 n (ins op arg), V.junk, V.junk, V.junk, V.junk, V.sl 0 1 0 (i + 1), V.sl 1 1 0 (i + 1), V.sl 2 1 0 m, i64 wa, i64 (w ((i : Int) + (1 : Int)))] ++ jk 93, H := hp [some (Chunk.row 3 1 (i + 1) (joinF i (r1 L) fun (j : Nat) => List.getD [[i64 (-1)]] (0 + j) [])), some (Chunk.row 3 1 (i + 1) (joinF i (r1 W) fun (j : Nat) => List.getD [[i64 wa]] (0 + j) [])), some (Chunk.row 3 1 cp (r1 stk))], nx := 3, rt := 0, me := 87 }) (KC2 480 28)
 else
 none
 else
 none
 else
 if decide ((m : Int) > (0 : Int)) = true then
 if (0 : Int) ≤ w ((m : Int) - (1 : Int)) ∧ w ((m : Int) - (1 : Int)) < (m : Int) then
 if 0 + Int.toNat (w ((m : Int) - (1 : Int))) < cp ∧ 1 = 1 then
 if (i + 1) * 8 ≤ roomBound ∧ i + 1 ≤ maxLen ∧ i ≤ i then
 if (i + 1) * 8 ≤ roomBound ∧ i + 1 ≤ maxLen ∧ i ≤ i then
 if (op (Int.toNat (i : Int)) == (16 : Int)) = true then
 if (m + 1) * 8 ≤ roomBound ∧ m + 1 ≤ maxLen ∧ m ≤ cp then
 lo 0 993 (bodyOf E2 87 0) ({ fr := [V.ro 2 n (ins op arg), V.junk, V.junk, V.junk, V.junk, V.sl 0 1 0 (i + 1), V.sl 1 1 0 (i + 1), V.sl 2 1 0 (m + 1), i64 wa, i64 (w ((i : Int) + (1 : Int)))] ++ jk 93, H := hp [some (Chunk.row 3 1 (i + 1) (joinF i (r1 L) fun (j : Nat) => List.getD [[i64 (stk (0 + Int.toNat (w ((m : Int) - (1 : Int)))))]] (0 + j) [])), some (Chunk.row 3 1 (i + 1) (joinF i (r1 W) fun (j : Nat) => List.getD [[i64 wa]] (0 + j) [])), some (Chunk.row 3 1 (m + 1) (joinF m (r1 stk) fun (j : Nat) => List.getD [[i64 (i : Int)]] (0 + j) []))], nx := 3, rt := 0, me := 87 }) (KC2 480 28)
 else
 none
 else
 if (op (Int.toNat (i : Int)) == (17 : Int)) = true then
 if decide (stk (0 + Int.toNat (w ((m : Int) - (1 : Int)))) < (0 : Int)) = true then
 some (Ans.l Ex.ret { fr := [V.junk, V.junk, V.sc (Value.slice none 0 0), V.sc (Value.slice none 0 0), bo false] ++ jk 98, H := hp [], nx := 0, rt := 0, me := 87 })
 else
 if (0 : Int) ≤ (i : Int) ∧ (i : Int) < (n : Int) then
 if (arg (Int.toNat (i : Int)) != w (stk (0 + Int.toNat (w ((m : Int) - (1 : Int)))) + (1 : Int))) = true then
 some (Ans.l Ex.ret { fr := [V.junk, V.junk, V.sc (Value.slice none 0 0), V.sc (Value.slice none 0 0), bo false] ++ jk 98, H := hp [], nx := 0, rt := 0, me := 87 })
 else
 if (0 : Int) ≤ (0 : Int) ∧ (0 : Int) ≤ w ((m : Int) - (1 : Int)) ∧ w ((m : Int) - (1 : Int)) ≤ (m : Int) then
 lo 0 993 (bodyOf E2 87 0) ({ fr := [V.ro 2 n (ins op arg), V.junk, V.junk, V.junk, V.junk, V.sl 0 1 0 (i + 1), V.sl 1 1 0 (i + 1), V.sl 2 1 0 (Int.toNat (w ((m : Int) - (1 : Int))) - Int.toNat (0 : Int)), i64 wa, i64 (w ((i : Int) + (1 : Int)))] ++ jk 93, H := hp [some (Chunk.row 3 1 (i + 1) (joinF i (r1 L) fun (j : Nat) => List.getD [[i64 (stk (0 + Int.toNat (w ((m : Int) - (1 : Int)))))]] (0 + j) [])), some (Chunk.row 3 1 (i + 1) (joinF i (r1 W) fun (j : Nat) => List.getD [[i64 wa]] (0 + j) [])), some (Chunk.row 3 1 cp (r1 stk))], nx := 3, rt := 0, me := 87 }) (KC2 480 28)
 else
 none
 else
 none
 else
 if (op (Int.toNat (i : Int)) == (19 : Int)) = true then
 lo 0 993 (bodyOf E2 87 0) ({ fr := [V.ro 2 n (ins op arg), V.junk, V.junk, V.junk, V.junk, V.sl 0 1 0 (i + 1), V.sl 1 1 0 (i + 1), V.sl 2 1 0 m, i64 (i : Int), i64 (w ((i : Int) + (1 : Int)))] ++ jk 93, H := hp [some (Chunk.row 3 1 (i + 1) (joinF i (r1 L) fun (j : Nat) => List.getD [[i64 (stk (0 + Int.toNat (w ((m : Int) - (1 : Int)))))]] (0 + j) [])), some (Chunk.row 3 1 (i + 1) (joinF i (r1 W) fun (j : Nat) => List.getD [[i64 wa]] (0 + j) [])), some (Chunk.row 3 1 cp (r1 stk))], nx := 3, rt := 0, me := 87 }) (KC2 480 28)
 else
 if (op (Int.toNat (i : Int)) == (20 : Int)) = true then
 if decide (wa < (0 : Int)) = true then
 some (Ans.l Ex.ret { fr := [V.junk, V.junk, V.sc (Value.slice none 0 0), V.sc (Value.slice none 0 0), bo false] ++ jk 98, H := hp [], nx := 0, rt := 0, me := 87 })
 else
 if (0 : Int) ≤ (i : Int) ∧ (i : Int) < (n : Int) then
 if (arg (Int.toNat (i : Int)) != w (wa + (1 : Int))) = true then
 some (Ans.l Ex.ret { fr := [V.junk, V.junk, V.sc (Value.slice none 0 0), V.sc (Value.slice none 0 0), bo false] ++ jk 98, H := hp [], nx := 0, rt := 0, me := 87 })
 else
 lo 0 993 (bodyOf E2 87 0) ({ fr := [V.ro 2 n (ins op arg), V.junk, V.junk, V.junk, V.junk, V.sl 0 1 0 (i + 1), V.sl 1 1 0 (i + 1), V.sl 2 1 0 m, i64 (-1), i64 (w ((i : Int) + (1 : Int)))] ++ jk 93, H := hp [some (Chunk.row 3 1 (i + 1) (joinF i (r1 L) fun (j : Nat) => List.getD [[i64 (stk (0 + Int.toNat (w ((m : Int) - (1 : Int)))))]] (0 + j) [])), some (Chunk.row 3 1 (i + 1) (joinF i (r1 W) fun (j : Nat) => List.getD [[i64 wa]] (0 + j) [])), some (Chunk.row 3 1 cp (r1 stk))], nx := 3, rt := 0, me := 87 }) (KC2 480 28)
 else
 none
 else
 lo 0 993 (bodyOf E2 87 0) ({ fr := [V.ro 2 n (ins op arg), V.junk, V.junk, V.junk, V.junk, V.sl 0 1 0 (i + 1), V.sl 1 1 0 (i + 1), V.sl 2 1 0 m, i64 wa, i64 (w ((i : Int) + (1 : Int)))] ++ jk 93, H := hp [some (Chunk.row 3 1 (i + 1) (joinF i (r1 L) fun (j : Nat) => List.getD [[i64 (stk (0 + Int.toNat (w ((m : Int) - (1 : Int)))))]] (0 + j) [])), some (Chunk.row 3 1 (i + 1) (joinF i (r1 W) fun (j : Nat) => List.getD [[i64 wa]] (0 + j) [])), some (Chunk.row 3 1 cp (r1 stk))], nx := 3, rt := 0, me := 87 }) (KC2 480 28)
 else
 none
 else
 none
 else
 none
 else
 none
 else
 if (i + 1) * 8 ≤ roomBound ∧ i + 1 ≤ maxLen ∧ i ≤ i then
 if (i + 1) * 8 ≤ roomBound ∧ i + 1 ≤ maxLen ∧ i ≤ i then
 if (op (Int.toNat (i : Int)) == (16 : Int)) = true then
 if (m + 1) * 8 ≤ roomBound ∧ m + 1 ≤ maxLen ∧ m ≤ cp then
 lo 0 993 (bodyOf E2 87 0) ({ fr := [V.ro 2 n (ins op arg), V.junk, V.junk, V.junk, V.junk, V.sl 0 1 0 (i + 1), V.sl 1 1 0 (i + 1), V.sl 2 1 0 (m + 1), i64 wa, i64 (w ((i : Int) + (1 : Int)))] ++ jk 93, H := hp [some (Chunk.row 3 1 (i + 1) (joinF i (r1 L) fun (j : Nat) => List.getD [[i64 (-1)]] (0 + j) [])), some (Chunk.row 3 1 (i + 1) (joinF i (r1 W) fun (j : Nat) => List.getD [[i64 wa]] (0 + j) [])), some (Chunk.row 3 1 (m + 1) (joinF m (r1 stk) fun (j : Nat) => List.getD [[i64 (i : Int)]] (0 + j) []))], nx := 3, rt := 0, me := 87 }) (KC2 480 28)
 else
 none
 else
 if (op (Int.toNat (i : Int)) == (17 : Int)) = true then
 some (Ans.l Ex.ret { fr := [V.junk, V.junk, V.sc (Value.slice none 0 0), V.sc (Value.slice none 0 0), bo false] ++ jk 98, H := hp [], nx := 0, rt := 0, me := 87 })
 else
 if (op (Int.toNat (i : Int)) == (19 : Int)) = true then
 lo 0 993 (bodyOf E2 87 0) ({ fr := [V.ro 2 n (ins op arg), V.junk, V.junk, V.junk, V.junk, V.sl 0 1 0 (i + 1), V.sl 1 1 0 (i + 1), V.sl 2 1 0 m, i64 (i : Int), i64 (w ((i : Int) + (1 : Int)))] ++ jk 93, H := hp [some (Chunk.row 3 1 (i + 1) (joinF i (r1 L) fun (j : Nat) => List.getD [[i64 (-1)]] (0 + j) [])), some (Chunk.row 3 1 (i + 1) (joinF i (r1 W) fun (j : Nat) => List.getD [[i64 wa]] (0 + j) [])), some (Chunk.row 3 1 cp (r1 stk))], nx := 3, rt := 0, me := 87 }) (KC2 480 28)
 else
 if (op (Int.toNat (i : Int)) == (20 : Int)) = true then
 if decide (wa < (0 : Int)) = true then
 some (Ans.l Ex.ret { fr := [V.junk, V.junk, V.sc (Value.slice none 0 0), V.sc (Value.slice none 0 0), bo false] ++ jk 98, H := hp [], nx := 0, rt := 0, me := 87 })
 else
 if (0 : Int) ≤ (i : Int) ∧ (i : Int) < (n : Int) then
 if (arg (Int.toNat (i : Int)) != w (wa + (1 : Int))) = true then
 some (Ans.l Ex.ret { fr := [V.junk, V.junk, V.sc (Value.slice none 0 0), V.sc (Value.slice none 0 0), bo false] ++ jk 98, H := hp [], nx := 0, rt := 0, me := 87 })
 else
 lo 0 993 (bodyOf E2 87 0) ({ fr := [V.ro 2 n (ins op arg), V.junk, V.junk, V.junk, V.junk, V.sl 0 1 0 (i + 1), V.sl 1 1 0 (i + 1), V.sl 2 1 0 m, i64 (-1), i64 (w ((i : Int) + (1 : Int)))] ++ jk 93, H := hp [some (Chunk.row 3 1 (i + 1) (joinF i (r1 L) fun (j : Nat) => List.getD [[i64 (-1)]] (0 + j) [])), some (Chunk.row 3 1 (i + 1) (joinF i (r1 W) fun (j : Nat) => List.getD [[i64 wa]] (0 + j) [])), some (Chunk.row 3 1 cp (r1 stk))], nx := 3, rt := 0, me := 87 }) (KC2 480 28)
 else
 none
 else
 lo 0 993 (bodyOf E2 87 0) ({ fr := [V.ro 2 n (ins op arg), V.junk, V.junk, V.junk, V.junk, V.sl 0 1 0 (i + 1), V.sl 1 1 0 (i + 1), V.sl 2 1 0 m, i64 wa, i64 (w ((i : Int) + (1 : Int)))] ++ jk 93, H := hp [some (Chunk.row 3 1 (i + 1) (joinF i (r1 L) fun (j : Nat) => List.getD [[i64 (-1)]] (0 + j) [])), some (Chunk.row 3 1 (i + 1) (joinF i (r1 W) fun (j : Nat) => List.getD [[i64 wa]] (0 + j) [])), some (Chunk.row 3 1 cp (r1 stk))], nx := 3, rt := 0, me := 87 }) (KC2 480 28)
 else
 none
 else
 none
 else
 none
 else
 some (Ans.l (Ex.exit 0) { fr := [V.junk, V.junk, V.junk, V.junk, V.junk, V.sl 0 1 0 i, V.sl 1 1 0 i, V.sl 2 1 0 m, i64 wa] ++ jk 94, H := hp [some (Chunk.row 3 1 i (r1 L)), some (Chunk.row 3 1 i (r1 W)), some (Chunk.row 3 1 cp (r1 stk))], nx := 3, rt := 0, me := 87 }) := by kernel_rfl

theorem f79b (n : Nat) (op arg L W : Nat → Int) (wa : Int) (S1 : St) (P : Prop) : callK E2 C79 (ltab2 [⟨0, bodyOf E2 87 0, S1, P, .exit 0, T79b n L W wa, .ret, T79r⟩]) 87 [cd n op arg] [] K =
 cl ((bodyOf E2 87 0) = (bodyOf E2 87 0) ∧ LeSt ({ fr := [V.ro 2 n (ins op arg), V.junk, V.junk, V.junk, V.junk, V.sc (Value.slice none 0 0), V.sc (Value.slice none 0 0), V.sc (Value.slice none 0 0), i64 (-1), i64 0] ++ jk 93, H := hp [], nx := 0, rt := 0, me := 87 }) (S1)) (
 cl (P) (
 some (Ans.c (CRes.ret (V.tup [V.sl 0 1 0 n, V.sl 1 1 0 n, bo ((decide (wa < (0 : Int))))]) [some (Chunk.row 3 1 n (r1 L)), some (Chunk.row 3 1 n (r1 W))]))) (
 some (Ans.c (CRes.ret (V.tup [V.sc (Value.slice none 0 0), V.sc (Value.slice none 0 0), bo false]) [])))) (
 none) := by kernel_rfl

theorem f79c (n : Nat) (op arg L W : Nat → Int) (m cp : Nat) (stk : Nat → Int) (wa : Int) (S1 : St) (P : Prop) : callK E2 C79 (ltab2 [⟨0, bodyOf E2 87 0, S1, P, .exit 0, T79c n L W m cp stk wa, .ret, T79r⟩]) 87 [cd n op arg] [] K =
 cl ((bodyOf E2 87 0) = (bodyOf E2 87 0) ∧ LeSt ({ fr := [V.ro 2 n (ins op arg), V.junk, V.junk, V.junk, V.junk, V.sc (Value.slice none 0 0), V.sc (Value.slice none 0 0), V.sc (Value.slice none 0 0), i64 (-1), i64 0] ++ jk 93, H := hp [], nx := 0, rt := 0, me := 87 }) (S1)) (
 cl (P) (
 if ((m : Int) == (0 : Int)) = true then
 some (Ans.c (CRes.ret (V.tup [V.sl 0 1 0 n, V.sl 1 1 0 n, bo ((decide (wa < (0 : Int))))]) [some (Chunk.row 3 1 n (r1 L)), some (Chunk.row 3 1 n (r1 W))]))
 else
 some (Ans.c (CRes.ret (V.tup [V.sl 0 1 0 n, V.sl 1 1 0 n, bo false]) [some (Chunk.row 3 1 n (r1 L)), some (Chunk.row 3 1 n (r1 W))]))) (
 some (Ans.c (CRes.ret (V.tup [V.sc (Value.slice none 0 0), V.sc (Value.slice none 0 0), bo false]) [])))) (
 none) := by kernel_rfl

theorem k79b (n : Nat) (L W : Nat → Int) (wa : Int) : KC2 480 28 (.exit 0) (T79b n L W wa) = some (.l (.exit 0) (T79b n L W wa)) := by kernel_rfl
theorem k79c (n : Nat) (L W : Nat → Int) (m cp : Nat) (stk : Nat → Int) (wa : Int) : KC2 480 28 (.exit 0) (T79c n L W m cp stk wa) = some (.l (.exit 0) (T79c n L W m cp stk wa)) := by kernel_rfl
theorem k79r : KC2 480 28 .ret T79r = some (.l .ret T79r) := by kernel_rfl
def ends79 (n : Nat) (x : Option Cv.Rg) (S : St) : Prop := match x with
 | none => SL E2 (bodyOf E2 87 0) S .ret T79r
 | some q => (q.m = 0 ∧ SL E2 (bodyOf E2 87 0) S (.exit 0) (T79b n q.L q.W q.wa)) ∨ ∃ cp, SL E2 (bodyOf E2 87 0) S (.exit 0) (T79c n q.L q.W q.m cp q.stk q.wa)
theorem ends79_next {n : Nat} {x y : Option Cv.Rg} {S S' S1 : St} (h : ends79 n y S1) (e : x = y) (hn : ∀ lo, loopK E2 C79 lo 0 993 (bodyOf E2 87 0) S (KC2 480 28) = lo 0 993 (bodyOf E2 87 0) S' (KC2 480 28)) (hle : LeSt S' S1) : ends79 n x S := by
 subst e
 cases x with
 | none => exact SL.by2 sC79 hX2 (oneF2 0 (e := .exit 0) (T := T79r) h) ((hn _).trans ((ltab2_hit hle).trans ((cl_neg (fun h => h)).trans k79r)))
 | some q =>
  rcases h with ⟨h0, h⟩ | ⟨cp, h⟩
  ·exact .inl ⟨h0, SL.by2 sC79 hX2 (one2 0 (e' := .ret) (T' := T79r) h) ((hn _).trans ((ltab2_hit hle).trans ((cl_pos trivial).trans (k79b _ _ _ _))))⟩
  ·exact .inr ⟨cp, SL.by2 sC79 hX2 (one2 0 (e' := .ret) (T' := T79r) h) ((hn _).trans ((ltab2_hit hle).trans ((cl_pos trivial).trans (k79c _ _ _ _ _ _ _))))⟩
theorem ends79_ret {n : Nat} {x : Option Cv.Rg} {S : St} (e : x = none) (hn : ∀ lo, loopK E2 C79 lo 0 993 (bodyOf E2 87 0) S (KC2 480 28) = some (.l .ret T79r)) : ends79 n x S := by
 subst e
 exact SL.by2 sC79 hX2 ltab2_nil (hn _)
theorem join1 (L : Nat → Int) (i : Nat) (v : Int) : ∀ j, j < i + 1 → joinF i (r1 L) (fun (j : Nat) => List.getD [[i64 v]] j []) j = r1 (Cv.upd L i v) j := by
 intro j hj
 unfold joinF r1 Cv.upd
 by_cases h : j < i
 ·rw [if_pos h, if_neg (by omega)]
 ·have : j = i := by omega
  subst this
  rw [if_neg h, if_pos rfl, Nat.sub_self]
  rfl
theorem get1 (L : Nat → Int) (v : Int) : ∀ j, j < 0 + 1 → (fun (j : Nat) => List.getD [[i64 v]] j []) j = r1 (Cv.upd L 0 v) j := by
 intro j hj
 have : j = 0 := by omega
 subst this
 unfold r1 Cv.upd
 rw [if_pos rfl]
 rfl
structure Inv79 (i m : Nat) (stk : Nat → Int) (wa : Int) : Prop where
 lt : ∀ k, k < m → 0 ≤ stk k ∧ stk k < i
 wa : wa = -1 ∨ (0 ≤ wa ∧ wa < i)
 m : m ≤ i
theorem Inv79.keep {i m : Nat} {stk : Nat → Int} {wa wa' : Int} (h : Inv79 i m stk wa) (hw : wa' = -1 ∨ (0 ≤ wa' ∧ wa' < (i + 1 : Nat))) : Inv79 (i + 1) m stk wa' :=
 ⟨fun k hk => by have := h.lt k hk; omega, hw, by have := h.m; omega⟩
theorem Inv79.push {i m : Nat} {stk : Nat → Int} {wa : Int} (h : Inv79 i m stk wa) : Inv79 (i + 1) (m + 1) (Cv.upd stk m i) wa := by
 refine ⟨fun k hk => ?_, by have := h.wa; omega, by have := h.m; omega⟩
 unfold Cv.upd
 split
 ·omega
 ·have := h.lt k (by omega); omega
theorem Inv79.pop {i m : Nat} {stk : Nat → Int} {wa : Int} (h : Inv79 i m stk wa) : Inv79 (i + 1) (m - 1) stk wa :=
 ⟨fun k hk => by have := h.lt k (by omega); omega, by have := h.wa; omega, by have := h.m; omega⟩
theorem eqT {o k : Int} (h : o = k) : (o == k) = true := by simpa using h
theorem eqF {o k : Int} (h : o ≠ k) : (o == k) = false := by simpa using h
theorem neT {o k : Int} (h : o ≠ k) : (o != k) = true := by simpa using h
theorem neF {o k : Int} (h : o = k) : (o != k) = false := by simpa using h
theorem dT {p : Prop} [Decidable p] (h : p) : decide p = true := decide_eq_true h
theorem dF {p : Prop} [Decidable p] (h : ¬ p) : decide p = false := decide_eq_false h
set_option maxRecDepth 100000 in
theorem loop79 {n : Nat} {op arg : Nat → Int} (vs : Int) (hn : n ≤ 300) : ∀ r : Nat, (∀ (i : Nat) (L W stk : Nat → Int) (wa : Int), i + r = n → Inv79 i 0 stk wa → ends79 n (Cv.regR (mkC vs n op arg) r i ⟨L, W, 0, stk, wa⟩) (S79b n op arg i L W wa)) ∧ (∀ (i : Nat) (L W : Nat → Int) (m cp : Nat) (stk : Nat → Int) (wa : Int), i + r = n → m ≤ cp → Inv79 i m stk wa → ends79 n (Cv.regR (mkC vs n op arg) r i ⟨L, W, m, stk, wa⟩) (S79c n op arg i L W m cp stk wa)) := by
 intro r
 induction r with
 | zero =>
  refine ⟨fun i L W stk wa hi hv => .inl ⟨rfl, ?_⟩, fun i L W m cp stk wa hi hcp hv => .inr ⟨cp, ?_⟩⟩
  ·have : i = n := by omega
   subst this
   exact SL.by2 (m := 480) (r := 28) sC79 hX2 ltab2_nil ((r79b _ _ _ _ _ _ _ _).trans (by rw [if_neg (by simp)]; rfl))
  ·have : i = n := by omega
   subst this
   exact SL.by2 (m := 480) (r := 28) sC79 hX2 ltab2_nil ((r79c _ _ _ _ _ _ _ _ _ _ _).trans (by rw [if_neg (by simp)]; rfl))
 | succ r ih =>
  refine ⟨fun i L W stk wa hi hv => ?_, fun i L W m cp stk wa hi hcp hv => ?_⟩
  ·have hi' : i < n := by omega
   have hid : decide ((i : Int) < (n : Int)) = true := by simpa using hi'
   have hbb : (0 : Int) ≤ (i : Int) ∧ (i : Int) < (n : Int) := by omega
   have hq : QI1 [i64 (op i)] ∧ True := ⟨⟨_, rfl⟩, trivial⟩
   have ew : w ((i : Int) + 1) = ((i + 1 : Nat) : Int) := by rw [w_in (by unfold inR; omega)]; omega
   have hroom : (i + 1) * 8 ≤ roomBound ∧ i + 1 ≤ Go.maxLen ∧ i ≤ i := by unfold roomBound Go.maxLen; omega
   have tree := fun lo => r79b n op arg i L W wa lo
   simp only [Int.toNat_natCast, Nat.zero_add, ew, if_pos hid, if_pos hbb, eq_self, if_pos hroom] at tree
   have pl : Cv.regR (mkC vs n op arg) (r + 1) i ⟨L, W, 0, stk, wa⟩ = (if 0 ≤ wa ∧ op i ≠ 20 ∧ Cv.pureR (op i) = false then none
    else if op i = 16 then Cv.regR (mkC vs n op arg) r (i + 1) ⟨Cv.upd L i (-1), Cv.upd W i wa, 0 + 1, Cv.upd stk 0 i, wa⟩
    else if op i = 17 then (if (-1) < 0 ∨ arg i ≠ (-1) + 1 then none else Cv.regR (mkC vs n op arg) r (i + 1) ⟨Cv.upd L i (-1), Cv.upd W i wa, 0 - 1, stk, wa⟩)
    else if op i = 19 then Cv.regR (mkC vs n op arg) r (i + 1) ⟨Cv.upd L i (-1), Cv.upd W i wa, 0, stk, i⟩
    else if op i = 20 then (if wa < 0 ∨ arg i ≠ wa + 1 then none else Cv.regR (mkC vs n op arg) r (i + 1) ⟨Cv.upd L i (-1), Cv.upd W i wa, 0, stk, -1⟩)
    else Cv.regR (mkC vs n op arg) r (i + 1) ⟨Cv.upd L i (-1), Cv.upd W i wa, 0, stk, wa⟩) := by
    have := Cv.regR.eq_2 (mkC vs n op arg) i ⟨L, W, 0, stk, wa⟩ r
    rw [show Cv.Rg.top ⟨L, W, 0, stk, wa⟩ = -1 from rfl] at this
    exact this
   have htp : (-1 : Int) < 0 := by omega
   by_cases hw : 0 ≤ wa
   ·by_cases h20 : op i = 20
    ·have hA : ¬ (0 ≤ wa ∧ op i ≠ 20 ∧ Cv.pureR (op i) = false) := fun h => h.2.1 h20
     by_cases h16 : op i = 16
     ·have t := tree
      simp only [dT (show wa ≥ 0 from hw), neF h20, eqT h16, if_true, if_false, Bool.false_eq_true, reduceIte] at t
      exact ends79_next (ih.2 (i + 1) _ _ (0 + 1) (0 + 1) _ _ (by omega) (Nat.le_refl _) hv.push) (by rw [pl, if_neg hA, if_pos h16]) t (LeSt.mk' (LeL.refl _) ⟨ChLe.row (join1 _ _ _), ChLe.row (join1 _ _ _), ChLe.row (get1 _ _), trivial⟩)
     by_cases h17 : op i = 17
     ·have t := tree
      simp only [dT (show wa ≥ 0 from hw), neF h20, eqF h16, eqT h17, if_true, if_false, Bool.false_eq_true, reduceIte] at t
      exact ends79_ret (by rw [pl, if_neg hA, if_neg h16, if_pos h17, if_pos (.inl htp)]) t
     by_cases h19 : op i = 19
     ·have t := tree
      simp only [dT (show wa ≥ 0 from hw), neF h20, eqF h16, eqF h17, eqT h19, if_true, if_false, Bool.false_eq_true, reduceIte] at t
      exact ends79_next (ih.1 (i + 1) _ _ stk _ (by omega) (hv.keep (.inr (by omega)))) (by rw [pl, if_neg hA, if_neg h16, if_neg h17, if_pos h19]) t (LeSt.mk' (LeL.refl _) ⟨ChLe.row (join1 _ _ _), ChLe.row (join1 _ _ _), trivial⟩)
     by_cases h20' : op i = 20
     ·by_cases hw' : wa < 0
      ·have t := tree
       simp only [dT (show wa ≥ 0 from hw), neF h20, eqF h16, eqF h17, eqF h19, eqT h20', dT hw', if_true, if_false, Bool.false_eq_true, reduceIte] at t
       exact ends79_ret (by rw [pl, if_neg hA, if_neg h16, if_neg h17, if_neg h19, if_pos h20', if_pos (.inl hw')]) t
      have ewa : w (wa + 1) = wa + 1 := w_in (by have := hv.wa; unfold inR; omega)
      by_cases ha : arg i = wa + 1
      ·have t := tree
       simp only [dT (show wa ≥ 0 from hw), neF h20, eqF h16, eqF h17, eqF h19, eqT h20', dF hw', ewa, neF ha, if_true, if_false, Bool.false_eq_true, reduceIte] at t
       exact ends79_next (ih.1 (i + 1) _ _ stk _ (by omega) (hv.keep (.inl rfl))) (by rw [pl, if_neg hA, if_neg h16, if_neg h17, if_neg h19, if_pos h20', if_neg (by omega)]) t (LeSt.mk' (LeL.refl _) ⟨ChLe.row (join1 _ _ _), ChLe.row (join1 _ _ _), trivial⟩)
      ·have t := tree
       simp only [dT (show wa ≥ 0 from hw), neF h20, eqF h16, eqF h17, eqF h19, eqT h20', dF hw', ewa, neT ha, if_true, if_false, Bool.false_eq_true, reduceIte] at t
       exact ends79_ret (by rw [pl, if_neg hA, if_neg h16, if_neg h17, if_neg h19, if_pos h20', if_pos (.inr ha)]) t
     have t := tree
     simp only [dT (show wa ≥ 0 from hw), neF h20, eqF h16, eqF h17, eqF h19, eqF h20', if_true, if_false, Bool.false_eq_true, reduceIte] at t
     exact ends79_next (ih.1 (i + 1) _ _ stk _ (by omega) (hv.keep (by have := hv.wa; omega))) (by rw [pl, if_neg hA, if_neg h16, if_neg h17, if_neg h19, if_neg h20']) t (LeSt.mk' (LeL.refl _) ⟨ChLe.row (join1 _ _ _), ChLe.row (join1 _ _ _), trivial⟩)
    ·cases hpu : Cv.pureR (op i) with
     | false =>
      have t := tree
      simp only [dT (show wa ≥ 0 from hw), neT h20, cl_pos hq, hpu, Bool.not_false, if_true] at t
      exact ends79_ret (by rw [pl, if_pos ⟨hw, h20, hpu⟩]) t
     | true =>
      have hA : ¬ (0 ≤ wa ∧ op i ≠ 20 ∧ Cv.pureR (op i) = false) := fun h => by rw [hpu] at h; exact absurd h.2.2 (by decide)
      by_cases h16 : op i = 16
      ·have t := tree
       simp only [dT (show wa ≥ 0 from hw), neT h20, cl_pos hq, hpu, Bool.not_true, eqT h16, if_true, if_false, Bool.false_eq_true, reduceIte] at t
       exact ends79_next (ih.2 (i + 1) _ _ (0 + 1) (0 + 1) _ _ (by omega) (Nat.le_refl _) hv.push) (by rw [pl, if_neg hA, if_pos h16]) t (LeSt.mk' (LeL.refl _) ⟨ChLe.row (join1 _ _ _), ChLe.row (join1 _ _ _), ChLe.row (get1 _ _), trivial⟩)
      by_cases h17 : op i = 17
      ·have t := tree
       simp only [dT (show wa ≥ 0 from hw), neT h20, cl_pos hq, hpu, Bool.not_true, eqF h16, eqT h17, if_true, if_false, Bool.false_eq_true, reduceIte] at t
       exact ends79_ret (by rw [pl, if_neg hA, if_neg h16, if_pos h17, if_pos (.inl htp)]) t
      by_cases h19 : op i = 19
      ·have t := tree
       simp only [dT (show wa ≥ 0 from hw), neT h20, cl_pos hq, hpu, Bool.not_true, eqF h16, eqF h17, eqT h19, if_true, if_false, Bool.false_eq_true, reduceIte] at t
       exact ends79_next (ih.1 (i + 1) _ _ stk _ (by omega) (hv.keep (.inr (by omega)))) (by rw [pl, if_neg hA, if_neg h16, if_neg h17, if_pos h19]) t (LeSt.mk' (LeL.refl _) ⟨ChLe.row (join1 _ _ _), ChLe.row (join1 _ _ _), trivial⟩)
      by_cases h20' : op i = 20
      ·by_cases hw' : wa < 0
       ·have t := tree
        simp only [dT (show wa ≥ 0 from hw), neT h20, cl_pos hq, hpu, Bool.not_true, eqF h16, eqF h17, eqF h19, eqT h20', dT hw', if_true, if_false, Bool.false_eq_true, reduceIte] at t
        exact ends79_ret (by rw [pl, if_neg hA, if_neg h16, if_neg h17, if_neg h19, if_pos h20', if_pos (.inl hw')]) t
       have ewa : w (wa + 1) = wa + 1 := w_in (by have := hv.wa; unfold inR; omega)
       by_cases ha : arg i = wa + 1
       ·have t := tree
        simp only [dT (show wa ≥ 0 from hw), neT h20, cl_pos hq, hpu, Bool.not_true, eqF h16, eqF h17, eqF h19, eqT h20', dF hw', ewa, neF ha, if_true, if_false, Bool.false_eq_true, reduceIte] at t
        exact ends79_next (ih.1 (i + 1) _ _ stk _ (by omega) (hv.keep (.inl rfl))) (by rw [pl, if_neg hA, if_neg h16, if_neg h17, if_neg h19, if_pos h20', if_neg (by omega)]) t (LeSt.mk' (LeL.refl _) ⟨ChLe.row (join1 _ _ _), ChLe.row (join1 _ _ _), trivial⟩)
       ·have t := tree
        simp only [dT (show wa ≥ 0 from hw), neT h20, cl_pos hq, hpu, Bool.not_true, eqF h16, eqF h17, eqF h19, eqT h20', dF hw', ewa, neT ha, if_true, if_false, Bool.false_eq_true, reduceIte] at t
        exact ends79_ret (by rw [pl, if_neg hA, if_neg h16, if_neg h17, if_neg h19, if_pos h20', if_pos (.inr ha)]) t
      have t := tree
      simp only [dT (show wa ≥ 0 from hw), neT h20, cl_pos hq, hpu, Bool.not_true, eqF h16, eqF h17, eqF h19, eqF h20', if_true, if_false, Bool.false_eq_true, reduceIte] at t
      exact ends79_next (ih.1 (i + 1) _ _ stk _ (by omega) (hv.keep (by have := hv.wa; omega))) (by rw [pl, if_neg hA, if_neg h16, if_neg h17, if_neg h19, if_neg h20']) t (LeSt.mk' (LeL.refl _) ⟨ChLe.row (join1 _ _ _), ChLe.row (join1 _ _ _), trivial⟩)
   ·have hA : ¬ (0 ≤ wa ∧ op i ≠ 20 ∧ Cv.pureR (op i) = false) := fun h => hw h.1
    by_cases h16 : op i = 16
    ·have t := tree
     simp only [dF (show ¬ wa ≥ 0 from hw), eqT h16, if_true, if_false, Bool.false_eq_true, reduceIte] at t
     exact ends79_next (ih.2 (i + 1) _ _ (0 + 1) (0 + 1) _ _ (by omega) (Nat.le_refl _) hv.push) (by rw [pl, if_neg hA, if_pos h16]) t (LeSt.mk' (LeL.refl _) ⟨ChLe.row (join1 _ _ _), ChLe.row (join1 _ _ _), ChLe.row (get1 _ _), trivial⟩)
    by_cases h17 : op i = 17
    ·have t := tree
     simp only [dF (show ¬ wa ≥ 0 from hw), eqF h16, eqT h17, if_true, if_false, Bool.false_eq_true, reduceIte] at t
     exact ends79_ret (by rw [pl, if_neg hA, if_neg h16, if_pos h17, if_pos (.inl htp)]) t
    by_cases h19 : op i = 19
    ·have t := tree
     simp only [dF (show ¬ wa ≥ 0 from hw), eqF h16, eqF h17, eqT h19, if_true, if_false, Bool.false_eq_true, reduceIte] at t
     exact ends79_next (ih.1 (i + 1) _ _ stk _ (by omega) (hv.keep (.inr (by omega)))) (by rw [pl, if_neg hA, if_neg h16, if_neg h17, if_pos h19]) t (LeSt.mk' (LeL.refl _) ⟨ChLe.row (join1 _ _ _), ChLe.row (join1 _ _ _), trivial⟩)
    by_cases h20' : op i = 20
    ·by_cases hw' : wa < 0
     ·have t := tree
      simp only [dF (show ¬ wa ≥ 0 from hw), eqF h16, eqF h17, eqF h19, eqT h20', dT hw', if_true, if_false, Bool.false_eq_true, reduceIte] at t
      exact ends79_ret (by rw [pl, if_neg hA, if_neg h16, if_neg h17, if_neg h19, if_pos h20', if_pos (.inl hw')]) t
     have ewa : w (wa + 1) = wa + 1 := w_in (by have := hv.wa; unfold inR; omega)
     by_cases ha : arg i = wa + 1
     ·have t := tree
      simp only [dF (show ¬ wa ≥ 0 from hw), eqF h16, eqF h17, eqF h19, eqT h20', dF hw', ewa, neF ha, if_true, if_false, Bool.false_eq_true, reduceIte] at t
      exact ends79_next (ih.1 (i + 1) _ _ stk _ (by omega) (hv.keep (.inl rfl))) (by rw [pl, if_neg hA, if_neg h16, if_neg h17, if_neg h19, if_pos h20', if_neg (by omega)]) t (LeSt.mk' (LeL.refl _) ⟨ChLe.row (join1 _ _ _), ChLe.row (join1 _ _ _), trivial⟩)
     ·have t := tree
      simp only [dF (show ¬ wa ≥ 0 from hw), eqF h16, eqF h17, eqF h19, eqT h20', dF hw', ewa, neT ha, if_true, if_false, Bool.false_eq_true, reduceIte] at t
      exact ends79_ret (by rw [pl, if_neg hA, if_neg h16, if_neg h17, if_neg h19, if_pos h20', if_pos (.inr ha)]) t
    have t := tree
    simp only [dF (show ¬ wa ≥ 0 from hw), eqF h16, eqF h17, eqF h19, eqF h20', if_true, if_false, Bool.false_eq_true, reduceIte] at t
    exact ends79_next (ih.1 (i + 1) _ _ stk _ (by omega) (hv.keep (by have := hv.wa; omega))) (by rw [pl, if_neg hA, if_neg h16, if_neg h17, if_neg h19, if_neg h20']) t (LeSt.mk' (LeL.refl _) ⟨ChLe.row (join1 _ _ _), ChLe.row (join1 _ _ _), trivial⟩)
  ·have hi' : i < n := by omega
   have hid : decide ((i : Int) < (n : Int)) = true := by simpa using hi'
   have hbb : (0 : Int) ≤ (i : Int) ∧ (i : Int) < (n : Int) := by omega
   have hq : QI1 [i64 (op i)] ∧ True := ⟨⟨_, rfl⟩, trivial⟩
   have ew : w ((i : Int) + 1) = ((i + 1 : Nat) : Int) := by rw [w_in (by unfold inR; omega)]; omega
   have hroom : (i + 1) * 8 ≤ roomBound ∧ i + 1 ≤ Go.maxLen ∧ i ≤ i := by unfold roomBound Go.maxLen; omega
   have hmi := hv.m
   have hroom2 : (m + 1) * 8 ≤ roomBound ∧ m + 1 ≤ Go.maxLen ∧ m ≤ cp := by unfold roomBound Go.maxLen; omega
   have tree := fun lo => r79c n op arg i L W m cp stk wa lo
   by_cases hm : 0 < m
   ·have em : w ((m : Int) - 1) = ((m - 1 : Nat) : Int) := by rw [w_in (by unfold inR; omega)]; omega
    have hb1 : (0 : Int) ≤ ((m - 1 : Nat) : Int) ∧ ((m - 1 : Nat) : Int) < (m : Int) := by omega
    have hb2 : m - 1 < cp ∧ True := ⟨by omega, trivial⟩
    have hb3 : (0 : Int) ≤ (0 : Int) ∧ (0 : Int) ≤ ((m - 1 : Nat) : Int) ∧ ((m - 1 : Nat) : Int) ≤ (m : Int) := by omega
    have hlt := hv.lt (m - 1) (by omega)
    have hneg : ¬ stk (m - 1) < 0 := by omega
    have es : w (stk (m - 1) + 1) = stk (m - 1) + 1 := w_in (by unfold inR; omega)
    have hgt : decide ((m : Int) > (0 : Int)) = true := by simpa using hm
    have e00 : Int.toNat 0 = 0 := rfl
    simp only [em, Int.toNat_natCast, Nat.zero_add, ew, if_pos hid, if_pos hbb, eq_self, if_pos hroom, if_pos hroom2, if_pos hgt, if_pos hb1, if_pos hb2, if_pos hb3, es, e00, Nat.sub_zero] at tree
    have pl : Cv.regR (mkC vs n op arg) (r + 1) i ⟨L, W, m, stk, wa⟩ = (if 0 ≤ wa ∧ op i ≠ 20 ∧ Cv.pureR (op i) = false then none
     else if op i = 16 then Cv.regR (mkC vs n op arg) r (i + 1) ⟨Cv.upd L i (stk (m - 1)), Cv.upd W i wa, m + 1, Cv.upd stk m i, wa⟩
     else if op i = 17 then (if (stk (m - 1)) < 0 ∨ arg i ≠ (stk (m - 1)) + 1 then none else Cv.regR (mkC vs n op arg) r (i + 1) ⟨Cv.upd L i (stk (m - 1)), Cv.upd W i wa, m - 1, stk, wa⟩)
     else if op i = 19 then Cv.regR (mkC vs n op arg) r (i + 1) ⟨Cv.upd L i (stk (m - 1)), Cv.upd W i wa, m, stk, i⟩
     else if op i = 20 then (if wa < 0 ∨ arg i ≠ wa + 1 then none else Cv.regR (mkC vs n op arg) r (i + 1) ⟨Cv.upd L i (stk (m - 1)), Cv.upd W i wa, m, stk, -1⟩)
     else Cv.regR (mkC vs n op arg) r (i + 1) ⟨Cv.upd L i (stk (m - 1)), Cv.upd W i wa, m, stk, wa⟩) := by
     have := Cv.regR.eq_2 (mkC vs n op arg) i ⟨L, W, m, stk, wa⟩ r
     rw [show Cv.Rg.top ⟨L, W, m, stk, wa⟩ = stk (m - 1) from if_pos hm] at this
     exact this
    by_cases hw : 0 ≤ wa
    ·by_cases h20 : op i = 20
     ·have hA : ¬ (0 ≤ wa ∧ op i ≠ 20 ∧ Cv.pureR (op i) = false) := fun h => h.2.1 h20
      by_cases h16 : op i = 16
      ·have t := tree
       simp only [dT (show wa ≥ 0 from hw), neF h20, eqT h16, if_true, if_false, Bool.false_eq_true, reduceIte] at t
       exact ends79_next (ih.2 (i + 1) _ _ (m + 1) (m + 1) _ _ (by omega) (Nat.le_refl _) hv.push) (by rw [pl, if_neg hA, if_pos h16]) t (LeSt.mk' (LeL.refl _) ⟨ChLe.row (join1 _ _ _), ChLe.row (join1 _ _ _), ChLe.row (join1 _ _ _), trivial⟩)
      by_cases h17 : op i = 17
      ·by_cases ha : arg i = stk (m - 1) + 1
       ·have t := tree
        simp only [dT (show wa ≥ 0 from hw), neF h20, eqF h16, eqT h17, dF hneg, neF ha, if_true, if_false, Bool.false_eq_true, reduceIte] at t
        exact ends79_next (ih.2 (i + 1) _ _ (m - 1) cp stk _ (by omega) (by omega) hv.pop) (by rw [pl, if_neg hA, if_neg h16, if_pos h17, if_neg (by omega)]) t (LeSt.mk' (LeL.refl _) ⟨ChLe.row (join1 _ _ _), ChLe.row (join1 _ _ _), ChLe.refl _, trivial⟩)
       ·have t := tree
        simp only [dT (show wa ≥ 0 from hw), neF h20, eqF h16, eqT h17, dF hneg, neT ha, if_true, if_false, Bool.false_eq_true, reduceIte] at t
        exact ends79_ret (by rw [pl, if_neg hA, if_neg h16, if_pos h17, if_pos (.inr ha)]) t
      by_cases h19 : op i = 19
      ·have t := tree
       simp only [dT (show wa ≥ 0 from hw), neF h20, eqF h16, eqF h17, eqT h19, if_true, if_false, Bool.false_eq_true, reduceIte] at t
       exact ends79_next (ih.2 (i + 1) _ _ m cp stk _ (by omega) hcp (hv.keep (.inr (by omega)))) (by rw [pl, if_neg hA, if_neg h16, if_neg h17, if_pos h19]) t (LeSt.mk' (LeL.refl _) ⟨ChLe.row (join1 _ _ _), ChLe.row (join1 _ _ _), ChLe.refl _, trivial⟩)
      by_cases h20' : op i = 20
      ·by_cases hw' : wa < 0
       ·have t := tree
        simp only [dT (show wa ≥ 0 from hw), neF h20, eqF h16, eqF h17, eqF h19, eqT h20', dT hw', if_true, if_false, Bool.false_eq_true, reduceIte] at t
        exact ends79_ret (by rw [pl, if_neg hA, if_neg h16, if_neg h17, if_neg h19, if_pos h20', if_pos (.inl hw')]) t
       have ewa : w (wa + 1) = wa + 1 := w_in (by have := hv.wa; unfold inR; omega)
       by_cases ha : arg i = wa + 1
       ·have t := tree
        simp only [dT (show wa ≥ 0 from hw), neF h20, eqF h16, eqF h17, eqF h19, eqT h20', dF hw', ewa, neF ha, if_true, if_false, Bool.false_eq_true, reduceIte] at t
        exact ends79_next (ih.2 (i + 1) _ _ m cp stk _ (by omega) hcp (hv.keep (.inl rfl))) (by rw [pl, if_neg hA, if_neg h16, if_neg h17, if_neg h19, if_pos h20', if_neg (by omega)]) t (LeSt.mk' (LeL.refl _) ⟨ChLe.row (join1 _ _ _), ChLe.row (join1 _ _ _), ChLe.refl _, trivial⟩)
       ·have t := tree
        simp only [dT (show wa ≥ 0 from hw), neF h20, eqF h16, eqF h17, eqF h19, eqT h20', dF hw', ewa, neT ha, if_true, if_false, Bool.false_eq_true, reduceIte] at t
        exact ends79_ret (by rw [pl, if_neg hA, if_neg h16, if_neg h17, if_neg h19, if_pos h20', if_pos (.inr ha)]) t
      have t := tree
      simp only [dT (show wa ≥ 0 from hw), neF h20, eqF h16, eqF h17, eqF h19, eqF h20', if_true, if_false, Bool.false_eq_true, reduceIte] at t
      exact ends79_next (ih.2 (i + 1) _ _ m cp stk _ (by omega) hcp (hv.keep (by have := hv.wa; omega))) (by rw [pl, if_neg hA, if_neg h16, if_neg h17, if_neg h19, if_neg h20']) t (LeSt.mk' (LeL.refl _) ⟨ChLe.row (join1 _ _ _), ChLe.row (join1 _ _ _), ChLe.refl _, trivial⟩)
     ·cases hpu : Cv.pureR (op i) with
      | false =>
       have t := tree
       simp only [dT (show wa ≥ 0 from hw), neT h20, cl_pos hq, hpu, Bool.not_false, if_true] at t
       exact ends79_ret (by rw [pl, if_pos ⟨hw, h20, hpu⟩]) t
      | true =>
       have hA : ¬ (0 ≤ wa ∧ op i ≠ 20 ∧ Cv.pureR (op i) = false) := fun h => by rw [hpu] at h; exact absurd h.2.2 (by decide)
       by_cases h16 : op i = 16
       ·have t := tree
        simp only [dT (show wa ≥ 0 from hw), neT h20, cl_pos hq, hpu, Bool.not_true, eqT h16, if_true, if_false, Bool.false_eq_true, reduceIte] at t
        exact ends79_next (ih.2 (i + 1) _ _ (m + 1) (m + 1) _ _ (by omega) (Nat.le_refl _) hv.push) (by rw [pl, if_neg hA, if_pos h16]) t (LeSt.mk' (LeL.refl _) ⟨ChLe.row (join1 _ _ _), ChLe.row (join1 _ _ _), ChLe.row (join1 _ _ _), trivial⟩)
       by_cases h17 : op i = 17
       ·by_cases ha : arg i = stk (m - 1) + 1
        ·have t := tree
         simp only [dT (show wa ≥ 0 from hw), neT h20, cl_pos hq, hpu, Bool.not_true, eqF h16, eqT h17, dF hneg, neF ha, if_true, if_false, Bool.false_eq_true, reduceIte] at t
         exact ends79_next (ih.2 (i + 1) _ _ (m - 1) cp stk _ (by omega) (by omega) hv.pop) (by rw [pl, if_neg hA, if_neg h16, if_pos h17, if_neg (by omega)]) t (LeSt.mk' (LeL.refl _) ⟨ChLe.row (join1 _ _ _), ChLe.row (join1 _ _ _), ChLe.refl _, trivial⟩)
        ·have t := tree
         simp only [dT (show wa ≥ 0 from hw), neT h20, cl_pos hq, hpu, Bool.not_true, eqF h16, eqT h17, dF hneg, neT ha, if_true, if_false, Bool.false_eq_true, reduceIte] at t
         exact ends79_ret (by rw [pl, if_neg hA, if_neg h16, if_pos h17, if_pos (.inr ha)]) t
       by_cases h19 : op i = 19
       ·have t := tree
        simp only [dT (show wa ≥ 0 from hw), neT h20, cl_pos hq, hpu, Bool.not_true, eqF h16, eqF h17, eqT h19, if_true, if_false, Bool.false_eq_true, reduceIte] at t
        exact ends79_next (ih.2 (i + 1) _ _ m cp stk _ (by omega) hcp (hv.keep (.inr (by omega)))) (by rw [pl, if_neg hA, if_neg h16, if_neg h17, if_pos h19]) t (LeSt.mk' (LeL.refl _) ⟨ChLe.row (join1 _ _ _), ChLe.row (join1 _ _ _), ChLe.refl _, trivial⟩)
       by_cases h20' : op i = 20
       ·by_cases hw' : wa < 0
        ·have t := tree
         simp only [dT (show wa ≥ 0 from hw), neT h20, cl_pos hq, hpu, Bool.not_true, eqF h16, eqF h17, eqF h19, eqT h20', dT hw', if_true, if_false, Bool.false_eq_true, reduceIte] at t
         exact ends79_ret (by rw [pl, if_neg hA, if_neg h16, if_neg h17, if_neg h19, if_pos h20', if_pos (.inl hw')]) t
        have ewa : w (wa + 1) = wa + 1 := w_in (by have := hv.wa; unfold inR; omega)
        by_cases ha : arg i = wa + 1
        ·have t := tree
         simp only [dT (show wa ≥ 0 from hw), neT h20, cl_pos hq, hpu, Bool.not_true, eqF h16, eqF h17, eqF h19, eqT h20', dF hw', ewa, neF ha, if_true, if_false, Bool.false_eq_true, reduceIte] at t
         exact ends79_next (ih.2 (i + 1) _ _ m cp stk _ (by omega) hcp (hv.keep (.inl rfl))) (by rw [pl, if_neg hA, if_neg h16, if_neg h17, if_neg h19, if_pos h20', if_neg (by omega)]) t (LeSt.mk' (LeL.refl _) ⟨ChLe.row (join1 _ _ _), ChLe.row (join1 _ _ _), ChLe.refl _, trivial⟩)
        ·have t := tree
         simp only [dT (show wa ≥ 0 from hw), neT h20, cl_pos hq, hpu, Bool.not_true, eqF h16, eqF h17, eqF h19, eqT h20', dF hw', ewa, neT ha, if_true, if_false, Bool.false_eq_true, reduceIte] at t
         exact ends79_ret (by rw [pl, if_neg hA, if_neg h16, if_neg h17, if_neg h19, if_pos h20', if_pos (.inr ha)]) t
       have t := tree
       simp only [dT (show wa ≥ 0 from hw), neT h20, cl_pos hq, hpu, Bool.not_true, eqF h16, eqF h17, eqF h19, eqF h20', if_true, if_false, Bool.false_eq_true, reduceIte] at t
       exact ends79_next (ih.2 (i + 1) _ _ m cp stk _ (by omega) hcp (hv.keep (by have := hv.wa; omega))) (by rw [pl, if_neg hA, if_neg h16, if_neg h17, if_neg h19, if_neg h20']) t (LeSt.mk' (LeL.refl _) ⟨ChLe.row (join1 _ _ _), ChLe.row (join1 _ _ _), ChLe.refl _, trivial⟩)
    ·have hA : ¬ (0 ≤ wa ∧ op i ≠ 20 ∧ Cv.pureR (op i) = false) := fun h => hw h.1
     by_cases h16 : op i = 16
     ·have t := tree
      simp only [dF (show ¬ wa ≥ 0 from hw), eqT h16, if_true, if_false, Bool.false_eq_true, reduceIte] at t
      exact ends79_next (ih.2 (i + 1) _ _ (m + 1) (m + 1) _ _ (by omega) (Nat.le_refl _) hv.push) (by rw [pl, if_neg hA, if_pos h16]) t (LeSt.mk' (LeL.refl _) ⟨ChLe.row (join1 _ _ _), ChLe.row (join1 _ _ _), ChLe.row (join1 _ _ _), trivial⟩)
     by_cases h17 : op i = 17
     ·by_cases ha : arg i = stk (m - 1) + 1
      ·have t := tree
       simp only [dF (show ¬ wa ≥ 0 from hw), eqF h16, eqT h17, dF hneg, neF ha, if_true, if_false, Bool.false_eq_true, reduceIte] at t
       exact ends79_next (ih.2 (i + 1) _ _ (m - 1) cp stk _ (by omega) (by omega) hv.pop) (by rw [pl, if_neg hA, if_neg h16, if_pos h17, if_neg (by omega)]) t (LeSt.mk' (LeL.refl _) ⟨ChLe.row (join1 _ _ _), ChLe.row (join1 _ _ _), ChLe.refl _, trivial⟩)
      ·have t := tree
       simp only [dF (show ¬ wa ≥ 0 from hw), eqF h16, eqT h17, dF hneg, neT ha, if_true, if_false, Bool.false_eq_true, reduceIte] at t
       exact ends79_ret (by rw [pl, if_neg hA, if_neg h16, if_pos h17, if_pos (.inr ha)]) t
     by_cases h19 : op i = 19
     ·have t := tree
      simp only [dF (show ¬ wa ≥ 0 from hw), eqF h16, eqF h17, eqT h19, if_true, if_false, Bool.false_eq_true, reduceIte] at t
      exact ends79_next (ih.2 (i + 1) _ _ m cp stk _ (by omega) hcp (hv.keep (.inr (by omega)))) (by rw [pl, if_neg hA, if_neg h16, if_neg h17, if_pos h19]) t (LeSt.mk' (LeL.refl _) ⟨ChLe.row (join1 _ _ _), ChLe.row (join1 _ _ _), ChLe.refl _, trivial⟩)
     by_cases h20' : op i = 20
     ·by_cases hw' : wa < 0
      ·have t := tree
       simp only [dF (show ¬ wa ≥ 0 from hw), eqF h16, eqF h17, eqF h19, eqT h20', dT hw', if_true, if_false, Bool.false_eq_true, reduceIte] at t
       exact ends79_ret (by rw [pl, if_neg hA, if_neg h16, if_neg h17, if_neg h19, if_pos h20', if_pos (.inl hw')]) t
      have ewa : w (wa + 1) = wa + 1 := w_in (by have := hv.wa; unfold inR; omega)
      by_cases ha : arg i = wa + 1
      ·have t := tree
       simp only [dF (show ¬ wa ≥ 0 from hw), eqF h16, eqF h17, eqF h19, eqT h20', dF hw', ewa, neF ha, if_true, if_false, Bool.false_eq_true, reduceIte] at t
       exact ends79_next (ih.2 (i + 1) _ _ m cp stk _ (by omega) hcp (hv.keep (.inl rfl))) (by rw [pl, if_neg hA, if_neg h16, if_neg h17, if_neg h19, if_pos h20', if_neg (by omega)]) t (LeSt.mk' (LeL.refl _) ⟨ChLe.row (join1 _ _ _), ChLe.row (join1 _ _ _), ChLe.refl _, trivial⟩)
      ·have t := tree
       simp only [dF (show ¬ wa ≥ 0 from hw), eqF h16, eqF h17, eqF h19, eqT h20', dF hw', ewa, neT ha, if_true, if_false, Bool.false_eq_true, reduceIte] at t
       exact ends79_ret (by rw [pl, if_neg hA, if_neg h16, if_neg h17, if_neg h19, if_pos h20', if_pos (.inr ha)]) t
     have t := tree
     simp only [dF (show ¬ wa ≥ 0 from hw), eqF h16, eqF h17, eqF h19, eqF h20', if_true, if_false, Bool.false_eq_true, reduceIte] at t
     exact ends79_next (ih.2 (i + 1) _ _ m cp stk _ (by omega) hcp (hv.keep (by have := hv.wa; omega))) (by rw [pl, if_neg hA, if_neg h16, if_neg h17, if_neg h19, if_neg h20']) t (LeSt.mk' (LeL.refl _) ⟨ChLe.row (join1 _ _ _), ChLe.row (join1 _ _ _), ChLe.refl _, trivial⟩)
   ·have hm0 : m = 0 := by omega
    subst hm0
    have hgt : decide (((0 : Nat) : Int) > (0 : Int)) = false := by decide
    simp only [hgt, Bool.false_eq_true, if_false, Int.toNat_natCast, Nat.zero_add, ew, if_pos hid, if_pos hbb, eq_self, if_pos hroom, if_pos hroom2] at tree
    have pl : Cv.regR (mkC vs n op arg) (r + 1) i ⟨L, W, 0, stk, wa⟩ = (if 0 ≤ wa ∧ op i ≠ 20 ∧ Cv.pureR (op i) = false then none
     else if op i = 16 then Cv.regR (mkC vs n op arg) r (i + 1) ⟨Cv.upd L i (-1), Cv.upd W i wa, 0 + 1, Cv.upd stk 0 i, wa⟩
     else if op i = 17 then (if (-1) < 0 ∨ arg i ≠ (-1) + 1 then none else Cv.regR (mkC vs n op arg) r (i + 1) ⟨Cv.upd L i (-1), Cv.upd W i wa, 0 - 1, stk, wa⟩)
     else if op i = 19 then Cv.regR (mkC vs n op arg) r (i + 1) ⟨Cv.upd L i (-1), Cv.upd W i wa, 0, stk, i⟩
     else if op i = 20 then (if wa < 0 ∨ arg i ≠ wa + 1 then none else Cv.regR (mkC vs n op arg) r (i + 1) ⟨Cv.upd L i (-1), Cv.upd W i wa, 0, stk, -1⟩)
     else Cv.regR (mkC vs n op arg) r (i + 1) ⟨Cv.upd L i (-1), Cv.upd W i wa, 0, stk, wa⟩) := by
     have := Cv.regR.eq_2 (mkC vs n op arg) i ⟨L, W, 0, stk, wa⟩ r
     rw [show Cv.Rg.top ⟨L, W, 0, stk, wa⟩ = -1 from rfl] at this
     exact this
    have htp : (-1 : Int) < 0 := by omega
    by_cases hw : 0 ≤ wa
    ·by_cases h20 : op i = 20
     ·have hA : ¬ (0 ≤ wa ∧ op i ≠ 20 ∧ Cv.pureR (op i) = false) := fun h => h.2.1 h20
      by_cases h16 : op i = 16
      ·have t := tree
       simp only [dT (show wa ≥ 0 from hw), neF h20, eqT h16, if_true, if_false, Bool.false_eq_true, reduceIte] at t
       exact ends79_next (ih.2 (i + 1) _ _ (0 + 1) (0 + 1) _ _ (by omega) (Nat.le_refl _) hv.push) (by rw [pl, if_neg hA, if_pos h16]) t (LeSt.mk' (LeL.refl _) ⟨ChLe.row (join1 _ _ _), ChLe.row (join1 _ _ _), ChLe.row (join1 _ _ _), trivial⟩)
      by_cases h17 : op i = 17
      ·have t := tree
       simp only [dT (show wa ≥ 0 from hw), neF h20, eqF h16, eqT h17, if_true, if_false, Bool.false_eq_true, reduceIte] at t
       exact ends79_ret (by rw [pl, if_neg hA, if_neg h16, if_pos h17, if_pos (.inl htp)]) t
      by_cases h19 : op i = 19
      ·have t := tree
       simp only [dT (show wa ≥ 0 from hw), neF h20, eqF h16, eqF h17, eqT h19, if_true, if_false, Bool.false_eq_true, reduceIte] at t
       exact ends79_next (ih.2 (i + 1) _ _ 0 cp stk _ (by omega) hcp (hv.keep (.inr (by omega)))) (by rw [pl, if_neg hA, if_neg h16, if_neg h17, if_pos h19]) t (LeSt.mk' (LeL.refl _) ⟨ChLe.row (join1 _ _ _), ChLe.row (join1 _ _ _), ChLe.refl _, trivial⟩)
      by_cases h20' : op i = 20
      ·by_cases hw' : wa < 0
       ·have t := tree
        simp only [dT (show wa ≥ 0 from hw), neF h20, eqF h16, eqF h17, eqF h19, eqT h20', dT hw', if_true, if_false, Bool.false_eq_true, reduceIte] at t
        exact ends79_ret (by rw [pl, if_neg hA, if_neg h16, if_neg h17, if_neg h19, if_pos h20', if_pos (.inl hw')]) t
       have ewa : w (wa + 1) = wa + 1 := w_in (by have := hv.wa; unfold inR; omega)
       by_cases ha : arg i = wa + 1
       ·have t := tree
        simp only [dT (show wa ≥ 0 from hw), neF h20, eqF h16, eqF h17, eqF h19, eqT h20', dF hw', ewa, neF ha, if_true, if_false, Bool.false_eq_true, reduceIte] at t
        exact ends79_next (ih.2 (i + 1) _ _ 0 cp stk _ (by omega) hcp (hv.keep (.inl rfl))) (by rw [pl, if_neg hA, if_neg h16, if_neg h17, if_neg h19, if_pos h20', if_neg (by omega)]) t (LeSt.mk' (LeL.refl _) ⟨ChLe.row (join1 _ _ _), ChLe.row (join1 _ _ _), ChLe.refl _, trivial⟩)
       ·have t := tree
        simp only [dT (show wa ≥ 0 from hw), neF h20, eqF h16, eqF h17, eqF h19, eqT h20', dF hw', ewa, neT ha, if_true, if_false, Bool.false_eq_true, reduceIte] at t
        exact ends79_ret (by rw [pl, if_neg hA, if_neg h16, if_neg h17, if_neg h19, if_pos h20', if_pos (.inr ha)]) t
      have t := tree
      simp only [dT (show wa ≥ 0 from hw), neF h20, eqF h16, eqF h17, eqF h19, eqF h20', if_true, if_false, Bool.false_eq_true, reduceIte] at t
      exact ends79_next (ih.2 (i + 1) _ _ 0 cp stk _ (by omega) hcp (hv.keep (by have := hv.wa; omega))) (by rw [pl, if_neg hA, if_neg h16, if_neg h17, if_neg h19, if_neg h20']) t (LeSt.mk' (LeL.refl _) ⟨ChLe.row (join1 _ _ _), ChLe.row (join1 _ _ _), ChLe.refl _, trivial⟩)
     ·cases hpu : Cv.pureR (op i) with
      | false =>
       have t := tree
       simp only [dT (show wa ≥ 0 from hw), neT h20, cl_pos hq, hpu, Bool.not_false, if_true] at t
       exact ends79_ret (by rw [pl, if_pos ⟨hw, h20, hpu⟩]) t
      | true =>
       have hA : ¬ (0 ≤ wa ∧ op i ≠ 20 ∧ Cv.pureR (op i) = false) := fun h => by rw [hpu] at h; exact absurd h.2.2 (by decide)
       by_cases h16 : op i = 16
       ·have t := tree
        simp only [dT (show wa ≥ 0 from hw), neT h20, cl_pos hq, hpu, Bool.not_true, eqT h16, if_true, if_false, Bool.false_eq_true, reduceIte] at t
        exact ends79_next (ih.2 (i + 1) _ _ (0 + 1) (0 + 1) _ _ (by omega) (Nat.le_refl _) hv.push) (by rw [pl, if_neg hA, if_pos h16]) t (LeSt.mk' (LeL.refl _) ⟨ChLe.row (join1 _ _ _), ChLe.row (join1 _ _ _), ChLe.row (join1 _ _ _), trivial⟩)
       by_cases h17 : op i = 17
       ·have t := tree
        simp only [dT (show wa ≥ 0 from hw), neT h20, cl_pos hq, hpu, Bool.not_true, eqF h16, eqT h17, if_true, if_false, Bool.false_eq_true, reduceIte] at t
        exact ends79_ret (by rw [pl, if_neg hA, if_neg h16, if_pos h17, if_pos (.inl htp)]) t
       by_cases h19 : op i = 19
       ·have t := tree
        simp only [dT (show wa ≥ 0 from hw), neT h20, cl_pos hq, hpu, Bool.not_true, eqF h16, eqF h17, eqT h19, if_true, if_false, Bool.false_eq_true, reduceIte] at t
        exact ends79_next (ih.2 (i + 1) _ _ 0 cp stk _ (by omega) hcp (hv.keep (.inr (by omega)))) (by rw [pl, if_neg hA, if_neg h16, if_neg h17, if_pos h19]) t (LeSt.mk' (LeL.refl _) ⟨ChLe.row (join1 _ _ _), ChLe.row (join1 _ _ _), ChLe.refl _, trivial⟩)
       by_cases h20' : op i = 20
       ·by_cases hw' : wa < 0
        ·have t := tree
         simp only [dT (show wa ≥ 0 from hw), neT h20, cl_pos hq, hpu, Bool.not_true, eqF h16, eqF h17, eqF h19, eqT h20', dT hw', if_true, if_false, Bool.false_eq_true, reduceIte] at t
         exact ends79_ret (by rw [pl, if_neg hA, if_neg h16, if_neg h17, if_neg h19, if_pos h20', if_pos (.inl hw')]) t
        have ewa : w (wa + 1) = wa + 1 := w_in (by have := hv.wa; unfold inR; omega)
        by_cases ha : arg i = wa + 1
        ·have t := tree
         simp only [dT (show wa ≥ 0 from hw), neT h20, cl_pos hq, hpu, Bool.not_true, eqF h16, eqF h17, eqF h19, eqT h20', dF hw', ewa, neF ha, if_true, if_false, Bool.false_eq_true, reduceIte] at t
         exact ends79_next (ih.2 (i + 1) _ _ 0 cp stk _ (by omega) hcp (hv.keep (.inl rfl))) (by rw [pl, if_neg hA, if_neg h16, if_neg h17, if_neg h19, if_pos h20', if_neg (by omega)]) t (LeSt.mk' (LeL.refl _) ⟨ChLe.row (join1 _ _ _), ChLe.row (join1 _ _ _), ChLe.refl _, trivial⟩)
        ·have t := tree
         simp only [dT (show wa ≥ 0 from hw), neT h20, cl_pos hq, hpu, Bool.not_true, eqF h16, eqF h17, eqF h19, eqT h20', dF hw', ewa, neT ha, if_true, if_false, Bool.false_eq_true, reduceIte] at t
         exact ends79_ret (by rw [pl, if_neg hA, if_neg h16, if_neg h17, if_neg h19, if_pos h20', if_pos (.inr ha)]) t
       have t := tree
       simp only [dT (show wa ≥ 0 from hw), neT h20, cl_pos hq, hpu, Bool.not_true, eqF h16, eqF h17, eqF h19, eqF h20', if_true, if_false, Bool.false_eq_true, reduceIte] at t
       exact ends79_next (ih.2 (i + 1) _ _ 0 cp stk _ (by omega) hcp (hv.keep (by have := hv.wa; omega))) (by rw [pl, if_neg hA, if_neg h16, if_neg h17, if_neg h19, if_neg h20']) t (LeSt.mk' (LeL.refl _) ⟨ChLe.row (join1 _ _ _), ChLe.row (join1 _ _ _), ChLe.refl _, trivial⟩)
    ·have hA : ¬ (0 ≤ wa ∧ op i ≠ 20 ∧ Cv.pureR (op i) = false) := fun h => hw h.1
     by_cases h16 : op i = 16
     ·have t := tree
      simp only [dF (show ¬ wa ≥ 0 from hw), eqT h16, if_true, if_false, Bool.false_eq_true, reduceIte] at t
      exact ends79_next (ih.2 (i + 1) _ _ (0 + 1) (0 + 1) _ _ (by omega) (Nat.le_refl _) hv.push) (by rw [pl, if_neg hA, if_pos h16]) t (LeSt.mk' (LeL.refl _) ⟨ChLe.row (join1 _ _ _), ChLe.row (join1 _ _ _), ChLe.row (join1 _ _ _), trivial⟩)
     by_cases h17 : op i = 17
     ·have t := tree
      simp only [dF (show ¬ wa ≥ 0 from hw), eqF h16, eqT h17, if_true, if_false, Bool.false_eq_true, reduceIte] at t
      exact ends79_ret (by rw [pl, if_neg hA, if_neg h16, if_pos h17, if_pos (.inl htp)]) t
     by_cases h19 : op i = 19
     ·have t := tree
      simp only [dF (show ¬ wa ≥ 0 from hw), eqF h16, eqF h17, eqT h19, if_true, if_false, Bool.false_eq_true, reduceIte] at t
      exact ends79_next (ih.2 (i + 1) _ _ 0 cp stk _ (by omega) hcp (hv.keep (.inr (by omega)))) (by rw [pl, if_neg hA, if_neg h16, if_neg h17, if_pos h19]) t (LeSt.mk' (LeL.refl _) ⟨ChLe.row (join1 _ _ _), ChLe.row (join1 _ _ _), ChLe.refl _, trivial⟩)
     by_cases h20' : op i = 20
     ·by_cases hw' : wa < 0
      ·have t := tree
       simp only [dF (show ¬ wa ≥ 0 from hw), eqF h16, eqF h17, eqF h19, eqT h20', dT hw', if_true, if_false, Bool.false_eq_true, reduceIte] at t
       exact ends79_ret (by rw [pl, if_neg hA, if_neg h16, if_neg h17, if_neg h19, if_pos h20', if_pos (.inl hw')]) t
      have ewa : w (wa + 1) = wa + 1 := w_in (by have := hv.wa; unfold inR; omega)
      by_cases ha : arg i = wa + 1
      ·have t := tree
       simp only [dF (show ¬ wa ≥ 0 from hw), eqF h16, eqF h17, eqF h19, eqT h20', dF hw', ewa, neF ha, if_true, if_false, Bool.false_eq_true, reduceIte] at t
       exact ends79_next (ih.2 (i + 1) _ _ 0 cp stk _ (by omega) hcp (hv.keep (.inl rfl))) (by rw [pl, if_neg hA, if_neg h16, if_neg h17, if_neg h19, if_pos h20', if_neg (by omega)]) t (LeSt.mk' (LeL.refl _) ⟨ChLe.row (join1 _ _ _), ChLe.row (join1 _ _ _), ChLe.refl _, trivial⟩)
      ·have t := tree
       simp only [dF (show ¬ wa ≥ 0 from hw), eqF h16, eqF h17, eqF h19, eqT h20', dF hw', ewa, neT ha, if_true, if_false, Bool.false_eq_true, reduceIte] at t
       exact ends79_ret (by rw [pl, if_neg hA, if_neg h16, if_neg h17, if_neg h19, if_pos h20', if_pos (.inr ha)]) t
     have t := tree
     simp only [dF (show ¬ wa ≥ 0 from hw), eqF h16, eqF h17, eqF h19, eqF h20', if_true, if_false, Bool.false_eq_true, reduceIte] at t
     exact ends79_next (ih.2 (i + 1) _ _ 0 cp stk _ (by omega) hcp (hv.keep (by have := hv.wa; omega))) (by rw [pl, if_neg hA, if_neg h16, if_neg h17, if_neg h19, if_neg h20']) t (LeSt.mk' (LeL.refl _) ⟨ChLe.row (join1 _ _ _), ChLe.row (join1 _ _ _), ChLe.refl _, trivial⟩)

set_option maxRecDepth 100000 in
theorem start79 {n : Nat} {op arg : Nat → Int} (vs : Int) (hn : n ≤ 300) (h1 : 1 ≤ n) : ends79 n (Cv.regR (mkC vs n op arg) n 0 ⟨Cv.zero, Cv.zero, 0, Cv.zero, -1⟩) (S79a n op arg) := by
 obtain ⟨r, rfl⟩ : ∃ r, n = r + 1 := ⟨n - 1, by omega⟩
 have ih := loop79 (n := r + 1) (op := op) (arg := arg) vs hn r
 have hid : decide ((0 : Int) < ((r + 1 : Nat) : Int)) = true := decide_eq_true (by omega)
 have hbb : (0 : Int) ≤ (0 : Int) ∧ (0 : Int) < ((r + 1 : Nat) : Int) := by omega
 have ew : w ((0 : Int) + 1) = ((0 + 1 : Nat) : Int) := by rw [w_in (by unfold inR; omega)]; omega
 have tree := fun lo => r79a (r + 1) op arg lo
 simp only [ew, if_pos hid, if_pos hbb, Nat.zero_add] at tree
 have hv : Inv79 0 0 Cv.zero (-1) := ⟨fun k hk => by omega, .inl rfl, Nat.le_refl _⟩
 generalize Cv.zero = L at *
 have pl : Cv.regR (mkC vs (r + 1) op arg) (r + 1) 0 ⟨L, L, 0, L, (-1)⟩ = (if 0 ≤ (-1) ∧ op 0 ≠ 20 ∧ Cv.pureR (op 0) = false then none
  else if op 0 = 16 then Cv.regR (mkC vs (r + 1) op arg) r (0 + 1) ⟨Cv.upd L 0 (-1), Cv.upd L 0 (-1), 0 + 1, Cv.upd L 0 0, (-1)⟩
  else if op 0 = 17 then (if (-1) < 0 ∨ arg 0 ≠ (-1) + 1 then none else Cv.regR (mkC vs (r + 1) op arg) r (0 + 1) ⟨Cv.upd L 0 (-1), Cv.upd L 0 (-1), 0 - 1, L, (-1)⟩)
  else if op 0 = 19 then Cv.regR (mkC vs (r + 1) op arg) r (0 + 1) ⟨Cv.upd L 0 (-1), Cv.upd L 0 (-1), 0, L, 0⟩
  else if op 0 = 20 then (if (-1) < 0 ∨ arg 0 ≠ (-1) + 1 then none else Cv.regR (mkC vs (r + 1) op arg) r (0 + 1) ⟨Cv.upd L 0 (-1), Cv.upd L 0 (-1), 0, L, -1⟩)
  else Cv.regR (mkC vs (r + 1) op arg) r (0 + 1) ⟨Cv.upd L 0 (-1), Cv.upd L 0 (-1), 0, L, (-1)⟩) := by
  have := Cv.regR.eq_2 (mkC vs (r + 1) op arg) 0 ⟨L, L, 0, L, (-1)⟩ r
  rw [show Cv.Rg.top ⟨L, L, 0, L, (-1)⟩ = -1 from rfl] at this
  exact this
 have htp : (-1 : Int) < 0 := by omega
 have hA : ¬ (0 ≤ (-1) ∧ op 0 ≠ 20 ∧ Cv.pureR (op 0) = false) := fun h => by omega
 by_cases h16 : op 0 = 16
 ·have t := tree
  simp only [eqT h16, if_true, if_false, Bool.false_eq_true, reduceIte] at t
  exact ends79_next (ih.2 (0 + 1) _ _ (0 + 1) (0 + 1) _ _ (by omega) (Nat.le_refl _) hv.push) (by rw [pl, if_neg hA, if_pos h16]; try rfl) t (LeSt.mk' (LeL.refl _) ⟨ChLe.row (get1 _ _), ChLe.row (get1 _ _), ChLe.row (get1 _ _), trivial⟩)
 by_cases h17 : op 0 = 17
 ·have t := tree
  simp only [eqF h16, eqT h17, if_true, if_false, Bool.false_eq_true, reduceIte] at t
  exact ends79_ret (by rw [pl, if_neg hA, if_neg h16, if_pos h17, if_pos (.inl htp)]; try rfl) t
 by_cases h19 : op 0 = 19
 ·have t := tree
  simp only [eqF h16, eqF h17, eqT h19, if_true, if_false, Bool.false_eq_true, reduceIte] at t
  exact ends79_next (ih.1 (0 + 1) _ _ L _ (by omega) (hv.keep (.inr (by omega)))) (by rw [pl, if_neg hA, if_neg h16, if_neg h17, if_pos h19]; try rfl) t (LeSt.mk' (LeL.refl _) ⟨ChLe.row (get1 _ _), ChLe.row (get1 _ _), trivial⟩)
 by_cases h20' : op 0 = 20
 ·have t := tree
  simp only [eqF h16, eqF h17, eqF h19, eqT h20', if_true, if_false, Bool.false_eq_true, reduceIte] at t
  exact ends79_ret (by rw [pl, if_neg hA, if_neg h16, if_neg h17, if_neg h19, if_pos h20', if_pos (.inl (by omega))]; try rfl) t
 have t := tree
 simp only [eqF h16, eqF h17, eqF h19, eqF h20', if_true, if_false, Bool.false_eq_true, reduceIte] at t
 exact ends79_next (ih.1 (0 + 1) _ _ L _ (by omega) (hv.keep (by have := hv.wa; omega))) (by rw [pl, if_neg hA, if_neg h16, if_neg h17, if_neg h19, if_neg h20']; try rfl) t (LeSt.mk' (LeL.refl _) ⟨ChLe.row (get1 _ _), ChLe.row (get1 _ _), trivial⟩)
end Go.Proofs.YthkioinnobiieaaGreatDoor
/- Depths (80), Valid (73), the reference's Verify (60), walked. -/
namespace Go.Proofs.YthkioinnobiieaaGreatDoor
open Go Go.Am Go.Proofs
set_option linter.unusedSimpArgs false
set_option linter.unusedVariables false
set_option maxRecDepth 100000
def rgN : V := .tup [.sc (.slice none 0 0), .sc (.slice none 0 0), bo false]
def rgS (n : Nat) (L W : Nat → Int) (b : Bool) : V := .tup [.ro 1 n (r1 L), .ro 1 n (r1 W), bo b]
def rg0 : Cv.Rg := ⟨Cv.zero, Cv.zero, 0, Cv.zero, -1⟩
def rgV (n : Nat) (x : Option Cv.Rg) : V := match x with
 | none => rgN
 | some q => rgS n q.L q.W (decide (q.m = 0 ∧ q.wa < 0))
theorem bw_row2 {n : Nat} {f g : Nat → List V} {b : Bool} : V.bw (hp [some (Chunk.row 3 1 n f), some (Chunk.row 3 1 n g)]) (.tup [.sl 0 1 0 n, .sl 1 1 0 n, bo b]) = .tup [.ro 1 n (fun j => f (0 + j)), .ro 1 n (fun j => g (0 + j)), bo b] := by
 simp [V.bw, V.bw2, V.bw1, hp]
set_option maxRecDepth 100000 in
theorem regions_sc {n : Nat} {op arg : Nat → Int} (vs : Int) (hn : n ≤ 300) (h1 : 1 ≤ n) : SC E2 87 [cd n op arg] [] (.ret (rgV n (Cv.regR (mkC vs n op arg) n 0 rg0)) []) := by
 have key := start79 (op := op) (arg := arg) vs hn h1
 have fin : ∀ {L W : Nat → Int} {b : Bool}, SC E2 87 [cd n op arg] [] (.ret (.tup [.sl 0 1 0 n, .sl 1 1 0 n, bo b]) [some (Chunk.row 3 1 n (r1 L)), some (Chunk.row 3 1 n (r1 W))]) → SC E2 87 [cd n op arg] [] (.ret (rgS n L W b) []) := by
  intro L W b h
  refine (SC.give h (by rw [bw_row2]; rfl)).le ?_
  rw [bw_row2]
  exact Le.tup (LeL.cons (Le.ro_eq fun j hj => ⟨by rw [Nat.zero_add], rfl⟩) (LeL.cons (Le.ro_eq fun j hj => ⟨by rw [Nat.zero_add], rfl⟩) (LeL.refl _)))
 have e0 : Cv.regR (mkC vs n op arg) n 0 ⟨Cv.zero, Cv.zero, 0, Cv.zero, -1⟩ = Cv.regR (mkC vs n op arg) n 0 rg0 := rfl
 rw [e0] at key
 revert key
 cases hx : Cv.regR (mkC vs n op arg) n 0 rg0 with
 | none =>
  intro key
  refine SC.of hW2 hX2 sC79 (oneF2 0 (e := .exit 0) (T := T79b n Cv.zero Cv.zero 0) key) ((f79b n op arg Cv.zero Cv.zero 0 _ _).trans ?_)
  rw [cl_pos ⟨rfl, LeSt.refl _⟩, cl_neg (fun h => h)]
  rfl
 | some q =>
  intro key
  rcases key with ⟨h0, key⟩ | ⟨cp, key⟩
  ·have hb : decide (q.m = 0 ∧ q.wa < 0) = decide (q.wa < 0) := by rw [Bool.eq_iff_iff, decide_eq_true_eq, decide_eq_true_eq]; exact ⟨fun h => h.2, fun h => ⟨h0, h⟩⟩
   show SC E2 87 _ _ (.ret (rgS n q.L q.W (decide (q.m = 0 ∧ q.wa < 0))) [])
   rw [hb]
   refine fin (SC.of hW2 hX2 sC79 (one2 0 (e' := .ret) (T' := T79r) key) ((f79b n op arg q.L q.W q.wa _ _).trans ?_))
   rw [cl_pos ⟨rfl, LeSt.refl _⟩, cl_pos trivial]
  ·show SC E2 87 _ _ (.ret (rgS n q.L q.W (decide (q.m = 0 ∧ q.wa < 0))) [])
   by_cases h0 : q.m = 0
   ·have hb : decide (q.m = 0 ∧ q.wa < 0) = decide (q.wa < 0) := by rw [Bool.eq_iff_iff, decide_eq_true_eq, decide_eq_true_eq]; exact ⟨fun h => h.2, fun h => ⟨h0, h⟩⟩
    rw [hb]
    refine fin (SC.of hW2 hX2 sC79 (one2 0 (e' := .ret) (T' := T79r) key) ((f79c n op arg q.L q.W q.m cp q.stk q.wa _ _).trans ?_))
    rw [cl_pos ⟨rfl, LeSt.refl _⟩, cl_pos trivial, if_pos (by simp [h0])]
   ·have hb : decide (q.m = 0 ∧ q.wa < 0) = false := decide_eq_false fun h => h0 h.1
    rw [hb]
    refine fin (SC.of hW2 hX2 sC79 (one2 0 (e' := .ret) (T' := T79r) key) ((f79c n op arg q.L q.W q.m cp q.stk q.wa _ _).trans ?_))
    rw [cl_pos ⟨rfl, LeSt.refl _⟩, cl_pos trivial, if_neg (by simp [h0])]
noncomputable def vLeftN : List V → V
 | [.sc (.int .i64 o), .sc (.int .i64 d)] => .tup [i64 (Cv.leftV o d), bo (leftD o d)]
 | _ => .junk
def QLeft (args : List V) : Prop := ∃ o d : Int, args = [i64 o, i64 d] ∧ -1 ≤ d ∧ d ≤ 16
noncomputable def C80 : CallT := ptab 110 QLeft vLeftN (tab [])
theorem sC80 : SoundC E2 C80 := ptab_cons (fun args h => by obtain ⟨o, d, rfl, h1, h2⟩ := h; exact left_sc h1 h2) tab_nil
def S80a (n : Nat) (op arg : Nat → Int) (k : Nat) (dp : Nat → Int) : St := { fr := [cd n op arg, .junk, .junk, .sl 0 1 0 n, i64 k] ++ jk 117, H := hp [some (.row 3 1 n (r1 dp))], nx := 1, rt := 0, me := 88 }
def T80a (n : Nat) (op arg : Nat → Int) (dp : Nat → Int) : St := { fr := [cd n op arg, .junk, .junk, .sl 0 1 0 n] ++ jk 118, H := hp [some (.row 3 1 n (r1 dp))], nx := 1, rt := 0, me := 88 }
def S80b (n : Nat) (op arg : Nat → Int) (i : Nat) (dp : Nat → Int) : St := { fr := [cd n op arg, .junk, .junk, .sl 0 1 0 n, .junk, i64 i] ++ jk 116, H := hp [some (.row 3 1 n (r1 dp))], nx := 1, rt := 0, me := 88 }
def T80e : St := { fr := jk 122, H := hp [], nx := 0, rt := 0, me := 88 }
def T80r : St := { fr := [.junk, .junk, bo false] ++ jk 119, H := hp [], nx := 0, rt := 0, me := 88 }
def S80c (n : Nat) (op arg : Nat → Int) (i : Nat) (dp : Nat → Int) (d : Int) (l : Nat) (f : Nat → Int) (j : Nat) : St := { fr := [cd n op arg, .junk, .junk, .sl 0 1 0 n, .junk, i64 i, i64 d, .junk, .sl 1 1 0 l, i64 j] ++ jk 112, H := hp [some (.row 3 1 n (r1 dp)), some (.row 3 1 l (r1 f))], nx := 2, rt := 0, me := 88 }
def S80n (n : Nat) (op arg : Nat → Int) (i : Nat) (dp : Nat → Int) (d : Int) : St := { fr := [cd n op arg, .junk, .junk, .sl 0 1 0 n, .junk, i64 i, i64 d, .junk, .sc (.slice none 0 0), i64 0] ++ jk 112, H := hp [some (.row 3 1 n (r1 dp))], nx := 1, rt := 0, me := 88 }
def T80i (n : Nat) (op arg : Nat → Int) (i : Nat) (dp : Nat → Int) : St := { fr := [cd n op arg, .junk, .junk, .sl 0 1 0 n, .junk, i64 i] ++ jk 116, H := hp [some (.row 3 1 n (r1 dp))], nx := 1, rt := 0, me := 88 }
theorem r80i (n : Nat) (op arg : Nat → Int) (i : Nat) (dp : Nat → Int) (d : Int) (l : Nat) (f : Nat → Int) (j : Nat) (lo : LoopT) : loopK E2 C80 lo 4 873 (bodyOf E2 88 4) (S80c n op arg i dp d l f j) (KC2 41 4) =
 if decide ((j : Int) < (l : Int)) = true then
 if (0 : Int) ≤ (j : Int) ∧ (j : Int) < (l : Int) then
 if 0 + Int.toNat (j : Int) < l ∧ 1 = 1 then
 if (0 : Int) ≤ f (0 + Int.toNat (j : Int)) ∧ f (0 + Int.toNat (j : Int)) < (n : Int) then
 if 0 + Int.toNat (f (0 + Int.toNat (j : Int))) < n ∧ 1 = 1 then
 if decide (dp (0 + Int.toNat (f (0 + Int.toNat (j : Int)))) ≥ (0 : Int)) = true then
 if (0 : Int) ≤ (j : Int) ∧ (j : Int) < (l : Int) then
 if 0 + Int.toNat (j : Int) < l ∧ 1 = 1 then
 if (0 : Int) ≤ f (0 + Int.toNat (j : Int)) ∧ f (0 + Int.toNat (j : Int)) < (n : Int) then
 if 0 + Int.toNat (f (0 + Int.toNat (j : Int))) < n ∧ 1 = 1 then
 if (dp (0 + Int.toNat (f (0 + Int.toNat (j : Int)))) != d) = true then
 some (Ans.l Ex.ret { fr := [V.junk, V.junk, bo false] ++ jk 119, H := hp [], nx := 0, rt := 0, me := 88 })
 else
 if (0 : Int) ≤ (j : Int) ∧ (j : Int) < (l : Int) then
 if 0 + Int.toNat (j : Int) < l ∧ 1 = 1 then
 if (0 : Int) ≤ f (0 + Int.toNat (j : Int)) ∧ f (0 + Int.toNat (j : Int)) < (n : Int) then
 if 0 + Int.toNat (f (0 + Int.toNat (j : Int))) < n ∧ 1 = 1 then
 lo 4 873 (bodyOf E2 88 4) ({ fr := [V.ro 2 n (ins op arg), V.junk, V.junk, V.sl 0 1 0 n, V.junk, i64 (i : Int), i64 d, V.junk, V.sl 1 1 0 l, i64 (w ((j : Int) + (1 : Int)))] ++ jk 112, H := hp [some (Chunk.row 3 1 n (putF true (0 + Int.toNat (f (0 + Int.toNat (j : Int)))) 0 [i64 d] (r1 dp))), some (Chunk.row 3 1 l (r1 f))], nx := 2, rt := 0, me := 88 }) (KC2 41 4)
 else
 none
 else
 none
 else
 none
 else
 none
 else
 none
 else
 none
 else
 none
 else
 none
 else
 if (0 : Int) ≤ (j : Int) ∧ (j : Int) < (l : Int) then
 if 0 + Int.toNat (j : Int) < l ∧ 1 = 1 then
 if (0 : Int) ≤ f (0 + Int.toNat (j : Int)) ∧ f (0 + Int.toNat (j : Int)) < (n : Int) then
 if 0 + Int.toNat (f (0 + Int.toNat (j : Int))) < n ∧ 1 = 1 then
 lo 4 873 (bodyOf E2 88 4) ({ fr := [V.ro 2 n (ins op arg), V.junk, V.junk, V.sl 0 1 0 n, V.junk, i64 (i : Int), i64 d, V.junk, V.sl 1 1 0 l, i64 (w ((j : Int) + (1 : Int)))] ++ jk 112, H := hp [some (Chunk.row 3 1 n (putF true (0 + Int.toNat (f (0 + Int.toNat (j : Int)))) 0 [i64 d] (r1 dp))), some (Chunk.row 3 1 l (r1 f))], nx := 2, rt := 0, me := 88 }) (KC2 41 4)
 else
 none
 else
 none
 else
 none
 else
 none
 else
 none
 else
 none
 else
 none
 else
 none
 else
 some (Ans.l (Ex.exit 4) { fr := [V.ro 2 n (ins op arg), V.junk, V.junk, V.sl 0 1 0 n, V.junk, i64 (i : Int)] ++ jk 116, H := hp [some (Chunk.row 3 1 n (r1 dp))], nx := 1, rt := 0, me := 88 }) := by kernel_rfl

theorem r80n (n : Nat) (op arg : Nat → Int) (i : Nat) (dp : Nat → Int) (d : Int) (lo : LoopT) : loopK E2 C80 lo 4 873 (bodyOf E2 88 4) (S80n n op arg i dp d) (KC2 41 4) =
 some (Ans.l (Ex.exit 4) { fr := [V.ro 2 n (ins op arg), V.junk, V.junk, V.sl 0 1 0 n, V.junk, i64 (i : Int)] ++ jk 116, H := hp [some (Chunk.row 3 1 n (r1 dp))], nx := 1, rt := 0, me := 88 }) := by kernel_rfl

theorem r80c (n : Nat) (op arg : Nat → Int) (k : Nat) (dp : Nat → Int) (lo : LoopT) : loopK E2 C80 lo 0 25 (bodyOf E2 88 0) (S80a n op arg k dp) (KC2 9 4) =
 if decide ((k : Int) < (n : Int)) = true then
 if (0 : Int) ≤ (k : Int) ∧ (k : Int) < (n : Int) then
 if 0 + Int.toNat (k : Int) < n ∧ 1 = 1 then
 lo 0 25 (bodyOf E2 88 0) ({ fr := [V.ro 2 n (ins op arg), V.junk, V.junk, V.sl 0 1 0 n, i64 (w ((k : Int) + (1 : Int)))] ++ jk 117, H := hp [some (Chunk.row 3 1 n (putF true (0 + Int.toNat (k : Int)) 0 [i64 (-1)] (r1 dp)))], nx := 1, rt := 0, me := 88 }) (KC2 9 4)
 else
 none
 else
 none
 else
 some (Ans.l (Ex.exit 0) { fr := [V.ro 2 n (ins op arg), V.junk, V.junk, V.sl 0 1 0 n] ++ jk 118, H := hp [some (Chunk.row 3 1 n (r1 dp))], nx := 1, rt := 0, me := 88 }) := by kernel_rfl

theorem r80b (n : Nat) (op arg : Nat → Int) (i : Nat) (dp dpN : Nat → Int) (S1 S2 : St) (P P2 : Prop) : loopK E2 C80 (ltab2 [⟨4, bodyOf E2 88 4, S1, P, .exit 4, T80i n op arg i dpN, .ret, T80r⟩, ⟨2, bodyOf E2 88 2, S2, P2, .exit 2, T80e, .ret, T80r⟩]) 2 41 (bodyOf E2 88 2) (S80b n op arg i dp) (KC2 0 4) =
 if decide ((i : Int) < (n : Int)) = true then
 if (0 : Int) ≤ (i : Int) ∧ (i : Int) < (n : Int) then
 if (0 : Int) ≤ (i : Int) ∧ (i : Int) < (n : Int) then
 if 0 + Int.toNat (i : Int) < n ∧ 1 = 1 then
 cl (QLeft ([i64 (op (Int.toNat (i : Int))), i64 (dp (0 + Int.toNat (i : Int)))]) ∧ ([] : List (Option Chunk)) = []) (
 if (0 : Int) ≤ (i : Int) ∧ (i : Int) < (n : Int) then
 if 0 + Int.toNat (i : Int) < n ∧ 1 = 1 then
 if decide (dp (0 + Int.toNat (i : Int)) < (0 : Int)) = true then
 some (Ans.l Ex.ret { fr := [V.junk, V.junk, bo false] ++ jk 119, H := hp [], nx := 0, rt := 0, me := 88 })
 else
 if (!leftD (op (Int.toNat (i : Int))) (dp (0 + Int.toNat (i : Int)))) = true then
 some (Ans.l Ex.ret { fr := [V.junk, V.junk, bo false] ++ jk 119, H := hp [], nx := 0, rt := 0, me := 88 })
 else
 if (0 : Int) ≤ (i : Int) ∧ (i : Int) < (n : Int) then
 if (op (Int.toNat (i : Int)) != (14 : Int)) = true then
 if decide (w ((i : Int) + (1 : Int)) < (n : Int)) = true then
 if (0 : Int) ≤ (i : Int) ∧ (i : Int) < (n : Int) then
 if (op (Int.toNat (i : Int)) == (14 : Int)) = true then
 if (0 : Int) ≤ (i : Int) ∧ (i : Int) < (n : Int) then
 cl ((bodyOf E2 88 4) = (bodyOf E2 88 4) ∧ LeSt ({ fr := [V.ro 2 n (ins op arg), V.junk, V.junk, V.sl 0 1 0 n, V.junk, i64 (i : Int), i64 (Cv.leftV (op (Int.toNat (i : Int))) (dp (0 + Int.toNat (i : Int)))), V.junk, V.sl 1 1 0 2, i64 0] ++ jk 112, H := hp [some (Chunk.row 3 1 n (r1 dp)), some (Chunk.row 3 1 2 (joinF 1 (fun (j : Nat) => List.getD [[i64 (w ((i : Int) + (1 : Int)))]] (0 + j) []) fun (j : Nat) => List.getD [[i64 (arg (Int.toNat (i : Int)))]] (0 + j) []))], nx := 2, rt := 0, me := 88 }) (S1)) (
 cl (P) (
 cl ((bodyOf E2 88 2) = (bodyOf E2 88 2) ∧ LeSt ({ fr := [V.ro 2 n (ins op arg), V.junk, V.junk, V.sl 0 1 0 n, V.junk, i64 (w ((i : Int) + (1 : Int)))] ++ jk 116, H := hp [some (Chunk.row 3 1 n (r1 dpN))], nx := 1, rt := 0, me := 88 }) (S2)) (
 cl (P2) (
 some (Ans.l (Ex.exit 2) { fr := [V.junk] ++ jk 121, H := hp [], nx := 0, rt := 0, me := 88 })) (
 some (Ans.l Ex.ret { fr := [V.junk, V.junk, bo false] ++ jk 119, H := hp [], nx := 0, rt := 0, me := 88 }))) (
 none)) (
 some (Ans.l Ex.ret { fr := [V.junk, V.junk, bo false] ++ jk 119, H := hp [], nx := 0, rt := 0, me := 88 }))) (
 none)
 else
 none
 else
 if (0 : Int) ≤ (i : Int) ∧ (i : Int) < (n : Int) then
 if (op (Int.toNat (i : Int)) == (15 : Int)) = true then
 if (0 : Int) ≤ (i : Int) ∧ (i : Int) < (n : Int) then
 cl ((bodyOf E2 88 4) = (bodyOf E2 88 4) ∧ LeSt ({ fr := [V.ro 2 n (ins op arg), V.junk, V.junk, V.sl 0 1 0 n, V.junk, i64 (i : Int), i64 (Cv.leftV (op (Int.toNat (i : Int))) (dp (0 + Int.toNat (i : Int)))), V.junk, V.sl 1 1 0 2, i64 0] ++ jk 112, H := hp [some (Chunk.row 3 1 n (r1 dp)), some (Chunk.row 3 1 2 (joinF 1 (fun (j : Nat) => List.getD [[i64 (w ((i : Int) + (1 : Int)))]] (0 + j) []) fun (j : Nat) => List.getD [[i64 (arg (Int.toNat (i : Int)))]] (0 + j) []))], nx := 2, rt := 0, me := 88 }) (S1)) (
 cl (P) (
 cl ((bodyOf E2 88 2) = (bodyOf E2 88 2) ∧ LeSt ({ fr := [V.ro 2 n (ins op arg), V.junk, V.junk, V.sl 0 1 0 n, V.junk, i64 (w ((i : Int) + (1 : Int)))] ++ jk 116, H := hp [some (Chunk.row 3 1 n (r1 dpN))], nx := 1, rt := 0, me := 88 }) (S2)) (
 cl (P2) (
 some (Ans.l (Ex.exit 2) { fr := [V.junk] ++ jk 121, H := hp [], nx := 0, rt := 0, me := 88 })) (
 some (Ans.l Ex.ret { fr := [V.junk, V.junk, bo false] ++ jk 119, H := hp [], nx := 0, rt := 0, me := 88 }))) (
 none)) (
 some (Ans.l Ex.ret { fr := [V.junk, V.junk, bo false] ++ jk 119, H := hp [], nx := 0, rt := 0, me := 88 }))) (
 none)
 else
 none
 else
 cl ((bodyOf E2 88 4) = (bodyOf E2 88 4) ∧ LeSt ({ fr := [V.ro 2 n (ins op arg), V.junk, V.junk, V.sl 0 1 0 n, V.junk, i64 (i : Int), i64 (Cv.leftV (op (Int.toNat (i : Int))) (dp (0 + Int.toNat (i : Int)))), V.junk, V.sl 1 1 0 1, i64 0] ++ jk 112, H := hp [some (Chunk.row 3 1 n (r1 dp)), some (Chunk.row 3 1 1 fun (j : Nat) => List.getD [[i64 (w ((i : Int) + (1 : Int)))]] (0 + j) [])], nx := 2, rt := 0, me := 88 }) (S1)) (
 cl (P) (
 cl ((bodyOf E2 88 2) = (bodyOf E2 88 2) ∧ LeSt ({ fr := [V.ro 2 n (ins op arg), V.junk, V.junk, V.sl 0 1 0 n, V.junk, i64 (w ((i : Int) + (1 : Int)))] ++ jk 116, H := hp [some (Chunk.row 3 1 n (r1 dpN))], nx := 1, rt := 0, me := 88 }) (S2)) (
 cl (P2) (
 some (Ans.l (Ex.exit 2) { fr := [V.junk] ++ jk 121, H := hp [], nx := 0, rt := 0, me := 88 })) (
 some (Ans.l Ex.ret { fr := [V.junk, V.junk, bo false] ++ jk 119, H := hp [], nx := 0, rt := 0, me := 88 }))) (
 none)) (
 some (Ans.l Ex.ret { fr := [V.junk, V.junk, bo false] ++ jk 119, H := hp [], nx := 0, rt := 0, me := 88 }))) (
 none)
 else
 none
 else
 none
 else
 if (0 : Int) ≤ (i : Int) ∧ (i : Int) < (n : Int) then
 if (op (Int.toNat (i : Int)) == (14 : Int)) = true then
 if (0 : Int) ≤ (i : Int) ∧ (i : Int) < (n : Int) then
 cl ((bodyOf E2 88 4) = (bodyOf E2 88 4) ∧ LeSt ({ fr := [V.ro 2 n (ins op arg), V.junk, V.junk, V.sl 0 1 0 n, V.junk, i64 (i : Int), i64 (Cv.leftV (op (Int.toNat (i : Int))) (dp (0 + Int.toNat (i : Int)))), V.junk, V.sl 1 1 0 1, i64 0] ++ jk 112, H := hp [some (Chunk.row 3 1 n (r1 dp)), some (Chunk.row 3 1 1 fun (j : Nat) => List.getD [[i64 (arg (Int.toNat (i : Int)))]] (0 + j) [])], nx := 2, rt := 0, me := 88 }) (S1)) (
 cl (P) (
 cl ((bodyOf E2 88 2) = (bodyOf E2 88 2) ∧ LeSt ({ fr := [V.ro 2 n (ins op arg), V.junk, V.junk, V.sl 0 1 0 n, V.junk, i64 (w ((i : Int) + (1 : Int)))] ++ jk 116, H := hp [some (Chunk.row 3 1 n (r1 dpN))], nx := 1, rt := 0, me := 88 }) (S2)) (
 cl (P2) (
 some (Ans.l (Ex.exit 2) { fr := [V.junk] ++ jk 121, H := hp [], nx := 0, rt := 0, me := 88 })) (
 some (Ans.l Ex.ret { fr := [V.junk, V.junk, bo false] ++ jk 119, H := hp [], nx := 0, rt := 0, me := 88 }))) (
 none)) (
 some (Ans.l Ex.ret { fr := [V.junk, V.junk, bo false] ++ jk 119, H := hp [], nx := 0, rt := 0, me := 88 }))) (
 none)
 else
 none
 else
 if (0 : Int) ≤ (i : Int) ∧ (i : Int) < (n : Int) then
 if (op (Int.toNat (i : Int)) == (15 : Int)) = true then
 if (0 : Int) ≤ (i : Int) ∧ (i : Int) < (n : Int) then
 cl ((bodyOf E2 88 4) = (bodyOf E2 88 4) ∧ LeSt ({ fr := [V.ro 2 n (ins op arg), V.junk, V.junk, V.sl 0 1 0 n, V.junk, i64 (i : Int), i64 (Cv.leftV (op (Int.toNat (i : Int))) (dp (0 + Int.toNat (i : Int)))), V.junk, V.sl 1 1 0 1, i64 0] ++ jk 112, H := hp [some (Chunk.row 3 1 n (r1 dp)), some (Chunk.row 3 1 1 fun (j : Nat) => List.getD [[i64 (arg (Int.toNat (i : Int)))]] (0 + j) [])], nx := 2, rt := 0, me := 88 }) (S1)) (
 cl (P) (
 cl ((bodyOf E2 88 2) = (bodyOf E2 88 2) ∧ LeSt ({ fr := [V.ro 2 n (ins op arg), V.junk, V.junk, V.sl 0 1 0 n, V.junk, i64 (w ((i : Int) + (1 : Int)))] ++ jk 116, H := hp [some (Chunk.row 3 1 n (r1 dpN))], nx := 1, rt := 0, me := 88 }) (S2)) (
 cl (P2) (
 some (Ans.l (Ex.exit 2) { fr := [V.junk] ++ jk 121, H := hp [], nx := 0, rt := 0, me := 88 })) (
 some (Ans.l Ex.ret { fr := [V.junk, V.junk, bo false] ++ jk 119, H := hp [], nx := 0, rt := 0, me := 88 }))) (
 none)) (
 some (Ans.l Ex.ret { fr := [V.junk, V.junk, bo false] ++ jk 119, H := hp [], nx := 0, rt := 0, me := 88 }))) (
 none)
 else
 none
 else
 cl ((bodyOf E2 88 4) = (bodyOf E2 88 4) ∧ LeSt ({ fr := [V.ro 2 n (ins op arg), V.junk, V.junk, V.sl 0 1 0 n, V.junk, i64 (i : Int), i64 (Cv.leftV (op (Int.toNat (i : Int))) (dp (0 + Int.toNat (i : Int)))), V.junk, V.sc (Value.slice none 0 0), i64 0] ++ jk 112, H := hp [some (Chunk.row 3 1 n (r1 dp))], nx := 1, rt := 0, me := 88 }) (S1)) (
 cl (P) (
 cl ((bodyOf E2 88 2) = (bodyOf E2 88 2) ∧ LeSt ({ fr := [V.ro 2 n (ins op arg), V.junk, V.junk, V.sl 0 1 0 n, V.junk, i64 (w ((i : Int) + (1 : Int)))] ++ jk 116, H := hp [some (Chunk.row 3 1 n (r1 dpN))], nx := 1, rt := 0, me := 88 }) (S2)) (
 cl (P2) (
 some (Ans.l (Ex.exit 2) { fr := [V.junk] ++ jk 121, H := hp [], nx := 0, rt := 0, me := 88 })) (
 some (Ans.l Ex.ret { fr := [V.junk, V.junk, bo false] ++ jk 119, H := hp [], nx := 0, rt := 0, me := 88 }))) (
 none)) (
 some (Ans.l Ex.ret { fr := [V.junk, V.junk, bo false] ++ jk 119, H := hp [], nx := 0, rt := 0, me := 88 }))) (
 none)
 else
 none
 else
 none
 else
 if (0 : Int) ≤ (i : Int) ∧ (i : Int) < (n : Int) then
 if (op (Int.toNat (i : Int)) == (14 : Int)) = true then
 if (0 : Int) ≤ (i : Int) ∧ (i : Int) < (n : Int) then
 cl ((bodyOf E2 88 4) = (bodyOf E2 88 4) ∧ LeSt ({ fr := [V.ro 2 n (ins op arg), V.junk, V.junk, V.sl 0 1 0 n, V.junk, i64 (i : Int), i64 (Cv.leftV (op (Int.toNat (i : Int))) (dp (0 + Int.toNat (i : Int)))), V.junk, V.sl 1 1 0 1, i64 0] ++ jk 112, H := hp [some (Chunk.row 3 1 n (r1 dp)), some (Chunk.row 3 1 1 fun (j : Nat) => List.getD [[i64 (arg (Int.toNat (i : Int)))]] (0 + j) [])], nx := 2, rt := 0, me := 88 }) (S1)) (
 cl (P) (
 cl ((bodyOf E2 88 2) = (bodyOf E2 88 2) ∧ LeSt ({ fr := [V.ro 2 n (ins op arg), V.junk, V.junk, V.sl 0 1 0 n, V.junk, i64 (w ((i : Int) + (1 : Int)))] ++ jk 116, H := hp [some (Chunk.row 3 1 n (r1 dpN))], nx := 1, rt := 0, me := 88 }) (S2)) (
 cl (P2) (
 some (Ans.l (Ex.exit 2) { fr := [V.junk] ++ jk 121, H := hp [], nx := 0, rt := 0, me := 88 })) (
 some (Ans.l Ex.ret { fr := [V.junk, V.junk, bo false] ++ jk 119, H := hp [], nx := 0, rt := 0, me := 88 }))) (
 none)) (
 some (Ans.l Ex.ret { fr := [V.junk, V.junk, bo false] ++ jk 119, H := hp [], nx := 0, rt := 0, me := 88 }))) (
 none)
 else
 none
 else
 if (0 : Int) ≤ (i : Int) ∧ (i : Int) < (n : Int) then
 if (op (Int.toNat (i : Int)) == (15 : Int)) = true then
 if (0 : Int) ≤ (i : Int) ∧ (i : Int) < (n : Int) then
 cl ((bodyOf E2 88 4) = (bodyOf E2 88 4) ∧ LeSt ({ fr := [V.ro 2 n (ins op arg), V.junk, V.junk, V.sl 0 1 0 n, V.junk, i64 (i : Int), i64 (Cv.leftV (op (Int.toNat (i : Int))) (dp (0 + Int.toNat (i : Int)))), V.junk, V.sl 1 1 0 1, i64 0] ++ jk 112, H := hp [some (Chunk.row 3 1 n (r1 dp)), some (Chunk.row 3 1 1 fun (j : Nat) => List.getD [[i64 (arg (Int.toNat (i : Int)))]] (0 + j) [])], nx := 2, rt := 0, me := 88 }) (S1)) (
 cl (P) (
 cl ((bodyOf E2 88 2) = (bodyOf E2 88 2) ∧ LeSt ({ fr := [V.ro 2 n (ins op arg), V.junk, V.junk, V.sl 0 1 0 n, V.junk, i64 (w ((i : Int) + (1 : Int)))] ++ jk 116, H := hp [some (Chunk.row 3 1 n (r1 dpN))], nx := 1, rt := 0, me := 88 }) (S2)) (
 cl (P2) (
 some (Ans.l (Ex.exit 2) { fr := [V.junk] ++ jk 121, H := hp [], nx := 0, rt := 0, me := 88 })) (
 some (Ans.l Ex.ret { fr := [V.junk, V.junk, bo false] ++ jk 119, H := hp [], nx := 0, rt := 0, me := 88 }))) (
 none)) (
 some (Ans.l Ex.ret { fr := [V.junk, V.junk, bo false] ++ jk 119, H := hp [], nx := 0, rt := 0, me := 88 }))) (
 none)
 else
 none
 else
 cl ((bodyOf E2 88 4) = (bodyOf E2 88 4) ∧ LeSt ({ fr := [V.ro 2 n (ins op arg), V.junk, V.junk, V.sl 0 1 0 n, V.junk, i64 (i : Int), i64 (Cv.leftV (op (Int.toNat (i : Int))) (dp (0 + Int.toNat (i : Int)))), V.junk, V.sc (Value.slice none 0 0), i64 0] ++ jk 112, H := hp [some (Chunk.row 3 1 n (r1 dp))], nx := 1, rt := 0, me := 88 }) (S1)) (
 cl (P) (
 cl ((bodyOf E2 88 2) = (bodyOf E2 88 2) ∧ LeSt ({ fr := [V.ro 2 n (ins op arg), V.junk, V.junk, V.sl 0 1 0 n, V.junk, i64 (w ((i : Int) + (1 : Int)))] ++ jk 116, H := hp [some (Chunk.row 3 1 n (r1 dpN))], nx := 1, rt := 0, me := 88 }) (S2)) (
 cl (P2) (
 some (Ans.l (Ex.exit 2) { fr := [V.junk] ++ jk 121, H := hp [], nx := 0, rt := 0, me := 88 })) (
 some (Ans.l Ex.ret { fr := [V.junk, V.junk, bo false] ++ jk 119, H := hp [], nx := 0, rt := 0, me := 88 }))) (
 none)) (
 some (Ans.l Ex.ret { fr := [V.junk, V.junk, bo false] ++ jk 119, H := hp [], nx := 0, rt := 0, me := 88 }))) (
 none)
 else
 none
 else
 none
 else
 none
 else
 none
 else
 none) (
 none)
 else
 none
 else
 none
 else
 none
 else
 some (Ans.l (Ex.exit 2) { fr := [V.junk] ++ jk 121, H := hp [], nx := 0, rt := 0, me := 88 }) := by kernel_rfl

theorem r80z_e (n : Nat) (op arg : Nat → Int) (i : Nat) (dp : Nat → Int) : loopK E2 C80 (ltab2 []) 2 41 (bodyOf E2 88 2) (S80b n op arg i dp) (KC2 0 4) =
 if decide ((i : Int) < (n : Int)) = true then
 if (0 : Int) ≤ (i : Int) ∧ (i : Int) < (n : Int) then
 if (0 : Int) ≤ (i : Int) ∧ (i : Int) < (n : Int) then
 if 0 + Int.toNat (i : Int) < n ∧ 1 = 1 then
 cl (QLeft ([i64 (op (Int.toNat (i : Int))), i64 (dp (0 + Int.toNat (i : Int)))]) ∧ ([] : List (Option Chunk)) = []) (
 if (0 : Int) ≤ (i : Int) ∧ (i : Int) < (n : Int) then
 if 0 + Int.toNat (i : Int) < n ∧ 1 = 1 then
 if decide (dp (0 + Int.toNat (i : Int)) < (0 : Int)) = true then
 some (Ans.l Ex.ret { fr := [V.junk, V.junk, bo false] ++ jk 119, H := hp [], nx := 0, rt := 0, me := 88 })
 else
 if (!leftD (op (Int.toNat (i : Int))) (dp (0 + Int.toNat (i : Int)))) = true then
 some (Ans.l Ex.ret { fr := [V.junk, V.junk, bo false] ++ jk 119, H := hp [], nx := 0, rt := 0, me := 88 })
 else
 if (0 : Int) ≤ (i : Int) ∧ (i : Int) < (n : Int) then
 if (op (Int.toNat (i : Int)) != (14 : Int)) = true then
 if decide (w ((i : Int) + (1 : Int)) < (n : Int)) = true then
 if (0 : Int) ≤ (i : Int) ∧ (i : Int) < (n : Int) then
 if (op (Int.toNat (i : Int)) == (14 : Int)) = true then
 if (0 : Int) ≤ (i : Int) ∧ (i : Int) < (n : Int) then
 none
 else
 none
 else
 if (0 : Int) ≤ (i : Int) ∧ (i : Int) < (n : Int) then
 if (op (Int.toNat (i : Int)) == (15 : Int)) = true then
 if (0 : Int) ≤ (i : Int) ∧ (i : Int) < (n : Int) then
 none
 else
 none
 else
 none
 else
 none
 else
 none
 else
 if (0 : Int) ≤ (i : Int) ∧ (i : Int) < (n : Int) then
 if (op (Int.toNat (i : Int)) == (14 : Int)) = true then
 if (0 : Int) ≤ (i : Int) ∧ (i : Int) < (n : Int) then
 none
 else
 none
 else
 if (0 : Int) ≤ (i : Int) ∧ (i : Int) < (n : Int) then
 if (op (Int.toNat (i : Int)) == (15 : Int)) = true then
 if (0 : Int) ≤ (i : Int) ∧ (i : Int) < (n : Int) then
 none
 else
 none
 else
 none
 else
 none
 else
 none
 else
 if (0 : Int) ≤ (i : Int) ∧ (i : Int) < (n : Int) then
 if (op (Int.toNat (i : Int)) == (14 : Int)) = true then
 if (0 : Int) ≤ (i : Int) ∧ (i : Int) < (n : Int) then
 none
 else
 none
 else
 if (0 : Int) ≤ (i : Int) ∧ (i : Int) < (n : Int) then
 if (op (Int.toNat (i : Int)) == (15 : Int)) = true then
 if (0 : Int) ≤ (i : Int) ∧ (i : Int) < (n : Int) then
 none
 else
 none
 else
 none
 else
 none
 else
 none
 else
 none
 else
 none
 else
 none) (
 none)
 else
 none
 else
 none
 else
 none
 else
 some (Ans.l (Ex.exit 2) { fr := [V.junk] ++ jk 121, H := hp [], nx := 0, rt := 0, me := 88 }) := by kernel_rfl

theorem f80 (n : Nat) (op arg dp : Nat → Int) (S1 S2 : St) (P P2 : Prop) : callK E2 C80 (ltab2 [⟨0, bodyOf E2 88 0, S1, P, .exit 0, T80a n op arg dp, .ret, T80r⟩, ⟨2, bodyOf E2 88 2, S2, P2, .exit 2, T80e, .ret, T80r⟩]) 88 [cd n op arg] [] K =
 if (n : Int) = (n : Int) ∧ (0 : Int) ≤ (n : Int) ∧ 0 < 1 ∧ 1 = 1 ∧ Int.toNat (n : Int) * 8 ≤ 281474976710656 ∧ Int.toNat (n : Int) ≤ maxLen ∧ (allOk 1 1 fun (x : Nat) => List.map V.sc (Array.toList (Value.cells (Value.int IntKind.i64 0)))) = true then
 cl ((bodyOf E2 88 0) = (bodyOf E2 88 0) ∧ LeSt ({ fr := [V.ro 2 n (ins op arg), V.junk, V.junk, V.sl 0 1 0 (Int.toNat (n : Int)), i64 1] ++ jk 117, H := hp [some (Chunk.row 3 1 (Int.toNat (n : Int)) fun (x : Nat) => List.map V.sc (Array.toList (Value.cells (Value.int IntKind.i64 0))))], nx := 1, rt := 0, me := 88 }) (S1)) (
 cl (P) (
 cl ((bodyOf E2 88 2) = (bodyOf E2 88 2) ∧ LeSt ({ fr := [V.ro 2 n (ins op arg), V.junk, V.junk, V.sl 0 1 0 n, V.junk, i64 0] ++ jk 116, H := hp [some (Chunk.row 3 1 n (r1 dp))], nx := 1, rt := 0, me := 88 }) (S2)) (
 cl (P2) (
 some (Ans.c (CRes.ret (bo true) []))) (
 some (Ans.c (CRes.ret (bo false) [])))) (
 none)) (
 some (Ans.c (CRes.ret (bo false) [])))) (
 none)
 else
 none := by kernel_rfl

theorem k80i (n : Nat) (op arg : Nat → Int) (i : Nat) (dp : Nat → Int) : KC2 41 4 (.exit 4) (T80i n op arg i dp) = some (.l (.exit 4) (T80i n op arg i dp)) := by kernel_rfl
theorem k80r : KC2 41 4 .ret T80r = some (.l .ret T80r) := by kernel_rfl
theorem k80a (n : Nat) (op arg : Nat → Int) (dp : Nat → Int) : KC2 9 4 (.exit 0) (T80a n op arg dp) = some (.l (.exit 0) (T80a n op arg dp)) := by kernel_rfl
theorem k80ar : KC2 9 4 .ret T80r = some (.l .ret T80r) := by kernel_rfl
theorem in_end {n i l : Nat} {op arg dp f : Nat → Int} {d : Int} : Ends (bodyOf E2 88 4) True (S80c n op arg i dp d l f l) (.exit 4) (T80i n op arg i dp) .ret T80r :=
 Ends.fin (m := 41) (r := 4) sC80 trivial fun lo => (r80i _ _ _ _ _ _ _ _ _ _).trans (by rw [if_neg (by simp)]; rfl)
theorem in_nil {n i : Nat} {op arg dp : Nat → Int} {d : Int} : Ends (bodyOf E2 88 4) True (S80n n op arg i dp d) (.exit 4) (T80i n op arg i dp) .ret T80r :=
 Ends.fin (m := 41) (r := 4) sC80 trivial fun lo => (r80n _ _ _ _ _ _ _).trans rfl
set_option maxRecDepth 100000 in
theorem in_step {n i l j : Nat} {op arg dp f dpN : Nat → Int} {d : Int} {P : Prop} (hl : l ≤ 2) (hj : j < l) (h0 : 0 ≤ f j) (hn : f j < n) (h : Ends (bodyOf E2 88 4) P (S80c n op arg i (Cv.upd dp (f j).toNat d) d l f (j + 1)) (.exit 4) (T80i n op arg i dpN) .ret T80r) : Ends (bodyOf E2 88 4) (¬ Cv.bad dp (f j).toNat d ∧ P) (S80c n op arg i dp d l f j) (.exit 4) (T80i n op arg i dpN) .ret T80r := by
 have hid : decide ((j : Int) < (l : Int)) = true := decide_eq_true (by omega)
 have hbb : (0 : Int) ≤ (j : Int) ∧ (j : Int) < (l : Int) := by omega
 have hcc : j < l ∧ True := ⟨hj, trivial⟩
 have hff : (0 : Int) ≤ f j ∧ f j < (n : Int) := ⟨h0, hn⟩
 have hgg : (f j).toNat < n ∧ True := ⟨by omega, trivial⟩
 have ew : w ((j : Int) + 1) = ((j + 1 : Nat) : Int) := by rw [w_in (by unfold inR; omega)]; omega
 have tree := fun lo => r80i n op arg i dp d l f j lo
 simp only [Int.toNat_natCast, Nat.zero_add, ew, if_pos hid, if_pos hbb, eq_self, if_pos hcc, if_pos hff, if_pos hgg] at tree
 have hle : LeSt ({ fr := [V.ro 2 n (ins op arg), V.junk, V.junk, V.sl 0 1 0 n, V.junk, i64 (i : Int), i64 d, V.junk, V.sl 1 1 0 l, i64 ((j + 1 : Nat) : Int)] ++ jk 112, H := hp [some (Chunk.row 3 1 n (putF true (f j).toNat 0 [i64 d] (r1 dp))), some (Chunk.row 3 1 l (r1 f))], nx := 2, rt := 0, me := 88 }) (S80c n op arg i (Cv.upd dp (f j).toNat d) d l f (j + 1)) :=
  LeSt.mk' (LeL.refl _) ⟨ChLe.row fun j' _ => row_put1 _ _ _ _, ChLe.refl _, trivial⟩
 by_cases hg : dp (f j).toNat ≥ 0
 ·by_cases hd : dp (f j).toNat = d
  ·have hb : ¬ Cv.bad dp (f j).toNat d := fun h => h.2 hd
   refine (Ends.next sC80 h (k80i _ _ _ _ _) k80r hle fun lo => (tree lo).trans ?_).iff ⟨fun h => h.2, fun h => ⟨hb, h⟩⟩
   simp only [dT hg, neF hd, if_true, if_false, Bool.false_eq_true, reduceIte]
  ·have hb : Cv.bad dp (f j).toNat d := ⟨hg, hd⟩
   refine Ends.ret sC80 (fun h => h.1 hb) fun lo => (tree lo).trans ?_
   simp only [dT hg, neT hd, if_true, if_false, Bool.false_eq_true, reduceIte]
   rfl
 ·have hb : ¬ Cv.bad dp (f j).toNat d := fun h => hg h.1
  refine (Ends.next sC80 h (k80i _ _ _ _ _) k80r hle fun lo => (tree lo).trans ?_).iff ⟨fun h => h.2, fun h => ⟨hb, h⟩⟩
  simp only [dF hg, if_true, if_false, Bool.false_eq_true, reduceIte]
def dq (k : Nat) : Nat → Int := fun j => if j = 0 then 0 else if j < k then -1 else 0
theorem dq_next (k : Nat) (h : 1 ≤ k) : Cv.upd (dq k) k (-1) = dq (k + 1) := by
 funext j
 unfold Cv.upd dq
 by_cases h0 : j = 0
 ·subst h0; rw [if_neg (by omega), if_pos rfl, if_pos rfl]
 ·by_cases hk : j = k
  ·rw [if_pos hk, if_neg h0, if_pos (by omega)]
  ·rw [if_neg hk, if_neg h0, if_neg h0]
   by_cases h2 : j < k
   ·rw [if_pos h2, if_pos (by omega)]
   ·rw [if_neg h2, if_neg (by omega)]
set_option maxRecDepth 100000 in
theorem loop80a {n : Nat} {op arg : Nat → Int} (hn : n ≤ 300) : ∀ (r k : Nat), k + r = n → 1 ≤ k → Ends (bodyOf E2 88 0) True (S80a n op arg k (dq k)) (.exit 0) (T80a n op arg (dq n)) .ret T80r := by
 intro r
 induction r with
 | zero =>
  intro k hk h1
  have : k = n := by omega
  subst this
  exact Ends.fin (m := 9) (r := 4) sC80 trivial fun lo => (r80c _ _ _ _ _ _).trans (by rw [if_neg (by simp)]; rfl)
 | succ r ih =>
  intro k hk h1
  have hid : decide ((k : Int) < (n : Int)) = true := decide_eq_true (by omega)
  have hbb : (0 : Int) ≤ (k : Int) ∧ (k : Int) < (n : Int) := by omega
  have hcc : k < n ∧ True := ⟨by omega, trivial⟩
  have ew : w ((k : Int) + 1) = ((k + 1 : Nat) : Int) := by rw [w_in (by unfold inR; omega)]; omega
  have tree := fun lo => r80c n op arg k (dq k) lo
  simp only [Int.toNat_natCast, Nat.zero_add, ew, if_pos hid, if_pos hbb, eq_self, if_pos hcc] at tree
  have hle : LeSt ({ fr := [V.ro 2 n (ins op arg), V.junk, V.junk, V.sl 0 1 0 n, i64 ((k + 1 : Nat) : Int)] ++ jk 117, H := hp [some (Chunk.row 3 1 n (putF true k 0 [i64 (-1)] (r1 (dq k))))], nx := 1, rt := 0, me := 88 }) (S80a n op arg (k + 1) (dq (k + 1))) :=
   LeSt.mk' (LeL.refl _) ⟨ChLe.row fun j _ => by rw [row_put1, dq_next k h1], trivial⟩
  exact Ends.next sC80 (ih (k + 1) (by omega) (by omega)) (k80a _ _ _ _) k80ar hle tree
theorem one_list (v : Int) : ∀ j, j < 1 → (fun (j : Nat) => List.getD [[i64 v]] j []) j = r1 (fun _ => v) j := by
 intro j hj
 have : j = 0 := by omega
 subst this
 rfl
def two (a b : Int) : Nat → Int := fun j => if j = 0 then a else b
theorem two_list (a b : Int) : ∀ j, j < 2 → joinF 1 (fun (j : Nat) => List.getD [[i64 a]] j []) (fun (j : Nat) => List.getD [[i64 b]] j []) j = r1 (two a b) j := by
 intro j hj
 have : j = 0 ∨ j = 1 := by omega
 rcases this with h | h <;> subst h <;> rfl
theorem round80 {n i : Nat} {op arg dp dpN : Nat → Int} {P P2 Q : Prop} {S1 : St} (h4 : Ends (bodyOf E2 88 4) P S1 (.exit 4) (T80i n op arg i dpN) .ret T80r) (h2 : Ends (bodyOf E2 88 2) P2 (S80b n op arg (i + 1) dpN) (.exit 2) T80e .ret T80r) (hQ : Q ↔ (P ∧ P2))
 (hn : loopK E2 C80 (ltab2 [⟨4, bodyOf E2 88 4, S1, P, .exit 4, T80i n op arg i dpN, .ret, T80r⟩, ⟨2, bodyOf E2 88 2, S80b n op arg (i + 1) dpN, P2, .exit 2, T80e, .ret, T80r⟩]) 2 41 (bodyOf E2 88 2) (S80b n op arg i dp) (KC2 0 4) = cl P (cl P2 (some (.l (.exit 2) T80e)) (some (.l .ret T80r))) (some (.l .ret T80r))) : Ends (bodyOf E2 88 2) Q (S80b n op arg i dp) (.exit 2) T80e .ret T80r := by
 have hs := ltab2_cons (x := ⟨4, bodyOf E2 88 4, S1, P, .exit 4, T80i n op arg i dpN, .ret, T80r⟩) h4 (ltab2_cons (x := ⟨2, bodyOf E2 88 2, S80b n op arg (i + 1) dpN, P2, .exit 2, T80e, .ret, T80r⟩) h2 ltab2_nil)
 refine ⟨fun q => SL.by2 sC80 hX2 hs (hn.trans ?_), fun q => SL.by2 sC80 hX2 hs (hn.trans ?_)⟩
 ·rw [cl_pos (hQ.1 q).1, cl_pos (hQ.1 q).2]
 ·by_cases hp : P
  ·rw [cl_pos hp, cl_neg (fun h => q (hQ.2 ⟨hp, h⟩))]
  ·rw [cl_neg hp]
theorem Ends.ret0 {C : CallT} (hC : SoundC E2 C) {lo : LoopT} {id live m r : Nat} {c : ACode} {P : Prop} {S : St} {e1 e2 : Ex} {T1 T2 : St} (hp : ¬ P) (hL : SoundL E2 lo) (hn : loopK E2 C lo id live c S (KC2 m r) = some (.l e2 T2)) : Ends c P S e1 T1 e2 T2 :=
 ⟨fun p => absurd p hp, fun _ => SL.by2 hC hX2 hL hn⟩
theorem le80 {n i : Nat} {op arg dp : Nat → Int} : LeSt ({ fr := [V.ro 2 n (ins op arg), V.junk, V.junk, V.sl 0 1 0 n, V.junk, i64 ((i + 1 : Nat) : Int)] ++ jk 116, H := hp [some (Chunk.row 3 1 n (r1 dp))], nx := 1, rt := 0, me := 88 }) (S80b n op arg (i + 1) dp) := LeSt.refl _
theorem le80n {n i : Nat} {op arg dp : Nat → Int} {d : Int} : LeSt ({ fr := [V.ro 2 n (ins op arg), V.junk, V.junk, V.sl 0 1 0 n, V.junk, i64 (i : Int), i64 d, V.junk, V.sc (Value.slice none 0 0), i64 0] ++ jk 112, H := hp [some (Chunk.row 3 1 n (r1 dp))], nx := 1, rt := 0, me := 88 }) (S80n n op arg i dp d) := LeSt.refl _
theorem le80one {n i : Nat} {op arg dp : Nat → Int} {d v : Int} : LeSt ({ fr := [V.ro 2 n (ins op arg), V.junk, V.junk, V.sl 0 1 0 n, V.junk, i64 (i : Int), i64 d, V.junk, V.sl 1 1 0 1, i64 0] ++ jk 112, H := hp [some (Chunk.row 3 1 n (r1 dp)), some (Chunk.row 3 1 1 fun (j : Nat) => List.getD [[i64 v]] j [])], nx := 2, rt := 0, me := 88 }) (S80c n op arg i dp d 1 (fun _ => v) 0) :=
 LeSt.mk' (LeL.refl _) ⟨ChLe.refl _, ChLe.row (one_list _), trivial⟩
theorem le80two {n i : Nat} {op arg dp : Nat → Int} {d a b : Int} : LeSt ({ fr := [V.ro 2 n (ins op arg), V.junk, V.junk, V.sl 0 1 0 n, V.junk, i64 (i : Int), i64 d, V.junk, V.sl 1 1 0 2, i64 0] ++ jk 112, H := hp [some (Chunk.row 3 1 n (r1 dp)), some (Chunk.row 3 1 2 (joinF 1 (fun (j : Nat) => List.getD [[i64 a]] j []) fun (j : Nat) => List.getD [[i64 b]] j []))], nx := 2, rt := 0, me := 88 }) (S80c n op arg i dp d 2 (two a b) 0) :=
 LeSt.mk' (LeL.refl _) ⟨ChLe.refl _, ChLe.row (two_list _ _), trivial⟩
theorem leftD_true (o d : Int) : leftD o d = true ↔ Cv.leftB o d := by unfold leftD; exact @decide_eq_true_iff _ (Classical.propDecidable _)
def sm16 (dp : Nat → Int) : Prop := ∀ j, -1 ≤ dp j ∧ dp j ≤ 16
theorem sm16.upd {dp : Nat → Int} (h : sm16 dp) {t : Nat} {d : Int} (h0 : 0 ≤ d) (h1 : d ≤ 16) : sm16 (Cv.upd dp t d) := by
 intro j
 unfold Cv.upd
 split
 ·omega
 ·exact h j
set_option maxRecDepth 100000 in
theorem loop80b {n : Nat} {op arg : Nat → Int} (vs : Int) (hn : n ≤ 300) (hok : ∀ i, i < n → Cv.okOp (op i)) (harg : ∀ i, i < n → Cv.jmp (op i) → 0 ≤ arg i ∧ arg i < n) : ∀ (r i : Nat) (dp : Nat → Int), i + r = n → sm16 dp → Ends (bodyOf E2 88 2) (Cv.depR (mkC vs n op arg) r i dp) (S80b n op arg i dp) (.exit 2) T80e .ret T80r := by
 intro r
 induction r with
 | zero =>
  intro i dp hi hs
  have : i = n := by omega
  subst this
  exact ⟨fun _ => SL.by2 (m := 0) (r := 4) sC80 hX2 ltab2_nil ((r80z_e _ _ _ _ _).trans (by rw [if_neg (by simp)]; rfl)), fun h => absurd trivial h⟩
 | succ r ih =>
  intro i dp hi hs
  have hi' : i < n := by omega
  have hsi := hs i
  have hid : decide ((i : Int) < (n : Int)) = true := decide_eq_true (by omega)
  have hbb : (0 : Int) ≤ (i : Int) ∧ (i : Int) < (n : Int) := by omega
  have hcc : i < n ∧ True := ⟨hi', trivial⟩
  have hq : QLeft [i64 (op i), i64 (dp i)] ∧ True := ⟨⟨_, _, rfl, hsi⟩, trivial⟩
  have ew : w ((i : Int) + 1) = ((i + 1 : Nat) : Int) := by rw [w_in (by unfold inR; omega)]; omega
  have tree := fun (dpN : Nat → Int) S1 S2 P P2 => r80b n op arg i dp dpN S1 S2 P P2
  simp only [Int.toNat_natCast, Nat.zero_add, ew, if_pos hid, if_pos hbb, eq_self, if_pos hcc, cl_pos hq, true_and] at tree
  have tree0 := r80z_e n op arg i dp
  simp only [Int.toNat_natCast, Nat.zero_add, ew, if_pos hid, if_pos hbb, eq_self, if_pos hcc, cl_pos hq, true_and] at tree0
  have bl := iff_of_eq (Cv.depR.eq_2 (mkC vs n op arg) i dp r)
  have hop : Cv.Cd.op (mkC vs n op arg) i = op i := rfl
  have har : Cv.Cd.arg (mkC vs n op arg) i = arg i := rfl
  have hnn : Cv.Cd.n (mkC vs n op arg) = n := rfl
  rw [hop, har, hnn] at bl
  by_cases hneg : dp i < 0
  ·refine Ends.ret0 sC80 (fun h => by have := (bl.1 h).1.1; omega) ltab2_nil (tree0.trans ?_)
   simp only [dT hneg, if_true]
   rfl
  by_cases hl' : ¬ Cv.leftB (op i) (dp i)
  ·have hlf : leftD (op i) (dp i) = false := by cases hb : leftD (op i) (dp i) with | false => rfl | true => exact absurd ((leftD_true _ _).1 hb) hl'
   refine Ends.ret0 sC80 (fun h => hl' (bl.1 h).1.2) ltab2_nil (tree0.trans ?_)
   simp only [dF hneg, hlf, Bool.not_false, if_true, if_false, Bool.false_eq_true, reduceIte]
   rfl
  have hl := Classical.not_not.1 hl'
  have hlt : leftD (op i) (dp i) = true := (leftD_true _ _).2 hl
  obtain ⟨v1, v2, v3⟩ := Cv.eff_val (hok i hi') (by omega) hsi.2 hl
  have hA : 0 ≤ dp i ∧ Cv.leftB (op i) (dp i) := ⟨by omega, hl⟩
  simp only [dF hneg, hlt, Bool.not_true, if_true, if_false, Bool.false_eq_true, reduceIte] at tree
  generalize Cv.leftV (op i) (dp i) = d at *
  by_cases h14 : op i = 14
  ·have hj : Cv.jmp (op i) := .inl h14
   have ha := harg i hi' hj
   have hin : ¬ (op i ≠ 14 ∧ i + 1 < n) := fun h => h.1 h14
   simp only [hin, hj, if_true, if_false, true_implies, false_implies, true_and] at bl
   simp only [neF h14, eqT h14, if_true, if_false, Bool.false_eq_true, reduceIte] at tree
   refine round80 (in_step (j := 0) (l := 1) (f := fun _ => arg i) (d := d) (by omega) (by omega) ha.1 ha.2 in_end) (ih (i + 1) (Cv.upd dp (arg i).toNat d) (by omega) (hs.upd v2 v3)) (bl.trans ⟨fun h => ⟨⟨h.2.1, trivial⟩, h.2.2⟩, fun h => ⟨hA, h.1.1, h.2⟩⟩) ((tree _ _ _ _ _).trans ?_)
   rw [cl_pos le80one, cl_pos le80]
   rfl
  by_cases hin1 : i + 1 < n
  ·have hin : (op i ≠ 14 ∧ i + 1 < n) = True := eq_true ⟨h14, hin1⟩
   have hlt1 : decide (((i + 1 : Nat) : Int) < (n : Int)) = true := decide_eq_true (by omega)
   by_cases h15 : op i = 15
   ·have hj : Cv.jmp (op i) := .inr h15
    have ha := harg i hi' hj
    simp only [hin, hj, if_true, if_false, true_implies, false_implies, true_and, and_self] at bl
    simp only [neT h14, hlt1, eqF h14, eqT h15, if_true, if_false, Bool.false_eq_true, reduceIte] at tree
    refine round80 (in_step (j := 0) (l := 2) (f := two ((i + 1 : Nat) : Int) (arg i)) (d := d) (by omega) (by omega) (show (0 : Int) ≤ ((i + 1 : Nat) : Int) by omega) (show ((i + 1 : Nat) : Int) < n by omega) (in_step (j := 1) (l := 2) (f := two ((i + 1 : Nat) : Int) (arg i)) (d := d) (by omega) (by omega) ha.1 ha.2 in_end)) (ih (i + 1) (Cv.upd (Cv.upd dp (i + 1) d) (arg i).toNat d) (by omega) ((hs.upd v2 v3).upd v2 v3)) (bl.trans ⟨fun h => ⟨⟨h.2.1, h.2.2.1, trivial⟩, h.2.2.2⟩, fun h => ⟨hA, h.1.1, h.1.2.1, h.2⟩⟩) ((tree _ _ _ _ _).trans ?_)
    rw [cl_pos le80two, cl_pos le80]
    rfl
   ·have hj : ¬ Cv.jmp (op i) := fun h => h.elim h14 h15
    simp only [hin, hj, if_true, if_false, true_implies, false_implies, true_and, and_self] at bl
    simp only [neT h14, hlt1, eqF h14, eqF h15, if_true, if_false, Bool.false_eq_true, reduceIte] at tree
    refine round80 (in_step (j := 0) (l := 1) (f := fun _ => ((i + 1 : Nat) : Int)) (d := d) (by omega) (by omega) (show (0 : Int) ≤ ((i + 1 : Nat) : Int) by omega) (show ((i + 1 : Nat) : Int) < n by omega) in_end) (ih (i + 1) (Cv.upd dp (i + 1) d) (by omega) (hs.upd v2 v3)) (bl.trans ⟨fun h => ⟨⟨h.2.1, trivial⟩, h.2.2⟩, fun h => ⟨hA, h.1.1, h.2⟩⟩) ((tree _ _ _ _ _).trans ?_)
    rw [cl_pos le80one, cl_pos le80]
    rfl
  ·have hin : ¬ (op i ≠ 14 ∧ i + 1 < n) := fun h => hin1 h.2
   have hlt1 : decide (((i + 1 : Nat) : Int) < (n : Int)) = false := decide_eq_false (by omega)
   by_cases h15 : op i = 15
   ·have hj : Cv.jmp (op i) := .inr h15
    have ha := harg i hi' hj
    simp only [hin, hj, if_true, if_false, true_implies, false_implies, true_and, and_self] at bl
    simp only [neT h14, hlt1, eqF h14, eqT h15, if_true, if_false, Bool.false_eq_true, reduceIte] at tree
    refine round80 (in_step (j := 0) (l := 1) (f := fun _ => arg i) (d := d) (by omega) (by omega) ha.1 ha.2 in_end) (ih (i + 1) (Cv.upd dp (arg i).toNat d) (by omega) (hs.upd v2 v3)) (bl.trans ⟨fun h => ⟨⟨h.2.1, trivial⟩, h.2.2⟩, fun h => ⟨hA, h.1.1, h.2⟩⟩) ((tree _ _ _ _ _).trans ?_)
    rw [cl_pos le80one, cl_pos le80]
    rfl
   ·have hj : ¬ Cv.jmp (op i) := fun h => h.elim h14 h15
    simp only [hin, hj, if_true, if_false, true_implies, false_implies, true_and, and_self] at bl
    simp only [neT h14, hlt1, eqF h14, eqF h15, if_true, if_false, Bool.false_eq_true, reduceIte] at tree
    refine round80 (in_nil (d := d)) (ih (i + 1) dp (by omega) hs) (bl.trans ⟨fun h => ⟨trivial, h.2⟩, fun h => ⟨hA, h.2⟩⟩) ((tree _ _ _ _ _).trans ?_)
    rw [cl_pos le80n, cl_pos le80]
    rfl
open Classical in
noncomputable def depD (c : Cv.Cd) : Bool := decide (Cv.depR c c.n 0 Cv.dp0)
open Classical in
theorem depD_iff (c : Cv.Cd) : depD c = true ↔ Cv.depR c c.n 0 Cv.dp0 := by unfold depD; rw [decide_eq_true_eq]
set_option maxRecDepth 100000 in
theorem dep_sc {n : Nat} {op arg : Nat → Int} (vs : Int) (hn : n ≤ 300) (h1 : 1 ≤ n) (hok : ∀ i, i < n → Cv.okOp (op i)) (harg : ∀ i, i < n → Cv.jmp (op i) → 0 ≤ arg i ∧ arg i < n) : SC E2 88 [cd n op arg] [] (.ret (bo (depD (mkC vs n op arg))) []) := by
 have l1 := loop80a (op := op) (arg := arg) hn (n - 1) 1 (by omega) (Nat.le_refl _)
 have hs0 : sm16 Cv.dp0 := fun j => by unfold Cv.dp0; split <;> omega
 have l2 := loop80b vs hn hok harg n 0 Cv.dp0 (by omega) hs0
 have hc : (n : Int) = (n : Int) ∧ (0 : Int) ≤ (n : Int) ∧ 0 < 1 ∧ 1 = 1 ∧ Int.toNat (n : Int) * 8 ≤ 281474976710656 ∧ Int.toNat (n : Int) ≤ Go.maxLen ∧ (allOk 1 1 fun (x : Nat) => List.map V.sc (Array.toList (Value.cells (Value.int IntKind.i64 0)))) = true := by
  refine ⟨rfl, by omega, by decide, rfl, by rw [Int.toNat_natCast]; omega, by rw [Int.toNat_natCast]; unfold Go.maxLen; omega, by kernel_rfl⟩
 refine SC.of hW2 hX2 sC80 (ltab2_cons (x := ⟨0, _, _, _, _, _, _, _⟩) l1 (ltab2_cons (x := ⟨2, _, _, _, _, _, _, _⟩) l2 ltab2_nil)) ((f80 n op arg (dq n) _ _ _ _).trans ?_)
 rw [if_pos hc, cl_pos ⟨rfl, (by
  rw [Int.toNat_natCast]
  refine LeSt.mk' (LeL.refl _) ⟨ChLe.row fun j _ => ?_, trivial⟩
  show [i64 0] = [i64 (dq 1 j)]
  unfold dq
  by_cases h : j = 0
  ·rw [if_pos h]
  ·rw [if_neg h, if_neg (by omega)])⟩, cl_pos trivial]
 rw [cl_pos ⟨rfl, (by
  refine LeSt.mk' (LeL.refl _) ⟨ChLe.row fun j hj => ?_, trivial⟩
  show [i64 (dq n j)] = [i64 (Cv.dp0 j)]
  unfold dq Cv.dp0
  by_cases h : j = 0
  ·rw [if_pos h, if_pos h]
  ·rw [if_neg h, if_neg h, if_pos hj])⟩]
 by_cases hb : Cv.depR (mkC vs n op arg) n 0 Cv.dp0
 ·rw [cl_pos hb]
  have : depD (mkC vs n op arg) = true := (depD_iff _).2 hb
  rw [this]
 ·rw [cl_neg hb]
  have : depD (mkC vs n op arg) = false := by cases h : depD (mkC vs n op arg) with | false => rfl | true => exact absurd ((depD_iff _).1 h) hb
  rw [this]
end Go.Proofs.YthkioinnobiieaaGreatDoor
