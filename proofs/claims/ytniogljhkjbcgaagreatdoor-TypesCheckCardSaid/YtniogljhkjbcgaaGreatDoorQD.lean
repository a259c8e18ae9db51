/- Texts joined. -/
import Derived.Test.YtniogljhkjbcgaaGreatDoorQB
import Derived.Test.YtniogljhkjbcgaaGreatDoorQC
import Derived.Test.YtniogljhkjbcgaaGreatDoorProg
import Derived.Test.YtniogljhkjbcgaaGreatDoorRows
import Derived.Lib.Strings
import Derived.Lib.IndexMore
import Derived.Recover
import Derived.Test.YtniogljhkjbcgaaGreatDoorShelf
import Derived.Test.YtniogljhkjbcgaaGreatDoorCards
import Derived.Test.YtniogljhkjbcgaaGreatDoorTie
import Derived.Deep.DeepHandedRow
import Derived.Deep.DeepWitnessRowRef
import Derived.LaidMore
/- The environment of this seat: variables of the packages, library functions by contract. -/
set_option linter.unusedSimpArgs false
set_option linter.unusedVariables false
namespace Go.Proofs.YtniogljhkjbcgaaGreatDoor
open Go Go.Am
abbrev i64 (n : Int) : V := .sc (.int .i64 n)
abbrev bo (b : Bool) : V := .sc (.bool b)
abbrev st (s : ByteArray) : V := .sc (.string s)
def tabL : List (List V) := [
  [.sc (.string ⟨#[74]⟩), i64 1, i64 1, i64 0, i64 0, i64 0, i64 0],
  [.sc (.string ⟨#[107, 74]⟩), i64 1000, i64 1, i64 0, i64 0, i64 0, i64 0],
  [.sc (.string ⟨#[87, 104]⟩), i64 3600, i64 1, i64 0, i64 0, i64 0, i64 0],
  [.sc (.string ⟨#[66]⟩), i64 1, i64 0, i64 1, i64 0, i64 0, i64 0],
  [.sc (.string ⟨#[107, 66]⟩), i64 1000, i64 0, i64 1, i64 0, i64 0, i64 0],
  [.sc (.string ⟨#[115]⟩), i64 1, i64 0, i64 0, i64 1, i64 0, i64 0],
  [.sc (.string ⟨#[109, 105, 110]⟩), i64 60, i64 0, i64 0, i64 1, i64 0, i64 0],
  [.sc (.string ⟨#[104]⟩), i64 3600, i64 0, i64 0, i64 1, i64 0, i64 0],
  [.sc (.string ⟨#[100, 101, 103]⟩), i64 1, i64 0, i64 0, i64 0, i64 1, i64 0],
  [.sc (.string ⟨#[75]⟩), i64 1, i64 0, i64 0, i64 0, i64 0, i64 1],
  [.sc (.string ⟨#[87]⟩), i64 1, i64 1, i64 0, i64 (-1), i64 0, i64 0],
  [.sc (.string ⟨#[107, 87]⟩), i64 1000, i64 1, i64 0, i64 (-1), i64 0, i64 0],
  [.sc (.string ⟨#[66, 112, 115]⟩), i64 1, i64 0, i64 1, i64 (-1), i64 0, i64 0]]
def tabV : V := .ro 7 13 (fun j => tabL.getD j [])
def opsL : List V := [.sc (.string ⟨#[124, 124]⟩), i64 1, .sc (.string ⟨#[38, 38]⟩), i64 1, .sc (.string ⟨#[43]⟩), i64 2, .sc (.string ⟨#[45]⟩), i64 2, .sc (.string ⟨#[42]⟩), i64 3, .sc (.string ⟨#[47]⟩), i64 3, .sc (.string ⟨#[60]⟩), i64 4, .sc (.string ⟨#[60, 61]⟩), i64 4, .sc (.string ⟨#[62]⟩), i64 4, .sc (.string ⟨#[62, 61]⟩), i64 4, .sc (.string ⟨#[61, 61]⟩), i64 4, .sc (.string ⟨#[33, 61]⟩), i64 4]
def globF : Nat → Option (List V)
  | 0 => some [tabV]
  | 1 => some opsL
  | _ => none
/-- Library functions by contract: Contains, IndexByte. -/
def extF (f : FuncId) (args : List V) : Option V :=
  if f = 83 then match args with
    | [.sc (.string s), .sc (.string sub)] => if s.size < 4294967281 then some (bo (Lib.contains s.data.toList sub.data.toList)) else none
    | _ => none
  else if f = 69 then match args with
    | [.sc (.string s), .sc (.int .u8 c)] => some (i64 (Lib.indexByte s.data.toList (UInt8.ofNat c.toNat)))
    | _ => none
  else none
def way (a b : Nat) : Am.Way := if b ∈ [47, 63, 64, 74, 84, 85, 86, 87, 88, 89, 90, 91, 95, 99, 100] then .giveM else if b ∈ [10, 25, 44, 18, 20, 33, 36, 37] then .give else if b ∈ [13] then .lend else .plain
def dfnF (f : FuncId) : Bool := f == 25
def idleF (f : FuncId) : Option Nat := if f = 45 then some 3 else none
open Go.RowKit
set_option linter.unusedVariables false
noncomputable def E : Env := { P := Tryz.prog, glob := globF, ext := extF, way := way, lit := fun _ => false, code := fun f => (Tryz.prog.funcs[f]?).bind annF, inv := [(2, intCell .i64)], dfn := dfnF, idle := idleF }
/-- Code that needs nothing: run alone. -/
noncomputable def E0 : Env := { P := Tryz.prog, glob := fun _ => none, ext := fun _ _ => none, way := fun _ _ => .plain, lit := fun _ => false, code := fun f => (Tryz.prog.funcs[f]?).bind annF }
noncomputable def rest65 : ACode := match E0.code 45 with | some (.seq _ b) => b | _ => .skip
def fr65 : List V := [.junk, .junk, .junk, .sc .nilIface] ++ List.replicate 2 (.sc undef) ++ [.sc .nilIface] ++ List.replicate 13 (.sc undef)
def T0 : CallT := fun _ _ _ _ => none
def L0 : LoopT := fun _ _ _ _ _ => none
def isNormal : Ex → Bool | .normal => true | _ => false
theorem run65 : execK E0 T0 L0 rest65 { fr := fr65, H := hp [], nx := 0, rt := 0, me := 45 } (fun e _ => if isNormal e then some (.c (.pan .junk)) else none) = some (.c (.pan .junk)) := by kernel_rfl
theorem body65 (a : Act) (w : World) (hd : a.defers = []) (ht : denL (fun _ => none) (fun _ => False) w (fun _ => False) fr65 a.tmps.toList) : Code.wp Tryz.prog rest65.erase (fun e a' w' => e = .normal ∧ a'.defers = [] ∧ Below w.heap.size w w') a w := by
  obtain ⟨e, s', h1, h2⟩ := exec_sound (E := E0) (ca := T0) (lo := L0) (fun _ _ _ _ _ h => by cases h) (SoundX.none fun _ _ => rfl) (fun _ _ _ _ _ _ h => by cases h) rest65 _ _ _ run65
  split at h1
  case isFalse => cases h1
  rename_i he
  have he : e = .normal := by cases e <;> simp_all [isNormal]
  subst he
  refine wp_mono (h2 (fun _ => none) (fun _ => False) (fun _ => False) a w ⟨ht, ⟨fun i c hc => (by simp [hp] at hc), fun _ _ => rfl, fun i b m h => (by cases h), fun i b m h => (by cases h), fun i j b m m' h => (by cases h), fun b hb => hb.elim⟩, ⟨fun _ => hd, fun d h => (by rw [hd] at h; cases h)⟩, fun i hi => hi.elim, ⟨fun g cs h => (by cases h), fun p hp => (by cases hp)⟩, fun i hi => absurd hi (Nat.not_lt_zero i)⟩) fun e' a' w' hp => ?_
  obtain ⟨β', S', D', q1, q2, q3, q4, q5, q6⟩ := hp.ex
  cases e' <;> simp only [ExR] at q1
  exact ⟨rfl, q2.df.1 rfl, below_of_evo q3⟩
theorem idle65 : Idle Tryz.prog 45 3 := by
  intro us w hus
  refine ⟨?_, ?_⟩
  · have hb : ∃ fn, Tryz.prog.funcs[45]? = some fn ∧ fn.body.isSome = true ∧ fn.name ≠ "runtime.NumGoroutine" := ⟨_, Tryz.func45, by kernel_rfl, by intro e; exact absurd e (by decide +kernel)⟩
    obtain ⟨fn, h1, h2, h3⟩ := hb
    have hb : ¬ fn.body = none := by intro hb; rw [hb] at h2; cases h2
    simp [callFunc, Sem.run_bind, h1, h3, hb, program, Sem.run]
  · match us, hus with
    | ⟨[x, y, z]⟩, _ =>
      refine callsD_of_wpS Tryz.func45 rfl fun c₀ cs hu => ?_
      apply wpS_seq
      apply wpS_region
      simp [wpOpsS, go_sem, recoverD, hu, Tryz.ntmps45, Exit.thenS]
      refine wpS_of_wp ?_
      refine (congrArg (fun c => Code.wp Tryz.prog c _ _ _) (?_ : rest65.erase = _)).mp (wp_mono (body65 _ w rfl ?_) ?_)
      · kernel_rfl
      · simp [fr65, denL, den]
        exact ⟨_, _, ⟨rfl, rfl⟩, _, _, rfl, _, rfl⟩
      · rintro e a' w' ⟨rfl, hd, hb⟩
        refine ⟨hd, _, ?_, _, by simp [results, Tryz.results45, go_sem]; rfl, ⟨_, rfl⟩, rfl, hb⟩
        cases c₀; simp_all
set_option maxRecDepth 100000 in
theorem hW : WF E := WF.of E (fun _ => rfl) (by kernel_rfl) (fun g n h => by
  have h' : idleF g = some n := h
  unfold idleF at h'
  split at h'
  · rename_i hg; subst hg; cases h'; exact idle65
  · cases h')
end Go.Proofs.YtniogljhkjbcgaaGreatDoor
/- The library's contracts, as the environment has them; the examples hold. -/
set_option linter.unusedSimpArgs false
set_option linter.unusedVariables false
namespace Go.Proofs.YtniogljhkjbcgaaGreatDoor
open Go Go.Am Go.RowKit
set_option linter.unusedVariables false
theorem maxLen_at {S : Pr} {w : World} (hG : Glob E S w) : ∃ m, w.cell? ⟨2, 0, none⟩ = some (.int .i64 m) := by
  obtain ⟨_, x, h1, h2⟩ := hG.inv (2, intCell .i64) (by simp [E])
  exact intCell_cell h1 h2
theorem hX : SoundX E := by
  intro f args v h
  have h' : extF f args = some v := h
  unfold extF at h'
  split at h'
  · rename_i hf; subst hf
    split at h'
    · rename_i s sub
      split at h'
      · rename_i hn
        cases h'
        refine ⟨⟨_, Tryz.func83, by kernel_rfl, by intro e; exact absurd e (by decide +kernel)⟩, rfl, fun β S D w us hd hG hS => ?_⟩
        obtain rfl : us = [.string s, .string sub] := by simpa [denL, den] using hd
        obtain ⟨m, hm⟩ := maxLen_at hG
        refine (Tryz.strings_Contains s sub m w hn hm).mono ?_
        rintro e w' ⟨rfl, rfl⟩
        exact ⟨_, S, rfl, Below.refl _ _, by simp only [den], fun _ h => h, fun _ h => .inl h⟩
      · cases h'
    · cases h'
  split at h'
  · rename_i hf; subst hf
    split at h'
    · rename_i s c
      cases h'
      refine ⟨⟨_, Tryz.func69, by kernel_rfl, by intro e; exact absurd e (by decide +kernel)⟩, rfl, fun β S D w us hd hG hS => ?_⟩
      obtain rfl : us = [.string s, .int .u8 c] := by simpa [denL, den] using hd
      refine (Tryz.strings_IndexByte s c w).mono ?_
      rintro e w' ⟨rfl, rfl⟩
      exact ⟨_, S, rfl, Below.refl _ _, by simp only [den], fun _ h => h, fun _ h => .inl h⟩
    · cases h'
  · cases h'
end Go.Proofs.YtniogljhkjbcgaaGreatDoor
/- What the rows list of the packages' variables; a world that holds it. -/
set_option linter.unusedSimpArgs false
set_option linter.unusedVariables false
namespace Go.Proofs.YtniogljhkjbcgaaGreatDoor
open Go Go.Am Go.RowKit
theorem packed : packB Tryz.prog = true := by kernel_rfl
abbrev laidL : List (String × DataW Unit) := Rows.typesCheckRow.laid
theorem laidPlain {W : World} (h : laidMetH Tryz.prog laidL W) : laidMet Tryz.prog laidL W := by
  rw [MakeChecks.laidMetH_plain _ _ _ (by kernel_rfl)] at h; exact h
theorem globAt0 : GlobAt Tryz.prog laidL 0 [tabV] := ⟨"perigee/unit.table", Rows.laid_perigee_unit_table, 70, 8, by simp [laidL, Rows.typesCheckRow], by kernel_rfl, by kernel_rfl, of_decide_eq_true (by kernel_rfl), by kernel_rfl, by simp⟩
theorem globAt1 : GlobAt Tryz.prog laidL 1 opsL := ⟨"perigee/types.operators", Rows.laid_perigee_types_operators, 103, 8, by simp [laidL, Rows.typesCheckRow], by kernel_rfl, by kernel_rfl, of_decide_eq_true (by kernel_rfl), by kernel_rfl, by simp [opsL]⟩
theorem glob_of {W : World} (h : laidMetH Tryz.prog laidL W) (hs : W.ShapedOpen Tryz.prog) : Glob E (· < W.heap.size) W := by
  have hl := laidPlain h
  refine Glob.of_laid (laid := laidL) packed hl (fun g cs hg => ?_) (fun p hp => ?_)
  · have hg' : globF g = some cs := hg
    unfold globF at hg'
    split at hg'
    · cases hg'; exact globAt0
    · cases hg'; exact globAt1
    · cases hg'
  · simp only [E, List.mem_cons, List.mem_nil_iff, or_false] at hp
    rcases hp with rfl
    exact intCell_of (cell_of_shapedOpen_int (t := 3) (zero := #[.int .i64 0]) hs (of_decide_eq_true (by kernel_rfl)) (by kernel_rfl) rfl (by kernel_rfl) (by kernel_rfl) (by kernel_rfl))
/-- A world for the witness. -/
noncomputable def laidWorld (os : Os) : World := World.doorLaid Tryz.prog 4000 os
theorem laid_met0 (os : Os) (args : Array Value) : laidMet Tryz.prog laidL ((laidWorld os).forCall (fun _ _ => 0) ⟨#[], args, []⟩).memory :=
  laidMet_of_run' 8 (by kernel_rfl) (by kernel_rfl)
theorem laid_met (os : Os) (args : Array Value) : laidMetH Tryz.prog laidL ((laidWorld os).forCall (fun _ _ => 0) ⟨#[], args, []⟩).memory := by
  rw [MakeChecks.laidMetH_plain _ _ _ (by kernel_rfl)]; exact laid_met0 os args
end Go.Proofs.YtniogljhkjbcgaaGreatDoor
/- For closed runs. -/
set_option linter.unusedSimpArgs false
set_option linter.unusedVariables false
namespace Go.Proofs.YtniogljhkjbcgaaGreatDoor
open Go Go.Am
def maskTab : List (Nat × List (Nat × Nat)) := [(4, [(0, 102)]), (6, [(0, 57354)]), (9, [(0, 939524518)]), (15, [(0, 901)]), (18, [(0, 49)]), (25, [(0, 92)]), (31, [(0, 1793)]), (36, [(0, 268)]), (40, [(0, 97)]), (43, [(0, 98304)]), (44, [(0, 65633)]), (47, [(0, 114701)]), (49, [(0, 35)]), (53, [(0, 259)]), (58, [(0, 4194356)]), (63, [(0, 9)]), (64, [(0, 13)]), (72, [(0, 1835017)]), (95, [(1, 51)]), (98, [(1, 2019)]), (104, [(0, 995), (2, 1507)]), (105, [(0, 49), (2, 464)])]
noncomputable def EL : Env := { P := Tryz.prog, glob := globF, ext := extF, way := way, lit := fun _ => false, code := annFL maskTab Tryz.prog, inv := [(2, intCell .i64)], dfn := dfnF, idle := idleF, push := false }
set_option maxRecDepth 100000 in
theorem hWL : WF EL := WF.ofL EL maskTab rfl (by kernel_rfl) (fun g n h => by
  have h' : idleF g = some n := h
  unfold idleF at h'
  split at h'
  · rename_i hg; subst hg; cases h'; exact idle65
  · cases h')
theorem hXL : SoundX EL := fun f args v h => by
  obtain ⟨h1, h2, h3⟩ := hX f args v h
  exact ⟨h1, h2, fun β S D w us a b c => h3 β S D w us a ⟨b.rd, b.inv⟩ c⟩
theorem scL {f : FuncId} {args : List V} {L : List (Option Chunk)} {cr : CRes} (h : SC EL f args L cr) : SC E f args L cr :=
  ⟨h.1, fun β S w us h1 h2 h3 => h.2 β S w us h1 h2 ⟨h3.rd, h3.inv⟩⟩
end Go.Proofs.YtniogljhkjbcgaaGreatDoor
/- An example of the chapter, run. -/
set_option linter.unusedSimpArgs false
set_option linter.unusedVariables false
namespace Go.Proofs.YtniogljhkjbcgaaGreatDoor
open Go Go.Am
def src1 : ByteArray := ⟨#[112, 114, 111, 99, 101, 100, 117, 114, 101, 32, 112, 40, 116, 58, 32, 115, 41, 32, 123, 32, 108, 101, 116, 32, 101, 32, 61, 32, 50, 32, 87, 32, 42, 32, 116, 59, 32, 105, 102, 32, 116, 108, 109, 46, 98, 97, 116, 116, 101, 114, 121, 32, 62, 32, 101, 32, 123, 32, 119, 97, 105, 116, 32, 53, 32, 109, 105, 110, 59, 32, 125, 32, 125]⟩
theorem chk1 : SC E 14 [st src1] [] (.ret (i64 0) []) := scL (SC.closedQ hWL hXL 80 (by kernel_rfl))
end Go.Proofs.YtniogljhkjbcgaaGreatDoor
/- An example of the chapter, run. -/
set_option linter.unusedSimpArgs false
set_option linter.unusedVariables false
namespace Go.Proofs.YtniogljhkjbcgaaGreatDoor
open Go Go.Am
def src2 : ByteArray := ⟨#[112, 114, 111, 99, 101, 100, 117, 114, 101, 32, 112, 40, 116, 58, 32, 115, 41, 32, 123, 32, 108, 101, 116, 32, 101, 32, 61, 32, 50, 32, 87, 32, 42, 32, 116, 59, 32, 105, 102, 32, 116, 108, 109, 46, 98, 97, 116, 116, 101, 114, 121, 32, 62, 32, 101, 32, 123, 32, 119, 97, 105, 116, 32, 53, 59, 32, 125, 32, 125]⟩
theorem chk2 : SC E 14 [st src2] [] (.ret (i64 10) []) := scL (SC.closedQ hWL hXL 80 (by kernel_rfl))
end Go.Proofs.YtniogljhkjbcgaaGreatDoor
/- An example of the chapter, run. -/
set_option linter.unusedSimpArgs false
set_option linter.unusedVariables false
namespace Go.Proofs.YtniogljhkjbcgaaGreatDoor
open Go Go.Am
def src3 : ByteArray := ⟨#[112, 114, 111, 99, 101, 100, 117, 114, 101, 32, 112, 40, 116, 58, 32, 115, 41, 32, 123, 32, 108, 101, 116, 32, 101, 32, 61, 32, 50, 32, 87, 32, 42, 32, 116, 59, 32, 105, 102, 32, 101, 32, 123, 32, 119, 97, 105, 116, 32, 53, 32, 109, 105, 110, 59, 32, 125, 32, 125]⟩
theorem chk3 : SC E 14 [st src3] [] (.ret (i64 12) []) := scL (SC.closedQ hWL hXL 80 (by kernel_rfl))
end Go.Proofs.YtniogljhkjbcgaaGreatDoor
/- An example of the chapter, run. -/
set_option linter.unusedSimpArgs false
set_option linter.unusedVariables false
namespace Go.Proofs.YtniogljhkjbcgaaGreatDoor
open Go Go.Am
def src4 : ByteArray := ⟨#[112, 114, 111, 99, 101, 100, 117, 114, 101, 32, 112, 40, 116, 58, 32, 115, 41, 32, 123, 32, 108, 101, 116, 32, 101, 32, 61, 32, 50, 32, 87, 32, 42, 32, 116, 59, 32, 102, 32, 61, 32, 49, 59, 32, 125]⟩
theorem chk4 : SC E 14 [st src4] [] (.ret (i64 3) []) := scL (SC.closedQ hWL hXL 80 (by kernel_rfl))
end Go.Proofs.YtniogljhkjbcgaaGreatDoor
/- The examples of the chapter hold. -/
set_option linter.unusedSimpArgs false
set_option linter.unusedVariables false
namespace Go.Proofs.YtniogljhkjbcgaaGreatDoor
open Go Go.Am Go.RowKit
theorem sc_toX {E : Env} {f : FuncId} {args : List V} {v : V} (h : SC E f args [] (.ret v [])) (hp' : v.pure = true) (ha : pureL args = true) (β : Bt) (S D : Pr) (w : World) (us : List Value) (hd : denL β S w D args us) (hG : Glob E S w) (hS : ∀ b, S b → b < w.heap.size) :
    Calls E.P f us.toArray w fun e w' => ∃ u S', e = .returned u ∧ Below w.heap.size w w' ∧ den (fun _ => none) S' w' (fun _ => False) v u ∧ (∀ b, S b → S' b) ∧ ∀ b, S' b → S b ∨ (w.heap.size ≤ b ∧ b < w'.heap.size) := by
  refine (h.2 (fun _ => none) S w us (denL_pure (fun _ h => h) (fun _ _ => rfl) _ _ ha hd) ⟨fun i c hc => (by simp [hp] at hc), fun _ _ => rfl, fun i b m h => (by cases h), fun i b m h => (by cases h), fun i j b m m' h => (by cases h), hS⟩ hG).mono ?_
  rintro e w' ⟨u, β', S', rfl, g1, g2, g3, g4⟩
  refine ⟨u, S', rfl, below_of_evo g3, den_pure (fun _ h => h) (fun _ _ => rfl) _ _ hp' g2, g3.sub, fun b hb => ?_⟩
  rcases g3.newS b hb with h | h | ⟨i, m, h⟩
  · exact .inl h
  · exact .inr ⟨h, g1.st b hb⟩
  · cases h
noncomputable def extG (f : FuncId) (args : List V) : Option V :=
  if f = 14 then match args with
    | [.sc (.string s)] => if s = src1 then some (i64 0) else if s = src2 then some (i64 10) else if s = src3 then some (i64 12) else if s = src4 then some (i64 3) else none
    | _ => none
  else extF f args
noncomputable def EM : Env := { P := Tryz.prog, glob := globF, ext := extG, way := way, lit := fun _ => false, code := annFL maskTab Tryz.prog, inv := [(2, intCell .i64)], dfn := dfnF, idle := idleF, push := false }
theorem hXM : SoundX EM := fun f args v h => by
  have h' : extG f args = some v := h
  unfold extG at h'
  split at h'
  · rename_i hf; subst hf
    have hcal : callable EM.P 14 := ⟨_, Tryz.func14, by kernel_rfl, by intro e; exact absurd e (by decide +kernel)⟩
    have key : ∀ (s : ByteArray) (n : Int), SC E 14 [st s] [] (.ret (i64 n) []) → some (i64 n) = some v → args = [.sc (.string s)] → callable EM.P 14 ∧ v.pure = true ∧ ∀ (β : Bt) (S D : Pr) (w : World) (us : List Value), denL β S w D args us → Glob EM S w → (∀ b, S b → b < w.heap.size) →
        Calls EM.P 14 us.toArray w fun e w' => ∃ u S', e = .returned u ∧ Below w.heap.size w w' ∧ den (fun _ => none) S' w' (fun _ => False) v u ∧ (∀ b, S b → S' b) ∧ ∀ b, S' b → S b ∨ (w.heap.size ≤ b ∧ b < w'.heap.size) := by
      rintro s n hs hv rfl
      cases hv
      exact ⟨hcal, rfl, fun β S D w us hd hG hS => sc_toX hs rfl rfl β S D w us hd ⟨hG.rd, hG.inv⟩ hS⟩
    split at h'
    · rename_i s
      split at h'
      · rename_i e; subst e; exact key _ _ chk1 h' rfl
      split at h'
      · rename_i e; subst e; exact key _ _ chk2 h' rfl
      split at h'
      · rename_i e; subst e; exact key _ _ chk3 h' rfl
      split at h'
      · rename_i e; subst e; exact key _ _ chk4 h' rfl
      · cases h'
    · cases h'
  · obtain ⟨g1, g2, g3⟩ := hX f args v h'
    exact ⟨g1, g2, fun β S D w us a b c => g3 β S D w us a ⟨b.rd, b.inv⟩ c⟩
set_option maxRecDepth 100000 in
theorem hWM : WF EM := hWL
theorem scM {f : FuncId} {args : List V} {L : List (Option Chunk)} {cr : CRes} (h : SC EM f args L cr) : SC E f args L cr :=
  ⟨h.1, fun β S w us h1 h2 h3 => h.2 β S w us h1 h2 ⟨h3.rd, h3.inv⟩⟩
theorem lives_true : SC E 5 [] [] (.ret (bo true) []) := scM (SC.closedQ hWM hXM 80 (by kernel_rfl))
end Go.Proofs.YtniogljhkjbcgaaGreatDoor
/- Types: the small functions, lifted. -/
namespace Go.Proofs.YtniogljhkjbcgaaGreatDoor
open Go Go.Am Go.Proofs
set_option linter.unusedSimpArgs false
set_option linter.unusedVariables false
set_option maxRecDepth 100000
abbrev nilS : V := .sc (.slice none 0 0)
noncomputable def E5 : Env := { P := Tryz.prog, glob := globF, ext := fun _ _ => none, way := way, lit := fun _ => false, code := fun f => (Tryz.prog.funcs[f]?).bind annF, sett := fun _ => true, rows := true, inv := [(2, intCell .i64)] }
theorem hW5 : WF E5 := WF.of E5 (fun _ => rfl) (by kernel_rfl)
theorem hX5 : SoundX E5 := SoundX.none fun _ _ => rfl
theorem sc5 {f : FuncId} {args : List V} {L : List (Option Chunk)} {cr : CRes} : SC E5 f args L cr ↔ SC E f args L cr :=
  ⟨fun h => ⟨h.1, fun β S w us h1 h2 h3 => h.2 β S w us h1 h2 ⟨h3.rd, h3.inv⟩⟩, fun h => ⟨h.1, fun β S w us h1 h2 h3 => h.2 β S w us h1 h2 ⟨h3.rd, h3.inv⟩⟩⟩
def K : CRes → Option Ans := fun r => some (.c r)
abbrev w (n : Int) : Int := IntKind.wrap .i64 n
abbrev a_kind : Type := ByteArray
abbrev g_kind : Type := Int
def A_kind : a_kind → List V × List (Option Chunk) := (fun x => (fun (s : ByteArray) => (([st s] : List V), ([] : List (Option Chunk)))) x)
def d_kind (t : List V × List (Option Chunk)) : a_kind := ((vS (t.1.getD 0 .junk)))
theorem i_kind : ∀ x y, A_kind x = A_kind y → x = y := fun x y h => (congrArg d_kind h :)
def R_kind : g_kind → CRes := (fun z => (fun (k : Int) => .ret (i64 k) []) z : (Int) → CRes)
def x_kind (z : g_kind) (k : CRes → Option Ans) : Option Ans := k (R_kind z)
theorem xe_kind : ∀ z k, x_kind z k = k (R_kind z) := fun z k => rfl
def t_kind {β : Type} (x : a_kind) (dn : g_kind → Option β) : Option β :=
 if (ByteArray.toList { data := #[(124 : UInt8), (124 : UInt8)] } == ByteArray.toList x) = true then
  dn ((1 : Int))
 else
  if (ByteArray.toList { data := #[(38 : UInt8), (38 : UInt8)] } == ByteArray.toList x) = true then
   dn ((1 : Int))
  else
   if (ByteArray.toList { data := #[(43 : UInt8)] } == ByteArray.toList x) = true then
    dn ((2 : Int))
   else
    if (ByteArray.toList { data := #[(45 : UInt8)] } == ByteArray.toList x) = true then
     dn ((2 : Int))
    else
     if (ByteArray.toList { data := #[(42 : UInt8)] } == ByteArray.toList x) = true then
      dn ((3 : Int))
     else
      if (ByteArray.toList { data := #[(47 : UInt8)] } == ByteArray.toList x) = true then
       dn ((3 : Int))
      else
       if (ByteArray.toList { data := #[(60 : UInt8)] } == ByteArray.toList x) = true then
        dn ((4 : Int))
       else
        if (ByteArray.toList { data := #[(60 : UInt8), (61 : UInt8)] } == ByteArray.toList x) = true then
         dn ((4 : Int))
        else
         if (ByteArray.toList { data := #[(62 : UInt8)] } == ByteArray.toList x) = true then
          dn ((4 : Int))
         else
          if (ByteArray.toList { data := #[(62 : UInt8), (61 : UInt8)] } == ByteArray.toList x) = true then
           dn ((4 : Int))
          else
           if (ByteArray.toList { data := #[(61 : UInt8), (61 : UInt8)] } == ByteArray.toList x) = true then
            dn ((4 : Int))
           else
            if (ByteArray.toList { data := #[(33 : UInt8), (61 : UInt8)] } == ByteArray.toList x) = true then
             dn ((4 : Int))
            else
             dn ((0 : Int))
theorem n_kind {β : Type} (x : a_kind) (dn : g_kind → Option β) : t_kind x dn = (t_kind x some).bind dn := by
  unfold t_kind
  repeat' first | exact free_none | refine free_bind (fun z => ?_) | refine free_ite ?_ ?_ | refine free_sum (fun z => ?_) (fun z => ?_) | rfl
theorem r_kind (x : a_kind) : callK E5 ca0 (loU E5 ca0 [0] lo0 20) 40 (A_kind x).1 (A_kind x).2 K = t_kind x (fun z => some (.c (R_kind z))) := by kernel_rfl
theorem s_kind (q : Nat) (x : a_kind) (z : g_kind) (h : t_kind x some = some z) : SC E5 40 (A_kind x).1 (A_kind x).2 (R_kind z) := by
  refine SC.of hW5 hX5 ca0_sound (loU_sound ca0_sound hX5 lo0_sound 20) ((r_kind x).trans ?_)
  rw [n_kind, h]; rfl
noncomputable def kind (q : Nat) (x : a_kind) : Option g_kind := t_kind x some
theorem sc_kind (q : Nat) : ∀ (x : a_kind) (z : g_kind), kind q x = some z → SC E5 40 (A_kind x).1 (A_kind x).2 (R_kind z) := fun x z h => s_kind q x z h
abbrev a_kids : Type := Int × Int × ByteArray × Nat × (Nat → List V)
abbrev g_kids : Type := Int
def A_kids : a_kids → List V × List (Option Chunk) := (fun x => (fun (nk : Int) (nn : Int) (ns : ByteArray) (nm : Nat) (nf : Nat → List V) => (([.agg [i64 nk, i64 nn, st ns, .ro 4 nm nf]] : List V), ([] : List (Option Chunk)))) x.1 x.2.1 x.2.2.1 x.2.2.2.1 x.2.2.2.2)
def d_kids (t : List V × List (Option Chunk)) : a_kids := ((vI ((vAg (t.1.getD 0 .junk)).getD 0 .junk)), (vI ((vAg (t.1.getD 0 .junk)).getD 1 .junk)), (vS ((vAg (t.1.getD 0 .junk)).getD 2 .junk)), (vRoN ((vAg (t.1.getD 0 .junk)).getD 3 .junk)), (vRoF ((vAg (t.1.getD 0 .junk)).getD 3 .junk)))
theorem i_kids : ∀ x y, A_kids x = A_kids y → x = y := fun x y h => (congrArg d_kids h :)
def R_kids : g_kids → CRes := (fun z => (fun (k : Int) => .ret (i64 k) []) z : (Int) → CRes)
def x_kids (z : g_kids) (k : CRes → Option Ans) : Option Ans := k (R_kids z)
theorem xe_kids : ∀ z k, x_kids z k = k (R_kids z) := fun z k => rfl
def t_kids {β : Type} (c_kind : a_kind → Option g_kind) (x : a_kids) (dn : g_kids → Option β) : Option β :=
 if (x.1 == (16 : Int)) = true then
  if (x.2.1 != (0 : Int)) = true then
   if (x.2.1 != (1 : Int)) = true then
    dn ((-1 : Int))
   else
    dn ((0 : Int))
  else
   dn ((0 : Int))
 else
  if (x.1 == (15 : Int)) = true then
   dn ((0 : Int))
  else
   if (x.1 == (17 : Int)) = true then
    dn ((0 : Int))
   else
    if (x.1 == (18 : Int)) = true then
     dn ((0 : Int))
    else
     if (x.1 == (19 : Int)) = true then
      if (ByteArray.toList (x.2.2.1) == ByteArray.toList { data := #[(33 : UInt8)] }) = true then
       dn ((1 : Int))
      else
       if (ByteArray.toList (x.2.2.1) == ByteArray.toList { data := #[(45 : UInt8)] }) = true then
        dn ((1 : Int))
       else
        dn ((-1 : Int))
     else
      if (x.1 == (20 : Int)) = true then
       (c_kind (x.2.2.1)).bind fun z1 =>
        if decide (z1 > (0 : Int)) = true then
         dn ((2 : Int))
        else
         dn ((-1 : Int))
      else
       dn ((-1 : Int))
theorem n_kids {β : Type} (c_kind : a_kind → Option g_kind) (x : a_kids) (dn : g_kids → Option β) : t_kids c_kind x dn = (t_kids c_kind x some).bind dn := by
  unfold t_kids
  repeat' first | exact free_none | refine free_bind (fun z => ?_) | refine free_ite ?_ ?_ | refine free_sum (fun z => ?_) (fun z => ?_) | rfl
theorem r_kids (c_kind : a_kind → Option g_kind) (x : a_kids) : callK E5 (ftab 40 (fun _ _ => true) A_kind x_kind c_kind ca0) lo0 21 (A_kids x).1 (A_kids x).2 K = t_kids (fun x => viaF A_kind c_kind (A_kind x)) x (fun z => some (.c (R_kids z))) := by kernel_rfl
theorem s_kids (c_kind : a_kind → Option g_kind) (h_kind : ∀ x z, c_kind x = some z → SC E5 40 (A_kind x).1 (A_kind x).2 (R_kind z)) (q : Nat) (x : a_kids) (z : g_kids) (h : t_kids c_kind x some = some z) : SC E5 21 (A_kids x).1 (A_kids x).2 (R_kids z) := by
  refine SC.of hW5 hX5 (ftab_cons h_kind xe_kind ca0_sound) lo0_sound ((r_kids c_kind x).trans ?_)
  rw [via_eq i_kind c_kind, n_kids, h]; rfl
noncomputable def kids (q : Nat) (x : a_kids) : Option g_kids := t_kids (kind q) x some
theorem sc_kids (q : Nat) : ∀ (x : a_kids) (z : g_kids), kids q x = some z → SC E5 21 (A_kids x).1 (A_kids x).2 (R_kids z) := fun x z h => s_kids (kind q) (sc_kind q) q x z h
abbrev a_adm : Type := Int × Int × Int × Int × Int
abbrev g_adm : Type := Bool
def A_adm : a_adm → List V × List (Option Chunk) := (fun x => (fun (d0 : Int) (d1 : Int) (d2 : Int) (d3 : Int) (d4 : Int) => (([.agg [i64 d0, i64 d1, i64 d2, i64 d3, i64 d4]] : List V), ([] : List (Option Chunk)))) x.1 x.2.1 x.2.2.1 x.2.2.2.1 x.2.2.2.2)
def d_adm (t : List V × List (Option Chunk)) : a_adm := ((vI ((vAg (t.1.getD 0 .junk)).getD 0 .junk)), (vI ((vAg (t.1.getD 0 .junk)).getD 1 .junk)), (vI ((vAg (t.1.getD 0 .junk)).getD 2 .junk)), (vI ((vAg (t.1.getD 0 .junk)).getD 3 .junk)), (vI ((vAg (t.1.getD 0 .junk)).getD 4 .junk)))
theorem i_adm : ∀ x y, A_adm x = A_adm y → x = y := fun x y h => (congrArg d_adm h :)
def R_adm : g_adm → CRes := (fun z => (fun (b : Bool) => .ret (bo b) []) z : (Bool) → CRes)
def x_adm (z : g_adm) (k : CRes → Option Ans) : Option Ans := k (R_adm z)
theorem xe_adm : ∀ z k, x_adm z k = k (R_adm z) := fun z k => rfl
def t_adm {β : Type} (x : a_adm) (dn : g_adm → Option β) : Option β :=
 if decide (x.1 < (-8 : Int)) = true then
  dn false
 else
  if decide (x.1 > (8 : Int)) = true then
   dn false
  else
   if decide (x.2.1 < (-8 : Int)) = true then
    dn false
   else
    if decide (x.2.1 > (8 : Int)) = true then
     dn false
    else
     if decide (x.2.2.1 < (-8 : Int)) = true then
      dn false
     else
      if decide (x.2.2.1 > (8 : Int)) = true then
       dn false
      else
       if decide (x.2.2.2.1 < (-8 : Int)) = true then
        dn false
       else
        if decide (x.2.2.2.1 > (8 : Int)) = true then
         dn false
        else
         if decide (x.2.2.2.2 < (-8 : Int)) = true then
          dn false
         else
          if decide (x.2.2.2.2 > (8 : Int)) = true then
           dn false
          else
           dn true
theorem n_adm {β : Type} (x : a_adm) (dn : g_adm → Option β) : t_adm x dn = (t_adm x some).bind dn := by
  unfold t_adm
  repeat' first | exact free_none | refine free_bind (fun z => ?_) | refine free_ite ?_ ?_ | refine free_sum (fun z => ?_) (fun z => ?_) | rfl
theorem r_adm (x : a_adm) : callK E5 ca0 (loU E5 ca0 [0] lo0 20) 43 (A_adm x).1 (A_adm x).2 K = t_adm x (fun z => some (.c (R_adm z))) := by kernel_rfl
theorem s_adm (q : Nat) (x : a_adm) (z : g_adm) (h : t_adm x some = some z) : SC E5 43 (A_adm x).1 (A_adm x).2 (R_adm z) := by
  refine SC.of hW5 hX5 ca0_sound (loU_sound ca0_sound hX5 lo0_sound 20) ((r_adm x).trans ?_)
  rw [n_adm, h]; rfl
noncomputable def adm (q : Nat) (x : a_adm) : Option g_adm := t_adm x some
theorem sc_adm (q : Nat) : ∀ (x : a_adm) (z : g_adm), adm q x = some z → SC E5 43 (A_adm x).1 (A_adm x).2 (R_adm z) := fun x z h => s_adm q x z h
abbrev a_Lookup : Type := ByteArray
abbrev g_Lookup : Type := Int × Int × Int × Int × Int × Int × Bool
def A_Lookup : a_Lookup → List V × List (Option Chunk) := (fun x => (fun (s : ByteArray) => (([st s] : List V), ([] : List (Option Chunk)))) x)
def d_Lookup (t : List V × List (Option Chunk)) : a_Lookup := ((vS (t.1.getD 0 .junk)))
theorem i_Lookup : ∀ x y, A_Lookup x = A_Lookup y → x = y := fun x y h => (congrArg d_Lookup h :)
def R_Lookup : g_Lookup → CRes := (fun z => (fun (d0 : Int) (d1 : Int) (d2 : Int) (d3 : Int) (d4 : Int) (n : Int) (b : Bool) => .ret (.tup [.agg [i64 d0, i64 d1, i64 d2, i64 d3, i64 d4], i64 n, bo b]) []) z.1 z.2.1 z.2.2.1 z.2.2.2.1 z.2.2.2.2.1 z.2.2.2.2.2.1 z.2.2.2.2.2.2 : (Int × Int × Int × Int × Int × Int × Bool) → CRes)
def x_Lookup (z : g_Lookup) (k : CRes → Option Ans) : Option Ans := k (R_Lookup z)
theorem xe_Lookup : ∀ z k, x_Lookup z k = k (R_Lookup z) := fun z k => rfl
def t_Lookup {β : Type} (x : a_Lookup) (dn : g_Lookup → Option β) : Option β :=
 if (ByteArray.toList { data := #[(74 : UInt8)] } == ByteArray.toList x) = true then
  dn (((1 : Int), (0 : Int), (0 : Int), (0 : Int), (0 : Int), (1 : Int), true))
 else
  if (ByteArray.toList { data := #[(107 : UInt8), (74 : UInt8)] } == ByteArray.toList x) = true then
   dn (((1 : Int), (0 : Int), (0 : Int), (0 : Int), (0 : Int), (1000 : Int), true))
  else
   if (ByteArray.toList { data := #[(87 : UInt8), (104 : UInt8)] } == ByteArray.toList x) = true then
    dn (((1 : Int), (0 : Int), (0 : Int), (0 : Int), (0 : Int), (3600 : Int), true))
   else
    if (ByteArray.toList { data := #[(66 : UInt8)] } == ByteArray.toList x) = true then
     dn (((0 : Int), (1 : Int), (0 : Int), (0 : Int), (0 : Int), (1 : Int), true))
    else
     if (ByteArray.toList { data := #[(107 : UInt8), (66 : UInt8)] } == ByteArray.toList x) = true then
      dn (((0 : Int), (1 : Int), (0 : Int), (0 : Int), (0 : Int), (1000 : Int), true))
     else
      if (ByteArray.toList { data := #[(115 : UInt8)] } == ByteArray.toList x) = true then
       dn (((0 : Int), (0 : Int), (1 : Int), (0 : Int), (0 : Int), (1 : Int), true))
      else
       if (ByteArray.toList { data := #[(109 : UInt8), (105 : UInt8), (110 : UInt8)] } == ByteArray.toList x) = true then
        dn (((0 : Int), (0 : Int), (1 : Int), (0 : Int), (0 : Int), (60 : Int), true))
       else
        if (ByteArray.toList { data := #[(104 : UInt8)] } == ByteArray.toList x) = true then
         dn (((0 : Int), (0 : Int), (1 : Int), (0 : Int), (0 : Int), (3600 : Int), true))
        else
         if (ByteArray.toList { data := #[(100 : UInt8), (101 : UInt8), (103 : UInt8)] } == ByteArray.toList x) = true then
          dn (((0 : Int), (0 : Int), (0 : Int), (1 : Int), (0 : Int), (1 : Int), true))
         else
          if (ByteArray.toList { data := #[(75 : UInt8)] } == ByteArray.toList x) = true then
           dn (((0 : Int), (0 : Int), (0 : Int), (0 : Int), (1 : Int), (1 : Int), true))
          else
           if (ByteArray.toList { data := #[(87 : UInt8)] } == ByteArray.toList x) = true then
            dn (((1 : Int), (0 : Int), (-1 : Int), (0 : Int), (0 : Int), (1 : Int), true))
           else
            if (ByteArray.toList { data := #[(107 : UInt8), (87 : UInt8)] } == ByteArray.toList x) = true then
             dn (((1 : Int), (0 : Int), (-1 : Int), (0 : Int), (0 : Int), (1000 : Int), true))
            else
             if (ByteArray.toList { data := #[(66 : UInt8), (112 : UInt8), (115 : UInt8)] } == ByteArray.toList x) = true then
              dn (((0 : Int), (1 : Int), (-1 : Int), (0 : Int), (0 : Int), (1 : Int), true))
             else
              dn (((0 : Int), (0 : Int), (0 : Int), (0 : Int), (0 : Int), (0 : Int), false))
theorem n_Lookup {β : Type} (x : a_Lookup) (dn : g_Lookup → Option β) : t_Lookup x dn = (t_Lookup x some).bind dn := by
  unfold t_Lookup
  repeat' first | exact free_none | refine free_bind (fun z => ?_) | refine free_ite ?_ ?_ | refine free_sum (fun z => ?_) (fun z => ?_) | rfl
theorem r_Lookup (x : a_Lookup) : callK E5 ca0 (loU E5 ca0 [0] lo0 20) 15 (A_Lookup x).1 (A_Lookup x).2 K = t_Lookup x (fun z => some (.c (R_Lookup z))) := by kernel_rfl
theorem s_Lookup (q : Nat) (x : a_Lookup) (z : g_Lookup) (h : t_Lookup x some = some z) : SC E5 15 (A_Lookup x).1 (A_Lookup x).2 (R_Lookup z) := by
  refine SC.of hW5 hX5 ca0_sound (loU_sound ca0_sound hX5 lo0_sound 20) ((r_Lookup x).trans ?_)
  rw [n_Lookup, h]; rfl
noncomputable def Lookup (q : Nat) (x : a_Lookup) : Option g_Lookup := t_Lookup x some
theorem sc_Lookup (q : Nat) : ∀ (x : a_Lookup) (z : g_Lookup), Lookup q x = some z → SC E5 15 (A_Lookup x).1 (A_Lookup x).2 (R_Lookup z) := fun x z h => s_Lookup q x z h
abbrev a_number : Type := Int × Int × ByteArray × Nat × (Nat → List V)
abbrev g_number : Type := Int × Int × Int × Int × Int × Int
def A_number : a_number → List V × List (Option Chunk) := (fun x => (fun (nk : Int) (nn : Int) (ns : ByteArray) (nm : Nat) (nf : Nat → List V) => (([.agg [i64 nk, i64 nn, st ns, .ro 4 nm nf]] : List V), ([] : List (Option Chunk)))) x.1 x.2.1 x.2.2.1 x.2.2.2.1 x.2.2.2.2)
def d_number (t : List V × List (Option Chunk)) : a_number := ((vI ((vAg (t.1.getD 0 .junk)).getD 0 .junk)), (vI ((vAg (t.1.getD 0 .junk)).getD 1 .junk)), (vS ((vAg (t.1.getD 0 .junk)).getD 2 .junk)), (vRoN ((vAg (t.1.getD 0 .junk)).getD 3 .junk)), (vRoF ((vAg (t.1.getD 0 .junk)).getD 3 .junk)))
theorem i_number : ∀ x y, A_number x = A_number y → x = y := fun x y h => (congrArg d_number h :)
def R_number : g_number → CRes := (fun z => (fun (d0 : Int) (d1 : Int) (d2 : Int) (d3 : Int) (d4 : Int) (e : Int) => .ret (.tup [.agg [i64 d0, i64 d1, i64 d2, i64 d3, i64 d4], i64 e]) []) z.1 z.2.1 z.2.2.1 z.2.2.2.1 z.2.2.2.2.1 z.2.2.2.2.2 : (Int × Int × Int × Int × Int × Int) → CRes)
def x_number (z : g_number) (k : CRes → Option Ans) : Option Ans := k (R_number z)
theorem xe_number : ∀ z k, x_number z k = k (R_number z) := fun z k => rfl
def t_number {β : Type} (c_Lookup : a_Lookup → Option g_Lookup) (x : a_number) (dn : g_number → Option β) : Option β :=
 if (!ByteArray.toList (x.2.2.1) == ByteArray.toList { data := #[] }) = true then
  (c_Lookup (x.2.2.1)).bind fun z1 =>
   if (!z1.2.2.2.2.2.2) = true then
    dn (((0 : Int), (0 : Int), (0 : Int), (0 : Int), (0 : Int), (10 : Int)))
   else
    if decide (x.2.1 < (0 : Int)) = true then
     dn (((0 : Int), (0 : Int), (0 : Int), (0 : Int), (0 : Int), (5 : Int)))
    else
     if z1.2.2.2.2.2.1 = (0 : Int) then
      none
     else
      if decide (x.2.1 > w (Int.tdiv (2147483647 : Int) (z1.2.2.2.2.2.1))) = true then
       dn (((0 : Int), (0 : Int), (0 : Int), (0 : Int), (0 : Int), (5 : Int)))
      else
       dn ((z1.1, z1.2.1, z1.2.2.1, z1.2.2.2.1, z1.2.2.2.2.1, (0 : Int)))
 else
  if decide (x.2.1 < (0 : Int)) = true then
   dn (((0 : Int), (0 : Int), (0 : Int), (0 : Int), (0 : Int), (5 : Int)))
  else
   if decide (x.2.1 > (2147483647 : Int)) = true then
    dn (((0 : Int), (0 : Int), (0 : Int), (0 : Int), (0 : Int), (5 : Int)))
   else
    dn (((0 : Int), (0 : Int), (0 : Int), (0 : Int), (0 : Int), (0 : Int)))
theorem n_number {β : Type} (c_Lookup : a_Lookup → Option g_Lookup) (x : a_number) (dn : g_number → Option β) : t_number c_Lookup x dn = (t_number c_Lookup x some).bind dn := by
  unfold t_number
  repeat' first | exact free_none | refine free_bind (fun z => ?_) | refine free_ite ?_ ?_ | refine free_sum (fun z => ?_) (fun z => ?_) | rfl
theorem r_number (c_Lookup : a_Lookup → Option g_Lookup) (x : a_number) : callK E5 (ftab 15 (fun _ _ => true) A_Lookup x_Lookup c_Lookup ca0) lo0 22 (A_number x).1 (A_number x).2 K = t_number (fun x => viaF A_Lookup c_Lookup (A_Lookup x)) x (fun z => some (.c (R_number z))) := by kernel_rfl
theorem s_number (c_Lookup : a_Lookup → Option g_Lookup) (h_Lookup : ∀ x z, c_Lookup x = some z → SC E5 15 (A_Lookup x).1 (A_Lookup x).2 (R_Lookup z)) (q : Nat) (x : a_number) (z : g_number) (h : t_number c_Lookup x some = some z) : SC E5 22 (A_number x).1 (A_number x).2 (R_number z) := by
  refine SC.of hW5 hX5 (ftab_cons h_Lookup xe_Lookup ca0_sound) lo0_sound ((r_number c_Lookup x).trans ?_)
  rw [via_eq i_Lookup c_Lookup, n_number, h]; rfl
noncomputable def number (q : Nat) (x : a_number) : Option g_number := t_number (Lookup q) x some
theorem sc_number (q : Nat) : ∀ (x : a_number) (z : g_number), number q x = some z → SC E5 22 (A_number x).1 (A_number x).2 (R_number z) := fun x z h => s_number (Lookup q) (sc_Lookup q) q x z h
abbrev a_found : Type := Int × Int × Int × Int × Int × Bool
abbrev g_found : Type := Bool × Int × Int × Int × Int × Int × Int
def A_found : a_found → List V × List (Option Chunk) := (fun x => (fun (d0 : Int) (d1 : Int) (d2 : Int) (d3 : Int) (d4 : Int) (ok : Bool) => (([.agg [i64 d0, i64 d1, i64 d2, i64 d3, i64 d4], bo ok] : List V), ([] : List (Option Chunk)))) x.1 x.2.1 x.2.2.1 x.2.2.2.1 x.2.2.2.2.1 x.2.2.2.2.2)
def d_found (t : List V × List (Option Chunk)) : a_found := ((vI ((vAg (t.1.getD 0 .junk)).getD 0 .junk)), (vI ((vAg (t.1.getD 0 .junk)).getD 1 .junk)), (vI ((vAg (t.1.getD 0 .junk)).getD 2 .junk)), (vI ((vAg (t.1.getD 0 .junk)).getD 3 .junk)), (vI ((vAg (t.1.getD 0 .junk)).getD 4 .junk)), (vB (t.1.getD 1 .junk)))
theorem i_found : ∀ x y, A_found x = A_found y → x = y := fun x y h => (congrArg d_found h :)
def R_found : g_found → CRes := (fun z => (fun (b : Bool) (d0 : Int) (d1 : Int) (d2 : Int) (d3 : Int) (d4 : Int) (e : Int) => .ret (.tup [bo b, .agg [i64 d0, i64 d1, i64 d2, i64 d3, i64 d4], i64 e]) []) z.1 z.2.1 z.2.2.1 z.2.2.2.1 z.2.2.2.2.1 z.2.2.2.2.2.1 z.2.2.2.2.2.2 : (Bool × Int × Int × Int × Int × Int × Int) → CRes)
def x_found (z : g_found) (k : CRes → Option Ans) : Option Ans := k (R_found z)
theorem xe_found : ∀ z k, x_found z k = k (R_found z) := fun z k => rfl
def t_found {β : Type} (x : a_found) (dn : g_found → Option β) : Option β :=
 if (!x.2.2.2.2.2) = true then
  dn ((false, (0 : Int), (0 : Int), (0 : Int), (0 : Int), (0 : Int), (3 : Int)))
 else
  dn ((false, x.1, x.2.1, x.2.2.1, x.2.2.2.1, x.2.2.2.2.1, (0 : Int)))
theorem n_found {β : Type} (x : a_found) (dn : g_found → Option β) : t_found x dn = (t_found x some).bind dn := by
  unfold t_found
  repeat' first | exact free_none | refine free_bind (fun z => ?_) | refine free_ite ?_ ?_ | refine free_sum (fun z => ?_) (fun z => ?_) | rfl
theorem r_found (x : a_found) : callK E5 ca0 lo0 23 (A_found x).1 (A_found x).2 K = t_found x (fun z => some (.c (R_found z))) := by kernel_rfl
theorem s_found (q : Nat) (x : a_found) (z : g_found) (h : t_found x some = some z) : SC E5 23 (A_found x).1 (A_found x).2 (R_found z) := by
  refine SC.of hW5 hX5 ca0_sound lo0_sound ((r_found x).trans ?_)
  rw [n_found, h]; rfl
noncomputable def found (q : Nat) (x : a_found) : Option g_found := t_found x some
theorem sc_found (q : Nat) : ∀ (x : a_found) (z : g_found), found q x = some z → SC E5 23 (A_found x).1 (A_found x).2 (R_found z) := fun x z h => s_found q x z h
abbrev a_Times : Type := Int × Int × Int × Int × Int × Int × Int × Int × Int × Int
abbrev g_Times : Type := Int × Int × Int × Int × Int
def A_Times : a_Times → List V × List (Option Chunk) := (fun x => (fun (d0 : Int) (d1 : Int) (d2 : Int) (d3 : Int) (d4 : Int) (f0 : Int) (f1 : Int) (f2 : Int) (f3 : Int) (f4 : Int) => (([.agg [i64 d0, i64 d1, i64 d2, i64 d3, i64 d4], .agg [i64 f0, i64 f1, i64 f2, i64 f3, i64 f4]] : List V), ([] : List (Option Chunk)))) x.1 x.2.1 x.2.2.1 x.2.2.2.1 x.2.2.2.2.1 x.2.2.2.2.2.1 x.2.2.2.2.2.2.1 x.2.2.2.2.2.2.2.1 x.2.2.2.2.2.2.2.2.1 x.2.2.2.2.2.2.2.2.2)
def d_Times (t : List V × List (Option Chunk)) : a_Times := ((vI ((vAg (t.1.getD 0 .junk)).getD 0 .junk)), (vI ((vAg (t.1.getD 0 .junk)).getD 1 .junk)), (vI ((vAg (t.1.getD 0 .junk)).getD 2 .junk)), (vI ((vAg (t.1.getD 0 .junk)).getD 3 .junk)), (vI ((vAg (t.1.getD 0 .junk)).getD 4 .junk)), (vI ((vAg (t.1.getD 1 .junk)).getD 0 .junk)), (vI ((vAg (t.1.getD 1 .junk)).getD 1 .junk)), (vI ((vAg (t.1.getD 1 .junk)).getD 2 .junk)), (vI ((vAg (t.1.getD 1 .junk)).getD 3 .junk)), (vI ((vAg (t.1.getD 1 .junk)).getD 4 .junk)))
theorem i_Times : ∀ x y, A_Times x = A_Times y → x = y := fun x y h => (congrArg d_Times h :)
def R_Times : g_Times → CRes := (fun z => (fun (d0 : Int) (d1 : Int) (d2 : Int) (d3 : Int) (d4 : Int) => .ret (.agg [i64 d0, i64 d1, i64 d2, i64 d3, i64 d4]) []) z.1 z.2.1 z.2.2.1 z.2.2.2.1 z.2.2.2.2 : (Int × Int × Int × Int × Int) → CRes)
def x_Times (z : g_Times) (k : CRes → Option Ans) : Option Ans := k (R_Times z)
theorem xe_Times : ∀ z k, x_Times z k = k (R_Times z) := fun z k => rfl
def t_Times {β : Type} (x : a_Times) (dn : g_Times → Option β) : Option β :=
 dn ((w (x.1 + w ((1 : Int) * x.2.2.2.2.2.1)), w (x.2.1 + w ((1 : Int) * x.2.2.2.2.2.2.1)), w (x.2.2.1 + w ((1 : Int) * x.2.2.2.2.2.2.2.1)), w (x.2.2.2.1 + w ((1 : Int) * x.2.2.2.2.2.2.2.2.1)), w (x.2.2.2.2.1 + w ((1 : Int) * x.2.2.2.2.2.2.2.2.2))))
theorem n_Times {β : Type} (x : a_Times) (dn : g_Times → Option β) : t_Times x dn = (t_Times x some).bind dn := by
  unfold t_Times
  repeat' first | exact free_none | refine free_bind (fun z => ?_) | refine free_ite ?_ ?_ | refine free_sum (fun z => ?_) (fun z => ?_) | rfl
theorem r_Times (x : a_Times) : callK E5 (callG E5 20) lo0 41 (A_Times x).1 (A_Times x).2 K = t_Times x (fun z => some (.c (R_Times z))) := by kernel_rfl
theorem s_Times (q : Nat) (x : a_Times) (z : g_Times) (h : t_Times x some = some z) : SC E5 41 (A_Times x).1 (A_Times x).2 (R_Times z) := by
  refine SC.of hW5 hX5 (sound_G hW5 hX5 20).1 lo0_sound ((r_Times x).trans ?_)
  rw [n_Times, h]; rfl
noncomputable def Times (q : Nat) (x : a_Times) : Option g_Times := t_Times x some
theorem sc_Times (q : Nat) : ∀ (x : a_Times) (z : g_Times), Times q x = some z → SC E5 41 (A_Times x).1 (A_Times x).2 (R_Times z) := fun x z h => s_Times q x z h
abbrev a_Over : Type := Int × Int × Int × Int × Int × Int × Int × Int × Int × Int
abbrev g_Over : Type := Int × Int × Int × Int × Int
def A_Over : a_Over → List V × List (Option Chunk) := (fun x => (fun (d0 : Int) (d1 : Int) (d2 : Int) (d3 : Int) (d4 : Int) (f0 : Int) (f1 : Int) (f2 : Int) (f3 : Int) (f4 : Int) => (([.agg [i64 d0, i64 d1, i64 d2, i64 d3, i64 d4], .agg [i64 f0, i64 f1, i64 f2, i64 f3, i64 f4]] : List V), ([] : List (Option Chunk)))) x.1 x.2.1 x.2.2.1 x.2.2.2.1 x.2.2.2.2.1 x.2.2.2.2.2.1 x.2.2.2.2.2.2.1 x.2.2.2.2.2.2.2.1 x.2.2.2.2.2.2.2.2.1 x.2.2.2.2.2.2.2.2.2)
def d_Over (t : List V × List (Option Chunk)) : a_Over := ((vI ((vAg (t.1.getD 0 .junk)).getD 0 .junk)), (vI ((vAg (t.1.getD 0 .junk)).getD 1 .junk)), (vI ((vAg (t.1.getD 0 .junk)).getD 2 .junk)), (vI ((vAg (t.1.getD 0 .junk)).getD 3 .junk)), (vI ((vAg (t.1.getD 0 .junk)).getD 4 .junk)), (vI ((vAg (t.1.getD 1 .junk)).getD 0 .junk)), (vI ((vAg (t.1.getD 1 .junk)).getD 1 .junk)), (vI ((vAg (t.1.getD 1 .junk)).getD 2 .junk)), (vI ((vAg (t.1.getD 1 .junk)).getD 3 .junk)), (vI ((vAg (t.1.getD 1 .junk)).getD 4 .junk)))
theorem i_Over : ∀ x y, A_Over x = A_Over y → x = y := fun x y h => (congrArg d_Over h :)
def R_Over : g_Over → CRes := (fun z => (fun (d0 : Int) (d1 : Int) (d2 : Int) (d3 : Int) (d4 : Int) => .ret (.agg [i64 d0, i64 d1, i64 d2, i64 d3, i64 d4]) []) z.1 z.2.1 z.2.2.1 z.2.2.2.1 z.2.2.2.2 : (Int × Int × Int × Int × Int) → CRes)
def x_Over (z : g_Over) (k : CRes → Option Ans) : Option Ans := k (R_Over z)
theorem xe_Over : ∀ z k, x_Over z k = k (R_Over z) := fun z k => rfl
def t_Over {β : Type} (x : a_Over) (dn : g_Over → Option β) : Option β :=
 dn ((w (x.1 + w ((-1 : Int) * x.2.2.2.2.2.1)), w (x.2.1 + w ((-1 : Int) * x.2.2.2.2.2.2.1)), w (x.2.2.1 + w ((-1 : Int) * x.2.2.2.2.2.2.2.1)), w (x.2.2.2.1 + w ((-1 : Int) * x.2.2.2.2.2.2.2.2.1)), w (x.2.2.2.2.1 + w ((-1 : Int) * x.2.2.2.2.2.2.2.2.2))))
theorem n_Over {β : Type} (x : a_Over) (dn : g_Over → Option β) : t_Over x dn = (t_Over x some).bind dn := by
  unfold t_Over
  repeat' first | exact free_none | refine free_bind (fun z => ?_) | refine free_ite ?_ ?_ | refine free_sum (fun z => ?_) (fun z => ?_) | rfl
theorem r_Over (x : a_Over) : callK E5 (callG E5 20) lo0 42 (A_Over x).1 (A_Over x).2 K = t_Over x (fun z => some (.c (R_Over z))) := by kernel_rfl
theorem s_Over (q : Nat) (x : a_Over) (z : g_Over) (h : t_Over x some = some z) : SC E5 42 (A_Over x).1 (A_Over x).2 (R_Over z) := by
  refine SC.of hW5 hX5 (sound_G hW5 hX5 20).1 lo0_sound ((r_Over x).trans ?_)
  rw [n_Over, h]; rfl
noncomputable def Over (q : Nat) (x : a_Over) : Option g_Over := t_Over x some
theorem sc_Over (q : Nat) : ∀ (x : a_Over) (z : g_Over), Over q x = some z → SC E5 42 (A_Over x).1 (A_Over x).2 (R_Over z) := fun x z h => s_Over q x z h
abbrev a_binary : Type := ByteArray × Bool × Bool × Int × Int × Int × Int × Int × Int × Int × Int × Int × Int
abbrev g_binary : Type := Bool × Int × Int × Int × Int × Int × Int
def A_binary : a_binary → List V × List (Option Chunk) := (fun x => (fun (s : ByteArray) (x : Bool) (y : Bool) (d0 : Int) (d1 : Int) (d2 : Int) (d3 : Int) (d4 : Int) (f0 : Int) (f1 : Int) (f2 : Int) (f3 : Int) (f4 : Int) => (([st s, .agg [bo x, bo y], .agg [i64 d0, i64 d1, i64 d2, i64 d3, i64 d4, i64 f0, i64 f1, i64 f2, i64 f3, i64 f4]] : List V), ([] : List (Option Chunk)))) x.1 x.2.1 x.2.2.1 x.2.2.2.1 x.2.2.2.2.1 x.2.2.2.2.2.1 x.2.2.2.2.2.2.1 x.2.2.2.2.2.2.2.1 x.2.2.2.2.2.2.2.2.1 x.2.2.2.2.2.2.2.2.2.1 x.2.2.2.2.2.2.2.2.2.2.1 x.2.2.2.2.2.2.2.2.2.2.2.1 x.2.2.2.2.2.2.2.2.2.2.2.2)
def d_binary (t : List V × List (Option Chunk)) : a_binary := ((vS (t.1.getD 0 .junk)), (vB ((vAg (t.1.getD 1 .junk)).getD 0 .junk)), (vB ((vAg (t.1.getD 1 .junk)).getD 1 .junk)), (vI ((vAg (t.1.getD 2 .junk)).getD 0 .junk)), (vI ((vAg (t.1.getD 2 .junk)).getD 1 .junk)), (vI ((vAg (t.1.getD 2 .junk)).getD 2 .junk)), (vI ((vAg (t.1.getD 2 .junk)).getD 3 .junk)), (vI ((vAg (t.1.getD 2 .junk)).getD 4 .junk)), (vI ((vAg (t.1.getD 2 .junk)).getD 5 .junk)), (vI ((vAg (t.1.getD 2 .junk)).getD 6 .junk)), (vI ((vAg (t.1.getD 2 .junk)).getD 7 .junk)), (vI ((vAg (t.1.getD 2 .junk)).getD 8 .junk)), (vI ((vAg (t.1.getD 2 .junk)).getD 9 .junk)))
theorem i_binary : ∀ x y, A_binary x = A_binary y → x = y := fun x y h => (congrArg d_binary h :)
def R_binary : g_binary → CRes := (fun z => (fun (b : Bool) (d0 : Int) (d1 : Int) (d2 : Int) (d3 : Int) (d4 : Int) (e : Int) => .ret (.tup [bo b, .agg [i64 d0, i64 d1, i64 d2, i64 d3, i64 d4], i64 e]) []) z.1 z.2.1 z.2.2.1 z.2.2.2.1 z.2.2.2.2.1 z.2.2.2.2.2.1 z.2.2.2.2.2.2 : (Bool × Int × Int × Int × Int × Int × Int) → CRes)
def x_binary (z : g_binary) (k : CRes → Option Ans) : Option Ans := k (R_binary z)
theorem xe_binary : ∀ z k, x_binary z k = k (R_binary z) := fun z k => rfl
def t_binary {β : Type} (c_kind : a_kind → Option g_kind) (c_adm : a_adm → Option g_adm) (c_Times : a_Times → Option g_Times) (c_Over : a_Over → Option g_Over) (x : a_binary) (dn : g_binary → Option β) : Option β :=
 (c_kind (x.1)).bind fun z1 =>
  if (!x.2.1 == (z1 == (1 : Int))) = true then
   dn ((false, (0 : Int), (0 : Int), (0 : Int), (0 : Int), (0 : Int), (12 : Int)))
  else
   if (!x.2.2.1 == (z1 == (1 : Int))) = true then
    dn ((false, (0 : Int), (0 : Int), (0 : Int), (0 : Int), (0 : Int), (12 : Int)))
   else
    if (z1 == (1 : Int)) = true then
     dn ((true, (0 : Int), (0 : Int), (0 : Int), (0 : Int), (0 : Int), (0 : Int)))
    else
     if (z1 == (3 : Int)) = true then
      (c_Times (x.2.2.2)).bind fun z12 =>
       if (ByteArray.toList (x.1) == ByteArray.toList { data := #[(47 : UInt8)] }) = true then
        (c_Over (x.2.2.2)).bind fun z23 =>
         (c_adm z23).bind fun z29 =>
          if (!z29) = true then
           dn ((false, (0 : Int), (0 : Int), (0 : Int), (0 : Int), (0 : Int), (5 : Int)))
          else
           dn ((false, z23.1, z23.2.1, z23.2.2.1, z23.2.2.2.1, z23.2.2.2.2, (0 : Int)))
       else
        (c_adm z12).bind fun z35 =>
         if (!z35) = true then
          dn ((false, (0 : Int), (0 : Int), (0 : Int), (0 : Int), (0 : Int), (5 : Int)))
         else
          dn ((false, z12.1, z12.2.1, z12.2.2.1, z12.2.2.2.1, z12.2.2.2.2, (0 : Int)))
     else
      if (if true = true then !(x.2.2.2.1 == x.2.2.2.2.2.2.2.2.1 && (x.2.2.2.2.1 == x.2.2.2.2.2.2.2.2.2.1 && (x.2.2.2.2.2.1 == x.2.2.2.2.2.2.2.2.2.2.1 && (x.2.2.2.2.2.2.1 == x.2.2.2.2.2.2.2.2.2.2.2.1 && (x.2.2.2.2.2.2.2.1 == x.2.2.2.2.2.2.2.2.2.2.2.2 && true))))) else x.2.2.2.1 == x.2.2.2.2.2.2.2.2.1 && (x.2.2.2.2.1 == x.2.2.2.2.2.2.2.2.2.1 && (x.2.2.2.2.2.1 == x.2.2.2.2.2.2.2.2.2.2.1 && (x.2.2.2.2.2.2.1 == x.2.2.2.2.2.2.2.2.2.2.2.1 && (x.2.2.2.2.2.2.2.1 == x.2.2.2.2.2.2.2.2.2.2.2.2 && true))))) = true then
       dn ((false, (0 : Int), (0 : Int), (0 : Int), (0 : Int), (0 : Int), (10 : Int)))
      else
       if (z1 == (4 : Int)) = true then
        dn ((true, (0 : Int), (0 : Int), (0 : Int), (0 : Int), (0 : Int), (0 : Int)))
       else
        dn ((false, x.2.2.2.1, x.2.2.2.2.1, x.2.2.2.2.2.1, x.2.2.2.2.2.2.1, x.2.2.2.2.2.2.2.1, (0 : Int)))
theorem n_binary {β : Type} (c_kind : a_kind → Option g_kind) (c_adm : a_adm → Option g_adm) (c_Times : a_Times → Option g_Times) (c_Over : a_Over → Option g_Over) (x : a_binary) (dn : g_binary → Option β) : t_binary c_kind c_adm c_Times c_Over x dn = (t_binary c_kind c_adm c_Times c_Over x some).bind dn := by
  unfold t_binary
  repeat' first | exact free_none | refine free_bind (fun z => ?_) | refine free_ite ?_ ?_ | refine free_sum (fun z => ?_) (fun z => ?_) | rfl
theorem r_binary (c_kind : a_kind → Option g_kind) (c_adm : a_adm → Option g_adm) (c_Times : a_Times → Option g_Times) (c_Over : a_Over → Option g_Over) (x : a_binary) : callK E5 (ftab 40 (fun _ _ => true) A_kind x_kind c_kind (ftab 43 (fun _ _ => true) A_adm x_adm c_adm (ftab 41 (fun _ _ => true) A_Times x_Times c_Times (ftab 42 (fun _ _ => true) A_Over x_Over c_Over ca0)))) lo0 24 (A_binary x).1 (A_binary x).2 K = t_binary (fun x => viaF A_kind c_kind (A_kind x)) (fun x => viaF A_adm c_adm (A_adm x)) (fun x => viaF A_Times c_Times (A_Times x)) (fun x => viaF A_Over c_Over (A_Over x)) x (fun z => some (.c (R_binary z))) := by kernel_rfl
theorem s_binary (c_kind : a_kind → Option g_kind) (h_kind : ∀ x z, c_kind x = some z → SC E5 40 (A_kind x).1 (A_kind x).2 (R_kind z)) (c_adm : a_adm → Option g_adm) (h_adm : ∀ x z, c_adm x = some z → SC E5 43 (A_adm x).1 (A_adm x).2 (R_adm z)) (c_Times : a_Times → Option g_Times) (h_Times : ∀ x z, c_Times x = some z → SC E5 41 (A_Times x).1 (A_Times x).2 (R_Times z)) (c_Over : a_Over → Option g_Over) (h_Over : ∀ x z, c_Over x = some z → SC E5 42 (A_Over x).1 (A_Over x).2 (R_Over z)) (q : Nat) (x : a_binary) (z : g_binary) (h : t_binary c_kind c_adm c_Times c_Over x some = some z) : SC E5 24 (A_binary x).1 (A_binary x).2 (R_binary z) := by
  refine SC.of hW5 hX5 (ftab_cons h_kind xe_kind (ftab_cons h_adm xe_adm (ftab_cons h_Times xe_Times (ftab_cons h_Over xe_Over ca0_sound)))) lo0_sound ((r_binary c_kind c_adm c_Times c_Over x).trans ?_)
  rw [via_eq i_kind c_kind, via_eq i_adm c_adm, via_eq i_Times c_Times, via_eq i_Over c_Over, n_binary, h]; rfl
noncomputable def binary (q : Nat) (x : a_binary) : Option g_binary := t_binary (kind q) (adm q) (Times q) (Over q) x some
theorem sc_binary (q : Nat) : ∀ (x : a_binary) (z : g_binary), binary q x = some z → SC E5 24 (A_binary x).1 (A_binary x).2 (R_binary z) := fun x z h => s_binary (kind q) (sc_kind q) (adm q) (sc_adm q) (Times q) (sc_Times q) (Over q) (sc_Over q) q x z h
abbrev a_Tele : Type := ByteArray
abbrev g_Tele : Type := Int × Int × Int × Int × Int × Int × Bool
def A_Tele : a_Tele → List V × List (Option Chunk) := (fun x => (fun (s : ByteArray) => (([st s] : List V), ([] : List (Option Chunk)))) x)
def d_Tele (t : List V × List (Option Chunk)) : a_Tele := ((vS (t.1.getD 0 .junk)))
theorem i_Tele : ∀ x y, A_Tele x = A_Tele y → x = y := fun x y h => (congrArg d_Tele h :)
def R_Tele : g_Tele → CRes := (fun z => (fun (k : Int) (d0 : Int) (d1 : Int) (d2 : Int) (d3 : Int) (d4 : Int) (b : Bool) => .ret (.tup [i64 k, .agg [i64 d0, i64 d1, i64 d2, i64 d3, i64 d4], bo b]) []) z.1 z.2.1 z.2.2.1 z.2.2.2.1 z.2.2.2.2.1 z.2.2.2.2.2.1 z.2.2.2.2.2.2 : (Int × Int × Int × Int × Int × Int × Bool) → CRes)
def x_Tele (z : g_Tele) (k : CRes → Option Ans) : Option Ans := k (R_Tele z)
theorem xe_Tele : ∀ z k, x_Tele z k = k (R_Tele z) := fun z k => rfl
def t_Tele {β : Type} (x : a_Tele) (dn : g_Tele → Option β) : Option β :=
 if (ByteArray.toList x == ByteArray.toList { data := #[(98 : UInt8), (97 : UInt8), (116 : UInt8), (116 : UInt8), (101 : UInt8), (114 : UInt8), (121 : UInt8)] }) = true then
  dn (((0 : Int), (1 : Int), (0 : Int), (0 : Int), (0 : Int), (0 : Int), true))
 else
  if (ByteArray.toList x == ByteArray.toList { data := #[(104 : UInt8), (101 : UInt8), (97 : UInt8), (116 : UInt8)] }) = true then
   dn (((1 : Int), (0 : Int), (0 : Int), (0 : Int), (0 : Int), (1 : Int), true))
  else
   if (ByteArray.toList x == ByteArray.toList { data := #[(97 : UInt8), (110 : UInt8), (103 : UInt8), (108 : UInt8), (101 : UInt8)] }) = true then
    dn (((2 : Int), (0 : Int), (0 : Int), (0 : Int), (1 : Int), (0 : Int), true))
   else
    if (ByteArray.toList x == ByteArray.toList { data := #[(110 : UInt8), (111 : UInt8), (119 : UInt8)] }) = true then
     dn (((3 : Int), (0 : Int), (0 : Int), (1 : Int), (0 : Int), (0 : Int), true))
    else
     if (ByteArray.toList x == ByteArray.toList { data := #[(109 : UInt8), (111 : UInt8), (100 : UInt8), (101 : UInt8)] }) = true then
      dn (((4 : Int), (0 : Int), (0 : Int), (0 : Int), (0 : Int), (0 : Int), true))
     else
      if (ByteArray.toList x == ByteArray.toList { data := #[(102 : UInt8), (114 : UInt8), (101 : UInt8), (101 : UInt8)] }) = true then
       dn (((5 : Int), (0 : Int), (1 : Int), (0 : Int), (0 : Int), (0 : Int), true))
      else
       dn (((0 : Int), (0 : Int), (0 : Int), (0 : Int), (0 : Int), (0 : Int), false))
theorem n_Tele {β : Type} (x : a_Tele) (dn : g_Tele → Option β) : t_Tele x dn = (t_Tele x some).bind dn := by
  unfold t_Tele
  repeat' first | exact free_none | refine free_bind (fun z => ?_) | refine free_ite ?_ ?_ | refine free_sum (fun z => ?_) (fun z => ?_) | rfl
theorem r_Tele (x : a_Tele) : callK E5 ca0 lo0 12 (A_Tele x).1 (A_Tele x).2 K = t_Tele x (fun z => some (.c (R_Tele z))) := by kernel_rfl
theorem s_Tele (q : Nat) (x : a_Tele) (z : g_Tele) (h : t_Tele x some = some z) : SC E5 12 (A_Tele x).1 (A_Tele x).2 (R_Tele z) := by
  refine SC.of hW5 hX5 ca0_sound lo0_sound ((r_Tele x).trans ?_)
  rw [n_Tele, h]; rfl
noncomputable def Tele (q : Nat) (x : a_Tele) : Option g_Tele := t_Tele x some
theorem sc_Tele (q : Nat) : ∀ (x : a_Tele) (z : g_Tele), Tele q x = some z → SC E5 12 (A_Tele x).1 (A_Tele x).2 (R_Tele z) := fun x z h => s_Tele q x z h
abbrev a_Operator : Type := ByteArray
abbrev g_Operator : Type := Int
def A_Operator : a_Operator → List V × List (Option Chunk) := (fun x => (fun (s : ByteArray) => (([st s] : List V), ([] : List (Option Chunk)))) x)
def d_Operator (t : List V × List (Option Chunk)) : a_Operator := ((vS (t.1.getD 0 .junk)))
theorem i_Operator : ∀ x y, A_Operator x = A_Operator y → x = y := fun x y h => (congrArg d_Operator h :)
def R_Operator : g_Operator → CRes := (fun z => (fun (k : Int) => .ret (i64 k) []) z : (Int) → CRes)
def x_Operator (z : g_Operator) (k : CRes → Option Ans) : Option Ans := k (R_Operator z)
theorem xe_Operator : ∀ z k, x_Operator z k = k (R_Operator z) := fun z k => rfl
def t_Operator {β : Type} (x : a_Operator) (dn : g_Operator → Option β) : Option β :=
 if (ByteArray.toList x == ByteArray.toList { data := #[(124 : UInt8), (124 : UInt8)] }) = true then
  dn ((1 : Int))
 else
  if (ByteArray.toList x == ByteArray.toList { data := #[(38 : UInt8), (38 : UInt8)] }) = true then
   dn ((1 : Int))
  else
   if (ByteArray.toList x == ByteArray.toList { data := #[(43 : UInt8)] }) = true then
    dn ((2 : Int))
   else
    if (ByteArray.toList x == ByteArray.toList { data := #[(45 : UInt8)] }) = true then
     dn ((2 : Int))
    else
     if (ByteArray.toList x == ByteArray.toList { data := #[(42 : UInt8)] }) = true then
      dn ((3 : Int))
     else
      if (ByteArray.toList x == ByteArray.toList { data := #[(47 : UInt8)] }) = true then
       dn ((3 : Int))
      else
       if (ByteArray.toList x == ByteArray.toList { data := #[(60 : UInt8)] }) = true then
        dn ((4 : Int))
       else
        if (ByteArray.toList x == ByteArray.toList { data := #[(60 : UInt8), (61 : UInt8)] }) = true then
         dn ((4 : Int))
        else
         if (ByteArray.toList x == ByteArray.toList { data := #[(62 : UInt8)] }) = true then
          dn ((4 : Int))
         else
          if (ByteArray.toList x == ByteArray.toList { data := #[(62 : UInt8), (61 : UInt8)] }) = true then
           dn ((4 : Int))
          else
           if (ByteArray.toList x == ByteArray.toList { data := #[(61 : UInt8), (61 : UInt8)] }) = true then
            dn ((4 : Int))
           else
            if (ByteArray.toList x == ByteArray.toList { data := #[(33 : UInt8), (61 : UInt8)] }) = true then
             dn ((4 : Int))
            else
             dn ((0 : Int))
theorem n_Operator {β : Type} (x : a_Operator) (dn : g_Operator → Option β) : t_Operator x dn = (t_Operator x some).bind dn := by
  unfold t_Operator
  repeat' first | exact free_none | refine free_bind (fun z => ?_) | refine free_ite ?_ ?_ | refine free_sum (fun z => ?_) (fun z => ?_) | rfl
theorem r_Operator (x : a_Operator) : callK E5 ca0 lo0 75 (A_Operator x).1 (A_Operator x).2 K = t_Operator x (fun z => some (.c (R_Operator z))) := by kernel_rfl
theorem s_Operator (q : Nat) (x : a_Operator) (z : g_Operator) (h : t_Operator x some = some z) : SC E5 75 (A_Operator x).1 (A_Operator x).2 (R_Operator z) := by
  refine SC.of hW5 hX5 ca0_sound lo0_sound ((r_Operator x).trans ?_)
  rw [n_Operator, h]; rfl
noncomputable def Operator (q : Nat) (x : a_Operator) : Option g_Operator := t_Operator x some
theorem sc_Operator (q : Nat) : ∀ (x : a_Operator) (z : g_Operator), Operator q x = some z → SC E5 75 (A_Operator x).1 (A_Operator x).2 (R_Operator z) := fun x z h => s_Operator q x z h
abbrev a_formed : Type := Int × Int × ByteArray × Nat × (Nat → List V)
abbrev g_formed : Type := Bool
def A_formed : a_formed → List V × List (Option Chunk) := (fun x => (fun (nk : Int) (nn : Int) (ns : ByteArray) (nm : Nat) (nf : Nat → List V) => (([.agg [i64 nk, i64 nn, st ns, .ro 4 nm nf]] : List V), ([] : List (Option Chunk)))) x.1 x.2.1 x.2.2.1 x.2.2.2.1 x.2.2.2.2)
def d_formed (t : List V × List (Option Chunk)) : a_formed := ((vI ((vAg (t.1.getD 0 .junk)).getD 0 .junk)), (vI ((vAg (t.1.getD 0 .junk)).getD 1 .junk)), (vS ((vAg (t.1.getD 0 .junk)).getD 2 .junk)), (vRoN ((vAg (t.1.getD 0 .junk)).getD 3 .junk)), (vRoF ((vAg (t.1.getD 0 .junk)).getD 3 .junk)))
theorem i_formed : ∀ x y, A_formed x = A_formed y → x = y := fun x y h => (congrArg d_formed h :)
def R_formed : g_formed → CRes := (fun z => (fun (b : Bool) => .ret (bo b) []) z : (Bool) → CRes)
def x_formed (z : g_formed) (k : CRes → Option Ans) : Option Ans := k (R_formed z)
theorem xe_formed : ∀ z k, x_formed z k = k (R_formed z) := fun z k => rfl
def t_formed {β : Type} (c_Operator : a_Operator → Option g_Operator) (x : a_formed) (dn : g_formed → Option β) : Option β :=
 if (x.1 == (15 : Int)) = true then
  dn (((x.2.2.2.1 : Nat) : Int) == (0 : Int))
 else
  if (x.1 == (17 : Int)) = true then
   dn (((x.2.2.2.1 : Nat) : Int) == (0 : Int))
  else
   if (x.1 == (18 : Int)) = true then
    dn (((x.2.2.2.1 : Nat) : Int) == (0 : Int))
   else
    if (x.1 == (16 : Int)) = true then
     if (((x.2.2.2.1 : Nat) : Int) == (0 : Int)) = true then
      if (x.2.1 == (0 : Int)) = true then
       dn true
      else
       dn (x.2.1 == (1 : Int))
     else
      dn false
    else
     if (x.1 == (19 : Int)) = true then
      if (((x.2.2.2.1 : Nat) : Int) == (1 : Int)) = true then
       if (ByteArray.toList (x.2.2.1) == ByteArray.toList { data := #[(33 : UInt8)] }) = true then
        dn true
       else
        dn (ByteArray.toList (x.2.2.1) == ByteArray.toList { data := #[(45 : UInt8)] })
      else
       dn false
     else
      if (x.1 == (20 : Int)) = true then
       if (((x.2.2.2.1 : Nat) : Int) == (2 : Int)) = true then
        (c_Operator (x.2.2.1)).bind fun z1 =>
         dn (decide (z1 > (0 : Int)))
       else
        dn false
      else
       dn false
theorem n_formed {β : Type} (c_Operator : a_Operator → Option g_Operator) (x : a_formed) (dn : g_formed → Option β) : t_formed c_Operator x dn = (t_formed c_Operator x some).bind dn := by
  unfold t_formed
  repeat' first | exact free_none | refine free_bind (fun z => ?_) | refine free_ite ?_ ?_ | refine free_sum (fun z => ?_) (fun z => ?_) | rfl
theorem r_formed (c_Operator : a_Operator → Option g_Operator) (x : a_formed) : callK E5 (ftab 75 (fun _ _ => true) A_Operator x_Operator c_Operator ca0) lo0 65 (A_formed x).1 (A_formed x).2 K = t_formed (fun x => viaF A_Operator c_Operator (A_Operator x)) x (fun z => some (.c (R_formed z))) := by kernel_rfl
theorem s_formed (c_Operator : a_Operator → Option g_Operator) (h_Operator : ∀ x z, c_Operator x = some z → SC E5 75 (A_Operator x).1 (A_Operator x).2 (R_Operator z)) (q : Nat) (x : a_formed) (z : g_formed) (h : t_formed c_Operator x some = some z) : SC E5 65 (A_formed x).1 (A_formed x).2 (R_formed z) := by
  refine SC.of hW5 hX5 (ftab_cons h_Operator xe_Operator ca0_sound) lo0_sound ((r_formed c_Operator x).trans ?_)
  rw [via_eq i_Operator c_Operator, n_formed, h]; rfl
noncomputable def formed (q : Nat) (x : a_formed) : Option g_formed := t_formed (Operator q) x some
theorem sc_formed (q : Nat) : ∀ (x : a_formed) (z : g_formed), formed q x = some z → SC E5 65 (A_formed x).1 (A_formed x).2 (R_formed z) := fun x z h => s_formed (Operator q) (sc_Operator q) q x z h
abbrev a_radm : Type := Int × Int × Int × Int × Int
abbrev g_radm : Type := Bool
def A_radm : a_radm → List V × List (Option Chunk) := (fun x => (fun (d0 : Int) (d1 : Int) (d2 : Int) (d3 : Int) (d4 : Int) => (([.agg [i64 d0, i64 d1, i64 d2, i64 d3, i64 d4]] : List V), ([] : List (Option Chunk)))) x.1 x.2.1 x.2.2.1 x.2.2.2.1 x.2.2.2.2)
def d_radm (t : List V × List (Option Chunk)) : a_radm := ((vI ((vAg (t.1.getD 0 .junk)).getD 0 .junk)), (vI ((vAg (t.1.getD 0 .junk)).getD 1 .junk)), (vI ((vAg (t.1.getD 0 .junk)).getD 2 .junk)), (vI ((vAg (t.1.getD 0 .junk)).getD 3 .junk)), (vI ((vAg (t.1.getD 0 .junk)).getD 4 .junk)))
theorem i_radm : ∀ x y, A_radm x = A_radm y → x = y := fun x y h => (congrArg d_radm h :)
def R_radm : g_radm → CRes := (fun z => (fun (b : Bool) => .ret (bo b) []) z : (Bool) → CRes)
def x_radm (z : g_radm) (k : CRes → Option Ans) : Option Ans := k (R_radm z)
theorem xe_radm : ∀ z k, x_radm z k = k (R_radm z) := fun z k => rfl
def t_radm {β : Type} (x : a_radm) (dn : g_radm → Option β) : Option β :=
 if decide ((if x.2.2.2.2 > if x.2.2.2.1 > if x.2.2.1 > if x.2.1 > x.1 then x.2.1 else x.1 then x.2.2.1 else if x.2.1 > x.1 then x.2.1 else x.1 then x.2.2.2.1 else if x.2.2.1 > if x.2.1 > x.1 then x.2.1 else x.1 then x.2.2.1 else if x.2.1 > x.1 then x.2.1 else x.1 then x.2.2.2.2 else if x.2.2.2.1 > if x.2.2.1 > if x.2.1 > x.1 then x.2.1 else x.1 then x.2.2.1 else if x.2.1 > x.1 then x.2.1 else x.1 then x.2.2.2.1 else if x.2.2.1 > if x.2.1 > x.1 then x.2.1 else x.1 then x.2.2.1 else if x.2.1 > x.1 then x.2.1 else x.1) ≤ (8 : Int)) = true then
  dn (decide ((if x.2.2.2.2 < if x.2.2.2.1 < if x.2.2.1 < if x.2.1 < x.1 then x.2.1 else x.1 then x.2.2.1 else if x.2.1 < x.1 then x.2.1 else x.1 then x.2.2.2.1 else if x.2.2.1 < if x.2.1 < x.1 then x.2.1 else x.1 then x.2.2.1 else if x.2.1 < x.1 then x.2.1 else x.1 then x.2.2.2.2 else if x.2.2.2.1 < if x.2.2.1 < if x.2.1 < x.1 then x.2.1 else x.1 then x.2.2.1 else if x.2.1 < x.1 then x.2.1 else x.1 then x.2.2.2.1 else if x.2.2.1 < if x.2.1 < x.1 then x.2.1 else x.1 then x.2.2.1 else if x.2.1 < x.1 then x.2.1 else x.1) ≥ (-8 : Int)))
 else
  dn false
theorem n_radm {β : Type} (x : a_radm) (dn : g_radm → Option β) : t_radm x dn = (t_radm x some).bind dn := by
  unfold t_radm
  repeat' first | exact free_none | refine free_bind (fun z => ?_) | refine free_ite ?_ ?_ | refine free_sum (fun z => ?_) (fun z => ?_) | rfl
theorem r_radm (x : a_radm) : callK E5 ca0 lo0 80 (A_radm x).1 (A_radm x).2 K = t_radm x (fun z => some (.c (R_radm z))) := by kernel_rfl
theorem s_radm (q : Nat) (x : a_radm) (z : g_radm) (h : t_radm x some = some z) : SC E5 80 (A_radm x).1 (A_radm x).2 (R_radm z) := by
  refine SC.of hW5 hX5 ca0_sound lo0_sound ((r_radm x).trans ?_)
  rw [n_radm, h]; rfl
noncomputable def radm (q : Nat) (x : a_radm) : Option g_radm := t_radm x some
theorem sc_radm (q : Nat) : ∀ (x : a_radm) (z : g_radm), radm q x = some z → SC E5 80 (A_radm x).1 (A_radm x).2 (R_radm z) := fun x z h => s_radm q x z h
abbrev a_RLookup : Type := ByteArray
abbrev g_RLookup : Type := Int × Int × Int × Int × Int × Int × Bool
def A_RLookup : a_RLookup → List V × List (Option Chunk) := (fun x => (fun (s : ByteArray) => (([st s] : List V), ([] : List (Option Chunk)))) x)
def d_RLookup (t : List V × List (Option Chunk)) : a_RLookup := ((vS (t.1.getD 0 .junk)))
theorem i_RLookup : ∀ x y, A_RLookup x = A_RLookup y → x = y := fun x y h => (congrArg d_RLookup h :)
def R_RLookup : g_RLookup → CRes := (fun z => (fun (d0 : Int) (d1 : Int) (d2 : Int) (d3 : Int) (d4 : Int) (n : Int) (b : Bool) => .ret (.tup [.agg [i64 d0, i64 d1, i64 d2, i64 d3, i64 d4], i64 n, bo b]) []) z.1 z.2.1 z.2.2.1 z.2.2.2.1 z.2.2.2.2.1 z.2.2.2.2.2.1 z.2.2.2.2.2.2 : (Int × Int × Int × Int × Int × Int × Bool) → CRes)
def x_RLookup (z : g_RLookup) (k : CRes → Option Ans) : Option Ans := k (R_RLookup z)
theorem xe_RLookup : ∀ z k, x_RLookup z k = k (R_RLookup z) := fun z k => rfl
def t_RLookup {β : Type} (x : a_RLookup) (dn : g_RLookup → Option β) : Option β :=
 if (ByteArray.toList x == ByteArray.toList { data := #[(74 : UInt8)] }) = true then
  dn (((1 : Int), (0 : Int), (0 : Int), (0 : Int), (0 : Int), (1 : Int), true))
 else
  if (ByteArray.toList x == ByteArray.toList { data := #[(107 : UInt8), (74 : UInt8)] }) = true then
   dn (((1 : Int), (0 : Int), (0 : Int), (0 : Int), (0 : Int), (1000 : Int), true))
  else
   if (ByteArray.toList x == ByteArray.toList { data := #[(87 : UInt8), (104 : UInt8)] }) = true then
    dn (((1 : Int), (0 : Int), (0 : Int), (0 : Int), (0 : Int), (3600 : Int), true))
   else
    if (ByteArray.toList x == ByteArray.toList { data := #[(66 : UInt8)] }) = true then
     dn (((0 : Int), (1 : Int), (0 : Int), (0 : Int), (0 : Int), (1 : Int), true))
    else
     if (ByteArray.toList x == ByteArray.toList { data := #[(107 : UInt8), (66 : UInt8)] }) = true then
      dn (((0 : Int), (1 : Int), (0 : Int), (0 : Int), (0 : Int), (1000 : Int), true))
     else
      if (ByteArray.toList x == ByteArray.toList { data := #[(115 : UInt8)] }) = true then
       dn (((0 : Int), (0 : Int), (1 : Int), (0 : Int), (0 : Int), (1 : Int), true))
      else
       if (ByteArray.toList x == ByteArray.toList { data := #[(109 : UInt8), (105 : UInt8), (110 : UInt8)] }) = true then
        dn (((0 : Int), (0 : Int), (1 : Int), (0 : Int), (0 : Int), (60 : Int), true))
       else
        if (ByteArray.toList x == ByteArray.toList { data := #[(104 : UInt8)] }) = true then
         dn (((0 : Int), (0 : Int), (1 : Int), (0 : Int), (0 : Int), (3600 : Int), true))
        else
         if (ByteArray.toList x == ByteArray.toList { data := #[(100 : UInt8), (101 : UInt8), (103 : UInt8)] }) = true then
          dn (((0 : Int), (0 : Int), (0 : Int), (1 : Int), (0 : Int), (1 : Int), true))
         else
          if (ByteArray.toList x == ByteArray.toList { data := #[(75 : UInt8)] }) = true then
           dn (((0 : Int), (0 : Int), (0 : Int), (0 : Int), (1 : Int), (1 : Int), true))
          else
           if (ByteArray.toList x == ByteArray.toList { data := #[(87 : UInt8)] }) = true then
            dn (((1 : Int), (0 : Int), (-1 : Int), (0 : Int), (0 : Int), (1 : Int), true))
           else
            if (ByteArray.toList x == ByteArray.toList { data := #[(107 : UInt8), (87 : UInt8)] }) = true then
             dn (((1 : Int), (0 : Int), (-1 : Int), (0 : Int), (0 : Int), (1000 : Int), true))
            else
             if (ByteArray.toList x == ByteArray.toList { data := #[(66 : UInt8), (112 : UInt8), (115 : UInt8)] }) = true then
              dn (((0 : Int), (1 : Int), (-1 : Int), (0 : Int), (0 : Int), (1 : Int), true))
             else
              dn (((0 : Int), (0 : Int), (0 : Int), (0 : Int), (0 : Int), (0 : Int), false))
theorem n_RLookup {β : Type} (x : a_RLookup) (dn : g_RLookup → Option β) : t_RLookup x dn = (t_RLookup x some).bind dn := by
  unfold t_RLookup
  repeat' first | exact free_none | refine free_bind (fun z => ?_) | refine free_ite ?_ ?_ | refine free_sum (fun z => ?_) (fun z => ?_) | rfl
theorem r_RLookup (x : a_RLookup) : callK E5 ca0 lo0 32 (A_RLookup x).1 (A_RLookup x).2 K = t_RLookup x (fun z => some (.c (R_RLookup z))) := by kernel_rfl
theorem s_RLookup (q : Nat) (x : a_RLookup) (z : g_RLookup) (h : t_RLookup x some = some z) : SC E5 32 (A_RLookup x).1 (A_RLookup x).2 (R_RLookup z) := by
  refine SC.of hW5 hX5 ca0_sound lo0_sound ((r_RLookup x).trans ?_)
  rw [n_RLookup, h]; rfl
noncomputable def RLookup (q : Nat) (x : a_RLookup) : Option g_RLookup := t_RLookup x some
theorem sc_RLookup (q : Nat) : ∀ (x : a_RLookup) (z : g_RLookup), RLookup q x = some z → SC E5 32 (A_RLookup x).1 (A_RLookup x).2 (R_RLookup z) := fun x z h => s_RLookup q x z h
abbrev a_rliteral : Type := Int × Int × ByteArray × Nat × (Nat → List V)
abbrev g_rliteral : Type := Int × Int × Int × Int × Int × Int
def A_rliteral : a_rliteral → List V × List (Option Chunk) := (fun x => (fun (nk : Int) (nn : Int) (ns : ByteArray) (nm : Nat) (nf : Nat → List V) => (([.agg [i64 nk, i64 nn, st ns, .ro 4 nm nf]] : List V), ([] : List (Option Chunk)))) x.1 x.2.1 x.2.2.1 x.2.2.2.1 x.2.2.2.2)
def d_rliteral (t : List V × List (Option Chunk)) : a_rliteral := ((vI ((vAg (t.1.getD 0 .junk)).getD 0 .junk)), (vI ((vAg (t.1.getD 0 .junk)).getD 1 .junk)), (vS ((vAg (t.1.getD 0 .junk)).getD 2 .junk)), (vRoN ((vAg (t.1.getD 0 .junk)).getD 3 .junk)), (vRoF ((vAg (t.1.getD 0 .junk)).getD 3 .junk)))
theorem i_rliteral : ∀ x y, A_rliteral x = A_rliteral y → x = y := fun x y h => (congrArg d_rliteral h :)
def R_rliteral : g_rliteral → CRes := (fun z => (fun (d0 : Int) (d1 : Int) (d2 : Int) (d3 : Int) (d4 : Int) (e : Int) => .ret (.tup [.agg [i64 d0, i64 d1, i64 d2, i64 d3, i64 d4], i64 e]) []) z.1 z.2.1 z.2.2.1 z.2.2.2.1 z.2.2.2.2.1 z.2.2.2.2.2 : (Int × Int × Int × Int × Int × Int) → CRes)
def x_rliteral (z : g_rliteral) (k : CRes → Option Ans) : Option Ans := k (R_rliteral z)
theorem xe_rliteral : ∀ z k, x_rliteral z k = k (R_rliteral z) := fun z k => rfl
def t_rliteral {β : Type} (c_RLookup : a_RLookup → Option g_RLookup) (x : a_rliteral) (dn : g_rliteral → Option β) : Option β :=
 if (!ByteArray.toList (x.2.2.1) == ByteArray.toList { data := #[] }) = true then
  (c_RLookup (x.2.2.1)).bind fun z1 =>
   if (!z1.2.2.2.2.2.2) = true then
    dn (((0 : Int), (0 : Int), (0 : Int), (0 : Int), (0 : Int), (10 : Int)))
   else
    if decide (x.2.1 < (0 : Int)) = true then
     dn (((0 : Int), (0 : Int), (0 : Int), (0 : Int), (0 : Int), (5 : Int)))
    else
     if z1.2.2.2.2.2.1 = (0 : Int) then
      none
     else
      if decide (x.2.1 > w (Int.tdiv (2147483647 : Int) (z1.2.2.2.2.2.1))) = true then
       dn (((0 : Int), (0 : Int), (0 : Int), (0 : Int), (0 : Int), (5 : Int)))
      else
       dn ((z1.1, z1.2.1, z1.2.2.1, z1.2.2.2.1, z1.2.2.2.2.1, (0 : Int)))
 else
  if decide (x.2.1 < (0 : Int)) = true then
   dn (((0 : Int), (0 : Int), (0 : Int), (0 : Int), (0 : Int), (5 : Int)))
  else
   if decide (x.2.1 > (2147483647 : Int)) = true then
    dn (((0 : Int), (0 : Int), (0 : Int), (0 : Int), (0 : Int), (5 : Int)))
   else
    dn (((0 : Int), (0 : Int), (0 : Int), (0 : Int), (0 : Int), (0 : Int)))
theorem n_rliteral {β : Type} (c_RLookup : a_RLookup → Option g_RLookup) (x : a_rliteral) (dn : g_rliteral → Option β) : t_rliteral c_RLookup x dn = (t_rliteral c_RLookup x some).bind dn := by
  unfold t_rliteral
  repeat' first | exact free_none | refine free_bind (fun z => ?_) | refine free_ite ?_ ?_ | refine free_sum (fun z => ?_) (fun z => ?_) | rfl
theorem r_rliteral (c_RLookup : a_RLookup → Option g_RLookup) (x : a_rliteral) : callK E5 (ftab 32 (fun _ _ => true) A_RLookup x_RLookup c_RLookup ca0) lo0 76 (A_rliteral x).1 (A_rliteral x).2 K = t_rliteral (fun x => viaF A_RLookup c_RLookup (A_RLookup x)) x (fun z => some (.c (R_rliteral z))) := by kernel_rfl
theorem s_rliteral (c_RLookup : a_RLookup → Option g_RLookup) (h_RLookup : ∀ x z, c_RLookup x = some z → SC E5 32 (A_RLookup x).1 (A_RLookup x).2 (R_RLookup z)) (q : Nat) (x : a_rliteral) (z : g_rliteral) (h : t_rliteral c_RLookup x some = some z) : SC E5 76 (A_rliteral x).1 (A_rliteral x).2 (R_rliteral z) := by
  refine SC.of hW5 hX5 (ftab_cons h_RLookup xe_RLookup ca0_sound) lo0_sound ((r_rliteral c_RLookup x).trans ?_)
  rw [via_eq i_RLookup c_RLookup, n_rliteral, h]; rfl
noncomputable def rliteral (q : Nat) (x : a_rliteral) : Option g_rliteral := t_rliteral (RLookup q) x some
theorem sc_rliteral (q : Nat) : ∀ (x : a_rliteral) (z : g_rliteral), rliteral q x = some z → SC E5 76 (A_rliteral x).1 (A_rliteral x).2 (R_rliteral z) := fun x z h => s_rliteral (RLookup q) (sc_RLookup q) q x z h
abbrev a_RTimes : Type := Int × Int × Int × Int × Int × Int × Int × Int × Int × Int
abbrev g_RTimes : Type := Int × Int × Int × Int × Int
def A_RTimes : a_RTimes → List V × List (Option Chunk) := (fun x => (fun (d0 : Int) (d1 : Int) (d2 : Int) (d3 : Int) (d4 : Int) (f0 : Int) (f1 : Int) (f2 : Int) (f3 : Int) (f4 : Int) => (([.agg [i64 d0, i64 d1, i64 d2, i64 d3, i64 d4], .agg [i64 f0, i64 f1, i64 f2, i64 f3, i64 f4]] : List V), ([] : List (Option Chunk)))) x.1 x.2.1 x.2.2.1 x.2.2.2.1 x.2.2.2.2.1 x.2.2.2.2.2.1 x.2.2.2.2.2.2.1 x.2.2.2.2.2.2.2.1 x.2.2.2.2.2.2.2.2.1 x.2.2.2.2.2.2.2.2.2)
def d_RTimes (t : List V × List (Option Chunk)) : a_RTimes := ((vI ((vAg (t.1.getD 0 .junk)).getD 0 .junk)), (vI ((vAg (t.1.getD 0 .junk)).getD 1 .junk)), (vI ((vAg (t.1.getD 0 .junk)).getD 2 .junk)), (vI ((vAg (t.1.getD 0 .junk)).getD 3 .junk)), (vI ((vAg (t.1.getD 0 .junk)).getD 4 .junk)), (vI ((vAg (t.1.getD 1 .junk)).getD 0 .junk)), (vI ((vAg (t.1.getD 1 .junk)).getD 1 .junk)), (vI ((vAg (t.1.getD 1 .junk)).getD 2 .junk)), (vI ((vAg (t.1.getD 1 .junk)).getD 3 .junk)), (vI ((vAg (t.1.getD 1 .junk)).getD 4 .junk)))
theorem i_RTimes : ∀ x y, A_RTimes x = A_RTimes y → x = y := fun x y h => (congrArg d_RTimes h :)
def R_RTimes : g_RTimes → CRes := (fun z => (fun (d0 : Int) (d1 : Int) (d2 : Int) (d3 : Int) (d4 : Int) => .ret (.agg [i64 d0, i64 d1, i64 d2, i64 d3, i64 d4]) []) z.1 z.2.1 z.2.2.1 z.2.2.2.1 z.2.2.2.2 : (Int × Int × Int × Int × Int) → CRes)
def x_RTimes (z : g_RTimes) (k : CRes → Option Ans) : Option Ans := k (R_RTimes z)
theorem xe_RTimes : ∀ z k, x_RTimes z k = k (R_RTimes z) := fun z k => rfl
def t_RTimes {β : Type} (x : a_RTimes) (dn : g_RTimes → Option β) : Option β :=
 dn ((w (x.1 + x.2.2.2.2.2.1), w (x.2.1 + x.2.2.2.2.2.2.1), w (x.2.2.1 + x.2.2.2.2.2.2.2.1), w (x.2.2.2.1 + x.2.2.2.2.2.2.2.2.1), w (x.2.2.2.2.1 + x.2.2.2.2.2.2.2.2.2)))
theorem n_RTimes {β : Type} (x : a_RTimes) (dn : g_RTimes → Option β) : t_RTimes x dn = (t_RTimes x some).bind dn := by
  unfold t_RTimes
  repeat' first | exact free_none | refine free_bind (fun z => ?_) | refine free_ite ?_ ?_ | refine free_sum (fun z => ?_) (fun z => ?_) | rfl
theorem r_RTimes (x : a_RTimes) : callK E5 (callG E5 20) lo0 78 (A_RTimes x).1 (A_RTimes x).2 K = t_RTimes x (fun z => some (.c (R_RTimes z))) := by kernel_rfl
theorem s_RTimes (q : Nat) (x : a_RTimes) (z : g_RTimes) (h : t_RTimes x some = some z) : SC E5 78 (A_RTimes x).1 (A_RTimes x).2 (R_RTimes z) := by
  refine SC.of hW5 hX5 (sound_G hW5 hX5 20).1 lo0_sound ((r_RTimes x).trans ?_)
  rw [n_RTimes, h]; rfl
noncomputable def RTimes (q : Nat) (x : a_RTimes) : Option g_RTimes := t_RTimes x some
theorem sc_RTimes (q : Nat) : ∀ (x : a_RTimes) (z : g_RTimes), RTimes q x = some z → SC E5 78 (A_RTimes x).1 (A_RTimes x).2 (R_RTimes z) := fun x z h => s_RTimes q x z h
abbrev a_ROver : Type := Int × Int × Int × Int × Int × Int × Int × Int × Int × Int
abbrev g_ROver : Type := Int × Int × Int × Int × Int
def A_ROver : a_ROver → List V × List (Option Chunk) := (fun x => (fun (d0 : Int) (d1 : Int) (d2 : Int) (d3 : Int) (d4 : Int) (f0 : Int) (f1 : Int) (f2 : Int) (f3 : Int) (f4 : Int) => (([.agg [i64 d0, i64 d1, i64 d2, i64 d3, i64 d4], .agg [i64 f0, i64 f1, i64 f2, i64 f3, i64 f4]] : List V), ([] : List (Option Chunk)))) x.1 x.2.1 x.2.2.1 x.2.2.2.1 x.2.2.2.2.1 x.2.2.2.2.2.1 x.2.2.2.2.2.2.1 x.2.2.2.2.2.2.2.1 x.2.2.2.2.2.2.2.2.1 x.2.2.2.2.2.2.2.2.2)
def d_ROver (t : List V × List (Option Chunk)) : a_ROver := ((vI ((vAg (t.1.getD 0 .junk)).getD 0 .junk)), (vI ((vAg (t.1.getD 0 .junk)).getD 1 .junk)), (vI ((vAg (t.1.getD 0 .junk)).getD 2 .junk)), (vI ((vAg (t.1.getD 0 .junk)).getD 3 .junk)), (vI ((vAg (t.1.getD 0 .junk)).getD 4 .junk)), (vI ((vAg (t.1.getD 1 .junk)).getD 0 .junk)), (vI ((vAg (t.1.getD 1 .junk)).getD 1 .junk)), (vI ((vAg (t.1.getD 1 .junk)).getD 2 .junk)), (vI ((vAg (t.1.getD 1 .junk)).getD 3 .junk)), (vI ((vAg (t.1.getD 1 .junk)).getD 4 .junk)))
theorem i_ROver : ∀ x y, A_ROver x = A_ROver y → x = y := fun x y h => (congrArg d_ROver h :)
def R_ROver : g_ROver → CRes := (fun z => (fun (d0 : Int) (d1 : Int) (d2 : Int) (d3 : Int) (d4 : Int) => .ret (.agg [i64 d0, i64 d1, i64 d2, i64 d3, i64 d4]) []) z.1 z.2.1 z.2.2.1 z.2.2.2.1 z.2.2.2.2 : (Int × Int × Int × Int × Int) → CRes)
def x_ROver (z : g_ROver) (k : CRes → Option Ans) : Option Ans := k (R_ROver z)
theorem xe_ROver : ∀ z k, x_ROver z k = k (R_ROver z) := fun z k => rfl
def t_ROver {β : Type} (x : a_ROver) (dn : g_ROver → Option β) : Option β :=
 dn ((w (x.1 + w ((-1 : Int) * x.2.2.2.2.2.1)), w (x.2.1 + w ((-1 : Int) * x.2.2.2.2.2.2.1)), w (x.2.2.1 + w ((-1 : Int) * x.2.2.2.2.2.2.2.1)), w (x.2.2.2.1 + w ((-1 : Int) * x.2.2.2.2.2.2.2.2.1)), w (x.2.2.2.2.1 + w ((-1 : Int) * x.2.2.2.2.2.2.2.2.2))))
theorem n_ROver {β : Type} (x : a_ROver) (dn : g_ROver → Option β) : t_ROver x dn = (t_ROver x some).bind dn := by
  unfold t_ROver
  repeat' first | exact free_none | refine free_bind (fun z => ?_) | refine free_ite ?_ ?_ | refine free_sum (fun z => ?_) (fun z => ?_) | rfl
theorem r_ROver (x : a_ROver) : callK E5 (callG E5 20) lo0 79 (A_ROver x).1 (A_ROver x).2 K = t_ROver x (fun z => some (.c (R_ROver z))) := by kernel_rfl
theorem s_ROver (q : Nat) (x : a_ROver) (z : g_ROver) (h : t_ROver x some = some z) : SC E5 79 (A_ROver x).1 (A_ROver x).2 (R_ROver z) := by
  refine SC.of hW5 hX5 (sound_G hW5 hX5 20).1 lo0_sound ((r_ROver x).trans ?_)
  rw [n_ROver, h]; rfl
noncomputable def ROver (q : Nat) (x : a_ROver) : Option g_ROver := t_ROver x some
theorem sc_ROver (q : Nat) : ∀ (x : a_ROver) (z : g_ROver), ROver q x = some z → SC E5 79 (A_ROver x).1 (A_ROver x).2 (R_ROver z) := fun x z h => s_ROver q x z h
abbrev a_rbinary : Type := ByteArray × Bool × Bool × Int × Int × Int × Int × Int × Int × Int × Int × Int × Int
abbrev g_rbinary : Type := Bool × Int × Int × Int × Int × Int × Int
def A_rbinary : a_rbinary → List V × List (Option Chunk) := (fun x => (fun (s : ByteArray) (x : Bool) (y : Bool) (d0 : Int) (d1 : Int) (d2 : Int) (d3 : Int) (d4 : Int) (f0 : Int) (f1 : Int) (f2 : Int) (f3 : Int) (f4 : Int) => (([st s, bo x, bo y, .agg [i64 d0, i64 d1, i64 d2, i64 d3, i64 d4], .agg [i64 f0, i64 f1, i64 f2, i64 f3, i64 f4]] : List V), ([] : List (Option Chunk)))) x.1 x.2.1 x.2.2.1 x.2.2.2.1 x.2.2.2.2.1 x.2.2.2.2.2.1 x.2.2.2.2.2.2.1 x.2.2.2.2.2.2.2.1 x.2.2.2.2.2.2.2.2.1 x.2.2.2.2.2.2.2.2.2.1 x.2.2.2.2.2.2.2.2.2.2.1 x.2.2.2.2.2.2.2.2.2.2.2.1 x.2.2.2.2.2.2.2.2.2.2.2.2)
def d_rbinary (t : List V × List (Option Chunk)) : a_rbinary := ((vS (t.1.getD 0 .junk)), (vB (t.1.getD 1 .junk)), (vB (t.1.getD 2 .junk)), (vI ((vAg (t.1.getD 3 .junk)).getD 0 .junk)), (vI ((vAg (t.1.getD 3 .junk)).getD 1 .junk)), (vI ((vAg (t.1.getD 3 .junk)).getD 2 .junk)), (vI ((vAg (t.1.getD 3 .junk)).getD 3 .junk)), (vI ((vAg (t.1.getD 3 .junk)).getD 4 .junk)), (vI ((vAg (t.1.getD 4 .junk)).getD 0 .junk)), (vI ((vAg (t.1.getD 4 .junk)).getD 1 .junk)), (vI ((vAg (t.1.getD 4 .junk)).getD 2 .junk)), (vI ((vAg (t.1.getD 4 .junk)).getD 3 .junk)), (vI ((vAg (t.1.getD 4 .junk)).getD 4 .junk)))
theorem i_rbinary : ∀ x y, A_rbinary x = A_rbinary y → x = y := fun x y h => (congrArg d_rbinary h :)
def R_rbinary : g_rbinary → CRes := (fun z => (fun (b : Bool) (d0 : Int) (d1 : Int) (d2 : Int) (d3 : Int) (d4 : Int) (e : Int) => .ret (.tup [bo b, .agg [i64 d0, i64 d1, i64 d2, i64 d3, i64 d4], i64 e]) []) z.1 z.2.1 z.2.2.1 z.2.2.2.1 z.2.2.2.2.1 z.2.2.2.2.2.1 z.2.2.2.2.2.2 : (Bool × Int × Int × Int × Int × Int × Int) → CRes)
def x_rbinary (z : g_rbinary) (k : CRes → Option Ans) : Option Ans := k (R_rbinary z)
theorem xe_rbinary : ∀ z k, x_rbinary z k = k (R_rbinary z) := fun z k => rfl
def t_rbinary {β : Type} (c_Operator : a_Operator → Option g_Operator) (c_radm : a_radm → Option g_radm) (c_RTimes : a_RTimes → Option g_RTimes) (c_ROver : a_ROver → Option g_ROver) (x : a_rbinary) (dn : g_rbinary → Option β) : Option β :=
 (c_Operator (x.1)).bind fun z1 =>
  if (z1 == (1 : Int)) = true then
   if (!x.2.1) = true then
    dn ((false, (0 : Int), (0 : Int), (0 : Int), (0 : Int), (0 : Int), (12 : Int)))
   else
    if (!x.2.2.1) = true then
     dn ((false, (0 : Int), (0 : Int), (0 : Int), (0 : Int), (0 : Int), (12 : Int)))
    else
     if (z1 != (1 : Int)) = true then
      if x.2.1 = true then
       dn ((false, (0 : Int), (0 : Int), (0 : Int), (0 : Int), (0 : Int), (12 : Int)))
      else
       if x.2.2.1 = true then
        dn ((false, (0 : Int), (0 : Int), (0 : Int), (0 : Int), (0 : Int), (12 : Int)))
       else
        if (z1 == (1 : Int)) = true then
         dn ((true, (0 : Int), (0 : Int), (0 : Int), (0 : Int), (0 : Int), (0 : Int)))
        else
         if (z1 == (3 : Int)) = true then
          (c_RTimes (x.2.2.2)).bind fun z12 =>
           if (ByteArray.toList (x.1) == ByteArray.toList { data := #[(47 : UInt8)] }) = true then
            (c_ROver (x.2.2.2)).bind fun z23 =>
             (c_radm z23).bind fun z29 =>
              if (!z29) = true then
               dn ((false, (0 : Int), (0 : Int), (0 : Int), (0 : Int), (0 : Int), (5 : Int)))
              else
               dn ((false, z23.1, z23.2.1, z23.2.2.1, z23.2.2.2.1, z23.2.2.2.2, (0 : Int)))
           else
            (c_radm z12).bind fun z35 =>
             if (!z35) = true then
              dn ((false, (0 : Int), (0 : Int), (0 : Int), (0 : Int), (0 : Int), (5 : Int)))
             else
              dn ((false, z12.1, z12.2.1, z12.2.2.1, z12.2.2.2.1, z12.2.2.2.2, (0 : Int)))
         else
          if (if true = true then !(x.2.2.2.1 == x.2.2.2.2.2.2.2.2.1 && (x.2.2.2.2.1 == x.2.2.2.2.2.2.2.2.2.1 && (x.2.2.2.2.2.1 == x.2.2.2.2.2.2.2.2.2.2.1 && (x.2.2.2.2.2.2.1 == x.2.2.2.2.2.2.2.2.2.2.2.1 && (x.2.2.2.2.2.2.2.1 == x.2.2.2.2.2.2.2.2.2.2.2.2 && true))))) else x.2.2.2.1 == x.2.2.2.2.2.2.2.2.1 && (x.2.2.2.2.1 == x.2.2.2.2.2.2.2.2.2.1 && (x.2.2.2.2.2.1 == x.2.2.2.2.2.2.2.2.2.2.1 && (x.2.2.2.2.2.2.1 == x.2.2.2.2.2.2.2.2.2.2.2.1 && (x.2.2.2.2.2.2.2.1 == x.2.2.2.2.2.2.2.2.2.2.2.2 && true))))) = true then
           dn ((false, (0 : Int), (0 : Int), (0 : Int), (0 : Int), (0 : Int), (10 : Int)))
          else
           if (z1 == (4 : Int)) = true then
            dn ((true, (0 : Int), (0 : Int), (0 : Int), (0 : Int), (0 : Int), (0 : Int)))
           else
            dn ((false, x.2.2.2.1, x.2.2.2.2.1, x.2.2.2.2.2.1, x.2.2.2.2.2.2.1, x.2.2.2.2.2.2.2.1, (0 : Int)))
     else
      if (z1 == (1 : Int)) = true then
       dn ((true, (0 : Int), (0 : Int), (0 : Int), (0 : Int), (0 : Int), (0 : Int)))
      else
       if (z1 == (3 : Int)) = true then
        (c_RTimes (x.2.2.2)).bind fun z46 =>
         if (ByteArray.toList (x.1) == ByteArray.toList { data := #[(47 : UInt8)] }) = true then
          (c_ROver (x.2.2.2)).bind fun z57 =>
           (c_radm z57).bind fun z63 =>
            if (!z63) = true then
             dn ((false, (0 : Int), (0 : Int), (0 : Int), (0 : Int), (0 : Int), (5 : Int)))
            else
             dn ((false, z57.1, z57.2.1, z57.2.2.1, z57.2.2.2.1, z57.2.2.2.2, (0 : Int)))
         else
          (c_radm z46).bind fun z69 =>
           if (!z69) = true then
            dn ((false, (0 : Int), (0 : Int), (0 : Int), (0 : Int), (0 : Int), (5 : Int)))
           else
            dn ((false, z46.1, z46.2.1, z46.2.2.1, z46.2.2.2.1, z46.2.2.2.2, (0 : Int)))
       else
        if (if true = true then !(x.2.2.2.1 == x.2.2.2.2.2.2.2.2.1 && (x.2.2.2.2.1 == x.2.2.2.2.2.2.2.2.2.1 && (x.2.2.2.2.2.1 == x.2.2.2.2.2.2.2.2.2.2.1 && (x.2.2.2.2.2.2.1 == x.2.2.2.2.2.2.2.2.2.2.2.1 && (x.2.2.2.2.2.2.2.1 == x.2.2.2.2.2.2.2.2.2.2.2.2 && true))))) else x.2.2.2.1 == x.2.2.2.2.2.2.2.2.1 && (x.2.2.2.2.1 == x.2.2.2.2.2.2.2.2.2.1 && (x.2.2.2.2.2.1 == x.2.2.2.2.2.2.2.2.2.2.1 && (x.2.2.2.2.2.2.1 == x.2.2.2.2.2.2.2.2.2.2.2.1 && (x.2.2.2.2.2.2.2.1 == x.2.2.2.2.2.2.2.2.2.2.2.2 && true))))) = true then
         dn ((false, (0 : Int), (0 : Int), (0 : Int), (0 : Int), (0 : Int), (10 : Int)))
        else
         if (z1 == (4 : Int)) = true then
          dn ((true, (0 : Int), (0 : Int), (0 : Int), (0 : Int), (0 : Int), (0 : Int)))
         else
          dn ((false, x.2.2.2.1, x.2.2.2.2.1, x.2.2.2.2.2.1, x.2.2.2.2.2.2.1, x.2.2.2.2.2.2.2.1, (0 : Int)))
  else
   if (z1 != (1 : Int)) = true then
    if x.2.1 = true then
     dn ((false, (0 : Int), (0 : Int), (0 : Int), (0 : Int), (0 : Int), (12 : Int)))
    else
     if x.2.2.1 = true then
      dn ((false, (0 : Int), (0 : Int), (0 : Int), (0 : Int), (0 : Int), (12 : Int)))
     else
      if (z1 == (1 : Int)) = true then
       dn ((true, (0 : Int), (0 : Int), (0 : Int), (0 : Int), (0 : Int), (0 : Int)))
      else
       if (z1 == (3 : Int)) = true then
        (c_RTimes (x.2.2.2)).bind fun z80 =>
         if (ByteArray.toList (x.1) == ByteArray.toList { data := #[(47 : UInt8)] }) = true then
          (c_ROver (x.2.2.2)).bind fun z91 =>
           (c_radm z91).bind fun z97 =>
            if (!z97) = true then
             dn ((false, (0 : Int), (0 : Int), (0 : Int), (0 : Int), (0 : Int), (5 : Int)))
            else
             dn ((false, z91.1, z91.2.1, z91.2.2.1, z91.2.2.2.1, z91.2.2.2.2, (0 : Int)))
         else
          (c_radm z80).bind fun z103 =>
           if (!z103) = true then
            dn ((false, (0 : Int), (0 : Int), (0 : Int), (0 : Int), (0 : Int), (5 : Int)))
           else
            dn ((false, z80.1, z80.2.1, z80.2.2.1, z80.2.2.2.1, z80.2.2.2.2, (0 : Int)))
       else
        if (if true = true then !(x.2.2.2.1 == x.2.2.2.2.2.2.2.2.1 && (x.2.2.2.2.1 == x.2.2.2.2.2.2.2.2.2.1 && (x.2.2.2.2.2.1 == x.2.2.2.2.2.2.2.2.2.2.1 && (x.2.2.2.2.2.2.1 == x.2.2.2.2.2.2.2.2.2.2.2.1 && (x.2.2.2.2.2.2.2.1 == x.2.2.2.2.2.2.2.2.2.2.2.2 && true))))) else x.2.2.2.1 == x.2.2.2.2.2.2.2.2.1 && (x.2.2.2.2.1 == x.2.2.2.2.2.2.2.2.2.1 && (x.2.2.2.2.2.1 == x.2.2.2.2.2.2.2.2.2.2.1 && (x.2.2.2.2.2.2.1 == x.2.2.2.2.2.2.2.2.2.2.2.1 && (x.2.2.2.2.2.2.2.1 == x.2.2.2.2.2.2.2.2.2.2.2.2 && true))))) = true then
         dn ((false, (0 : Int), (0 : Int), (0 : Int), (0 : Int), (0 : Int), (10 : Int)))
        else
         if (z1 == (4 : Int)) = true then
          dn ((true, (0 : Int), (0 : Int), (0 : Int), (0 : Int), (0 : Int), (0 : Int)))
         else
          dn ((false, x.2.2.2.1, x.2.2.2.2.1, x.2.2.2.2.2.1, x.2.2.2.2.2.2.1, x.2.2.2.2.2.2.2.1, (0 : Int)))
   else
    if (z1 == (1 : Int)) = true then
     dn ((true, (0 : Int), (0 : Int), (0 : Int), (0 : Int), (0 : Int), (0 : Int)))
    else
     if (z1 == (3 : Int)) = true then
      (c_RTimes (x.2.2.2)).bind fun z114 =>
       if (ByteArray.toList (x.1) == ByteArray.toList { data := #[(47 : UInt8)] }) = true then
        (c_ROver (x.2.2.2)).bind fun z125 =>
         (c_radm z125).bind fun z131 =>
          if (!z131) = true then
           dn ((false, (0 : Int), (0 : Int), (0 : Int), (0 : Int), (0 : Int), (5 : Int)))
          else
           dn ((false, z125.1, z125.2.1, z125.2.2.1, z125.2.2.2.1, z125.2.2.2.2, (0 : Int)))
       else
        (c_radm z114).bind fun z137 =>
         if (!z137) = true then
          dn ((false, (0 : Int), (0 : Int), (0 : Int), (0 : Int), (0 : Int), (5 : Int)))
         else
          dn ((false, z114.1, z114.2.1, z114.2.2.1, z114.2.2.2.1, z114.2.2.2.2, (0 : Int)))
     else
      if (if true = true then !(x.2.2.2.1 == x.2.2.2.2.2.2.2.2.1 && (x.2.2.2.2.1 == x.2.2.2.2.2.2.2.2.2.1 && (x.2.2.2.2.2.1 == x.2.2.2.2.2.2.2.2.2.2.1 && (x.2.2.2.2.2.2.1 == x.2.2.2.2.2.2.2.2.2.2.2.1 && (x.2.2.2.2.2.2.2.1 == x.2.2.2.2.2.2.2.2.2.2.2.2 && true))))) else x.2.2.2.1 == x.2.2.2.2.2.2.2.2.1 && (x.2.2.2.2.1 == x.2.2.2.2.2.2.2.2.2.1 && (x.2.2.2.2.2.1 == x.2.2.2.2.2.2.2.2.2.2.1 && (x.2.2.2.2.2.2.1 == x.2.2.2.2.2.2.2.2.2.2.2.1 && (x.2.2.2.2.2.2.2.1 == x.2.2.2.2.2.2.2.2.2.2.2.2 && true))))) = true then
       dn ((false, (0 : Int), (0 : Int), (0 : Int), (0 : Int), (0 : Int), (10 : Int)))
      else
       if (z1 == (4 : Int)) = true then
        dn ((true, (0 : Int), (0 : Int), (0 : Int), (0 : Int), (0 : Int), (0 : Int)))
       else
        dn ((false, x.2.2.2.1, x.2.2.2.2.1, x.2.2.2.2.2.1, x.2.2.2.2.2.2.1, x.2.2.2.2.2.2.2.1, (0 : Int)))
theorem n_rbinary {β : Type} (c_Operator : a_Operator → Option g_Operator) (c_radm : a_radm → Option g_radm) (c_RTimes : a_RTimes → Option g_RTimes) (c_ROver : a_ROver → Option g_ROver) (x : a_rbinary) (dn : g_rbinary → Option β) : t_rbinary c_Operator c_radm c_RTimes c_ROver x dn = (t_rbinary c_Operator c_radm c_RTimes c_ROver x some).bind dn := by
  unfold t_rbinary
  repeat' first | exact free_none | refine free_bind (fun z => ?_) | refine free_ite ?_ ?_ | refine free_sum (fun z => ?_) (fun z => ?_) | rfl
theorem r_rbinary (c_Operator : a_Operator → Option g_Operator) (c_radm : a_radm → Option g_radm) (c_RTimes : a_RTimes → Option g_RTimes) (c_ROver : a_ROver → Option g_ROver) (x : a_rbinary) : callK E5 (ftab 75 (fun _ _ => true) A_Operator x_Operator c_Operator (ftab 80 (fun _ _ => true) A_radm x_radm c_radm (ftab 78 (fun _ _ => true) A_RTimes x_RTimes c_RTimes (ftab 79 (fun _ _ => true) A_ROver x_ROver c_ROver ca0)))) lo0 67 (A_rbinary x).1 (A_rbinary x).2 K = t_rbinary (fun x => viaF A_Operator c_Operator (A_Operator x)) (fun x => viaF A_radm c_radm (A_radm x)) (fun x => viaF A_RTimes c_RTimes (A_RTimes x)) (fun x => viaF A_ROver c_ROver (A_ROver x)) x (fun z => some (.c (R_rbinary z))) := by kernel_rfl
theorem s_rbinary (c_Operator : a_Operator → Option g_Operator) (h_Operator : ∀ x z, c_Operator x = some z → SC E5 75 (A_Operator x).1 (A_Operator x).2 (R_Operator z)) (c_radm : a_radm → Option g_radm) (h_radm : ∀ x z, c_radm x = some z → SC E5 80 (A_radm x).1 (A_radm x).2 (R_radm z)) (c_RTimes : a_RTimes → Option g_RTimes) (h_RTimes : ∀ x z, c_RTimes x = some z → SC E5 78 (A_RTimes x).1 (A_RTimes x).2 (R_RTimes z)) (c_ROver : a_ROver → Option g_ROver) (h_ROver : ∀ x z, c_ROver x = some z → SC E5 79 (A_ROver x).1 (A_ROver x).2 (R_ROver z)) (q : Nat) (x : a_rbinary) (z : g_rbinary) (h : t_rbinary c_Operator c_radm c_RTimes c_ROver x some = some z) : SC E5 67 (A_rbinary x).1 (A_rbinary x).2 (R_rbinary z) := by
  refine SC.of hW5 hX5 (ftab_cons h_Operator xe_Operator (ftab_cons h_radm xe_radm (ftab_cons h_RTimes xe_RTimes (ftab_cons h_ROver xe_ROver ca0_sound)))) lo0_sound ((r_rbinary c_Operator c_radm c_RTimes c_ROver x).trans ?_)
  rw [via_eq i_Operator c_Operator, via_eq i_radm c_radm, via_eq i_RTimes c_RTimes, via_eq i_ROver c_ROver, n_rbinary, h]; rfl
noncomputable def rbinary (q : Nat) (x : a_rbinary) : Option g_rbinary := t_rbinary (Operator q) (radm q) (RTimes q) (ROver q) x some
theorem sc_rbinary (q : Nat) : ∀ (x : a_rbinary) (z : g_rbinary), rbinary q x = some z → SC E5 67 (A_rbinary x).1 (A_rbinary x).2 (R_rbinary z) := fun x z h => s_rbinary (Operator q) (sc_Operator q) (radm q) (sc_radm q) (RTimes q) (sc_RTimes q) (ROver q) (sc_ROver q) q x z h
abbrev a_RTele : Type := ByteArray
abbrev g_RTele : Type := Int × Int × Int × Int × Int × Int × Bool
def A_RTele : a_RTele → List V × List (Option Chunk) := (fun x => (fun (s : ByteArray) => (([st s] : List V), ([] : List (Option Chunk)))) x)
def d_RTele (t : List V × List (Option Chunk)) : a_RTele := ((vS (t.1.getD 0 .junk)))
theorem i_RTele : ∀ x y, A_RTele x = A_RTele y → x = y := fun x y h => (congrArg d_RTele h :)
def R_RTele : g_RTele → CRes := (fun z => (fun (k : Int) (d0 : Int) (d1 : Int) (d2 : Int) (d3 : Int) (d4 : Int) (b : Bool) => .ret (.tup [i64 k, .agg [i64 d0, i64 d1, i64 d2, i64 d3, i64 d4], bo b]) []) z.1 z.2.1 z.2.2.1 z.2.2.2.1 z.2.2.2.2.1 z.2.2.2.2.2.1 z.2.2.2.2.2.2 : (Int × Int × Int × Int × Int × Int × Bool) → CRes)
def x_RTele (z : g_RTele) (k : CRes → Option Ans) : Option Ans := k (R_RTele z)
theorem xe_RTele : ∀ z k, x_RTele z k = k (R_RTele z) := fun z k => rfl
def t_RTele {β : Type} (x : a_RTele) (dn : g_RTele → Option β) : Option β :=
 if (ByteArray.toList x == ByteArray.toList { data := #[(98 : UInt8), (97 : UInt8), (116 : UInt8), (116 : UInt8), (101 : UInt8), (114 : UInt8), (121 : UInt8)] }) = true then
  dn (((0 : Int), (1 : Int), (0 : Int), (0 : Int), (0 : Int), (0 : Int), true))
 else
  if (ByteArray.toList x == ByteArray.toList { data := #[(104 : UInt8), (101 : UInt8), (97 : UInt8), (116 : UInt8)] }) = true then
   dn (((1 : Int), (0 : Int), (0 : Int), (0 : Int), (0 : Int), (1 : Int), true))
  else
   if (ByteArray.toList x == ByteArray.toList { data := #[(97 : UInt8), (110 : UInt8), (103 : UInt8), (108 : UInt8), (101 : UInt8)] }) = true then
    dn (((2 : Int), (0 : Int), (0 : Int), (0 : Int), (1 : Int), (0 : Int), true))
   else
    if (ByteArray.toList x == ByteArray.toList { data := #[(110 : UInt8), (111 : UInt8), (119 : UInt8)] }) = true then
     dn (((3 : Int), (0 : Int), (0 : Int), (1 : Int), (0 : Int), (0 : Int), true))
    else
     if (ByteArray.toList x == ByteArray.toList { data := #[(109 : UInt8), (111 : UInt8), (100 : UInt8), (101 : UInt8)] }) = true then
      dn (((4 : Int), (0 : Int), (0 : Int), (0 : Int), (0 : Int), (0 : Int), true))
     else
      if (ByteArray.toList x == ByteArray.toList { data := #[(102 : UInt8), (114 : UInt8), (101 : UInt8), (101 : UInt8)] }) = true then
       dn (((5 : Int), (0 : Int), (1 : Int), (0 : Int), (0 : Int), (0 : Int), true))
      else
       dn (((0 : Int), (0 : Int), (0 : Int), (0 : Int), (0 : Int), (0 : Int), false))
theorem n_RTele {β : Type} (x : a_RTele) (dn : g_RTele → Option β) : t_RTele x dn = (t_RTele x some).bind dn := by
  unfold t_RTele
  repeat' first | exact free_none | refine free_bind (fun z => ?_) | refine free_ite ?_ ?_ | refine free_sum (fun z => ?_) (fun z => ?_) | rfl
theorem r_RTele (x : a_RTele) : callK E5 ca0 lo0 77 (A_RTele x).1 (A_RTele x).2 K = t_RTele x (fun z => some (.c (R_RTele z))) := by kernel_rfl
theorem s_RTele (q : Nat) (x : a_RTele) (z : g_RTele) (h : t_RTele x some = some z) : SC E5 77 (A_RTele x).1 (A_RTele x).2 (R_RTele z) := by
  refine SC.of hW5 hX5 ca0_sound lo0_sound ((r_RTele x).trans ?_)
  rw [n_RTele, h]; rfl
noncomputable def RTele (q : Nat) (x : a_RTele) : Option g_RTele := t_RTele x some
theorem sc_RTele (q : Nat) : ∀ (x : a_RTele) (z : g_RTele), RTele q x = some z → SC E5 77 (A_RTele x).1 (A_RTele x).2 (R_RTele z) := fun x z h => s_RTele q x z h
end Go.Proofs.YtniogljhkjbcgaaGreatDoor
/- Types: trees, lifted. -/
namespace Go.Proofs.YtniogljhkjbcgaaGreatDoor
open Go Go.Am Go.Proofs
set_option linter.unusedSimpArgs false
set_option linter.unusedVariables false
set_option maxRecDepth 100000
def opK (f : Nat → List V) (j : Nat) : Int := vI ((f j).getD 0 .junk)
def opN (f : Nat → List V) (j : Nat) : Int := vI ((f j).getD 1 .junk)
def opS (f : Nat → List V) (j : Nat) : ByteArray := vS ((f j).getD 2 .junk)
def opM (f : Nat → List V) (j : Nat) : Nat := vRoN ((f j).getD 3 .junk)
def opF (f : Nat → List V) (j : Nat) : Nat → List V := vRoF ((f j).getD 3 .junk)
/-- The cells of the kids are those of nodes. -/
def OpenN (f : Nat → List V) : Prop := ∀ j, f j = [i64 (opK f j), i64 (opN f j), st (opS f j), .ro 4 (opM f j) (opF f j)]
theorem open_eq {f : Nat → List V} (h : OpenN f) : (fun j => [i64 (opK f j), i64 (opN f j), st (opS f j), .ro 4 (opM f j) (opF f j)]) = f := funext fun j => (h j).symm
def jk (n : Nat) : List V := List.replicate n .junk
def fstNil : List V → Bool | .sc (.slice none 0 0) :: _ => true | _ => false
abbrev a_Find : Type := Nat × (Nat → ByteArray) × (Nat → Int) × (Nat → Int) × (Nat → Int) × (Nat → Int) × (Nat → Int) × ByteArray
abbrev g_Find : Type := Int
def A_Find : a_Find → List V × List (Option Chunk) := (fun x => (fun (vn : Nat) (vs : Nat → ByteArray) (v0 : Nat → Int) (v1 : Nat → Int) (v2 : Nat → Int) (v3 : Nat → Int) (v4 : Nat → Int) (s : ByteArray) => (([.ro 6 vn (fun j => [st (vs j), i64 (v0 j), i64 (v1 j), i64 (v2 j), i64 (v3 j), i64 (v4 j)]), st s] : List V), ([] : List (Option Chunk)))) x.1 x.2.1 x.2.2.1 x.2.2.2.1 x.2.2.2.2.1 x.2.2.2.2.2.1 x.2.2.2.2.2.2.1 x.2.2.2.2.2.2.2)
def d_Find (t : List V × List (Option Chunk)) : a_Find := ((vRoN (t.1.getD 0 .junk)), (fun j => (vS (((vRoF (t.1.getD 0 .junk)) j).getD 0 .junk))), (fun j => (vI (((vRoF (t.1.getD 0 .junk)) j).getD 1 .junk))), (fun j => (vI (((vRoF (t.1.getD 0 .junk)) j).getD 2 .junk))), (fun j => (vI (((vRoF (t.1.getD 0 .junk)) j).getD 3 .junk))), (fun j => (vI (((vRoF (t.1.getD 0 .junk)) j).getD 4 .junk))), (fun j => (vI (((vRoF (t.1.getD 0 .junk)) j).getD 5 .junk))), (vS (t.1.getD 1 .junk)))
theorem i_Find : ∀ x y, A_Find x = A_Find y → x = y := fun x y h => (congrArg d_Find h :)
def R_Find : g_Find → CRes := (fun z => (fun (k : Int) => .ret (i64 k) []) z : (Int) → CRes)
def x_Find (z : g_Find) (k : CRes → Option Ans) : Option Ans := k (R_Find z)
theorem xe_Find : ∀ z k, x_Find z k = k (R_Find z) := fun z k => rfl
abbrev Find_l0_a : Type := Int
abbrev Find_l0_g : Type := (Int) ⊕ (Unit)
def Find_l0_S (x : a_Find) (y : Find_l0_a) : St := { fr := [V.ro 6 (x.1) fun (j : Nat) => [st (x.2.1 j), i64 (x.2.2.1 j), i64 (x.2.2.2.1 j), i64 (x.2.2.2.2.1 j), i64 (x.2.2.2.2.2.1 j), i64 (x.2.2.2.2.2.2.1 j)], st (x.2.2.2.2.2.2.2), V.junk, V.junk, V.junk, i64 y] ++ jk 14, H := hp [], nx := 0, rt := 0, me := 49 }
def Find_l0_d (s : St) : Find_l0_a := ((vI (s.fr.getD 5 .junk)))
theorem Find_l0_i (x : a_Find) : ∀ y y', Find_l0_S x y = Find_l0_S x y' → y = y' := fun y y' h => (congrArg Find_l0_d h :)
def Find_l0_T (x : a_Find) : Find_l0_g → Ex × St := (Sum.elim (fun z => (Ex.ret, { fr := jk 4 ++ [i64 z] ++ jk 15, H := hp [], nx := 0, rt := 0, me := 49 })) (fun z => (Ex.exit 0, { fr := [V.junk] ++ jk 19, H := hp [], nx := 0, rt := 0, me := 49 })))
def Find_l0_x (x : a_Find) (z : Find_l0_g) (k : KX) : Option Ans := Sum.elim (fun za => k (Find_l0_T x (.inl za)).1 (Find_l0_T x (.inl za)).2) (fun zb => k (Find_l0_T x (.inr zb)).1 (Find_l0_T x (.inr zb)).2) z
theorem Find_l0_xe (x : a_Find) : ∀ z k, Find_l0_x x z k = k (Find_l0_T x z).1 (Find_l0_T x z).2 := fun z k => by
  rcases z with z | z <;> rfl
theorem Find_l0_k0 (x : a_Find) (z : Int) : KCM [(0, 0)] 16 (Find_l0_T x (.inl z)).1 (Find_l0_T x (.inl z)).2 = some (.l (Find_l0_T x (.inl z)).1 (Find_l0_T x (.inl z)).2) := by kernel_rfl
theorem Find_l0_k1 (x : a_Find) (z : Unit) : KCM [(0, 0)] 16 (Find_l0_T x (.inr z)).1 (Find_l0_T x (.inr z)).2 = some (.l (Find_l0_T x (.inr z)).1 (Find_l0_T x (.inr z)).2) := by kernel_rfl
def Find_l0_t {β : Type} (x : a_Find) (y : Find_l0_a) (nx : Find_l0_a → Option β) (dn : Find_l0_g → Option β) : Option β :=
 if decide (y < ((x.1 : Nat) : Int)) = true then
  if (0 : Int) ≤ y ∧ y < ((x.1 : Nat) : Int) then
   if (ByteArray.toList (x.2.1 (Int.toNat y)) == ByteArray.toList (x.2.2.2.2.2.2.2)) = true then
    dn (.inl y)
   else
    nx (w (y + (1 : Int)))
  else
   none
 else
  dn (.inr ())
theorem Find_l0_n {β : Type} (x : a_Find) (y : Find_l0_a) (nx : Find_l0_a → Option β) (dn : Find_l0_g → Option β) : Find_l0_t x y nx dn = (Find_l0_t x y (fun y => some (.inl y)) (fun z => some (.inr z))).bind fun r => Sum.elim nx dn r := by
  unfold Find_l0_t
  repeat' first | exact free_none | refine free_bind (fun z => ?_) | refine free_ite ?_ ?_ | refine free_sum (fun z => ?_) (fun z => ?_) | rfl
theorem Find_l0_r (x : a_Find) (y : Find_l0_a) (lo : LoopT) : loopK E5 ca0 lo 0 35 (bodyOf E5 49 0) (Find_l0_S x y) (KCM [(0, 0)] 16) = Find_l0_t x y (fun y => lo 0 35 (bodyOf E5 49 0) (Find_l0_S x y) (KCM [(0, 0)] 16)) (fun z => some (.l (Find_l0_T x z).1 (Find_l0_T x z).2)) := by kernel_rfl
noncomputable def Find_l0 (q : Nat) (x : a_Find) : Find_l0_a → Option Find_l0_g := lpG (fun y => Find_l0_t x y (fun y => some (.inl y)) (fun z => some (.inr z))) q
theorem Find_l0_s (q : Nat) (x : a_Find) : ∀ y z, Find_l0 q x y = some z → SL E5 (bodyOf E5 49 0) (Find_l0_S x y) (Find_l0_T x z).1 (Find_l0_T x z).2 :=
  SL.lp (LT := fun lo => lo) (T := Find_l0_T x) (S := Find_l0_S x) ca0_sound hX5 (fun lo h => h) (fun lo y => (Find_l0_r x y lo).trans (by exact Find_l0_n  _ _ _ _)) (fun z => by rcases z with z | z <;> first | exact Find_l0_k0 x z | exact Find_l0_k1 x z) q
def t_Find {β : Type} (l_Find_l0 : Find_l0_a → Option Find_l0_g) (x : a_Find) (dn : g_Find → Option β) : Option β :=
 (l_Find_l0 ((0 : Int))).bind fun z4 =>
  Sum.elim (fun z4a =>
  dn z4a) (fun z4b =>
  dn ((-1 : Int))) z4
theorem n_Find {β : Type} (l_Find_l0 : Find_l0_a → Option Find_l0_g) (x : a_Find) (dn : g_Find → Option β) : t_Find l_Find_l0 x dn = (t_Find l_Find_l0 x some).bind dn := by
  unfold t_Find
  repeat' first | exact free_none | refine free_bind (fun z => ?_) | refine free_ite ?_ ?_ | refine free_sum (fun z => ?_) (fun z => ?_) | rfl
theorem r_Find (l_Find_l0 : Find_l0_a → Option Find_l0_g) (x : a_Find) : callK E5 ca0 (ltabF 0 (fun _ => true) (bodyOf E5 49 0) (Find_l0_S x) (Find_l0_x x) l_Find_l0 lo0) 49 (A_Find x).1 (A_Find x).2 K = t_Find (fun y => viaF (fun y => (bodyOf E5 49 0, Find_l0_S x y)) l_Find_l0 (bodyOf E5 49 0, Find_l0_S x y)) x (fun z => some (.c (R_Find z))) := by kernel_rfl
theorem s_Find (q : Nat) (x : a_Find) (z : g_Find) (h : t_Find (Find_l0 q x) x some = some z) : SC E5 49 (A_Find x).1 (A_Find x).2 (R_Find z) := by
  refine SC.of hW5 hX5 ca0_sound (ltabF_cons (Find_l0_s q x) (Find_l0_xe x) lo0_sound) ((r_Find (Find_l0 q x) x).trans ?_)
  rw [via_eq (pair_inj (bodyOf E5 49 0) (Find_l0_i x)) (Find_l0 q x), n_Find, h]; rfl
noncomputable def Find (q : Nat) (x : a_Find) : Option g_Find := t_Find (Find_l0 q x) x some
theorem sc_Find (q : Nat) : ∀ (x : a_Find) (z : g_Find), Find q x = some z → SC E5 49 (A_Find x).1 (A_Find x).2 (R_Find z) := fun x z h => s_Find q x z h
abbrev a_FindZ : Type := ByteArray
abbrev g_FindZ : Type := Int
def A_FindZ : a_FindZ → List V × List (Option Chunk) := (fun x => (fun (s : ByteArray) => (([nilS, st s] : List V), ([] : List (Option Chunk)))) x)
def d_FindZ (t : List V × List (Option Chunk)) : a_FindZ := ((vS (t.1.getD 1 .junk)))
theorem i_FindZ : ∀ x y, A_FindZ x = A_FindZ y → x = y := fun x y h => (congrArg d_FindZ h :)
def R_FindZ : g_FindZ → CRes := (fun z => (fun (k : Int) => .ret (i64 k) []) z : (Int) → CRes)
def x_FindZ (z : g_FindZ) (k : CRes → Option Ans) : Option Ans := k (R_FindZ z)
theorem xe_FindZ : ∀ z k, x_FindZ z k = k (R_FindZ z) := fun z k => rfl
abbrev FindZ_l0_a : Type := Unit
abbrev FindZ_l0_g : Type := Unit
def FindZ_l0_S (x : a_FindZ) (y : FindZ_l0_a) : St := { fr := [nilS, st x, V.junk, V.junk, V.junk, i64 (0 : Int)] ++ jk 14, H := hp [], nx := 0, rt := 0, me := 49 }
def FindZ_l0_d (s : St) : FindZ_l0_a := ()
theorem FindZ_l0_i (x : a_FindZ) : ∀ y y', FindZ_l0_S x y = FindZ_l0_S x y' → y = y' := fun y y' h => (congrArg FindZ_l0_d h :)
def FindZ_l0_T (x : a_FindZ) : FindZ_l0_g → Ex × St := (fun z => (Ex.exit 0, { fr := [V.junk] ++ jk 19, H := hp [], nx := 0, rt := 0, me := 49 }))
def FindZ_l0_x (x : a_FindZ) (z : FindZ_l0_g) (k : KX) : Option Ans := k (FindZ_l0_T x z).1 (FindZ_l0_T x z).2
theorem FindZ_l0_xe (x : a_FindZ) : ∀ z k, FindZ_l0_x x z k = k (FindZ_l0_T x z).1 (FindZ_l0_T x z).2 := fun z k => rfl
theorem FindZ_l0_k0 (x : a_FindZ) (z : Unit) : KCM [(0, 0)] 16 (FindZ_l0_T x z).1 (FindZ_l0_T x z).2 = some (.l (FindZ_l0_T x z).1 (FindZ_l0_T x z).2) := by kernel_rfl
def FindZ_l0_t {β : Type} (x : a_FindZ) (y : FindZ_l0_a) (nx : FindZ_l0_a → Option β) (dn : FindZ_l0_g → Option β) : Option β :=
 dn ()
theorem FindZ_l0_n {β : Type} (x : a_FindZ) (y : FindZ_l0_a) (nx : FindZ_l0_a → Option β) (dn : FindZ_l0_g → Option β) : FindZ_l0_t x y nx dn = (FindZ_l0_t x y (fun y => some (.inl y)) (fun z => some (.inr z))).bind fun r => Sum.elim nx dn r := by
  unfold FindZ_l0_t
  repeat' first | exact free_none | refine free_bind (fun z => ?_) | refine free_ite ?_ ?_ | refine free_sum (fun z => ?_) (fun z => ?_) | rfl
theorem FindZ_l0_r (x : a_FindZ) (y : FindZ_l0_a) (lo : LoopT) : loopK E5 ca0 lo 0 35 (bodyOf E5 49 0) (FindZ_l0_S x y) (KCM [(0, 0)] 16) = FindZ_l0_t x y (fun y => lo 0 35 (bodyOf E5 49 0) (FindZ_l0_S x y) (KCM [(0, 0)] 16)) (fun z => some (.l (FindZ_l0_T x z).1 (FindZ_l0_T x z).2)) := by kernel_rfl
noncomputable def FindZ_l0 (q : Nat) (x : a_FindZ) : FindZ_l0_a → Option FindZ_l0_g := lpG (fun y => FindZ_l0_t x y (fun y => some (.inl y)) (fun z => some (.inr z))) q
theorem FindZ_l0_s (q : Nat) (x : a_FindZ) : ∀ y z, FindZ_l0 q x y = some z → SL E5 (bodyOf E5 49 0) (FindZ_l0_S x y) (FindZ_l0_T x z).1 (FindZ_l0_T x z).2 :=
  SL.lp (LT := fun lo => lo) (T := FindZ_l0_T x) (S := FindZ_l0_S x) ca0_sound hX5 (fun lo h => h) (fun lo y => (FindZ_l0_r x y lo).trans (by exact FindZ_l0_n  _ _ _ _)) (FindZ_l0_k0 x) q
def t_FindZ {β : Type} (l_FindZ_l0 : FindZ_l0_a → Option FindZ_l0_g) (x : a_FindZ) (dn : g_FindZ → Option β) : Option β :=
 (l_FindZ_l0 ()).bind fun z0 =>
  dn ((-1 : Int))
theorem n_FindZ {β : Type} (l_FindZ_l0 : FindZ_l0_a → Option FindZ_l0_g) (x : a_FindZ) (dn : g_FindZ → Option β) : t_FindZ l_FindZ_l0 x dn = (t_FindZ l_FindZ_l0 x some).bind dn := by
  unfold t_FindZ
  repeat' first | exact free_none | refine free_bind (fun z => ?_) | refine free_ite ?_ ?_ | refine free_sum (fun z => ?_) (fun z => ?_) | rfl
theorem r_FindZ (l_FindZ_l0 : FindZ_l0_a → Option FindZ_l0_g) (x : a_FindZ) : callK E5 ca0 (ltabF 0 (fun _ => true) (bodyOf E5 49 0) (FindZ_l0_S x) (FindZ_l0_x x) l_FindZ_l0 lo0) 49 (A_FindZ x).1 (A_FindZ x).2 K = t_FindZ (fun y => viaF (fun y => (bodyOf E5 49 0, FindZ_l0_S x y)) l_FindZ_l0 (bodyOf E5 49 0, FindZ_l0_S x y)) x (fun z => some (.c (R_FindZ z))) := by kernel_rfl
theorem s_FindZ (q : Nat) (x : a_FindZ) (z : g_FindZ) (h : t_FindZ (FindZ_l0 q x) x some = some z) : SC E5 49 (A_FindZ x).1 (A_FindZ x).2 (R_FindZ z) := by
  refine SC.of hW5 hX5 ca0_sound (ltabF_cons (FindZ_l0_s q x) (FindZ_l0_xe x) lo0_sound) ((r_FindZ (FindZ_l0 q x) x).trans ?_)
  rw [via_eq (pair_inj (bodyOf E5 49 0) (FindZ_l0_i x)) (FindZ_l0 q x), n_FindZ, h]; rfl
noncomputable def FindZ (q : Nat) (x : a_FindZ) : Option g_FindZ := t_FindZ (FindZ_l0 q x) x some
theorem sc_FindZ (q : Nat) : ∀ (x : a_FindZ) (z : g_FindZ), FindZ q x = some z → SC E5 49 (A_FindZ x).1 (A_FindZ x).2 (R_FindZ z) := fun x z h => s_FindZ q x z h
abbrev a_Nodes : Type := Int × Int × ByteArray × Nat × (Nat → List V) × Int
abbrev g_Nodes : Type := Int
def A_Nodes : a_Nodes → List V × List (Option Chunk) := (fun x => (fun (nk : Int) (nn : Int) (ns : ByteArray) (nm : Nat) (nf : Nat → List V) (most : Int) => (([.agg [i64 nk, i64 nn, st ns, .ro 4 nm nf], i64 most] : List V), ([] : List (Option Chunk)))) x.1 x.2.1 x.2.2.1 x.2.2.2.1 x.2.2.2.2.1 x.2.2.2.2.2)
def d_Nodes (t : List V × List (Option Chunk)) : a_Nodes := ((vI ((vAg (t.1.getD 0 .junk)).getD 0 .junk)), (vI ((vAg (t.1.getD 0 .junk)).getD 1 .junk)), (vS ((vAg (t.1.getD 0 .junk)).getD 2 .junk)), (vRoN ((vAg (t.1.getD 0 .junk)).getD 3 .junk)), (vRoF ((vAg (t.1.getD 0 .junk)).getD 3 .junk)), (vI (t.1.getD 1 .junk)))
theorem i_Nodes : ∀ x y, A_Nodes x = A_Nodes y → x = y := fun x y h => (congrArg d_Nodes h :)
def R_Nodes : g_Nodes → CRes := (fun z => (fun (k : Int) => .ret (i64 k) []) z : (Int) → CRes)
def x_Nodes (z : g_Nodes) (k : CRes → Option Ans) : Option Ans := k (R_Nodes z)
theorem xe_Nodes : ∀ z k, x_Nodes z k = k (R_Nodes z) := fun z k => rfl
abbrev a_NodesN : Type := Int × Int × ByteArray × Nat × (Nat → Int) × (Nat → Int) × (Nat → ByteArray) × (Nat → Nat) × (Nat → Nat → List V) × Int
abbrev g_NodesN : Type := Int
def A_NodesN : a_NodesN → List V × List (Option Chunk) := (fun x => (fun (nk : Int) (nn : Int) (ns : ByteArray) (nm : Nat) (ek : Nat → Int) (en : Nat → Int) (es : Nat → ByteArray) (em : Nat → Nat) (ef : Nat → Nat → List V) (most : Int) => (([.agg [i64 nk, i64 nn, st ns, .ro 4 nm (fun j => [i64 (ek j), i64 (en j), st (es j), .ro 4 (em j) (ef j)])], i64 most] : List V), ([] : List (Option Chunk)))) x.1 x.2.1 x.2.2.1 x.2.2.2.1 x.2.2.2.2.1 x.2.2.2.2.2.1 x.2.2.2.2.2.2.1 x.2.2.2.2.2.2.2.1 x.2.2.2.2.2.2.2.2.1 x.2.2.2.2.2.2.2.2.2)
def R_NodesN : g_NodesN → CRes := (fun z => (fun (k : Int) => .ret (i64 k) []) z : (Int) → CRes)
abbrev NodesN_l0_a : Type := Int × Int
abbrev NodesN_l0_g : Type := Int
def NodesN_l0_S (x : a_NodesN) (y : NodesN_l0_a) : St := { fr := [V.junk, i64 (x.2.2.2.2.2.2.2.2.2), V.ptr 0 0, V.junk, V.junk, i64 (y.1), i64 (y.2)] ++ jk 24, H := hp [some (Chunk.blk [i64 (x.1), i64 (x.2.1), st (x.2.2.1), V.ro 4 (x.2.2.2.1) fun (j : Nat) => [i64 (x.2.2.2.2.1 j), i64 (x.2.2.2.2.2.1 j), st (x.2.2.2.2.2.2.1 j), V.ro 4 (x.2.2.2.2.2.2.2.1 j) (x.2.2.2.2.2.2.2.2.1 j)]])], nx := 1, rt := 0, me := 4 }
def NodesN_l0_d (s : St) : NodesN_l0_a := ((vI (s.fr.getD 5 .junk)), (vI (s.fr.getD 6 .junk)))
theorem NodesN_l0_i (x : a_NodesN) : ∀ y y', NodesN_l0_S x y = NodesN_l0_S x y' → y = y' := fun y y' h => (congrArg NodesN_l0_d h :)
def NodesN_l0_T (x : a_NodesN) : NodesN_l0_g → Ex × St := (fun z => (Ex.exit 0, { fr := jk 5 ++ [i64 z] ++ jk 25, H := hp [], nx := 0, rt := 0, me := 4 }))
def NodesN_l0_x (x : a_NodesN) (z : NodesN_l0_g) (k : KX) : Option Ans := k (NodesN_l0_T x z).1 (NodesN_l0_T x z).2
theorem NodesN_l0_xe (x : a_NodesN) : ∀ z k, NodesN_l0_x x z k = k (NodesN_l0_T x z).1 (NodesN_l0_T x z).2 := fun z k => rfl
theorem NodesN_l0_k0 (x : a_NodesN) (z : Int) : KCM [(0, 32)] 16 (NodesN_l0_T x z).1 (NodesN_l0_T x z).2 = some (.l (NodesN_l0_T x z).1 (NodesN_l0_T x z).2) := by kernel_rfl
def NodesN_l0_t {β : Type} (c_Nodes : a_Nodes → Option g_Nodes) (x : a_NodesN) (y : NodesN_l0_a) (nx : NodesN_l0_a → Option β) (dn : NodesN_l0_g → Option β) : Option β :=
 if decide (y.2 < ((x.2.2.2.1 : Nat) : Int)) = true then
  if decide (y.1 ≤ x.2.2.2.2.2.2.2.2.2) = true then
   if (0 : Int) ≤ y.2 ∧ y.2 < ((x.2.2.2.1 : Nat) : Int) then
    (c_Nodes ((x.2.2.2.2.1 (Int.toNat (y.2)), x.2.2.2.2.2.1 (Int.toNat (y.2)), x.2.2.2.2.2.2.1 (Int.toNat (y.2)), x.2.2.2.2.2.2.2.1 (Int.toNat (y.2)), x.2.2.2.2.2.2.2.2.1 (Int.toNat (y.2)), w (x.2.2.2.2.2.2.2.2.2 - y.1)))).bind fun z42 =>
     nx ((w (y.1 + z42), w (y.2 + (1 : Int))))
   else
    none
  else
   dn (y.1)
 else
  dn (y.1)
theorem NodesN_l0_n {β : Type} (c_Nodes : a_Nodes → Option g_Nodes) (x : a_NodesN) (y : NodesN_l0_a) (nx : NodesN_l0_a → Option β) (dn : NodesN_l0_g → Option β) : NodesN_l0_t c_Nodes x y nx dn = (NodesN_l0_t c_Nodes x y (fun y => some (.inl y)) (fun z => some (.inr z))).bind fun r => Sum.elim nx dn r := by
  unfold NodesN_l0_t
  repeat' first | exact free_none | refine free_bind (fun z => ?_) | refine free_ite ?_ ?_ | refine free_sum (fun z => ?_) (fun z => ?_) | rfl
theorem NodesN_l0_r (c_Nodes : a_Nodes → Option g_Nodes) (x : a_NodesN) (y : NodesN_l0_a) (lo : LoopT) : loopK E5 (ftab 4 (fun _ _ => true) A_Nodes x_Nodes c_Nodes ca0) lo 0 102 (bodyOf E5 4 0) (NodesN_l0_S x y) (KCM [(0, 32)] 16) = NodesN_l0_t (fun x => viaF A_Nodes c_Nodes (A_Nodes x)) x y (fun y => lo 0 102 (bodyOf E5 4 0) (NodesN_l0_S x y) (KCM [(0, 32)] 16)) (fun z => some (.l (NodesN_l0_T x z).1 (NodesN_l0_T x z).2)) := by kernel_rfl
noncomputable def NodesN_l0 (c_Nodes : a_Nodes → Option g_Nodes) (q : Nat) (x : a_NodesN) : NodesN_l0_a → Option NodesN_l0_g := lpG (fun y => NodesN_l0_t c_Nodes x y (fun y => some (.inl y)) (fun z => some (.inr z))) q
theorem NodesN_l0_s (c_Nodes : a_Nodes → Option g_Nodes) (h_Nodes : ∀ x z, c_Nodes x = some z → SC E5 4 (A_Nodes x).1 (A_Nodes x).2 (R_Nodes z)) (q : Nat) (x : a_NodesN) : ∀ y z, NodesN_l0 c_Nodes q x y = some z → SL E5 (bodyOf E5 4 0) (NodesN_l0_S x y) (NodesN_l0_T x z).1 (NodesN_l0_T x z).2 :=
  SL.lp (LT := fun lo => lo) (T := NodesN_l0_T x) (S := NodesN_l0_S x) (ftab_cons h_Nodes xe_Nodes ca0_sound) hX5 (fun lo h => h) (fun lo y => (NodesN_l0_r c_Nodes x y lo).trans (by rw [via_eq i_Nodes c_Nodes]; exact NodesN_l0_n _ _ _ _ _)) (NodesN_l0_k0 x) q
def t_NodesN {β : Type} (c_Nodes : a_Nodes → Option g_Nodes) (l_NodesN_l0 : NodesN_l0_a → Option NodesN_l0_g) (x : a_NodesN) (dn : g_NodesN → Option β) : Option β :=
 (l_NodesN_l0 (((1 : Int), (0 : Int)))).bind fun z23 =>
  dn z23
theorem n_NodesN {β : Type} (c_Nodes : a_Nodes → Option g_Nodes) (l_NodesN_l0 : NodesN_l0_a → Option NodesN_l0_g) (x : a_NodesN) (dn : g_NodesN → Option β) : t_NodesN c_Nodes l_NodesN_l0 x dn = (t_NodesN c_Nodes l_NodesN_l0 x some).bind dn := by
  unfold t_NodesN
  repeat' first | exact free_none | refine free_bind (fun z => ?_) | refine free_ite ?_ ?_ | refine free_sum (fun z => ?_) (fun z => ?_) | rfl
theorem r_NodesN (c_Nodes : a_Nodes → Option g_Nodes) (l_NodesN_l0 : NodesN_l0_a → Option NodesN_l0_g) (x : a_NodesN) : callK E5 (ftab 4 (fun _ _ => true) A_Nodes x_Nodes c_Nodes ca0) (ltabF 0 (fun _ => true) (bodyOf E5 4 0) (NodesN_l0_S x) (NodesN_l0_x x) l_NodesN_l0 lo0) 4 (A_NodesN x).1 (A_NodesN x).2 K = t_NodesN (fun x => viaF A_Nodes c_Nodes (A_Nodes x)) (fun y => viaF (fun y => (bodyOf E5 4 0, NodesN_l0_S x y)) l_NodesN_l0 (bodyOf E5 4 0, NodesN_l0_S x y)) x (fun z => some (.c (R_NodesN z))) := by kernel_rfl
theorem s_NodesN (c_Nodes : a_Nodes → Option g_Nodes) (h_Nodes : ∀ x z, c_Nodes x = some z → SC E5 4 (A_Nodes x).1 (A_Nodes x).2 (R_Nodes z)) (q : Nat) (x : a_NodesN) (z : g_NodesN) (h : t_NodesN c_Nodes (NodesN_l0 c_Nodes q x) x some = some z) : SC E5 4 (A_NodesN x).1 (A_NodesN x).2 (R_NodesN z) := by
  refine SC.of hW5 hX5 (ftab_cons h_Nodes xe_Nodes ca0_sound) (ltabF_cons (NodesN_l0_s c_Nodes h_Nodes q x) (NodesN_l0_xe x) lo0_sound) ((r_NodesN c_Nodes (NodesN_l0 c_Nodes q x) x).trans ?_)
  rw [via_eq i_Nodes c_Nodes, via_eq (pair_inj (bodyOf E5 4 0) (NodesN_l0_i x)) (NodesN_l0 c_Nodes q x), n_NodesN, h]; rfl
open Classical in
noncomputable def Nodes : Nat → a_Nodes → Option g_Nodes
  | 0, _ => none
  | q + 1, x => if OpenN x.2.2.2.2.1 then t_NodesN (Nodes q) (NodesN_l0 (Nodes q) q (x.1, x.2.1, x.2.2.1, x.2.2.2.1, opK x.2.2.2.2.1, opN x.2.2.2.2.1, opS x.2.2.2.2.1, opM x.2.2.2.2.1, opF x.2.2.2.2.1, x.2.2.2.2.2)) (x.1, x.2.1, x.2.2.1, x.2.2.2.1, opK x.2.2.2.2.1, opN x.2.2.2.2.1, opS x.2.2.2.2.1, opM x.2.2.2.2.1, opF x.2.2.2.2.1, x.2.2.2.2.2) some else none
theorem sc_Nodes : ∀ (q : Nat) (x : a_Nodes) (z : g_Nodes), Nodes q x = some z → SC E5 4 (A_Nodes x).1 (A_Nodes x).2 (R_Nodes z) := by
  intro q
  induction q with
  | zero => intro x z h; cases h
  | succ q ih =>
    intro x z h
    unfold Nodes at h
    split at h
    · rename_i hO
      have this := s_NodesN (Nodes q) ih q (x.1, x.2.1, x.2.2.1, x.2.2.2.1, opK x.2.2.2.2.1, opN x.2.2.2.2.1, opS x.2.2.2.2.1, opM x.2.2.2.2.1, opF x.2.2.2.2.1, x.2.2.2.2.2) z h
      unfold A_NodesN at this
      unfold A_Nodes
      simp only at this ⊢
      rw [open_eq hO] at this
      exact this
    · cases h
abbrev a_Of : Type := Int × Int × ByteArray × Nat × (Nat → List V) × Nat × (ByteArray → Bool) × (ByteArray → Int) × (ByteArray → Int) × (ByteArray → Int) × (ByteArray → Int) × (ByteArray → Int)
abbrev g_Of : Type := Bool × Int × Int × Int × Int × Int × Int × Nat × (ByteArray → Bool) × (ByteArray → Int) × (ByteArray → Int) × (ByteArray → Int) × (ByteArray → Int) × (ByteArray → Int)
def A_Of : a_Of → List V × List (Option Chunk) := (fun x => (fun (nk : Int) (nn : Int) (ns : ByteArray) (nm : Nat) (nf : Nat → List V) (mn : Nat) (mh : ByteArray → Bool) (m0 : ByteArray → Int) (m1 : ByteArray → Int) (m2 : ByteArray → Int) (m3 : ByteArray → Int) (m4 : ByteArray → Int) => (([.agg [i64 nk, i64 nn, st ns, .ro 4 nm nf], .mp 0] : List V), ([some (.smap mn mh (fun j => .agg [i64 (m0 j), i64 (m1 j), i64 (m2 j), i64 (m3 j), i64 (m4 j)]))] : List (Option Chunk)))) x.1 x.2.1 x.2.2.1 x.2.2.2.1 x.2.2.2.2.1 x.2.2.2.2.2.1 x.2.2.2.2.2.2.1 x.2.2.2.2.2.2.2.1 x.2.2.2.2.2.2.2.2.1 x.2.2.2.2.2.2.2.2.2.1 x.2.2.2.2.2.2.2.2.2.2.1 x.2.2.2.2.2.2.2.2.2.2.2)
def d_Of (t : List V × List (Option Chunk)) : a_Of := ((vI ((vAg (t.1.getD 0 .junk)).getD 0 .junk)), (vI ((vAg (t.1.getD 0 .junk)).getD 1 .junk)), (vS ((vAg (t.1.getD 0 .junk)).getD 2 .junk)), (vRoN ((vAg (t.1.getD 0 .junk)).getD 3 .junk)), (vRoF ((vAg (t.1.getD 0 .junk)).getD 3 .junk)), (smN (t.2.getD 0 none)), (smH (t.2.getD 0 none)), (fun j => vI ((vAg (smF (t.2.getD 0 none) j)).getD 0 .junk)), (fun j => vI ((vAg (smF (t.2.getD 0 none) j)).getD 1 .junk)), (fun j => vI ((vAg (smF (t.2.getD 0 none) j)).getD 2 .junk)), (fun j => vI ((vAg (smF (t.2.getD 0 none) j)).getD 3 .junk)), (fun j => vI ((vAg (smF (t.2.getD 0 none) j)).getD 4 .junk)))
theorem i_Of : ∀ x y, A_Of x = A_Of y → x = y := fun x y h => (congrArg d_Of h :)
def R_Of : g_Of → CRes := (fun z => (fun (b : Bool) (d0 : Int) (d1 : Int) (d2 : Int) (d3 : Int) (d4 : Int) (e : Int) (mn : Nat) (mh : ByteArray → Bool) (m0 : ByteArray → Int) (m1 : ByteArray → Int) (m2 : ByteArray → Int) (m3 : ByteArray → Int) (m4 : ByteArray → Int) => .ret (.tup [bo b, .agg [i64 d0, i64 d1, i64 d2, i64 d3, i64 d4], i64 e]) [some (.smap mn mh (fun j => .agg [i64 (m0 j), i64 (m1 j), i64 (m2 j), i64 (m3 j), i64 (m4 j)]))]) z.1 z.2.1 z.2.2.1 z.2.2.2.1 z.2.2.2.2.1 z.2.2.2.2.2.1 z.2.2.2.2.2.2.1 z.2.2.2.2.2.2.2.1 z.2.2.2.2.2.2.2.2.1 z.2.2.2.2.2.2.2.2.2.1 z.2.2.2.2.2.2.2.2.2.2.1 z.2.2.2.2.2.2.2.2.2.2.2.1 z.2.2.2.2.2.2.2.2.2.2.2.2.1 z.2.2.2.2.2.2.2.2.2.2.2.2.2 : (Bool × Int × Int × Int × Int × Int × Int × Nat × (ByteArray → Bool) × (ByteArray → Int) × (ByteArray → Int) × (ByteArray → Int) × (ByteArray → Int) × (ByteArray → Int)) → CRes)
def x_Of (z : g_Of) (k : CRes → Option Ans) : Option Ans := k (R_Of z)
theorem xe_Of : ∀ z k, x_Of z k = k (R_Of z) := fun z k => rfl
abbrev a_OfN : Type := Int × Int × ByteArray × Nat × (Nat → Int) × (Nat → Int) × (Nat → ByteArray) × (Nat → Nat) × (Nat → Nat → List V) × Nat × (ByteArray → Bool) × (ByteArray → Int) × (ByteArray → Int) × (ByteArray → Int) × (ByteArray → Int) × (ByteArray → Int)
abbrev g_OfN : Type := Bool × Int × Int × Int × Int × Int × Int × Nat × (ByteArray → Bool) × (ByteArray → Int) × (ByteArray → Int) × (ByteArray → Int) × (ByteArray → Int) × (ByteArray → Int)
def A_OfN : a_OfN → List V × List (Option Chunk) := (fun x => (fun (nk : Int) (nn : Int) (ns : ByteArray) (nm : Nat) (ek : Nat → Int) (en : Nat → Int) (es : Nat → ByteArray) (em : Nat → Nat) (ef : Nat → Nat → List V) (mn : Nat) (mh : ByteArray → Bool) (m0 : ByteArray → Int) (m1 : ByteArray → Int) (m2 : ByteArray → Int) (m3 : ByteArray → Int) (m4 : ByteArray → Int) => (([.agg [i64 nk, i64 nn, st ns, .ro 4 nm (fun j => [i64 (ek j), i64 (en j), st (es j), .ro 4 (em j) (ef j)])], .mp 0] : List V), ([some (.smap mn mh (fun j => .agg [i64 (m0 j), i64 (m1 j), i64 (m2 j), i64 (m3 j), i64 (m4 j)]))] : List (Option Chunk)))) x.1 x.2.1 x.2.2.1 x.2.2.2.1 x.2.2.2.2.1 x.2.2.2.2.2.1 x.2.2.2.2.2.2.1 x.2.2.2.2.2.2.2.1 x.2.2.2.2.2.2.2.2.1 x.2.2.2.2.2.2.2.2.2.1 x.2.2.2.2.2.2.2.2.2.2.1 x.2.2.2.2.2.2.2.2.2.2.2.1 x.2.2.2.2.2.2.2.2.2.2.2.2.1 x.2.2.2.2.2.2.2.2.2.2.2.2.2.1 x.2.2.2.2.2.2.2.2.2.2.2.2.2.2.1 x.2.2.2.2.2.2.2.2.2.2.2.2.2.2.2)
def R_OfN : g_OfN → CRes := (fun z => (fun (b : Bool) (d0 : Int) (d1 : Int) (d2 : Int) (d3 : Int) (d4 : Int) (e : Int) (mn : Nat) (mh : ByteArray → Bool) (m0 : ByteArray → Int) (m1 : ByteArray → Int) (m2 : ByteArray → Int) (m3 : ByteArray → Int) (m4 : ByteArray → Int) => .ret (.tup [bo b, .agg [i64 d0, i64 d1, i64 d2, i64 d3, i64 d4], i64 e]) [some (.smap mn mh (fun j => .agg [i64 (m0 j), i64 (m1 j), i64 (m2 j), i64 (m3 j), i64 (m4 j)]))]) z.1 z.2.1 z.2.2.1 z.2.2.2.1 z.2.2.2.2.1 z.2.2.2.2.2.1 z.2.2.2.2.2.2.1 z.2.2.2.2.2.2.2.1 z.2.2.2.2.2.2.2.2.1 z.2.2.2.2.2.2.2.2.2.1 z.2.2.2.2.2.2.2.2.2.2.1 z.2.2.2.2.2.2.2.2.2.2.2.1 z.2.2.2.2.2.2.2.2.2.2.2.2.1 z.2.2.2.2.2.2.2.2.2.2.2.2.2 : (Bool × Int × Int × Int × Int × Int × Int × Nat × (ByteArray → Bool) × (ByteArray → Int) × (ByteArray → Int) × (ByteArray → Int) × (ByteArray → Int) × (ByteArray → Int)) → CRes)
def t_OfN {β : Type} (c_kids : a_kids → Option g_kids) (c_Of : a_Of → Option g_Of) (c_number : a_number → Option g_number) (c_found : a_found → Option g_found) (c_Tele : a_Tele → Option g_Tele) (c_binary : a_binary → Option g_binary) (x : a_OfN) (dn : g_OfN → Option β) : Option β :=
 (c_kids ((x.1, x.2.1, x.2.2.1, x.2.2.2.1, fun (j : Nat) => [i64 (x.2.2.2.2.1 j), i64 (x.2.2.2.2.2.1 j), st (x.2.2.2.2.2.2.1 j), V.ro 4 (x.2.2.2.2.2.2.2.1 j) (x.2.2.2.2.2.2.2.2.1 j)]))).bind fun z5 =>
  if (z5 != ((x.2.2.2.1 : Nat) : Int)) = true then
   dn ((false, (0 : Int), (0 : Int), (0 : Int), (0 : Int), (0 : Int), (7 : Int), x.2.2.2.2.2.2.2.2.2))
  else
   if decide ((0 : Int) < ((x.2.2.2.1 : Nat) : Int)) = true then
    if (0 : Int) ≤ (0 : Int) ∧ (0 : Int) < ((x.2.2.2.1 : Nat) : Int) then
     (c_Of ((x.2.2.2.2.1 0, x.2.2.2.2.2.1 0, x.2.2.2.2.2.2.1 0, x.2.2.2.2.2.2.2.1 0, x.2.2.2.2.2.2.2.2.1 0, x.2.2.2.2.2.2.2.2.2))).bind fun z18 =>
      if (z18.2.2.2.2.2.2.1 != (0 : Int)) = true then
       dn ((false, (0 : Int), (0 : Int), (0 : Int), (0 : Int), (0 : Int), z18.2.2.2.2.2.2))
      else
       if decide ((1 : Int) < ((x.2.2.2.1 : Nat) : Int)) = true then
        if (0 : Int) ≤ (1 : Int) ∧ (1 : Int) < ((x.2.2.2.1 : Nat) : Int) then
         (c_Of ((x.2.2.2.2.1 1, x.2.2.2.2.2.1 1, x.2.2.2.2.2.2.1 1, x.2.2.2.2.2.2.2.1 1, x.2.2.2.2.2.2.2.2.1 1, z18.2.2.2.2.2.2.2))).bind fun z31 =>
          if (z31.2.2.2.2.2.2.1 != (0 : Int)) = true then
           dn ((false, (0 : Int), (0 : Int), (0 : Int), (0 : Int), (0 : Int), z31.2.2.2.2.2.2))
          else
           if decide ((2 : Int) < ((x.2.2.2.1 : Nat) : Int)) = true then
            if (0 : Int) ≤ (2 : Int) ∧ (2 : Int) < ((x.2.2.2.1 : Nat) : Int) then
             (c_Of ((x.2.2.2.2.1 2, x.2.2.2.2.2.1 2, x.2.2.2.2.2.2.1 2, x.2.2.2.2.2.2.2.1 2, x.2.2.2.2.2.2.2.2.1 2, z31.2.2.2.2.2.2.2))).bind fun z44 =>
              none
            else
             none
           else
            if (x.1 == (15 : Int)) = true then
             (c_number ((x.1, x.2.1, x.2.2.1, x.2.2.2.1, fun (j : Nat) => [i64 (x.2.2.2.2.1 j), i64 (x.2.2.2.2.2.1 j), st (x.2.2.2.2.2.2.1 j), V.ro 4 (x.2.2.2.2.2.2.2.1 j) (x.2.2.2.2.2.2.2.2.1 j)]))).bind fun z50 =>
              dn ((false, z50.1, z50.2.1, z50.2.2.1, z50.2.2.2.1, z50.2.2.2.2.1, z50.2.2.2.2.2, z31.2.2.2.2.2.2.2))
            else
             if (x.1 == (16 : Int)) = true then
              dn ((true, (0 : Int), (0 : Int), (0 : Int), (0 : Int), (0 : Int), (0 : Int), z31.2.2.2.2.2.2.2))
             else
              if (x.1 == (17 : Int)) = true then
               (c_found ((if z31.2.2.2.2.2.2.2.2.1 (x.2.2.1) = true then z31.2.2.2.2.2.2.2.2.2.1 (x.2.2.1) else (0 : Int), if z31.2.2.2.2.2.2.2.2.1 (x.2.2.1) = true then z31.2.2.2.2.2.2.2.2.2.2.1 (x.2.2.1) else (0 : Int), if z31.2.2.2.2.2.2.2.2.1 (x.2.2.1) = true then z31.2.2.2.2.2.2.2.2.2.2.2.1 (x.2.2.1) else (0 : Int), if z31.2.2.2.2.2.2.2.2.1 (x.2.2.1) = true then z31.2.2.2.2.2.2.2.2.2.2.2.2.1 (x.2.2.1) else (0 : Int), if z31.2.2.2.2.2.2.2.2.1 (x.2.2.1) = true then z31.2.2.2.2.2.2.2.2.2.2.2.2.2 (x.2.2.1) else (0 : Int), z31.2.2.2.2.2.2.2.2.1 (x.2.2.1)))).bind fun z57 =>
                dn ((z57.1, z57.2.1, z57.2.2.1, z57.2.2.2.1, z57.2.2.2.2.1, z57.2.2.2.2.2.1, z57.2.2.2.2.2.2, z31.2.2.2.2.2.2.2))
              else
               if (x.1 == (18 : Int)) = true then
                (c_Tele (x.2.2.1)).bind fun z59 =>
                 (c_found (z59.2)).bind fun z66 =>
                  dn ((z66.1, z66.2.1, z66.2.2.1, z66.2.2.2.1, z66.2.2.2.2.1, z66.2.2.2.2.2.1, z66.2.2.2.2.2.2, z31.2.2.2.2.2.2.2))
               else
                if (x.1 == (19 : Int)) = true then
                 if (!z18.1 == (ByteArray.toList (x.2.2.1) == ByteArray.toList { data := #[(33 : UInt8)] })) = true then
                  dn ((false, (0 : Int), (0 : Int), (0 : Int), (0 : Int), (0 : Int), (12 : Int), z31.2.2.2.2.2.2.2))
                 else
                  dn ((z18.1, z18.2.1, z18.2.2.1, z18.2.2.2.1, z18.2.2.2.2.1, z18.2.2.2.2.2.1, (0 : Int), z31.2.2.2.2.2.2.2))
                else
                 (c_binary ((x.2.2.1, z18.1, z31.1, z18.2.1, z18.2.2.1, z18.2.2.2.1, z18.2.2.2.2.1, z18.2.2.2.2.2.1, z31.2.1, z31.2.2.1, z31.2.2.2.1, z31.2.2.2.2.1, z31.2.2.2.2.2.1))).bind fun z80 =>
                  dn ((z80.1, z80.2.1, z80.2.2.1, z80.2.2.2.1, z80.2.2.2.2.1, z80.2.2.2.2.2.1, z80.2.2.2.2.2.2, z31.2.2.2.2.2.2.2))
        else
         none
       else
        if (x.1 == (15 : Int)) = true then
         (c_number ((x.1, x.2.1, x.2.2.1, x.2.2.2.1, fun (j : Nat) => [i64 (x.2.2.2.2.1 j), i64 (x.2.2.2.2.2.1 j), st (x.2.2.2.2.2.2.1 j), V.ro 4 (x.2.2.2.2.2.2.2.1 j) (x.2.2.2.2.2.2.2.2.1 j)]))).bind fun z86 =>
          dn ((false, z86.1, z86.2.1, z86.2.2.1, z86.2.2.2.1, z86.2.2.2.2.1, z86.2.2.2.2.2, z18.2.2.2.2.2.2.2))
        else
         if (x.1 == (16 : Int)) = true then
          dn ((true, (0 : Int), (0 : Int), (0 : Int), (0 : Int), (0 : Int), (0 : Int), z18.2.2.2.2.2.2.2))
         else
          if (x.1 == (17 : Int)) = true then
           (c_found ((if z18.2.2.2.2.2.2.2.2.1 (x.2.2.1) = true then z18.2.2.2.2.2.2.2.2.2.1 (x.2.2.1) else (0 : Int), if z18.2.2.2.2.2.2.2.2.1 (x.2.2.1) = true then z18.2.2.2.2.2.2.2.2.2.2.1 (x.2.2.1) else (0 : Int), if z18.2.2.2.2.2.2.2.2.1 (x.2.2.1) = true then z18.2.2.2.2.2.2.2.2.2.2.2.1 (x.2.2.1) else (0 : Int), if z18.2.2.2.2.2.2.2.2.1 (x.2.2.1) = true then z18.2.2.2.2.2.2.2.2.2.2.2.2.1 (x.2.2.1) else (0 : Int), if z18.2.2.2.2.2.2.2.2.1 (x.2.2.1) = true then z18.2.2.2.2.2.2.2.2.2.2.2.2.2 (x.2.2.1) else (0 : Int), z18.2.2.2.2.2.2.2.2.1 (x.2.2.1)))).bind fun z93 =>
            dn ((z93.1, z93.2.1, z93.2.2.1, z93.2.2.2.1, z93.2.2.2.2.1, z93.2.2.2.2.2.1, z93.2.2.2.2.2.2, z18.2.2.2.2.2.2.2))
          else
           if (x.1 == (18 : Int)) = true then
            (c_Tele (x.2.2.1)).bind fun z95 =>
             (c_found (z95.2)).bind fun z102 =>
              dn ((z102.1, z102.2.1, z102.2.2.1, z102.2.2.2.1, z102.2.2.2.2.1, z102.2.2.2.2.2.1, z102.2.2.2.2.2.2, z18.2.2.2.2.2.2.2))
           else
            if (x.1 == (19 : Int)) = true then
             if (!z18.1 == (ByteArray.toList (x.2.2.1) == ByteArray.toList { data := #[(33 : UInt8)] })) = true then
              dn ((false, (0 : Int), (0 : Int), (0 : Int), (0 : Int), (0 : Int), (12 : Int), z18.2.2.2.2.2.2.2))
             else
              dn ((z18.1, z18.2.1, z18.2.2.1, z18.2.2.2.1, z18.2.2.2.2.1, z18.2.2.2.2.2.1, (0 : Int), z18.2.2.2.2.2.2.2))
            else
             (c_binary ((x.2.2.1, z18.1, false, z18.2.1, z18.2.2.1, z18.2.2.2.1, z18.2.2.2.2.1, z18.2.2.2.2.2.1, (0 : Int), (0 : Int), (0 : Int), (0 : Int), (0 : Int)))).bind fun z116 =>
              dn ((z116.1, z116.2.1, z116.2.2.1, z116.2.2.2.1, z116.2.2.2.2.1, z116.2.2.2.2.2.1, z116.2.2.2.2.2.2, z18.2.2.2.2.2.2.2))
    else
     none
   else
    if (x.1 == (15 : Int)) = true then
     (c_number ((x.1, x.2.1, x.2.2.1, x.2.2.2.1, fun (j : Nat) => [i64 (x.2.2.2.2.1 j), i64 (x.2.2.2.2.2.1 j), st (x.2.2.2.2.2.2.1 j), V.ro 4 (x.2.2.2.2.2.2.2.1 j) (x.2.2.2.2.2.2.2.2.1 j)]))).bind fun z122 =>
      dn ((false, z122.1, z122.2.1, z122.2.2.1, z122.2.2.2.1, z122.2.2.2.2.1, z122.2.2.2.2.2, x.2.2.2.2.2.2.2.2.2))
    else
     if (x.1 == (16 : Int)) = true then
      dn ((true, (0 : Int), (0 : Int), (0 : Int), (0 : Int), (0 : Int), (0 : Int), x.2.2.2.2.2.2.2.2.2))
     else
      if (x.1 == (17 : Int)) = true then
       (c_found ((if x.2.2.2.2.2.2.2.2.2.2.1 (x.2.2.1) = true then x.2.2.2.2.2.2.2.2.2.2.2.1 (x.2.2.1) else (0 : Int), if x.2.2.2.2.2.2.2.2.2.2.1 (x.2.2.1) = true then x.2.2.2.2.2.2.2.2.2.2.2.2.1 (x.2.2.1) else (0 : Int), if x.2.2.2.2.2.2.2.2.2.2.1 (x.2.2.1) = true then x.2.2.2.2.2.2.2.2.2.2.2.2.2.1 (x.2.2.1) else (0 : Int), if x.2.2.2.2.2.2.2.2.2.2.1 (x.2.2.1) = true then x.2.2.2.2.2.2.2.2.2.2.2.2.2.2.1 (x.2.2.1) else (0 : Int), if x.2.2.2.2.2.2.2.2.2.2.1 (x.2.2.1) = true then x.2.2.2.2.2.2.2.2.2.2.2.2.2.2.2 (x.2.2.1) else (0 : Int), x.2.2.2.2.2.2.2.2.2.2.1 (x.2.2.1)))).bind fun z129 =>
        dn ((z129.1, z129.2.1, z129.2.2.1, z129.2.2.2.1, z129.2.2.2.2.1, z129.2.2.2.2.2.1, z129.2.2.2.2.2.2, x.2.2.2.2.2.2.2.2.2))
      else
       if (x.1 == (18 : Int)) = true then
        (c_Tele (x.2.2.1)).bind fun z131 =>
         (c_found (z131.2)).bind fun z138 =>
          dn ((z138.1, z138.2.1, z138.2.2.1, z138.2.2.2.1, z138.2.2.2.2.1, z138.2.2.2.2.2.1, z138.2.2.2.2.2.2, x.2.2.2.2.2.2.2.2.2))
       else
        if (x.1 == (19 : Int)) = true then
         if (!false == (ByteArray.toList (x.2.2.1) == ByteArray.toList { data := #[(33 : UInt8)] })) = true then
          dn ((false, (0 : Int), (0 : Int), (0 : Int), (0 : Int), (0 : Int), (12 : Int), x.2.2.2.2.2.2.2.2.2))
         else
          dn ((false, (0 : Int), (0 : Int), (0 : Int), (0 : Int), (0 : Int), (0 : Int), x.2.2.2.2.2.2.2.2.2))
        else
         (c_binary ((x.2.2.1, false, false, (0 : Int), (0 : Int), (0 : Int), (0 : Int), (0 : Int), (0 : Int), (0 : Int), (0 : Int), (0 : Int), (0 : Int)))).bind fun z152 =>
          dn ((z152.1, z152.2.1, z152.2.2.1, z152.2.2.2.1, z152.2.2.2.2.1, z152.2.2.2.2.2.1, z152.2.2.2.2.2.2, x.2.2.2.2.2.2.2.2.2))
theorem n_OfN {β : Type} (c_kids : a_kids → Option g_kids) (c_Of : a_Of → Option g_Of) (c_number : a_number → Option g_number) (c_found : a_found → Option g_found) (c_Tele : a_Tele → Option g_Tele) (c_binary : a_binary → Option g_binary) (x : a_OfN) (dn : g_OfN → Option β) : t_OfN c_kids c_Of c_number c_found c_Tele c_binary x dn = (t_OfN c_kids c_Of c_number c_found c_Tele c_binary x some).bind dn := by
  unfold t_OfN
  repeat' first | exact free_none | refine free_bind (fun z => ?_) | refine free_ite ?_ ?_ | refine free_sum (fun z => ?_) (fun z => ?_) | rfl
theorem r_OfN (c_kids : a_kids → Option g_kids) (c_Of : a_Of → Option g_Of) (c_number : a_number → Option g_number) (c_found : a_found → Option g_found) (c_Tele : a_Tele → Option g_Tele) (c_binary : a_binary → Option g_binary) (x : a_OfN) : callK E5 (ftab 21 (fun _ _ => true) A_kids x_kids c_kids (ftab 9 (fun _ _ => true) A_Of x_Of c_Of (ftab 22 (fun _ _ => true) A_number x_number c_number (ftab 23 (fun _ _ => true) A_found x_found c_found (ftab 12 (fun _ _ => true) A_Tele x_Tele c_Tele (ftab 24 (fun _ _ => true) A_binary x_binary c_binary ca0)))))) (loU E5 (ftab 21 (fun _ _ => true) A_kids x_kids c_kids (ftab 9 (fun _ _ => true) A_Of x_Of c_Of (ftab 22 (fun _ _ => true) A_number x_number c_number (ftab 23 (fun _ _ => true) A_found x_found c_found (ftab 12 (fun _ _ => true) A_Tele x_Tele c_Tele (ftab 24 (fun _ _ => true) A_binary x_binary c_binary ca0)))))) [0] lo0 20) 9 (A_OfN x).1 (A_OfN x).2 K = t_OfN (fun x => viaF A_kids c_kids (A_kids x)) (fun x => viaF A_Of c_Of (A_Of x)) (fun x => viaF A_number c_number (A_number x)) (fun x => viaF A_found c_found (A_found x)) (fun x => viaF A_Tele c_Tele (A_Tele x)) (fun x => viaF A_binary c_binary (A_binary x)) x (fun z => some (.c (R_OfN z))) := by kernel_rfl
theorem s_OfN (c_kids : a_kids → Option g_kids) (h_kids : ∀ x z, c_kids x = some z → SC E5 21 (A_kids x).1 (A_kids x).2 (R_kids z)) (c_Of : a_Of → Option g_Of) (h_Of : ∀ x z, c_Of x = some z → SC E5 9 (A_Of x).1 (A_Of x).2 (R_Of z)) (c_number : a_number → Option g_number) (h_number : ∀ x z, c_number x = some z → SC E5 22 (A_number x).1 (A_number x).2 (R_number z)) (c_found : a_found → Option g_found) (h_found : ∀ x z, c_found x = some z → SC E5 23 (A_found x).1 (A_found x).2 (R_found z)) (c_Tele : a_Tele → Option g_Tele) (h_Tele : ∀ x z, c_Tele x = some z → SC E5 12 (A_Tele x).1 (A_Tele x).2 (R_Tele z)) (c_binary : a_binary → Option g_binary) (h_binary : ∀ x z, c_binary x = some z → SC E5 24 (A_binary x).1 (A_binary x).2 (R_binary z)) (q : Nat) (x : a_OfN) (z : g_OfN) (h : t_OfN c_kids c_Of c_number c_found c_Tele c_binary x some = some z) : SC E5 9 (A_OfN x).1 (A_OfN x).2 (R_OfN z) := by
  refine SC.of hW5 hX5 (ftab_cons h_kids xe_kids (ftab_cons h_Of xe_Of (ftab_cons h_number xe_number (ftab_cons h_found xe_found (ftab_cons h_Tele xe_Tele (ftab_cons h_binary xe_binary ca0_sound)))))) (loU_sound (ftab_cons h_kids xe_kids (ftab_cons h_Of xe_Of (ftab_cons h_number xe_number (ftab_cons h_found xe_found (ftab_cons h_Tele xe_Tele (ftab_cons h_binary xe_binary ca0_sound)))))) hX5 lo0_sound 20) ((r_OfN c_kids c_Of c_number c_found c_Tele c_binary x).trans ?_)
  rw [via_eq i_kids c_kids, via_eq i_Of c_Of, via_eq i_number c_number, via_eq i_found c_found, via_eq i_Tele c_Tele, via_eq i_binary c_binary, n_OfN, h]; rfl
open Classical in
noncomputable def Of : Nat → a_Of → Option g_Of
  | 0, _ => none
  | q + 1, x => if OpenN x.2.2.2.2.1 then t_OfN (kids q) (Of q) (number q) (found q) (Tele q) (binary q) (x.1, x.2.1, x.2.2.1, x.2.2.2.1, opK x.2.2.2.2.1, opN x.2.2.2.2.1, opS x.2.2.2.2.1, opM x.2.2.2.2.1, opF x.2.2.2.2.1, x.2.2.2.2.2) some else none
theorem sc_Of : ∀ (q : Nat) (x : a_Of) (z : g_Of), Of q x = some z → SC E5 9 (A_Of x).1 (A_Of x).2 (R_Of z) := by
  intro q
  induction q with
  | zero => intro x z h; cases h
  | succ q ih =>
    intro x z h
    unfold Of at h
    split at h
    · rename_i hO
      have this := s_OfN (kids q) (sc_kids q) (Of q) ih (number q) (sc_number q) (found q) (sc_found q) (Tele q) (sc_Tele q) (binary q) (sc_binary q) q (x.1, x.2.1, x.2.2.1, x.2.2.2.1, opK x.2.2.2.2.1, opN x.2.2.2.2.1, opS x.2.2.2.2.1, opM x.2.2.2.2.1, opF x.2.2.2.2.1, x.2.2.2.2.2) z h
      unfold A_OfN at this
      unfold A_Of
      simp only at this ⊢
      rw [open_eq hO] at this
      exact this
    · cases h
abbrev a_rleaf : Type := Int × Int × ByteArray × Nat × (Nat → List V) × Nat × (Nat → ByteArray) × (Nat → Int) × (Nat → Int) × (Nat → Int) × (Nat → Int) × (Nat → Int)
abbrev g_rleaf : Type := Bool × Int × Int × Int × Int × Int × Int
def A_rleaf : a_rleaf → List V × List (Option Chunk) := (fun x => (fun (nk : Int) (nn : Int) (ns : ByteArray) (nm : Nat) (nf : Nat → List V) (vn : Nat) (vs : Nat → ByteArray) (v0 : Nat → Int) (v1 : Nat → Int) (v2 : Nat → Int) (v3 : Nat → Int) (v4 : Nat → Int) => (([.agg [i64 nk, i64 nn, st ns, .ro 4 nm nf], .ro 6 vn (fun j => [st (vs j), i64 (v0 j), i64 (v1 j), i64 (v2 j), i64 (v3 j), i64 (v4 j)])] : List V), ([] : List (Option Chunk)))) x.1 x.2.1 x.2.2.1 x.2.2.2.1 x.2.2.2.2.1 x.2.2.2.2.2.1 x.2.2.2.2.2.2.1 x.2.2.2.2.2.2.2.1 x.2.2.2.2.2.2.2.2.1 x.2.2.2.2.2.2.2.2.2.1 x.2.2.2.2.2.2.2.2.2.2.1 x.2.2.2.2.2.2.2.2.2.2.2)
def d_rleaf (t : List V × List (Option Chunk)) : a_rleaf := ((vI ((vAg (t.1.getD 0 .junk)).getD 0 .junk)), (vI ((vAg (t.1.getD 0 .junk)).getD 1 .junk)), (vS ((vAg (t.1.getD 0 .junk)).getD 2 .junk)), (vRoN ((vAg (t.1.getD 0 .junk)).getD 3 .junk)), (vRoF ((vAg (t.1.getD 0 .junk)).getD 3 .junk)), (vRoN (t.1.getD 1 .junk)), (fun j => (vS (((vRoF (t.1.getD 1 .junk)) j).getD 0 .junk))), (fun j => (vI (((vRoF (t.1.getD 1 .junk)) j).getD 1 .junk))), (fun j => (vI (((vRoF (t.1.getD 1 .junk)) j).getD 2 .junk))), (fun j => (vI (((vRoF (t.1.getD 1 .junk)) j).getD 3 .junk))), (fun j => (vI (((vRoF (t.1.getD 1 .junk)) j).getD 4 .junk))), (fun j => (vI (((vRoF (t.1.getD 1 .junk)) j).getD 5 .junk))))
theorem i_rleaf : ∀ x y, A_rleaf x = A_rleaf y → x = y := fun x y h => (congrArg d_rleaf h :)
def R_rleaf : g_rleaf → CRes := (fun z => (fun (b : Bool) (d0 : Int) (d1 : Int) (d2 : Int) (d3 : Int) (d4 : Int) (e : Int) => .ret (.tup [bo b, .agg [i64 d0, i64 d1, i64 d2, i64 d3, i64 d4], i64 e]) []) z.1 z.2.1 z.2.2.1 z.2.2.2.1 z.2.2.2.2.1 z.2.2.2.2.2.1 z.2.2.2.2.2.2 : (Bool × Int × Int × Int × Int × Int × Int) → CRes)
def x_rleaf (z : g_rleaf) (k : CRes → Option Ans) : Option Ans := k (R_rleaf z)
theorem xe_rleaf : ∀ z k, x_rleaf z k = k (R_rleaf z) := fun z k => rfl
def t_rleaf {β : Type} (c_rliteral : a_rliteral → Option g_rliteral) (c_Find : a_Find → Option g_Find) (c_RTele : a_RTele → Option g_RTele) (x : a_rleaf) (dn : g_rleaf → Option β) : Option β :=
 if (x.1 == (15 : Int)) = true then
  (c_rliteral ((x.1, x.2.1, x.2.2.1, x.2.2.2.1, x.2.2.2.2.1))).bind fun z5 =>
   dn ((false, z5))
 else
  if (x.1 == (16 : Int)) = true then
   dn ((true, (0 : Int), (0 : Int), (0 : Int), (0 : Int), (0 : Int), (0 : Int)))
  else
   if (x.1 == (17 : Int)) = true then
    (c_Find ((x.2.2.2.2.2.1, x.2.2.2.2.2.2.1, x.2.2.2.2.2.2.2.1, x.2.2.2.2.2.2.2.2.1, x.2.2.2.2.2.2.2.2.2.1, x.2.2.2.2.2.2.2.2.2.2.1, x.2.2.2.2.2.2.2.2.2.2.2, x.2.2.1))).bind fun z14 =>
     if decide (z14 < (0 : Int)) = true then
      dn ((false, (0 : Int), (0 : Int), (0 : Int), (0 : Int), (0 : Int), (3 : Int)))
     else
      if (0 : Int) ≤ z14 ∧ z14 < ((x.2.2.2.2.2.1 : Nat) : Int) then
       dn ((false, x.2.2.2.2.2.2.2.1 (Int.toNat z14), x.2.2.2.2.2.2.2.2.1 (Int.toNat z14), x.2.2.2.2.2.2.2.2.2.1 (Int.toNat z14), x.2.2.2.2.2.2.2.2.2.2.1 (Int.toNat z14), x.2.2.2.2.2.2.2.2.2.2.2 (Int.toNat z14), (0 : Int)))
      else
       none
   else
    (c_RTele (x.2.2.1)).bind fun z16 =>
     if (!z16.2.2.2.2.2.2) = true then
      dn ((false, (0 : Int), (0 : Int), (0 : Int), (0 : Int), (0 : Int), (3 : Int)))
     else
      dn ((false, z16.2.1, z16.2.2.1, z16.2.2.2.1, z16.2.2.2.2.1, z16.2.2.2.2.2.1, (0 : Int)))
theorem n_rleaf {β : Type} (c_rliteral : a_rliteral → Option g_rliteral) (c_Find : a_Find → Option g_Find) (c_RTele : a_RTele → Option g_RTele) (x : a_rleaf) (dn : g_rleaf → Option β) : t_rleaf c_rliteral c_Find c_RTele x dn = (t_rleaf c_rliteral c_Find c_RTele x some).bind dn := by
  unfold t_rleaf
  repeat' first | exact free_none | refine free_bind (fun z => ?_) | refine free_ite ?_ ?_ | refine free_sum (fun z => ?_) (fun z => ?_) | rfl
theorem r_rleaf (c_rliteral : a_rliteral → Option g_rliteral) (c_Find : a_Find → Option g_Find) (c_RTele : a_RTele → Option g_RTele) (x : a_rleaf) : callK E5 (ftab 76 (fun _ _ => true) A_rliteral x_rliteral c_rliteral (ftab 49 (fun _ _ => true) A_Find x_Find c_Find (ftab 77 (fun _ _ => true) A_RTele x_RTele c_RTele ca0))) lo0 66 (A_rleaf x).1 (A_rleaf x).2 K = t_rleaf (fun x => viaF A_rliteral c_rliteral (A_rliteral x)) (fun x => viaF A_Find c_Find (A_Find x)) (fun x => viaF A_RTele c_RTele (A_RTele x)) x (fun z => some (.c (R_rleaf z))) := by kernel_rfl
theorem s_rleaf (c_rliteral : a_rliteral → Option g_rliteral) (h_rliteral : ∀ x z, c_rliteral x = some z → SC E5 76 (A_rliteral x).1 (A_rliteral x).2 (R_rliteral z)) (c_Find : a_Find → Option g_Find) (h_Find : ∀ x z, c_Find x = some z → SC E5 49 (A_Find x).1 (A_Find x).2 (R_Find z)) (c_RTele : a_RTele → Option g_RTele) (h_RTele : ∀ x z, c_RTele x = some z → SC E5 77 (A_RTele x).1 (A_RTele x).2 (R_RTele z)) (q : Nat) (x : a_rleaf) (z : g_rleaf) (h : t_rleaf c_rliteral c_Find c_RTele x some = some z) : SC E5 66 (A_rleaf x).1 (A_rleaf x).2 (R_rleaf z) := by
  refine SC.of hW5 hX5 (ftab_cons h_rliteral xe_rliteral (ftab_cons h_Find xe_Find (ftab_cons h_RTele xe_RTele ca0_sound))) lo0_sound ((r_rleaf c_rliteral c_Find c_RTele x).trans ?_)
  rw [via_eq i_rliteral c_rliteral, via_eq i_Find c_Find, via_eq i_RTele c_RTele, n_rleaf, h]; rfl
noncomputable def rleaf (q : Nat) (x : a_rleaf) : Option g_rleaf := t_rleaf (rliteral q) (Find q) (RTele q) x some
theorem sc_rleaf (q : Nat) : ∀ (x : a_rleaf) (z : g_rleaf), rleaf q x = some z → SC E5 66 (A_rleaf x).1 (A_rleaf x).2 (R_rleaf z) := fun x z h => s_rleaf (rliteral q) (sc_rliteral q) (Find q) (sc_Find q) (RTele q) (sc_RTele q) q x z h
abbrev a_ROf : Type := Int × Int × ByteArray × Nat × (Nat → List V) × Nat × (Nat → ByteArray) × (Nat → Int) × (Nat → Int) × (Nat → Int) × (Nat → Int) × (Nat → Int)
abbrev g_ROf : Type := Bool × Int × Int × Int × Int × Int × Int
def A_ROf : a_ROf → List V × List (Option Chunk) := (fun x => (fun (nk : Int) (nn : Int) (ns : ByteArray) (nm : Nat) (nf : Nat → List V) (vn : Nat) (vs : Nat → ByteArray) (v0 : Nat → Int) (v1 : Nat → Int) (v2 : Nat → Int) (v3 : Nat → Int) (v4 : Nat → Int) => (([.agg [i64 nk, i64 nn, st ns, .ro 4 nm nf], .ro 6 vn (fun j => [st (vs j), i64 (v0 j), i64 (v1 j), i64 (v2 j), i64 (v3 j), i64 (v4 j)])] : List V), ([] : List (Option Chunk)))) x.1 x.2.1 x.2.2.1 x.2.2.2.1 x.2.2.2.2.1 x.2.2.2.2.2.1 x.2.2.2.2.2.2.1 x.2.2.2.2.2.2.2.1 x.2.2.2.2.2.2.2.2.1 x.2.2.2.2.2.2.2.2.2.1 x.2.2.2.2.2.2.2.2.2.2.1 x.2.2.2.2.2.2.2.2.2.2.2)
def d_ROf (t : List V × List (Option Chunk)) : a_ROf := ((vI ((vAg (t.1.getD 0 .junk)).getD 0 .junk)), (vI ((vAg (t.1.getD 0 .junk)).getD 1 .junk)), (vS ((vAg (t.1.getD 0 .junk)).getD 2 .junk)), (vRoN ((vAg (t.1.getD 0 .junk)).getD 3 .junk)), (vRoF ((vAg (t.1.getD 0 .junk)).getD 3 .junk)), (vRoN (t.1.getD 1 .junk)), (fun j => vS ((vRoF (t.1.getD 1 .junk) j).getD 0 .junk)), (fun j => vI ((vRoF (t.1.getD 1 .junk) j).getD 1 .junk)), (fun j => vI ((vRoF (t.1.getD 1 .junk) j).getD 2 .junk)), (fun j => vI ((vRoF (t.1.getD 1 .junk) j).getD 3 .junk)), (fun j => vI ((vRoF (t.1.getD 1 .junk) j).getD 4 .junk)), (fun j => vI ((vRoF (t.1.getD 1 .junk) j).getD 5 .junk)))
theorem i_ROf : ∀ x y, A_ROf x = A_ROf y → x = y := fun x y h => (congrArg d_ROf h :)
def R_ROf : g_ROf → CRes := (fun z => (fun (b : Bool) (d0 : Int) (d1 : Int) (d2 : Int) (d3 : Int) (d4 : Int) (e : Int) => .ret (.tup [bo b, .agg [i64 d0, i64 d1, i64 d2, i64 d3, i64 d4], i64 e]) []) z.1 z.2.1 z.2.2.1 z.2.2.2.1 z.2.2.2.2.1 z.2.2.2.2.2.1 z.2.2.2.2.2.2 : (Bool × Int × Int × Int × Int × Int × Int) → CRes)
def x_ROf (z : g_ROf) (k : CRes → Option Ans) : Option Ans := k (R_ROf z)
theorem xe_ROf : ∀ z k, x_ROf z k = k (R_ROf z) := fun z k => rfl
abbrev a_ROfN : Type := Int × Int × ByteArray × Nat × (Nat → Int) × (Nat → Int) × (Nat → ByteArray) × (Nat → Nat) × (Nat → Nat → List V) × Nat × (Nat → ByteArray) × (Nat → Int) × (Nat → Int) × (Nat → Int) × (Nat → Int) × (Nat → Int)
abbrev g_ROfN : Type := Bool × Int × Int × Int × Int × Int × Int
def A_ROfN : a_ROfN → List V × List (Option Chunk) := (fun x => (fun (nk : Int) (nn : Int) (ns : ByteArray) (nm : Nat) (ek : Nat → Int) (en : Nat → Int) (es : Nat → ByteArray) (em : Nat → Nat) (ef : Nat → Nat → List V) (vn : Nat) (vs : Nat → ByteArray) (v0 : Nat → Int) (v1 : Nat → Int) (v2 : Nat → Int) (v3 : Nat → Int) (v4 : Nat → Int) => (([.agg [i64 nk, i64 nn, st ns, .ro 4 nm (fun j => [i64 (ek j), i64 (en j), st (es j), .ro 4 (em j) (ef j)])], .ro 6 vn (fun j => [st (vs j), i64 (v0 j), i64 (v1 j), i64 (v2 j), i64 (v3 j), i64 (v4 j)])] : List V), ([] : List (Option Chunk)))) x.1 x.2.1 x.2.2.1 x.2.2.2.1 x.2.2.2.2.1 x.2.2.2.2.2.1 x.2.2.2.2.2.2.1 x.2.2.2.2.2.2.2.1 x.2.2.2.2.2.2.2.2.1 x.2.2.2.2.2.2.2.2.2.1 x.2.2.2.2.2.2.2.2.2.2.1 x.2.2.2.2.2.2.2.2.2.2.2.1 x.2.2.2.2.2.2.2.2.2.2.2.2.1 x.2.2.2.2.2.2.2.2.2.2.2.2.2.1 x.2.2.2.2.2.2.2.2.2.2.2.2.2.2.1 x.2.2.2.2.2.2.2.2.2.2.2.2.2.2.2)
def R_ROfN : g_ROfN → CRes := (fun z => (fun (b : Bool) (d0 : Int) (d1 : Int) (d2 : Int) (d3 : Int) (d4 : Int) (e : Int) => .ret (.tup [bo b, .agg [i64 d0, i64 d1, i64 d2, i64 d3, i64 d4], i64 e]) []) z.1 z.2.1 z.2.2.1 z.2.2.2.1 z.2.2.2.2.1 z.2.2.2.2.2.1 z.2.2.2.2.2.2 : (Bool × Int × Int × Int × Int × Int × Int) → CRes)
def t_ROfN {β : Type} (c_formed : a_formed → Option g_formed) (c_rleaf : a_rleaf → Option g_rleaf) (c_ROf : a_ROf → Option g_ROf) (c_rbinary : a_rbinary → Option g_rbinary) (x : a_ROfN) (dn : g_ROfN → Option β) : Option β :=
 (c_formed ((x.1, x.2.1, x.2.2.1, x.2.2.2.1, fun (j : Nat) => [i64 (x.2.2.2.2.1 j), i64 (x.2.2.2.2.2.1 j), st (x.2.2.2.2.2.2.1 j), V.ro 4 (x.2.2.2.2.2.2.2.1 j) (x.2.2.2.2.2.2.2.2.1 j)]))).bind fun z5 =>
  if (!z5) = true then
   dn ((false, (0 : Int), (0 : Int), (0 : Int), (0 : Int), (0 : Int), (7 : Int)))
  else
   if (((x.2.2.2.1 : Nat) : Int) == (0 : Int)) = true then
    (c_rleaf ((x.1, x.2.1, x.2.2.1, x.2.2.2.1, fun (j : Nat) => [i64 (x.2.2.2.2.1 j), i64 (x.2.2.2.2.2.1 j), st (x.2.2.2.2.2.2.1 j), V.ro 4 (x.2.2.2.2.2.2.2.1 j) (x.2.2.2.2.2.2.2.2.1 j)], x.2.2.2.2.2.2.2.2.2))).bind fun z18 =>
     dn z18
   else
    if (0 : Int) ≤ (0 : Int) ∧ (0 : Int) < ((x.2.2.2.1 : Nat) : Int) then
     (c_ROf ((x.2.2.2.2.1 0, x.2.2.2.2.2.1 0, x.2.2.2.2.2.2.1 0, x.2.2.2.2.2.2.2.1 0, x.2.2.2.2.2.2.2.2.1 0, x.2.2.2.2.2.2.2.2.2))).bind fun z31 =>
      if (z31.2.2.2.2.2.2 != (0 : Int)) = true then
       dn ((false, (0 : Int), (0 : Int), (0 : Int), (0 : Int), (0 : Int), z31.2.2.2.2.2.2))
      else
       if (x.1 == (19 : Int)) = true then
        if (!z31.1 == (ByteArray.toList (x.2.2.1) == ByteArray.toList { data := #[(33 : UInt8)] })) = true then
         dn ((false, (0 : Int), (0 : Int), (0 : Int), (0 : Int), (0 : Int), (12 : Int)))
        else
         dn ((z31.1, z31.2.1, z31.2.2.1, z31.2.2.2.1, z31.2.2.2.2.1, z31.2.2.2.2.2.1, (0 : Int)))
       else
        if (0 : Int) ≤ (1 : Int) ∧ (1 : Int) < ((x.2.2.2.1 : Nat) : Int) then
         (c_ROf ((x.2.2.2.2.1 1, x.2.2.2.2.2.1 1, x.2.2.2.2.2.2.1 1, x.2.2.2.2.2.2.2.1 1, x.2.2.2.2.2.2.2.2.1 1, x.2.2.2.2.2.2.2.2.2))).bind fun z44 =>
          if (z44.2.2.2.2.2.2 != (0 : Int)) = true then
           dn ((false, (0 : Int), (0 : Int), (0 : Int), (0 : Int), (0 : Int), z44.2.2.2.2.2.2))
          else
           (c_rbinary ((x.2.2.1, z31.1, z44.1, z31.2.1, z31.2.2.1, z31.2.2.2.1, z31.2.2.2.2.1, z31.2.2.2.2.2.1, z44.2.1, z44.2.2.1, z44.2.2.2.1, z44.2.2.2.2.1, z44.2.2.2.2.2.1))).bind fun z58 =>
            dn z58
        else
         none
    else
     none
theorem n_ROfN {β : Type} (c_formed : a_formed → Option g_formed) (c_rleaf : a_rleaf → Option g_rleaf) (c_ROf : a_ROf → Option g_ROf) (c_rbinary : a_rbinary → Option g_rbinary) (x : a_ROfN) (dn : g_ROfN → Option β) : t_ROfN c_formed c_rleaf c_ROf c_rbinary x dn = (t_ROfN c_formed c_rleaf c_ROf c_rbinary x some).bind dn := by
  unfold t_ROfN
  repeat' first | exact free_none | refine free_bind (fun z => ?_) | refine free_ite ?_ ?_ | refine free_sum (fun z => ?_) (fun z => ?_) | rfl
theorem r_ROfN (c_formed : a_formed → Option g_formed) (c_rleaf : a_rleaf → Option g_rleaf) (c_ROf : a_ROf → Option g_ROf) (c_rbinary : a_rbinary → Option g_rbinary) (x : a_ROfN) : callK E5 (ftab 65 (fun _ _ => true) A_formed x_formed c_formed (ftab 66 (fun _ _ => true) A_rleaf x_rleaf c_rleaf (ftab 51 (fun _ _ => true) A_ROf x_ROf c_ROf (ftab 67 (fun _ _ => true) A_rbinary x_rbinary c_rbinary ca0)))) lo0 51 (A_ROfN x).1 (A_ROfN x).2 K = t_ROfN (fun x => viaF A_formed c_formed (A_formed x)) (fun x => viaF A_rleaf c_rleaf (A_rleaf x)) (fun x => viaF A_ROf c_ROf (A_ROf x)) (fun x => viaF A_rbinary c_rbinary (A_rbinary x)) x (fun z => some (.c (R_ROfN z))) := by kernel_rfl
theorem s_ROfN (c_formed : a_formed → Option g_formed) (h_formed : ∀ x z, c_formed x = some z → SC E5 65 (A_formed x).1 (A_formed x).2 (R_formed z)) (c_rleaf : a_rleaf → Option g_rleaf) (h_rleaf : ∀ x z, c_rleaf x = some z → SC E5 66 (A_rleaf x).1 (A_rleaf x).2 (R_rleaf z)) (c_ROf : a_ROf → Option g_ROf) (h_ROf : ∀ x z, c_ROf x = some z → SC E5 51 (A_ROf x).1 (A_ROf x).2 (R_ROf z)) (c_rbinary : a_rbinary → Option g_rbinary) (h_rbinary : ∀ x z, c_rbinary x = some z → SC E5 67 (A_rbinary x).1 (A_rbinary x).2 (R_rbinary z)) (q : Nat) (x : a_ROfN) (z : g_ROfN) (h : t_ROfN c_formed c_rleaf c_ROf c_rbinary x some = some z) : SC E5 51 (A_ROfN x).1 (A_ROfN x).2 (R_ROfN z) := by
  refine SC.of hW5 hX5 (ftab_cons h_formed xe_formed (ftab_cons h_rleaf xe_rleaf (ftab_cons h_ROf xe_ROf (ftab_cons h_rbinary xe_rbinary ca0_sound)))) lo0_sound ((r_ROfN c_formed c_rleaf c_ROf c_rbinary x).trans ?_)
  rw [via_eq i_formed c_formed, via_eq i_rleaf c_rleaf, via_eq i_ROf c_ROf, via_eq i_rbinary c_rbinary, n_ROfN, h]; rfl
open Classical in
noncomputable def ROf : Nat → a_ROf → Option g_ROf
  | 0, _ => none
  | q + 1, x => if OpenN x.2.2.2.2.1 then t_ROfN (formed q) (rleaf q) (ROf q) (rbinary q) (x.1, x.2.1, x.2.2.1, x.2.2.2.1, opK x.2.2.2.2.1, opN x.2.2.2.2.1, opS x.2.2.2.2.1, opM x.2.2.2.2.1, opF x.2.2.2.2.1, x.2.2.2.2.2) some else none
theorem sc_ROf : ∀ (q : Nat) (x : a_ROf) (z : g_ROf), ROf q x = some z → SC E5 51 (A_ROf x).1 (A_ROf x).2 (R_ROf z) := by
  intro q
  induction q with
  | zero => intro x z h; cases h
  | succ q ih =>
    intro x z h
    unfold ROf at h
    split at h
    · rename_i hO
      have this := s_ROfN (formed q) (sc_formed q) (rleaf q) (sc_rleaf q) (ROf q) ih (rbinary q) (sc_rbinary q) q (x.1, x.2.1, x.2.2.1, x.2.2.2.1, opK x.2.2.2.2.1, opN x.2.2.2.2.1, opS x.2.2.2.2.1, opM x.2.2.2.2.1, opF x.2.2.2.2.1, x.2.2.2.2.2) z h
      unfold A_ROfN at this
      unfold A_ROf
      simp only at this ⊢
      rw [open_eq hO] at this
      exact this
    · cases h
end Go.Proofs.YtniogljhkjbcgaaGreatDoor
/- Types: the small functions agree (plain). -/
namespace Go.Proofs.YtniogljhkjbcgaaGreatDoor
open Go Go.Am Go.Proofs
set_option linter.unusedSimpArgs false
set_option linter.unusedVariables false
set_option maxRecDepth 100000
theorem w_in {n : Int} (h : inR n) : w n = n := by
  unfold w; rw [IntKind.wrap_i64]; unfold inR at h; omega
/-- Both answer, and so. -/
def Both {α : Type} (x y : Option α) (Q : α → Prop) : Prop := ∃ v, x = some v ∧ y = some v ∧ Q v
theorem Both.some {α : Type} {v : α} {Q : α → Prop} (h : Q v) : Both (some v) (some v) Q := ⟨v, rfl, rfl, h⟩
theorem Both.bind {α β : Type} {x y : Option α} {Q : α → Prop} {f g : α → Option β} {R : β → Prop} (h : Both x y Q) (k : ∀ v, Q v → Both (f v) (g v) R) : Both (x.bind f) (y.bind g) R := by
  obtain ⟨v, rfl, rfl, hq⟩ := h
  exact k v hq
theorem Both.ite {α : Type} {c : Prop} [Decidable c] {x y x' y' : Option α} {Q : α → Prop} (h1 : c → Both x x' Q) (h2 : ¬ c → Both y y' Q) : Both (_root_.ite c x y) (_root_.ite c x' y') Q := by
  by_cases h : c
  · rw [if_pos h, if_pos h]; exact h1 h
  · rw [if_neg h, if_neg h]; exact h2 h
theorem Both.flip {α : Type} {a b : List UInt8} {x y x' y' : Option α} {Q : α → Prop} (h1 : Both x x' Q) (h2 : Both y y' Q) : Both (_root_.ite ((b == a) = true) x y) (_root_.ite ((a == b) = true) x' y') Q := by
  rw [BEq.comm (a := b)]
  exact Both.ite (fun _ => h1) (fun _ => h2)
theorem Both.same {α : Type} {a b : List UInt8} {x y x' y' : Option α} {Q : α → Prop} (h1 : Both x x' Q) (h2 : Both y y' Q) : Both (_root_.ite ((a == b) = true) x y) (_root_.ite ((a == b) = true) x' y') Q := Both.ite (fun _ => h1) (fun _ => h2)
theorem Both.mono {α : Type} {x y : Option α} {Q R : α → Prop} (h : Both x y Q) (g : ∀ v, Q v → R v) : Both x y R := by
  obtain ⟨v, h1, h2, h3⟩ := h
  exact ⟨v, h1, h2, g v h3⟩
abbrev DimT : Type := Int × Int × Int × Int × Int
/-- Exponents that types have. -/
def R8 (d : DimT) : Prop := (-8 ≤ d.1 ∧ d.1 ≤ 8) ∧ (-8 ≤ d.2.1 ∧ d.2.1 ≤ 8) ∧ (-8 ≤ d.2.2.1 ∧ d.2.2.1 ≤ 8) ∧ (-8 ≤ d.2.2.2.1 ∧ d.2.2.2.1 ≤ 8) ∧ (-8 ≤ d.2.2.2.2 ∧ d.2.2.2.2 ≤ 8)
theorem kind_both (q q' : Nat) (s : ByteArray) : Both (kind q s) (Operator q' s) (fun v => 0 ≤ v ∧ v ≤ 4) := by
  unfold kind Operator t_kind t_Operator
  repeat' first
    | exact Both.some (by decide)
    | refine Both.flip ?_ ?_
theorem lookup_both (q q' : Nat) (s : ByteArray) : Both (Lookup q s) (RLookup q' s) (fun z => R8 (z.1, z.2.1, z.2.2.1, z.2.2.2.1, z.2.2.2.2.1) ∧ (z.2.2.2.2.2.2 = true → 1 ≤ z.2.2.2.2.2.1 ∧ z.2.2.2.2.2.1 ≤ 3600)) := by
  unfold Lookup RLookup t_Lookup t_RLookup
  repeat' first
    | exact Both.some ⟨by unfold R8; decide, by decide⟩
    | refine Both.flip ?_ ?_
theorem tele_both (q q' : Nat) (s : ByteArray) : Both (Tele q s) (RTele q' s) (fun z => R8 (z.2.1, z.2.2.1, z.2.2.2.1, z.2.2.2.2.1, z.2.2.2.2.2.1)) := by
  unfold Tele RTele t_Tele t_RTele
  repeat' first
    | exact Both.some (by unfold R8; decide)
    | refine Both.same ?_ ?_
theorem number_both (q q' : Nat) (x : a_number) : Both (number q x) (rliteral q' x) (fun z => R8 (z.1, z.2.1, z.2.2.1, z.2.2.2.1, z.2.2.2.2.1)) := by
  unfold number rliteral t_number t_rliteral
  refine Both.ite (fun _ => Both.bind (lookup_both q q' _) fun z hz => ?_) fun _ => ?_
  · refine Both.ite (fun _ => Both.some (by unfold R8; decide)) fun hf => Both.ite (fun _ => Both.some (by unfold R8; decide)) fun _ => ?_
    have h1 := hz.2 (by simpa using hf)
    have h0 : ¬ z.2.2.2.2.2.1 = 0 := by omega
    rw [if_neg h0]
    exact Both.ite (fun _ => Both.some (by unfold R8; decide)) fun _ => Both.some hz.1
  · exact Both.ite (fun _ => Both.some (by unfold R8; decide)) fun _ => Both.ite (fun _ => Both.some (by unfold R8; decide)) fun _ => Both.some (by unfold R8; decide)
theorem gtmax (a b : Int) : (if b > a then b else a) = max a b := by split <;> omega
theorem ltmin (a b : Int) : (if b < a then b else a) = min a b := by split <;> omega
theorem adm_both (q q' : Nat) (d : DimT) : Both (adm q d) (radm q' d) (fun b => b = true → R8 d) := by
  obtain ⟨a, b, c, e, f⟩ := d
  by_cases h : R8 (a, b, c, e, f)
  · refine ⟨true, ?_, ?_, fun _ => h⟩
    · unfold adm t_adm
      unfold R8 at h
      simp only at h ⊢
      repeat (rw [if_neg (by simp only [decide_eq_true_eq]; omega)])
    · unfold radm t_radm
      unfold R8 at h
      simp only [gtmax, ltmin] at h ⊢
      rw [if_pos (by simp only [decide_eq_true_eq]; omega)]
      refine congrArg some (decide_eq_true ?_)
      omega
  · refine ⟨false, ?_, ?_, fun g => by cases g⟩
    · unfold adm t_adm
      simp only
      repeat' split
      all_goals first
        | rfl
        | (exfalso; apply h; unfold R8; simp only [decide_eq_true_eq] at *; omega)
    · unfold radm t_radm
      simp only [gtmax, ltmin]
      split
      · rename_i g
        refine congrArg some (decide_eq_false fun g2 => h ?_)
        unfold R8
        simp only [decide_eq_true_eq] at g ⊢
        omega
      · rfl
theorem times_both (q q' : Nat) (x : a_Times) (h : R8 x.2.2.2.2.2) : Both (Times q x) (RTimes q' x) (fun _ => True) := by
  refine ⟨_, rfl, ?_, trivial⟩
  unfold RTimes t_RTimes
  unfold R8 at h
  have e : ∀ y : Int, -8 ≤ y ∧ y ≤ 8 → w (1 * y) = y := fun y hy => by rw [Int.one_mul]; exact w_in (by unfold inR; omega)
  simp only [e _ h.1, e _ h.2.1, e _ h.2.2.1, e _ h.2.2.2.1, e _ h.2.2.2.2]
theorem over_both (q q' : Nat) (x : a_Over) : Both (Over q x) (ROver q' x) (fun _ => True) := ⟨_, rfl, rfl, trivial⟩
theorem bb {x y : Bool} : ((!x == y) = true) ↔ x ≠ y := by cases x <;> cases y <;> decide
theorem binary_both (q q' : Nat) (x : a_binary) (h1 : R8 (x.2.2.2.1, x.2.2.2.2.1, x.2.2.2.2.2.1, x.2.2.2.2.2.2.1, x.2.2.2.2.2.2.2.1)) (h2 : R8 x.2.2.2.2.2.2.2.2) : Both (binary q x) (rbinary q' x) (fun z => R8 (z.2.1, z.2.2.1, z.2.2.2.1, z.2.2.2.2.1, z.2.2.2.2.2.1)) := by
  obtain ⟨s, x, y, d0, d1, d2, d3, d4, f⟩ := x
  unfold binary rbinary t_binary t_rbinary
  simp only at h1 h2 ⊢
  refine Both.bind (kind_both q q' s) fun k hk => ?_
  have z8 : R8 (0, 0, 0, 0, 0) := by unfold R8; decide
  by_cases k1 : k = 1
  · subst k1
    cases x <;> cases y <;> simp only [beq_self_eq_true, bne_self_eq_false, show (!(true == true)) = false from rfl, show (!(true == false)) = true from rfl, show (!(false == true)) = true from rfl, show (!(false == false)) = false from rfl, Bool.not_true, Bool.not_false, if_true, if_false, Bool.false_eq_true, reduceIte] <;> exact Both.some z8
  · have e1 : (k == (1 : Int)) = false := by simpa using k1
    have e2 : (k != (1 : Int)) = true := by simpa using k1
    cases x <;> cases y <;> simp only [e1, e2, show (!(true == true)) = false from rfl, show (!(true == false)) = true from rfl, show (!(false == true)) = true from rfl, show (!(false == false)) = false from rfl, Bool.not_true, Bool.not_false, if_true, if_false, Bool.false_eq_true, reduceIte]
    · refine Both.ite (fun _ => ?_) fun _ => ?_
      · refine Both.bind (times_both q q' _ h2) fun t _ => Both.ite (fun _ => ?_) fun _ => ?_
        · refine Both.bind (over_both q q' _) fun o _ => Both.bind (adm_both q q' o) fun b hb => Both.ite (fun _ => Both.some z8) fun hn => Both.some (hb (by simpa using hn))
        · refine Both.bind (adm_both q q' t) fun b hb => Both.ite (fun _ => Both.some z8) fun hn => Both.some (hb (by simpa using hn))
      · exact Both.ite (fun _ => Both.some z8) fun _ => Both.ite (fun _ => Both.some z8) fun _ => Both.some h1
    all_goals exact Both.some z8
end Go.Proofs.YtniogljhkjbcgaaGreatDoor
/- Types: trees and variables (plain). -/
namespace Go.Proofs.YtniogljhkjbcgaaGreatDoor
open Go Go.Am Go.Proofs
set_option linter.unusedSimpArgs false
set_option linter.unusedVariables false
set_option maxRecDepth 100000
def Runs {α : Type} (o : Option α) (P : α → Prop) : Prop := ∃ z, o = some z ∧ P z
theorem Runs.bind {α β : Type} {o : Option α} {f : α → Option β} {P : α → Prop} {Q : β → Prop} (h : Runs o P) (g : ∀ z, P z → Runs (f z) Q) : Runs (o.bind f) Q := by
  obtain ⟨z, rfl, hz⟩ := h
  exact g z hz
theorem Runs.some {α : Type} {z : α} {P : α → Prop} (h : P z) : Runs (some z) P := ⟨z, rfl, h⟩
theorem Runs.mono {α : Type} {o : Option α} {P Q : α → Prop} (h : Runs o P) (g : ∀ z, P z → Q z) : Runs o Q := by
  obtain ⟨z, h1, h2⟩ := h
  exact ⟨z, h1, g z h2⟩
theorem Runs.if_pos {α : Type} {c : Prop} [Decidable c] {a b : Option α} {P : α → Prop} (hc : c) (h : Runs a P) : Runs (ite c a b) P := by rw [_root_.if_pos hc]; exact h
theorem Runs.if_neg {α : Type} {c : Prop} [Decidable c] {a b : Option α} {P : α → Prop} (hc : ¬ c) (h : Runs b P) : Runs (ite c a b) P := by rw [_root_.if_neg hc]; exact h
theorem Runs.ite {α : Type} {c : Prop} [Decidable c] {a b : Option α} {P : α → Prop} (h1 : c → Runs a P) (h2 : ¬ c → Runs b P) : Runs (_root_.ite c a b) P := by
  by_cases h : c
  · exact Runs.if_pos h (h1 h)
  · exact Runs.if_neg h (h2 h)
theorem lp_step {α γ : Type} {st : α → Option (α ⊕ γ)} {q : Nat} {y : α} {P : γ → Prop} (h : Runs (st y) (fun r => Sum.elim (fun y' => Runs (lpG st q y') P) P r)) : Runs (lpG st (q + 1) y) P := by
  obtain ⟨r, h1, h2⟩ := h
  rw [lpG_succ, h1]
  cases r with
  | inl y' => exact h2
  | inr z => exact ⟨z, rfl, h2⟩
/-- So many levels of kids are nodes. -/
def OpenD : Nat → Nat → (Nat → List V) → Prop
  | 0, _, f => OpenN f
  | d + 1, m, f => OpenN f ∧ ∀ j, j < m → OpenD d (opM f j) (opF f j)
def OpenA (m : Nat) (f : Nat → List V) : Prop := ∀ d, OpenD d m f
theorem OpenA.here {m : Nat} {f : Nat → List V} (h : OpenA m f) : OpenN f := h 0
theorem OpenA.kid {m : Nat} {f : Nat → List V} (h : OpenA m f) {j : Nat} (hj : j < m) : OpenA (opM f j) (opF f j) := fun d => (h (d + 1)).2 j hj
theorem OpenA.of {m : Nat} {f : Nat → List V} (h : OpenN f) (g : ∀ j, j < m → OpenA (opM f j) (opF f j)) : OpenA m f
  | 0 => h
  | d + 1 => ⟨h, fun j hj => g j hj d⟩
/-- The tree is not deeper. -/
def Dp : Nat → Nat → (Nat → List V) → Prop
  | 0, m, f => m = 0
  | d + 1, m, f => ∀ j, j < m → Dp d (opM f j) (opF f j)
theorem Dp.succ : ∀ {d m : Nat} {f : Nat → List V}, Dp d m f → Dp (d + 1) m f
  | 0, m, f, h => fun j hj => by have h : m = 0 := h; omega
  | d + 1, m, f, h => fun j hj => Dp.succ (h j hj)
theorem Dp.le {d d' m : Nat} {f : Nat → List V} (h : Dp d m f) (hd : d ≤ d') : Dp d' m f := by
  induction d' with
  | zero => have : d = 0 := by omega
            subst this; exact h
  | succ d' ih =>
    by_cases hh : d = d' + 1
    · subst hh; exact h
    · exact (ih (by omega)).succ
theorem tl_eq {a b : ByteArray} : ((ByteArray.toList a == ByteArray.toList b) = true) ↔ a = b := by
  rw [beq_iff_eq, ByteArray.toList_eq, ByteArray.toList_eq]
  constructor
  · intro h
    obtain ⟨⟨x⟩⟩ := a
    obtain ⟨⟨y⟩⟩ := b
    simp only at h
    rw [h]
  · rintro rfl; rfl
abbrev VarT : Type := Nat × (Nat → ByteArray) × (Nat → Int) × (Nat → Int) × (Nat → Int) × (Nat → Int) × (Nat → Int)
def FP (n : Nat) (vs : Nat → ByteArray) (s : ByteArray) (z : Int) : Prop := (z = -1 ∧ ∀ j, j < n → vs j ≠ s) ∨ ∃ i : Nat, i < n ∧ z = i ∧ vs i = s ∧ ∀ j, j < i → vs j ≠ s
theorem find_runs {n : Nat} {vs : Nat → ByteArray} {v0 v1 v2 v3 v4 : Nat → Int} {s : ByteArray} (hn : n ≤ 1000) {q : Nat} (hq : n < q) : Runs (Find q (n, vs, v0, v1, v2, v3, v4, s)) (FP n vs s) := by
  have loop : ∀ (r q i : Nat), i + r = n → r < q → (∀ j, j < i → vs j ≠ s) → Runs (Find_l0 q (n, vs, v0, v1, v2, v3, v4, s) (i : Int)) (fun z => FP n vs s (Sum.elim id (fun _ => -1) z)) := by
    intro r
    induction r with
    | zero =>
      intro q i hi hq hp
      obtain ⟨q, rfl⟩ : ∃ k, q = k + 1 := ⟨q - 1, by omega⟩
      refine lp_step ?_
      unfold Find_l0_t
      dsimp only
      refine Runs.if_neg (show ¬ decide ((i : Int) < (n : Int)) = true by simp only [decide_eq_true_eq]; omega) (Runs.some (.inl ⟨rfl, fun j hj => hp j (by omega)⟩))
    | succ r ih =>
      intro q i hi hq hp
      obtain ⟨q, rfl⟩ : ∃ k, q = k + 1 := ⟨q - 1, by omega⟩
      refine lp_step ?_
      unfold Find_l0_t
      dsimp only
      refine Runs.if_pos (show decide ((i : Int) < (n : Int)) = true by simp only [decide_eq_true_eq]; omega) (Runs.if_pos ⟨by show (0 : Int) ≤ (i : Int); omega, by show (i : Int) < (n : Int); omega⟩ (Runs.ite (fun h => Runs.some ?_) fun h => Runs.some ?_))
      · rw [Int.toNat_natCast, tl_eq] at h
        exact .inr ⟨i, by omega, rfl, h, hp⟩
      · rw [Int.toNat_natCast, tl_eq] at h
        have e : w ((i : Int) + 1) = ((i + 1 : Nat) : Int) := by rw [w_in (by unfold inR; omega)]; omega
        show Runs (lpG _ q (w ((i : Int) + 1))) _
        rw [e]
        refine ih q (i + 1) (by omega) (by omega) fun j hj => ?_
        by_cases hji : j = i
        · subst hji; exact h
        · exact hp j (by omega)
  unfold Find t_Find
  refine Runs.bind (loop n q 0 (by omega) hq fun j hj => by omega) fun z hz => ?_
  rcases z with z | z
  · exact Runs.some hz
  · exact Runs.some hz
/-- Different variables with exponents that types have. -/
structure VOk (z : VarT) : Prop where
  n : z.1 ≤ 12
  ne : ∀ i j, i < j → j < z.1 → z.2.1 i ≠ z.2.1 j
  d : ∀ j, j < z.1 → R8 (z.2.2.1 j, z.2.2.2.1 j, z.2.2.2.2.1 j, z.2.2.2.2.2.1 j, z.2.2.2.2.2.2 j)
end Go.Proofs.YtniogljhkjbcgaaGreatDoor
/- Types: the variables, the table (plain). -/
namespace Go.Proofs.YtniogljhkjbcgaaGreatDoor
open Go Go.Am Go.Proofs
set_option linter.unusedSimpArgs false
set_option linter.unusedVariables false
set_option maxRecDepth 100000
abbrev TabT : Type := Nat × (ByteArray → Bool) × (ByteArray → Int) × (ByteArray → Int) × (ByteArray → Int) × (ByteArray → Int) × (ByteArray → Int)
/-- The table holds the first variables. -/
def TR (v : VarT) (i : Nat) (t : TabT) : Prop := ∀ s, (t.2.1 s = true ↔ ∃ j, j < i ∧ v.2.1 j = s) ∧ ∀ j, j < i → v.2.1 j = s → t.2.2.1 s = v.2.2.1 j ∧ t.2.2.2.1 s = v.2.2.2.1 j ∧ t.2.2.2.2.1 s = v.2.2.2.2.1 j ∧ t.2.2.2.2.2.1 s = v.2.2.2.2.2.1 j ∧ t.2.2.2.2.2.2 s = v.2.2.2.2.2.2 j
theorem ba_eq {a b : ByteArray} : ((a == b) = true) ↔ a = b := by
  obtain ⟨x⟩ := a
  obtain ⟨y⟩ := b
  constructor
  · intro h
    have e : x = y := by simpa using (show (x == y) = true from h)
    rw [e]
  · intro h
    cases h
    show (x == x) = true
    simp
end Go.Proofs.YtniogljhkjbcgaaGreatDoor
/- Types: the type of a tree (plain). -/
namespace Go.Proofs.YtniogljhkjbcgaaGreatDoor
open Go Go.Am Go.Proofs
set_option linter.unusedSimpArgs false
set_option linter.unusedVariables false
set_option maxRecDepth 100000
theorem formed_both (q q' : Nat) (k n : Int) (s : ByteArray) (m : Nat) : ∃ (r : Int) (b : Bool), (∀ f, kids q (k, n, s, m, f) = some r) ∧ (∀ f, formed q' (k, n, s, m, f) = some b) ∧ (b = true ↔ r = m) ∧ (b = true → (m = 0 ∧ (k = 15 ∨ k = 16 ∨ k = 17 ∨ k = 18)) ∨ (m = 1 ∧ k = 19) ∨ (m = 2 ∧ k = 20)) := by
  unfold kids formed t_kids t_formed
  dsimp only
  have b0 : ∀ {c : Prop} [Decidable c], (decide c = true) ↔ c := decide_eq_true_iff
  by_cases h15 : k = 15
  · subst h15
    refine ⟨0, (m : Int) == 0, fun f => by simp, fun f => by simp, by rw [beq_iff_eq]; omega, fun h => ?_⟩
    rw [beq_iff_eq] at h; omega
  by_cases h17 : k = 17
  · subst h17
    refine ⟨0, (m : Int) == 0, fun f => by simp, fun f => by simp, by rw [beq_iff_eq]; omega, fun h => ?_⟩
    rw [beq_iff_eq] at h; omega
  by_cases h18 : k = 18
  · subst h18
    refine ⟨0, (m : Int) == 0, fun f => by simp, fun f => by simp, by rw [beq_iff_eq]; omega, fun h => ?_⟩
    rw [beq_iff_eq] at h; omega
  by_cases h16 : k = 16
  · subst h16
    refine ⟨if n = 0 ∨ n = 1 then 0 else -1, decide ((m : Int) = 0 ∧ (n = 0 ∨ n = 1)), fun f => ?_, fun f => ?_, ?_, fun h => ?_⟩
    · by_cases h0 : n = 0 <;> by_cases h1 : n = 1 <;> simp [h0, h1]
    · by_cases hm : m = 0 <;> by_cases h0 : n = 0 <;> by_cases h1 : n = 1 <;> simp [h0, h1, hm]
    · rw [b0]; split <;> omega
    · rw [b0] at h; omega
  by_cases h19 : k = 19
  · subst h19
    obtain ⟨b1, x1⟩ : ∃ b, (ByteArray.toList s == ByteArray.toList { data := #[(33 : UInt8)] }) = b := ⟨_, rfl⟩
    obtain ⟨b2, x2⟩ : ∃ b, (ByteArray.toList s == ByteArray.toList { data := #[(45 : UInt8)] }) = b := ⟨_, rfl⟩
    cases b1 <;> cases b2
    · refine ⟨-1, false, fun f => by simp only [x1, x2]; simp, fun f => ?_, ?_, fun h => by cases h⟩
      · by_cases hm : (m : Int) = 1 <;> simp only [x1, x2] <;> simp [hm]
      · simp only [Bool.false_eq_true, false_iff]; omega
    all_goals
      refine ⟨1, (m : Int) == 1, fun f => by simp only [x1, x2]; simp, fun f => ?_, by rw [beq_iff_eq]; omega, fun h => ?_⟩
      · by_cases hm : (m : Int) = 1 <;> simp only [x1, x2] <;> simp [hm]
      · rw [beq_iff_eq] at h; omega
  by_cases h20 : k = 20
  · subst h20
    obtain ⟨(v : Int), hv1, hv2, hv3⟩ := kind_both q q' s
    refine ⟨if v > 0 then 2 else -1, decide ((m : Int) = 2 ∧ v > 0), fun f => ?_, fun f => ?_, ?_, fun h => ?_⟩
    · simp only [hv1, Option.bind_some]; by_cases h : v > 0 <;> simp [h]
    · simp only [hv2, Option.bind_some]; by_cases hm : (m : Int) = 2 <;> by_cases h : v > 0 <;> simp [h, hm]
    · rw [b0]; split <;> omega
    · rw [b0] at h; omega
  refine ⟨-1, false, fun f => ?_, fun f => ?_, ?_, fun h => by cases h⟩
  · simp [h15, h16, h17, h18, h19, h20]
  · simp [h15, h16, h17, h18, h19, h20]
  · simp only [Bool.false_eq_true, false_iff]; omega
theorem r8z : R8 (0, 0, 0, 0, 0) := by unfold R8; decide
theorem of_both {v : VarT} (hv : VOk v) {t : TabT} (ht : TR v v.1 t) : ∀ (d q q' : Nat) (k n : Int) (s : ByteArray) (m : Nat) (f : Nat → List V), Dp d m f → OpenA m f → d + 21 ≤ q → d + 21 ≤ q' →
    ∃ z : g_ROf, Of q (k, n, s, m, f, t) = some (z.1, z.2.1, z.2.2.1, z.2.2.2.1, z.2.2.2.2.1, z.2.2.2.2.2.1, z.2.2.2.2.2.2, t) ∧ ROf q' (k, n, s, m, f, v) = some z ∧ R8 (z.2.1, z.2.2.1, z.2.2.2.1, z.2.2.2.2.1, z.2.2.2.2.2.1) := by
  have hn := hv.n
  have leaf : ∀ (q q' : Nat) (k n : Int) (s : ByteArray) (f : Nat → List V), 20 ≤ q → 20 ≤ q' → OpenA 0 f → (k = 15 ∨ k = 16 ∨ k = 17 ∨ k = 18) → (∀ f, kids q (k, n, s, 0, f) = some 0) → (∀ f, formed q' (k, n, s, 0, f) = some true) →
      ∃ z : g_ROf, Of (q + 1) (k, n, s, 0, f, t) = some (z.1, z.2.1, z.2.2.1, z.2.2.2.1, z.2.2.2.2.1, z.2.2.2.2.2.1, z.2.2.2.2.2.2, t) ∧ ROf (q' + 1) (k, n, s, 0, f, v) = some z ∧ R8 (z.2.1, z.2.2.1, z.2.2.2.1, z.2.2.2.2.1, z.2.2.2.2.2.1) := by
    intro q q' k n s f hq hq' hf hk hr hb
    unfold Of ROf
    dsimp only
    rw [_root_.if_pos hf.here, _root_.if_pos hf.here]
    unfold t_OfN t_ROfN
    dsimp only
    simp only [hr, hb, Option.bind_some]
    rcases hk with rfl | rfl | rfl | rfl
    · obtain ⟨z, h1, h2, h3⟩ := number_both q q' (15, n, s, 0, f)
      unfold rleaf t_rleaf
      refine ⟨(false, z), ?_, ?_, h3⟩
      · simp [open_eq hf.here, h1]
      · simp [open_eq hf.here, h2]
    · refine ⟨(true, 0, 0, 0, 0, 0, 0), by simp, by unfold rleaf t_rleaf; simp, r8z⟩
    · obtain ⟨z, h1, h2⟩ := find_runs (n := v.1) (vs := v.2.1) (v0 := v.2.2.1) (v1 := v.2.2.2.1) (v2 := v.2.2.2.2.1) (v3 := v.2.2.2.2.2.1) (v4 := v.2.2.2.2.2.2) (s := s) (by omega) (q := q') (by omega)
      obtain ⟨t1, t2⟩ := ht s
      unfold rleaf t_rleaf found t_found
      rcases h2 with ⟨rfl, hno⟩ | ⟨i, hi, rfl, his, hno⟩
      · have hF : t.2.1 s = false := by
          rw [Bool.eq_false_iff]
          intro h
          obtain ⟨j, hj, hjs⟩ := t1.1 h
          exact hno j hj hjs
        refine ⟨(false, 0, 0, 0, 0, 0, 3), ?_, ?_, r8z⟩
        · simp [hF]
        · simp [h1]
      · have hT : t.2.1 s = true := t1.2 ⟨i, hi, his⟩
        obtain ⟨e0, e1, e2, e3, e4⟩ := t2 i hi his
        refine ⟨(false, v.2.2.1 i, v.2.2.2.1 i, v.2.2.2.2.1 i, v.2.2.2.2.2.1 i, v.2.2.2.2.2.2 i, 0), ?_, ?_, hv.d i hi⟩
        · simp [hT, e0, e1, e2, e3, e4]
        · have hI : (0 : Int) ≤ (i : Int) ∧ (i : Int) < (v.1 : Int) := ⟨by omega, by omega⟩
          have hN : ¬ ((i : Int) < 0) := by omega
          simp [h1, hI, hN, hi]
    · obtain ⟨z, h1, h2, h3⟩ := tele_both q q' s
      unfold rleaf t_rleaf found t_found
      by_cases hz : z.2.2.2.2.2.2 = true
      · refine ⟨(false, z.2.1, z.2.2.1, z.2.2.2.1, z.2.2.2.2.1, z.2.2.2.2.2.1, 0), ?_, ?_, h3⟩
        · simp [h1, hz]
        · simp [h2, hz]
      · refine ⟨(false, 0, 0, 0, 0, 0, 3), ?_, ?_, r8z⟩
        · simp [h1, hz]
        · simp [h2, hz]
  have bad : ∀ (q q' : Nat) (k n : Int) (s : ByteArray) (m : Nat) (f : Nat → List V) (r : Int), OpenA m f → r ≠ m → (∀ f, kids q (k, n, s, m, f) = some r) → (∀ f, formed q' (k, n, s, m, f) = some false) →
      ∃ z : g_ROf, Of (q + 1) (k, n, s, m, f, t) = some (z.1, z.2.1, z.2.2.1, z.2.2.2.1, z.2.2.2.2.1, z.2.2.2.2.2.1, z.2.2.2.2.2.2, t) ∧ ROf (q' + 1) (k, n, s, m, f, v) = some z ∧ R8 (z.2.1, z.2.2.1, z.2.2.2.1, z.2.2.2.2.1, z.2.2.2.2.2.1) := by
    intro q q' k n s m f r hf hrm hr hb
    unfold Of ROf
    dsimp only
    rw [_root_.if_pos hf.here, _root_.if_pos hf.here]
    unfold t_OfN t_ROfN
    dsimp only
    simp only [hr, hb, Option.bind_some]
    exact ⟨(false, 0, 0, 0, 0, 0, 7), by simp [hrm], by simp, r8z⟩
  intro d
  induction d with
  | zero =>
    intro q q' k n s m f hd hf hq hq'
    have hd : m = 0 := hd
    subst hd
    obtain ⟨q, rfl⟩ : ∃ k, q = k + 1 := ⟨q - 1, by omega⟩
    obtain ⟨q', rfl⟩ : ∃ k, q' = k + 1 := ⟨q' - 1, by omega⟩
    obtain ⟨r, b, hr, hb, h1, h2⟩ := formed_both q q' k n s 0
    by_cases hrm : r = (0 : Nat)
    · obtain rfl := h1.2 hrm
      subst hrm
      rcases h2 rfl with ⟨_, h⟩ | ⟨h, _⟩ | ⟨h, _⟩
      · exact leaf q q' k n s f (by omega) (by omega) hf h hr hb
      · omega
      · omega
    · have hb' : b = false := by cases b; rfl; exact absurd (h1.1 rfl) hrm
      subst hb'
      exact bad q q' k n s 0 f r hf hrm hr hb
  | succ d ih =>
    intro q q' k n s m f hd hf hq hq'
    obtain ⟨q, rfl⟩ : ∃ k, q = k + 1 := ⟨q - 1, by omega⟩
    obtain ⟨q', rfl⟩ : ∃ k, q' = k + 1 := ⟨q' - 1, by omega⟩
    obtain ⟨r, b, hr, hb, h1, h2⟩ := formed_both q q' k n s m
    by_cases hrm : r = (m : Nat)
    · obtain rfl := h1.2 hrm
      subst hrm
      rcases h2 rfl with ⟨rfl, h⟩ | ⟨rfl, rfl⟩ | ⟨rfl, rfl⟩
      · exact leaf q q' k n s f (by omega) (by omega) hf h hr hb
      · obtain ⟨z, g1, g2, g3⟩ := ih q q' (opK f 0) (opN f 0) (opS f 0) (opM f 0) (opF f 0) (hd 0 (by omega)) (hf.kid (by omega)) (by omega) (by omega)
        unfold Of ROf
        dsimp only
        rw [_root_.if_pos hf.here, _root_.if_pos hf.here]
        unfold t_OfN t_ROfN
        dsimp only
        simp only [hr, hb, Option.bind_some, g1, g2]
        by_cases he : z.2.2.2.2.2.2 = 0
        · by_cases hx : (!z.1 == (ByteArray.toList s == ByteArray.toList { data := #[(33 : UInt8)] })) = true
          · exact ⟨(false, 0, 0, 0, 0, 0, 12), by simp only [hx]; simp [he], by simp only [hx]; simp [he], r8z⟩
          · exact ⟨(z.1, z.2.1, z.2.2.1, z.2.2.2.1, z.2.2.2.2.1, z.2.2.2.2.2.1, 0), by simp only [hx]; simp [he], by simp only [hx]; simp [he], g3⟩
        · exact ⟨(false, 0, 0, 0, 0, 0, z.2.2.2.2.2.2), by simp [he], by simp [he], r8z⟩
      · obtain ⟨z, g1, g2, g3⟩ := ih q q' (opK f 0) (opN f 0) (opS f 0) (opM f 0) (opF f 0) (hd 0 (by omega)) (hf.kid (by omega)) (by omega) (by omega)
        obtain ⟨z', k1, k2, k3⟩ := ih q q' (opK f 1) (opN f 1) (opS f 1) (opM f 1) (opF f 1) (hd 1 (by omega)) (hf.kid (by omega)) (by omega) (by omega)
        unfold Of ROf
        dsimp only
        rw [_root_.if_pos hf.here, _root_.if_pos hf.here]
        unfold t_OfN t_ROfN
        dsimp only
        simp only [hr, hb, Option.bind_some, g1, g2, k1, k2]
        by_cases he : z.2.2.2.2.2.2 = 0
        · by_cases he' : z'.2.2.2.2.2.2 = 0
          · obtain ⟨u, l1, l2, l3⟩ := binary_both q q' (s, z.1, z'.1, z.2.1, z.2.2.1, z.2.2.2.1, z.2.2.2.2.1, z.2.2.2.2.2.1, z'.2.1, z'.2.2.1, z'.2.2.2.1, z'.2.2.2.2.1, z'.2.2.2.2.2.1) g3 k3
            exact ⟨u, by simp [he, he', l1], by simp [he, he', l2], l3⟩
          · exact ⟨(false, 0, 0, 0, 0, 0, z'.2.2.2.2.2.2), by simp [he, he'], by simp [he, he'], r8z⟩
        · exact ⟨(false, 0, 0, 0, 0, 0, z.2.2.2.2.2.2), by simp [he], by simp [he], r8z⟩
    · have hb' : b = false := by cases b; rfl; exact absurd (h1.1 rfl) hrm
      subst hb'
      exact bad q q' k n s m f r hf hrm hr hb
end Go.Proofs.YtniogljhkjbcgaaGreatDoor
/- The chapter's examples, known. -/
namespace Go.Proofs.YtniogljhkjbcgaaGreatDoor
open Go Go.Am Go.Proofs
set_option linter.unusedSimpArgs false
set_option linter.unusedVariables false
set_option maxRecDepth 100000
abbrev a_lives : Type := Unit
abbrev g_lives : Type := Bool
def A_lives : a_lives → List V × List (Option Chunk) := (fun _ => (([] : List V), ([] : List (Option Chunk))))
def d_lives (t : List V × List (Option Chunk)) : a_lives := ()
theorem i_lives : ∀ x y, A_lives x = A_lives y → x = y := fun x y h => (congrArg d_lives h :)
def R_lives : g_lives → CRes := (fun z => (fun (b : Bool) => .ret (bo b) []) z : (Bool) → CRes)
def x_lives (z : g_lives) (k : CRes → Option Ans) : Option Ans := k (R_lives z)
theorem xe_lives : ∀ z k, x_lives z k = k (R_lives z) := fun z k => rfl
noncomputable def lives (q : Nat) (x : a_lives) : Option g_lives := some true
theorem sc_lives (q : Nat) : ∀ (x : a_lives) (z : g_lives), lives q x = some z → SC E5 5 (A_lives x).1 (A_lives x).2 (R_lives z) := by
  intro x z h
  cases h
  exact sc5.2 lives_true
end Go.Proofs.YtniogljhkjbcgaaGreatDoor
/- TypesOf (plain), and trees that come in. -/
namespace Go.Proofs.YtniogljhkjbcgaaGreatDoor
open Go Go.Am Go.Proofs
set_option linter.unusedSimpArgs false
set_option linter.unusedVariables false
set_option maxRecDepth 100000
theorem wt_struct {P : Program} {d : Nat} {t : TypeId} {vs : List V} {l : List TypeId} (h : WT P (d + 1) t vs) (ht : structP P t = some l) : Cat (l.map (WT P d)) vs := by
  unfold structP at ht
  unfold WT at h
  split at ht
  · rename_i hu; rw [hu] at h; cases ht; rw [List.map_map]; exact h
  · rename_i hu; rw [hu] at h; cases ht; exact h
  · cases ht
theorem wt_slice {P : Program} {d : Nat} {t e : TypeId} {vs : List V} {c : Nat} (h : WT P (d + 1) t vs) (ht : elemP P t = some e) (hc : P.cellsOf e = c) (h0 : 0 < c) : ∃ n f, vs = [.ro c n f] ∧ n ≤ Go.maxLen ∧ ∀ j, j < n → WT P d e (f j) := by
  unfold elemP at ht
  unfold WT at h
  split at ht
  · rename_i hu; rw [hu] at h; cases ht; subst hc; exact h h0
  · cases ht
/-- A node that came in, so far down. -/
def NodeOk : Nat → List V → Prop
  | 0, _ => False
  | d + 1, l => ∃ (k n : Int) (s : ByteArray) (m : Nat) (f : Nat → List V), l = [i64 k, i64 n, st s, .ro 4 m f] ∧ inR k ∧ inR n ∧ s.size ≤ Go.maxLen ∧ m ≤ Go.maxLen ∧ OpenA m f ∧ ∀ j, j < m → NodeOk d (f j)
def leafV : List V := [i64 0, i64 0, st ByteArray.empty, .ro 4 0 (fun _ => [])]
theorem NodeOk.open {d : Nat} {l : List V} (h : NodeOk d l) : ∃ (k n : Int) (s : ByteArray) (m : Nat) (f : Nat → List V), l = [i64 k, i64 n, st s, .ro 4 m f] ∧ OpenA m f := by
  cases d with
  | zero => cases h
  | succ d => obtain ⟨k, n, s, m, f, h1, _, _, _, _, h2, _⟩ := h; exact ⟨k, n, s, m, f, h1, h2⟩
theorem NodeOk.pure {d : Nat} {l : List V} (h : NodeOk d l) : pureL l = true := by
  obtain ⟨k, n, s, m, f, rfl, _⟩ := h.open
  rfl
theorem nodeOk_succ : ∀ {d : Nat} {l : List V}, NodeOk d l → NodeOk (d + 1) l
  | 0, _, h => by cases h
  | d + 1, l, h => by
    obtain ⟨k, n, s, m, f, e, h1, h2, h3, h4, h5, h6⟩ := h
    exact ⟨k, n, s, m, f, e, h1, h2, h3, h4, h5, fun j hj => nodeOk_succ (h6 j hj)⟩
theorem openA_of {m : Nat} {f : Nat → List V} (h1 : ∀ j, j < m → ∃ (k n : Int) (s : ByteArray) (m' : Nat) (f' : Nat → List V), f j = [i64 k, i64 n, st s, .ro 4 m' f'] ∧ OpenA m' f') (h2 : ∀ j, ¬ j < m → f j = leafV) : OpenA m f := by
  refine OpenA.of (fun j => ?_) fun j hj => ?_
  · by_cases h : j < m
    · obtain ⟨k, n, s, m', f', e, _⟩ := h1 j h
      unfold opK opN opS opM opF
      rw [e]; rfl
    · unfold opK opN opS opM opF
      rw [h2 j h]; rfl
  · obtain ⟨k, n, s, m', f', e, ho⟩ := h1 j hj
    unfold opM opF
    rw [e]; exact ho
theorem node_in : ∀ (d : Nat) (l : List V), WT E.P d 25 l → ∃ l', LeL l l' ∧ NodeOk d l' := by
  intro d
  induction d using Nat.strongRecOn with
  | ind d ih =>
    intro l h
    obtain ⟨d, rfl⟩ : ∃ k, d = k + 1 := by cases d with
      | zero => cases h
      | succ k => exact ⟨k, rfl⟩
    obtain ⟨a, b, rfl, ha, b1, b2, rfl, hb, c1, c2, rfl, hc, e1, e2, rfl, he, rfl⟩ := wt_struct h (l := [3, 3, 9, 23]) (by kernel_rfl)
    obtain ⟨k, rfl, hk⟩ := ha.i64 (by kernel_rfl)
    obtain ⟨n, rfl, hn⟩ := hb.i64 (by kernel_rfl)
    obtain ⟨s, rfl, hs⟩ := hc.str (by kernel_rfl)
    obtain ⟨d', rfl⟩ : ∃ k, d = k + 1 := by cases d with
      | zero => cases he
      | succ k => exact ⟨k, rfl⟩
    obtain ⟨m, f, rfl, hm, hf⟩ := wt_slice he (e := 25) (c := 4) (by kernel_rfl) (by kernel_rfl) (by omega)
    have key : ∀ j, ∃ l', j < m → LeL (f j) l' ∧ NodeOk d' l' := fun j => by
      by_cases hj : j < m
      · obtain ⟨l', g⟩ := ih d' (by omega) (f j) (hf j hj)
        exact ⟨l', fun _ => g⟩
      · exact ⟨[], fun h => absurd h hj⟩
    let g : Nat → List V := fun j => if j < m then Classical.choose (key j) else leafV
    have hg : ∀ j, j < m → LeL (f j) (g j) ∧ NodeOk d' (g j) := fun j hj => by
      simp only [g, if_pos hj]; exact Classical.choose_spec (key j) hj
    have hg2 : ∀ j, ¬ j < m → g j = leafV := fun j hj => by simp only [g, if_neg hj]
    have ho : OpenA m g := openA_of (fun j hj => (hg j hj).2.open) hg2
    refine ⟨[i64 k, i64 n, st s, .ro 4 m g], LeL.cons (Le.refl _) (LeL.cons (Le.refl _) (LeL.cons (Le.refl _) (LeL.cons (Le.ro fun j hj => ⟨(hg j hj).1, (hg j hj).2.pure⟩) LeL.nil))), k, n, s, m, g, rfl, hk, hn, hs, hm, ho, fun j hj => ?_⟩
    exact nodeOk_succ (hg j hj).2
theorem toE {f : FuncId} {args : List V} {L : List (Option Chunk)} {cr : CRes} (h : SC E5 f args L cr) : SC E f args L cr := sc5.1 h
end Go.Proofs.YtniogljhkjbcgaaGreatDoor
/- Types: trees as data, and what the functions make of them (plain). -/
namespace Go.Proofs.YtniogljhkjbcgaaGreatDoor
open Go Go.Am Go.Proofs
set_option linter.unusedSimpArgs false
set_option linter.unusedVariables false
set_option maxRecDepth 100000
inductive Tr where
  | node (k n : Int) (s : ByteArray) (l : List Tr) : Tr
mutual
def siz : Tr → Nat
  | .node _ _ _ l => 1 + sizL l
def sizL : List Tr → Nat
  | [] => 0
  | t :: l => siz t + sizL l
end
abbrev NodeT : Type := Int × Int × ByteArray × Nat × (Nat → List V)
abbrev kidAt (f : Nat → List V) (j : Nat) : NodeT := (opK f j, opN f j, opS f j, opM f j, opF f j)
mutual
/-- These cells are this tree. -/
def Rep : Tr → NodeT → Prop
  | .node k n s l, x => x.1 = k ∧ x.2.1 = n ∧ x.2.2.1 = s ∧ x.2.2.2.1 = l.length ∧ l.length ≤ Go.maxLen ∧ OpenN x.2.2.2.2 ∧ RepL l x.2.2.2.2 0
def RepL : List Tr → (Nat → List V) → Nat → Prop
  | [], _, _ => True
  | t :: l, f, j => Rep t (kidAt f j) ∧ RepL l f (j + 1)
end
theorem siz_pos (t : Tr) : 1 ≤ siz t := by cases t; simp [siz]
theorem sizL_len : ∀ l : List Tr, l.length ≤ sizL l
  | [] => Nat.le_refl _
  | t :: l => by have := sizL_len l; have := siz_pos t; simp only [sizL, List.length_cons]; omega
theorem repL_at : ∀ (l : List Tr) (f : Nat → List V) (i : Nat), RepL l f i → ∀ (j : Nat) (t : Tr), l[j]? = some t → Rep t (kidAt f (i + j))
  | [], _, _, _, j, t, h => by simp at h
  | t :: l, f, i, h, 0, t', e => by
    simp only [RepL] at h
    simp only [List.getElem?_cons_zero, Option.some.injEq] at e
    subst e
    exact h.1
  | t :: l, f, i, h, j + 1, t', e => by
    simp only [RepL] at h
    have := repL_at l f (i + 1) h.2 j t' (by simpa using e)
    rwa [show i + 1 + j = i + (j + 1) by omega] at this
theorem repL_mk : ∀ (l : List Tr) (f : Nat → List V) (i : Nat), (∀ (j : Nat) (t : Tr), l[j]? = some t → Rep t (kidAt f (i + j))) → RepL l f i
  | [], _, _, _ => by simp only [RepL]
  | t :: l, f, i, h => by
    simp only [RepL]
    refine ⟨h 0 t rfl, repL_mk l f (i + 1) fun j t' e => ?_⟩
    have := h (j + 1) t' (by simpa using e)
    rwa [show i + (j + 1) = i + 1 + j by omega] at this
theorem sizL_at : ∀ (l : List Tr) (j : Nat) (t : Tr), l[j]? = some t → sizL (l.take j) + siz t ≤ sizL l
  | [], j, t, h => by simp at h
  | t :: l, 0, t', e => by
    simp only [List.getElem?_cons_zero, Option.some.injEq] at e
    subst e
    simp [sizL]
  | t :: l, j + 1, t', e => by
    have := sizL_at l j t' (by simpa using e)
    simp only [List.take_succ_cons, sizL]; omega
theorem sizL_take_succ : ∀ (l : List Tr) (j : Nat) (t : Tr), l[j]? = some t → sizL (l.take (j + 1)) = sizL (l.take j) + siz t
  | [], j, t, h => by simp at h
  | t :: l, 0, t', e => by
    simp only [List.getElem?_cons_zero, Option.some.injEq] at e
    subst e
    simp [sizL]
  | t :: l, j + 1, t', e => by
    have := sizL_take_succ l j t' (by simpa using e)
    simp only [List.take_succ_cons, sizL] at this ⊢; omega
theorem rep_in : ∀ (d : Nat) (l : List V), NodeOk d l → ∃ (k n : Int) (s : ByteArray) (m : Nat) (f : Nat → List V) (t : Tr), l = [i64 k, i64 n, st s, .ro 4 m f] ∧ inR n ∧ s.size ≤ Go.maxLen ∧ OpenA m f ∧ Rep t (k, n, s, m, f) := by
  intro d
  induction d with
  | zero => intro l h; cases h
  | succ d ih =>
    intro l h
    obtain ⟨k, n, s, m, f, rfl, h1, h2, h3, h4, h5, h6⟩ := h
    have key : ∀ j, ∃ t, j < m → Rep t (kidAt f j) := fun j => by
      by_cases hj : j < m
      · obtain ⟨k', n', s', m', f', t, e, _, _, _, g⟩ := ih (f j) (h6 j hj)
        refine ⟨t, fun _ => ?_⟩
        unfold kidAt opK opN opS opM opF
        rw [e]; exact g
      · exact ⟨.node 0 0 s [], fun h => absurd h hj⟩
    obtain ⟨g, hg⟩ := Classical.axiomOfChoice key
    refine ⟨k, n, s, m, f, .node k n s ((List.range m).map g), rfl, h2, h3, h5, ?_⟩
    simp only [Rep]
    refine ⟨trivial, trivial, trivial, by simp, by simpa using h4, h5.here, repL_mk _ _ _ fun j t e => ?_⟩
    rw [List.getElem?_map] at e
    by_cases hj : j < m
    · rw [List.getElem?_range hj] at e
      simp only [Option.map_some, Option.some.injEq] at e
      subst e
      rw [Nat.zero_add]; exact hg j hj
    · rw [List.getElem?_eq_none (by simp; omega)] at e; cases e
end Go.Proofs.YtniogljhkjbcgaaGreatDoor
/- Types: the functions on trees as data (plain). -/
namespace Go.Proofs.YtniogljhkjbcgaaGreatDoor
open Go Go.Am Go.Proofs
set_option linter.unusedSimpArgs false
set_option linter.unusedVariables false
set_option maxRecDepth 100000
theorem sizL_take_le : ∀ (l : List Tr) (i : Nat), sizL (l.take i) ≤ sizL l
  | [], i => by simp [sizL]
  | t :: l, 0 => by simp [sizL]
  | t :: l, i + 1 => by have := sizL_take_le l i; simp only [List.take_succ_cons, sizL]; omega
theorem nodes_loopV {c : a_Nodes → Option g_Nodes} {most : Nat} {l : List Tr} {f : Nat → List V} {nk nn : Int} {ns : ByteArray} (hm : most ≤ 300) (hl : l.length ≤ Go.maxLen)
    (hc : ∀ (most' j : Nat) (t : Tr), most' ≤ 300 → l[j]? = some t → Runs (c (opK f j, opN f j, opS f j, opM f j, opF f j, (most' : Int))) (fun (z : Int) => z = ((min (siz t) (most' + 1) : Nat) : Int))) :
    ∀ (r q kk i : Nat), i + r = l.length → r < q → kk = min (1 + sizL (l.take i)) (most + 1) →
      Runs (NodesN_l0 c q (nk, nn, ns, l.length, opK f, opN f, opS f, opM f, opF f, (most : Int)) ((kk : Int), (i : Int))) (fun (z : Int) => z = ((min (1 + sizL l) (most + 1) : Nat) : Int)) := by
  have hml : Go.maxLen = 9223372036854775807 := by decide
  intro r
  induction r with
  | zero =>
    intro q kk i hi hq hk
    obtain ⟨q, rfl⟩ : ∃ k, q = k + 1 := ⟨q - 1, by omega⟩
    refine lp_step ?_
    unfold NodesN_l0_t
    dsimp only
    rw [List.take_of_length_le (by omega)] at hk
    refine Runs.if_neg (show ¬ decide ((i : Int) < (l.length : Int)) = true by simp only [decide_eq_true_eq]; omega) (Runs.some ?_)
    show (kk : Int) = _
    rw [hk]
  | succ r ih =>
    intro q kk i hi hq hk
    obtain ⟨q, rfl⟩ : ∃ k, q = k + 1 := ⟨q - 1, by omega⟩
    refine lp_step ?_
    unfold NodesN_l0_t
    dsimp only
    have hil : i < l.length := by omega
    obtain ⟨t, ht⟩ : ∃ t, l[i]? = some t := ⟨l[i], List.getElem?_eq_getElem hil⟩
    have hts := sizL_take_succ l i t ht
    have hle := sizL_take_le l (i + 1)
    have hsp := siz_pos t
    refine Runs.if_pos (show decide ((i : Int) < (l.length : Int)) = true by simp only [decide_eq_true_eq]; omega) (Runs.ite (fun h2 => Runs.if_pos ⟨by omega, by omega⟩ ?_) fun h2 => Runs.some ?_)
    · simp only [decide_eq_true_eq] at h2
      have e1 : w ((most : Int) - (kk : Int)) = ((most - kk : Nat) : Int) := by rw [w_in (by unfold inR; omega)]; omega
      have e2 : w ((i : Int) + 1) = ((i + 1 : Nat) : Int) := by rw [w_in (by unfold inR; omega)]; omega
      rw [e1, e2, Int.toNat_natCast]
      refine Runs.bind (hc (most - kk) i t (by omega) ht) fun (z : Int) hz => Runs.some ?_
      subst hz
      have e3 : w ((kk : Int) + ((min (siz t) (most - kk + 1) : Nat) : Int)) = ((kk + min (siz t) (most - kk + 1) : Nat) : Int) := by rw [w_in (by unfold inR; omega)]; omega
      rw [e3]
      exact ih q _ (i + 1) (by omega) (by omega) (by omega)
    · simp only [decide_eq_true_eq] at h2
      show (kk : Int) = _
      omega
theorem nodes_V : ∀ (q : Nat) (t : Tr) (x : NodeT) (most : Nat), Rep t x → siz t < q → most ≤ 300 → Runs (Nodes q (x.1, x.2.1, x.2.2.1, x.2.2.2.1, x.2.2.2.2, (most : Int))) (fun (z : Int) => z = ((min (siz t) (most + 1) : Nat) : Int)) := by
  intro q
  induction q with
  | zero => intro t x most _ h; omega
  | succ q ih =>
    rintro ⟨k, n, s, l⟩ ⟨k', n', s', m', f⟩ most hr hq hm
    simp only [Rep] at hr
    obtain ⟨rfl, rfl, rfl, rfl, hl, ho, hk⟩ := hr
    unfold Nodes
    dsimp only
    rw [_root_.if_pos ho]
    unfold t_NodesN
    simp only [siz] at hq ⊢
    have := sizL_len l
    refine Runs.bind (nodes_loopV hm hl (fun most' j t hm' ht => ?_) l.length q 1 0 (by omega) (by omega) (by simp only [List.take_zero, sizL]; omega)) fun z hz => Runs.some hz
    have h1 := repL_at l f 0 hk j t ht
    rw [Nat.zero_add] at h1
    have h2 := sizL_at l j t ht
    exact ih t (kidAt f j) most' h1 (by omega) hm'
end Go.Proofs.YtniogljhkjbcgaaGreatDoor
/- Types: the type of a tree as data; tables as functions (plain). -/
namespace Go.Proofs.YtniogljhkjbcgaaGreatDoor
open Go Go.Am Go.Proofs
set_option linter.unusedSimpArgs false
set_option linter.unusedVariables false
set_option maxRecDepth 100000
abbrev Ty : Type := g_ROf
def badV (e : Int) : Ty := (false, 0, 0, 0, 0, 0, e)
noncomputable def kidsV (k n : Int) (s : ByteArray) : Int := (kids 0 (k, n, s, 0, fun _ => [])).getD 0
noncomputable def numV (n : Int) (s : ByteArray) : g_number := (number 0 (15, n, s, 0, fun _ => [])).getD (0, 0, 0, 0, 0, 0)
noncomputable def teleV (s : ByteArray) : g_Tele := (Tele 0 s).getD (0, 0, 0, 0, 0, 0, false)
noncomputable def binV (x : a_binary) : g_binary := (binary 0 x).getD (false, 0, 0, 0, 0, 0, 0)
theorem some_getD {α : Type} {o : Option α} {d : α} (h : ∃ z, o = some z) : o = some (o.getD d) := by obtain ⟨z, rfl⟩ := h; rfl
theorem kids_eq (q : Nat) (k n : Int) (s : ByteArray) (m : Nat) (f : Nat → List V) : kids q (k, n, s, m, f) = some (kidsV k n s) := by
  obtain ⟨r, b, h1, _⟩ := formed_both 0 0 k n s 0
  exact (show kids q (k, n, s, m, f) = kids 0 (k, n, s, 0, fun _ => []) from rfl).trans (some_getD ⟨r, h1 _⟩)
theorem kidsV_range (k n : Int) (s : ByteArray) : (kidsV k n s = 0 → k = 15 ∨ k = 16 ∨ k = 17 ∨ k = 18) ∧ (kidsV k n s = 1 → k = 19) ∧ (kidsV k n s = 2 → k = 20) ∧ kidsV k n s ≤ 2 := by
  have key : ∀ m : Nat, kidsV k n s = m → (m = 0 ∧ (k = 15 ∨ k = 16 ∨ k = 17 ∨ k = 18)) ∨ (m = 1 ∧ k = 19) ∨ (m = 2 ∧ k = 20) := fun m hm => by
    obtain ⟨r, b, h1, _, h2, h3⟩ := formed_both 0 0 k n s m
    have e := (h1 (fun _ => [])).symm.trans (kids_eq 0 k n s m (fun _ => []))
    cases e
    exact h3 (h2.2 hm)
  refine ⟨fun h => ?_, fun h => ?_, fun h => ?_, ?_⟩
  · rcases key 0 h with ⟨_, h⟩ | ⟨h, _⟩ | ⟨h, _⟩
    · exact h
    · omega
    · omega
  · rcases key 1 h with ⟨h, _⟩ | ⟨_, h⟩ | ⟨h, _⟩
    · omega
    · exact h
    · omega
  · rcases key 2 h with ⟨h, _⟩ | ⟨h, _⟩ | ⟨_, h⟩
    · omega
    · omega
    · exact h
  · rcases Int.lt_or_le 2 (kidsV k n s) with h | h
    · rcases key (kidsV k n s).toNat (by omega) with ⟨h, _⟩ | ⟨h, _⟩ | ⟨h, _⟩ <;> omega
    · exact h
theorem num_eq (q : Nat) (k n : Int) (s : ByteArray) (m : Nat) (f : Nat → List V) : number q (k, n, s, m, f) = some (numV n s) := by
  obtain ⟨z, h, _⟩ := number_both 0 0 (15, n, s, 0, fun _ => [])
  exact (show number q (k, n, s, m, f) = number 0 (15, n, s, 0, fun _ => []) from rfl).trans (some_getD ⟨z, h⟩)
theorem tele_eq (q : Nat) (s : ByteArray) : Tele q s = some (teleV s) := by
  obtain ⟨z, h, _⟩ := tele_both 0 0 s
  exact (show Tele q s = Tele 0 s from rfl).trans (some_getD ⟨z, h⟩)
theorem adm_some (q : Nat) (d : DimT) : ∃ z, adm q d = some z := by
  obtain ⟨z, h, _⟩ := adm_both q q d
  exact ⟨z, h⟩
theorem bin_eq (q : Nat) (x : a_binary) : binary q x = some (binV x) := by
  refine (show binary q x = binary 0 x from rfl).trans (some_getD ?_)
  obtain ⟨k, hk, _⟩ := kind_both 0 0 x.1
  obtain ⟨b1, h1⟩ := adm_some 0 ((Over 0 x.2.2.2).getD (0, 0, 0, 0, 0))
  obtain ⟨b2, h2⟩ := adm_some 0 ((Times 0 x.2.2.2).getD (0, 0, 0, 0, 0))
  have o1 : Over 0 x.2.2.2 = some ((Over 0 x.2.2.2).getD (0, 0, 0, 0, 0)) := rfl
  have o2 : Times 0 x.2.2.2 = some ((Times 0 x.2.2.2).getD (0, 0, 0, 0, 0)) := rfl
  unfold binary t_binary
  rw [hk, o1, o2]
  simp only [Option.bind_some, h1, h2]
  repeat' split
  all_goals exact ⟨_, rfl⟩
noncomputable def leafV' (T : ByteArray → Option DimT) (k n : Int) (s : ByteArray) : Ty :=
  if k = 15 then (false, numV n s)
  else if k = 16 then (true, 0, 0, 0, 0, 0, 0)
  else if k = 17 then (match T s with | some d => (false, d.1, d.2.1, d.2.2.1, d.2.2.2.1, d.2.2.2.2, 0) | none => badV 3)
  else if (teleV s).2.2.2.2.2.2 = true then (false, (teleV s).2.1, (teleV s).2.2.1, (teleV s).2.2.2.1, (teleV s).2.2.2.2.1, (teleV s).2.2.2.2.2.1, 0) else badV 3
def errV (z : Ty) : Int := z.2.2.2.2.2.2
noncomputable def unV (s : ByteArray) (z : Ty) : Ty :=
  if errV z ≠ 0 then badV (errV z)
  else if (!z.1 == (ByteArray.toList s == ByteArray.toList { data := #[(33 : UInt8)] })) = true then badV 12 else (z.1, z.2.1, z.2.2.1, z.2.2.2.1, z.2.2.2.2.1, z.2.2.2.2.2.1, 0)
noncomputable def biV (s : ByteArray) (z z' : Ty) : Ty :=
  if errV z ≠ 0 then badV (errV z) else if errV z' ≠ 0 then badV (errV z')
  else binV (s, z.1, z'.1, z.2.1, z.2.2.1, z.2.2.2.1, z.2.2.2.2.1, z.2.2.2.2.2.1, z'.2.1, z'.2.2.1, z'.2.2.2.1, z'.2.2.2.2.1, z'.2.2.2.2.2.1)
noncomputable def ofV (T : ByteArray → Option DimT) : Tr → Ty
  | .node k n s [] => if kidsV k n s = 0 then leafV' T k n s else badV 7
  | .node k n s [a] => if kidsV k n s = 1 then unV s (ofV T a) else badV 7
  | .node k n s [a, b] => if kidsV k n s = 2 then biV s (ofV T a) (ofV T b) else badV 7
  | .node _ _ _ (_ :: _ :: _ :: _) => badV 7
theorem ofV_nil (T : ByteArray → Option DimT) (k n : Int) (s : ByteArray) : ofV T (.node k n s []) = if kidsV k n s = 0 then leafV' T k n s else badV 7 := by rw [ofV]
theorem ofV_one (T : ByteArray → Option DimT) (k n : Int) (s : ByteArray) (a : Tr) : ofV T (.node k n s [a]) = if kidsV k n s = 1 then unV s (ofV T a) else badV 7 := by rw [ofV]
theorem ofV_two (T : ByteArray → Option DimT) (k n : Int) (s : ByteArray) (a b : Tr) : ofV T (.node k n s [a, b]) = if kidsV k n s = 2 then biV s (ofV T a) (ofV T b) else badV 7 := by rw [ofV]
theorem ofV_more (T : ByteArray → Option DimT) (k n : Int) (s : ByteArray) (a b c : Tr) (l : List Tr) : ofV T (.node k n s (a :: b :: c :: l)) = badV 7 := by rw [ofV]
def tabOf (t : TabT) (s : ByteArray) : Option DimT := if t.2.1 s = true then some (t.2.2.1 s, t.2.2.2.1 s, t.2.2.2.2.1 s, t.2.2.2.2.2.1 s, t.2.2.2.2.2.2 s) else none
theorem of_V (t : TabT) : ∀ (tr : Tr) (x : NodeT) (q : Nat), Rep tr x → siz tr < q → Of q (x.1, x.2.1, x.2.2.1, x.2.2.2.1, x.2.2.2.2, t) = some ((ofV (tabOf t) tr).1, (ofV (tabOf t) tr).2.1, (ofV (tabOf t) tr).2.2.1, (ofV (tabOf t) tr).2.2.2.1, (ofV (tabOf t) tr).2.2.2.2.1, (ofV (tabOf t) tr).2.2.2.2.2.1, (ofV (tabOf t) tr).2.2.2.2.2.2, t)
  | .node k n s [], (k', n', s', m', f), q, hr, hq => by
    simp only [Rep] at hr
    obtain ⟨rfl, rfl, rfl, rfl, hl, ho, hk⟩ := hr
    obtain ⟨q, rfl⟩ : ∃ k, q = k + 1 := ⟨q - 1, by omega⟩
    unfold Of
    dsimp only
    rw [_root_.if_pos ho]
    unfold t_OfN
    dsimp only [List.length_nil]
    simp only [kids_eq, Option.bind_some]
    rw [ofV_nil]
    by_cases h0 : kidsV k' n' s' = 0
    · rw [_root_.if_pos h0, h0]
      unfold leafV' found t_found
      rcases (kidsV_range k' n' s').1 h0 with rfl | rfl | rfl | rfl
      · simp [num_eq]
      · simp
      · by_cases hT : t.2.1 s' = true
        · simp [tabOf, hT]
        · simp [tabOf, hT, badV]
      · by_cases hT : (teleV s').2.2.2.2.2.2 = true
        · simp [tele_eq, hT]
        · simp [tele_eq, hT, badV]
    · rw [_root_.if_neg h0]
      simp [h0, badV]
  | .node k n s [a], (k', n', s', m', f), q, hr, hq => by
    simp only [Rep, RepL] at hr
    obtain ⟨rfl, rfl, rfl, rfl, hl, ho, ha, -⟩ := hr
    obtain ⟨q, rfl⟩ : ∃ k, q = k + 1 := ⟨q - 1, by omega⟩
    simp only [siz, sizL] at hq
    have ih := of_V t a (kidAt f 0) q ha (by omega)
    unfold Of
    dsimp only
    rw [_root_.if_pos ho]
    unfold t_OfN
    dsimp only [List.length_cons, List.length_nil]
    dsimp only at ih
    simp only [kids_eq, Option.bind_some, ih]
    rw [ofV_one]
    generalize ofV (tabOf t) a = z
    by_cases h0 : kidsV k' n' s' = 1
    · rw [_root_.if_pos h0, h0]
      obtain rfl := (kidsV_range k' n' s').2.1 h0
      unfold unV errV
      by_cases he : z.2.2.2.2.2.2 = 0
      · by_cases hx : (!z.1 == (ByteArray.toList s' == ByteArray.toList { data := #[(33 : UInt8)] })) = true
        · simp only [hx]; simp [he, badV]
        · simp only [hx]; simp [he]
      · simp [he, badV]
    · rw [_root_.if_neg h0]
      simp [h0, badV]
  | .node k n s [a, b], (k', n', s', m', f), q, hr, hq => by
    simp only [Rep, RepL] at hr
    obtain ⟨rfl, rfl, rfl, rfl, hl, ho, ha, hb, -⟩ := hr
    obtain ⟨q, rfl⟩ : ∃ k, q = k + 1 := ⟨q - 1, by omega⟩
    simp only [siz, sizL] at hq
    have ih := of_V t a (kidAt f 0) q ha (by omega)
    have ih' := of_V t b (kidAt f 1) q hb (by omega)
    unfold Of
    dsimp only
    rw [_root_.if_pos ho]
    unfold t_OfN
    dsimp only [List.length_cons, List.length_nil]
    dsimp only at ih ih'
    simp only [kids_eq, Option.bind_some, ih, ih']
    rw [ofV_two]
    generalize ofV (tabOf t) a = z
    generalize ofV (tabOf t) b = z'
    by_cases h0 : kidsV k' n' s' = 2
    · rw [_root_.if_pos h0, h0]
      obtain rfl := (kidsV_range k' n' s').2.2.1 h0
      unfold biV errV
      by_cases he : z.2.2.2.2.2.2 = 0
      · by_cases he' : z'.2.2.2.2.2.2 = 0
        · simp [he, he', bin_eq]
        · simp [he, he', badV]
      · simp [he, badV]
    · rw [_root_.if_neg h0]
      simp [h0, badV]
  | .node k n s (a :: b :: c :: l), (k', n', s', m', f), q, hr, hq => by
    simp only [Rep] at hr
    obtain ⟨rfl, rfl, rfl, rfl, hl, ho, ha⟩ := hr
    obtain ⟨q, rfl⟩ : ∃ k, q = k + 1 := ⟨q - 1, by omega⟩
    unfold Of
    dsimp only
    rw [_root_.if_pos ho]
    unfold t_OfN
    dsimp only
    simp only [kids_eq, Option.bind_some]
    rw [ofV_more]
    have h2 := (kidsV_range k' n' s').2.2.2
    have h0 : ¬ kidsV k' n' s' = (((a :: b :: c :: l).length : Nat) : Int) := by simp only [List.length_cons]; omega
    rw [_root_.if_pos (show (kidsV k' n' s' != (((a :: b :: c :: l).length : Nat) : Int)) = true by simpa using h0)]
    rfl
end Go.Proofs.YtniogljhkjbcgaaGreatDoor
/- Types: tables as functions; a further variable (plain). -/
namespace Go.Proofs.YtniogljhkjbcgaaGreatDoor
open Go Go.Am Go.Proofs
set_option linter.unusedSimpArgs false
set_option linter.unusedVariables false
set_option maxRecDepth 100000
def dimAt (v : VarT) (j : Nat) : DimT := (v.2.2.1 j, v.2.2.2.1 j, v.2.2.2.2.1 j, v.2.2.2.2.2.1 j, v.2.2.2.2.2.2 j)
/-- What the first variables say of a name: the last of them. -/
def lastV (v : VarT) : Nat → ByteArray → Option DimT
  | 0, _ => none
  | n + 1, s => if s = v.2.1 n then some (dimAt v n) else lastV v n s
theorem lastV_congr {v v' : VarT} : ∀ {n : Nat}, (∀ j, j < n → v.2.1 j = v'.2.1 j ∧ dimAt v j = dimAt v' j) → lastV v n = lastV v' n
  | 0, _ => rfl
  | n + 1, h => by
    funext s
    simp only [lastV]
    rw [(h n (by omega)).1, (h n (by omega)).2, lastV_congr fun j hj => h j (by omega)]
theorem tabOf_put (t : TabT) (nm : ByteArray) (d : DimT) (n : Nat) : tabOf (n, (fun q => q == nm || t.2.1 q), (fun j => if (j == nm) = true then d.1 else t.2.2.1 j), (fun j => if (j == nm) = true then d.2.1 else t.2.2.2.1 j), (fun j => if (j == nm) = true then d.2.2.1 else t.2.2.2.2.1 j), (fun j => if (j == nm) = true then d.2.2.2.1 else t.2.2.2.2.2.1 j), (fun j => if (j == nm) = true then d.2.2.2.2 else t.2.2.2.2.2.2 j)) = fun s => if s = nm then some d else tabOf t s := by
  funext s
  unfold tabOf
  by_cases h : s = nm
  · subst h
    have hb : (s == s) = true := ba_eq.2 rfl
    simp [hb]
  · have hb : ¬ (s == nm) = true := fun g => h (ba_eq.1 g)
    simp only [hb, if_neg h, Bool.false_or, if_false, Bool.false_eq_true]
theorem w_succ {i : Nat} (h : i < 9223372036854775807) : w ((i : Int) + 1) = ((i + 1 : Nat) : Int) := by rw [w_in (by unfold inR; omega)]; omega
end Go.Proofs.YtniogljhkjbcgaaGreatDoor
