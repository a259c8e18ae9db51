/- Texts joined. -/
import Derived.Test.YtniogljhkjbcgaaDoorQB
import Derived.Test.YtniogljhkjbcgaaDoorQC
import Derived.Test.YtniogljhkjbcgaaDoorProg
import Derived.Test.YtniogljhkjbcgaaDoorRows
import Derived.Lib.Strings
import Derived.Lib.IndexMore
import Derived.Recover
import Derived.Test.YtniogljhkjbcgaaDoorShelf
import Derived.Test.YtniogljhkjbcgaaDoorCards
import Derived.Test.YtniogljhkjbcgaaDoorTie
import Derived.Deep.DeepHandedRow
import Derived.Deep.DeepWitnessRowRef
import Derived.LaidMore
/- The environment of this seat: variables of the packages, library functions by contract. -/
set_option linter.unusedSimpArgs false
set_option linter.unusedVariables false
namespace Go.Proofs.YtniogljhkjbcgaaDoor
open Go Go.Am
abbrev i64 (n : Int) : V := .sc (.int .i64 n)
abbrev bo (b : Bool) : V := .sc (.bool b)
abbrev st (s : ByteArray) : V := .sc (.string s)
def tabL : List (List V) := [
  [.sc (.string ⟨#[74]⟩), i64 1, i64 1, i64 0, i64 0, i64 0, i64 0],
  [.sc (.string ⟨#[107, 74]⟩), i64 1000, i64 1, i64 0, i64 0, i64 0, i64 0],
  [.sc (.string ⟨#[87, 104]⟩), i64 3600, i64 1, i64 0, i64 0, i64 0, i64 0],
  [.sc (.string ⟨#[66]⟩), i64 1, i64 0, i64 1, i64 0, i64 0, i64 0],
  [.sc (.string ⟨#[107, 66]⟩), i64 1000, i64 0, i64 1, i64 0, i64 0, i64 0],
  [.sc (.string ⟨#[115]⟩), i64 1, i64 0, i64 0, i64 1, i64 0, i64 0],
  [.sc (.string ⟨#[109, 105, 110]⟩), i64 60, i64 0, i64 0, i64 1, i64 0, i64 0],
  [.sc (.string ⟨#[104]⟩), i64 3600, i64 0, i64 0, i64 1, i64 0, i64 0],
  [.sc (.string ⟨#[100, 101, 103]⟩), i64 1, i64 0, i64 0, i64 0, i64 1, i64 0],
  [.sc (.string ⟨#[75]⟩), i64 1, i64 0, i64 0, i64 0, i64 0, i64 1],
  [.sc (.string ⟨#[87]⟩), i64 1, i64 1, i64 0, i64 (-1), i64 0, i64 0],
  [.sc (.string ⟨#[107, 87]⟩), i64 1000, i64 1, i64 0, i64 (-1), i64 0, i64 0],
  [.sc (.string ⟨#[66, 112, 115]⟩), i64 1, i64 0, i64 1, i64 (-1), i64 0, i64 0]]
def tabV : V := .ro 7 13 (fun j => tabL.getD j [])
def opsL : List V := [.sc (.string ⟨#[124, 124]⟩), i64 1, .sc (.string ⟨#[38, 38]⟩), i64 1, .sc (.string ⟨#[43]⟩), i64 2, .sc (.string ⟨#[45]⟩), i64 2, .sc (.string ⟨#[42]⟩), i64 3, .sc (.string ⟨#[47]⟩), i64 3, .sc (.string ⟨#[60]⟩), i64 4, .sc (.string ⟨#[60, 61]⟩), i64 4, .sc (.string ⟨#[62]⟩), i64 4, .sc (.string ⟨#[62, 61]⟩), i64 4, .sc (.string ⟨#[61, 61]⟩), i64 4, .sc (.string ⟨#[33, 61]⟩), i64 4]
def globF : Nat → Option (List V)
  | 0 => some [tabV]
  | 1 => some opsL
  | _ => none
/-- Library functions by contract: Contains, IndexByte. -/
def extF (f : FuncId) (args : List V) : Option V :=
  if f = 95 then match args with
    | [.sc (.string s), .sc (.string sub)] => if s.size < 4294967281 then some (bo (Lib.contains s.data.toList sub.data.toList)) else none
    | _ => none
  else if f = 87 then match args with
    | [.sc (.string s), .sc (.int .u8 c)] => some (i64 (Lib.indexByte s.data.toList (UInt8.ofNat c.toNat)))
    | _ => none
  else none
def way (a b : Nat) : Am.Way := if b ∈ [67, 84, 85, 92, 96, 97, 98, 99, 100, 101, 102, 103, 106, 110, 111] then .giveM else if b ∈ [11, 18, 19, 23, 42, 64] then .give else if b ∈ [25, 28] then .lend else .plain
def dfnF (f : FuncId) : Bool := f == 42
def idleF (f : FuncId) : Option Nat := if f = 65 then some 3 else none
open Go.RowKit
set_option linter.unusedVariables false
noncomputable def E : Env := { P := Tryd.prog, glob := globF, ext := extF, way := way, lit := fun _ => false, code := fun f => (Tryd.prog.funcs[f]?).bind annF, inv := [(2, intCell .i64)], dfn := dfnF, idle := idleF }
/-- Code that needs nothing: run alone. -/
noncomputable def E0 : Env := { P := Tryd.prog, glob := fun _ => none, ext := fun _ _ => none, way := fun _ _ => .plain, lit := fun _ => false, code := fun f => (Tryd.prog.funcs[f]?).bind annF }
noncomputable def rest65 : ACode := match E0.code 65 with | some (.seq _ b) => b | _ => .skip
def fr65 : List V := [.junk, .junk, .junk, .sc .nilIface] ++ List.replicate 2 (.sc undef) ++ [.sc .nilIface] ++ List.replicate 13 (.sc undef)
def T0 : CallT := fun _ _ _ _ => none
def L0 : LoopT := fun _ _ _ _ _ => none
def isNormal : Ex → Bool | .normal => true | _ => false
theorem run65 : execK E0 T0 L0 rest65 { fr := fr65, H := hp [], nx := 0, rt := 0, me := 65 } (fun e _ => if isNormal e then some (.c (.pan .junk)) else none) = some (.c (.pan .junk)) := by kernel_rfl
theorem body65 (a : Act) (w : World) (hd : a.defers = []) (ht : denL (fun _ => none) (fun _ => False) w (fun _ => False) fr65 a.tmps.toList) : Code.wp Tryd.prog rest65.erase (fun e a' w' => e = .normal ∧ a'.defers = [] ∧ Below w.heap.size w w') a w := by
  obtain ⟨e, s', h1, h2⟩ := exec_sound (E := E0) (ca := T0) (lo := L0) (fun _ _ _ _ _ h => by cases h) (SoundX.none fun _ _ => rfl) (fun _ _ _ _ _ _ h => by cases h) rest65 _ _ _ run65
  split at h1
  case isFalse => cases h1
  rename_i he
  have he : e = .normal := by cases e <;> simp_all [isNormal]
  subst he
  refine wp_mono (h2 (fun _ => none) (fun _ => False) (fun _ => False) a w ⟨ht, ⟨fun i c hc => (by simp [hp] at hc), fun _ _ => rfl, fun i b m h => (by cases h), fun i b m h => (by cases h), fun i j b m m' h => (by cases h), fun b hb => hb.elim⟩, ⟨fun _ => hd, fun d h => (by rw [hd] at h; cases h)⟩, fun i hi => hi.elim, ⟨fun g cs h => (by cases h), fun p hp => (by cases hp)⟩, fun i hi => absurd hi (Nat.not_lt_zero i)⟩) fun e' a' w' hp => ?_
  obtain ⟨β', S', D', q1, q2, q3, q4, q5, q6⟩ := hp.ex
  cases e' <;> simp only [ExR] at q1
  exact ⟨rfl, q2.df.1 rfl, below_of_evo q3⟩
theorem idle65 : Idle Tryd.prog 65 3 := by
  intro us w hus
  refine ⟨?_, ?_⟩
  · have hb : ∃ fn, Tryd.prog.funcs[65]? = some fn ∧ fn.body.isSome = true ∧ fn.name ≠ "runtime.NumGoroutine" := ⟨_, Tryd.func65, by kernel_rfl, by intro e; exact absurd e (by decide +kernel)⟩
    obtain ⟨fn, h1, h2, h3⟩ := hb
    have hb : ¬ fn.body = none := by intro hb; rw [hb] at h2; cases h2
    simp [callFunc, Sem.run_bind, h1, h3, hb, program, Sem.run]
  · match us, hus with
    | ⟨[x, y, z]⟩, _ =>
      refine callsD_of_wpS Tryd.func65 rfl fun c₀ cs hu => ?_
      apply wpS_seq
      apply wpS_region
      simp [wpOpsS, go_sem, recoverD, hu, Tryd.ntmps65, Exit.thenS]
      refine wpS_of_wp ?_
      refine (congrArg (fun c => Code.wp Tryd.prog c _ _ _) (?_ : rest65.erase = _)).mp (wp_mono (body65 _ w rfl ?_) ?_)
      · kernel_rfl
      · simp [fr65, denL, den]
        exact ⟨_, _, ⟨rfl, rfl⟩, _, _, rfl, _, rfl⟩
      · rintro e a' w' ⟨rfl, hd, hb⟩
        refine ⟨hd, _, ?_, _, by simp [results, Tryd.results65, go_sem]; rfl, ⟨_, rfl⟩, rfl, hb⟩
        cases c₀; simp_all
set_option maxRecDepth 100000 in
theorem hW : WF E := WF.of E (fun _ => rfl) (by kernel_rfl) (fun g n h => by
  have h' : idleF g = some n := h
  unfold idleF at h'
  split at h'
  · rename_i hg; subst hg; cases h'; exact idle65
  · cases h')
end Go.Proofs.YtniogljhkjbcgaaDoor
/- The library's contracts, as the environment has them; the examples hold. -/
set_option linter.unusedSimpArgs false
set_option linter.unusedVariables false
namespace Go.Proofs.YtniogljhkjbcgaaDoor
open Go Go.Am Go.RowKit
set_option linter.unusedVariables false
theorem maxLen_at {S : Pr} {w : World} (hG : Glob E S w) : ∃ m, w.cell? ⟨2, 0, none⟩ = some (.int .i64 m) := by
  obtain ⟨_, x, h1, h2⟩ := hG.inv (2, intCell .i64) (by simp [E])
  exact intCell_cell h1 h2
theorem hX : SoundX E := by
  intro f args v h
  have h' : extF f args = some v := h
  unfold extF at h'
  split at h'
  · rename_i hf; subst hf
    split at h'
    · rename_i s sub
      split at h'
      · rename_i hn
        cases h'
        refine ⟨⟨_, Tryd.func95, by kernel_rfl, by intro e; exact absurd e (by decide +kernel)⟩, rfl, fun β S D w us hd hG hS => ?_⟩
        obtain rfl : us = [.string s, .string sub] := by simpa [denL, den] using hd
        obtain ⟨m, hm⟩ := maxLen_at hG
        refine (Tryd.strings_Contains s sub m w hn hm).mono ?_
        rintro e w' ⟨rfl, rfl⟩
        exact ⟨_, S, rfl, Below.refl _ _, by simp only [den], fun _ h => h, fun _ h => .inl h⟩
      · cases h'
    · cases h'
  split at h'
  · rename_i hf; subst hf
    split at h'
    · rename_i s c
      cases h'
      refine ⟨⟨_, Tryd.func87, by kernel_rfl, by intro e; exact absurd e (by decide +kernel)⟩, rfl, fun β S D w us hd hG hS => ?_⟩
      obtain rfl : us = [.string s, .int .u8 c] := by simpa [denL, den] using hd
      refine (Tryd.strings_IndexByte s c w).mono ?_
      rintro e w' ⟨rfl, rfl⟩
      exact ⟨_, S, rfl, Below.refl _ _, by simp only [den], fun _ h => h, fun _ h => .inl h⟩
    · cases h'
  · cases h'
end Go.Proofs.YtniogljhkjbcgaaDoor
/- What the rows list of the packages' variables; a world that holds it. -/
set_option linter.unusedSimpArgs false
set_option linter.unusedVariables false
namespace Go.Proofs.YtniogljhkjbcgaaDoor
open Go Go.Am Go.RowKit
theorem packed : packB Tryd.prog = true := by kernel_rfl
abbrev laidL : List (String × DataW Unit) := Rows.typesOfRow.laid
theorem laidPlain {W : World} (h : laidMetH Tryd.prog laidL W) : laidMet Tryd.prog laidL W := by
  rw [MakeChecks.laidMetH_plain _ _ _ (by kernel_rfl)] at h; exact h
theorem globAt0 : GlobAt Tryd.prog laidL 0 [tabV] := ⟨"perigee/unit.table", Rows.laid_perigee_unit_table, 96, 8, by simp [laidL, Rows.typesOfRow], by kernel_rfl, by kernel_rfl, of_decide_eq_true (by kernel_rfl), by kernel_rfl, by simp⟩
theorem globAt1 : GlobAt Tryd.prog laidL 1 opsL := ⟨"perigee/types.operators", Rows.laid_perigee_types_operators, 120, 8, by simp [laidL, Rows.typesOfRow], by kernel_rfl, by kernel_rfl, of_decide_eq_true (by kernel_rfl), by kernel_rfl, by simp [opsL]⟩
theorem glob_of {W : World} (h : laidMetH Tryd.prog laidL W) (hs : W.ShapedOpen Tryd.prog) : Glob E (· < W.heap.size) W := by
  have hl := laidPlain h
  refine Glob.of_laid (laid := laidL) packed hl (fun g cs hg => ?_) (fun p hp => ?_)
  · have hg' : globF g = some cs := hg
    unfold globF at hg'
    split at hg'
    · cases hg'; exact globAt0
    · cases hg'; exact globAt1
    · cases hg'
  · simp only [E, List.mem_cons, List.mem_nil_iff, or_false] at hp
    rcases hp with rfl
    exact intCell_of (cell_of_shapedOpen_int (t := 3) (zero := #[.int .i64 0]) hs (of_decide_eq_true (by kernel_rfl)) (by kernel_rfl) rfl (by kernel_rfl) (by kernel_rfl) (by kernel_rfl))
/-- A world for the witness. -/
noncomputable def laidWorld (os : Os) : World := World.doorLaid Tryd.prog 4000 os
theorem laid_met0 (os : Os) (args : Array Value) : laidMet Tryd.prog laidL ((laidWorld os).forCall (fun _ _ => 0) ⟨#[], args, []⟩).memory :=
  laidMet_of_run' 8 (by kernel_rfl) (by kernel_rfl)
theorem laid_met (os : Os) (args : Array Value) : laidMetH Tryd.prog laidL ((laidWorld os).forCall (fun _ _ => 0) ⟨#[], args, []⟩).memory := by
  rw [MakeChecks.laidMetH_plain _ _ _ (by kernel_rfl)]; exact laid_met0 os args
end Go.Proofs.YtniogljhkjbcgaaDoor
/- For closed runs. -/
set_option linter.unusedSimpArgs false
set_option linter.unusedVariables false
namespace Go.Proofs.YtniogljhkjbcgaaDoor
open Go Go.Am
def maskTab : List (Nat × List (Nat × Nat)) := [(6, [(0, 102)]), (7, [(0, 58)]), (9, [(0, 102)]), (11, [(0, 25)]), (12, [(0, 939524518)]), (13, [(0, 25)]), (17, [(0, 38)]), (18, [(0, 490)]), (19, [(0, 118)]), (20, [(0, 57354)]), (28, [(0, 35)]), (36, [(0, 901)]), (42, [(0, 92)]), (44, [(0, 97)]), (47, [(0, 98304)]), (58, [(0, 1793)]), (59, [(0, 24601)]), (64, [(0, 65633)]), (67, [(0, 114701)]), (74, [(0, 259)]), (79, [(0, 4194356)]), (84, [(0, 9)]), (85, [(0, 13)]), (90, [(0, 1835017)]), (106, [(1, 51)]), (109, [(1, 2019)]), (115, [(0, 995), (2, 1507)]), (116, [(0, 49), (2, 464)])]
noncomputable def EL : Env := { P := Tryd.prog, glob := globF, ext := extF, way := way, lit := fun _ => false, code := annFL maskTab Tryd.prog, inv := [(2, intCell .i64)], dfn := dfnF, idle := idleF, push := false }
set_option maxRecDepth 100000 in
theorem hWL : WF EL := WF.ofL EL maskTab rfl (by kernel_rfl) (fun g n h => by
  have h' : idleF g = some n := h
  unfold idleF at h'
  split at h'
  · rename_i hg; subst hg; cases h'; exact idle65
  · cases h')
theorem hXL : SoundX EL := fun f args v h => by
  obtain ⟨h1, h2, h3⟩ := hX f args v h
  exact ⟨h1, h2, fun β S D w us a b c => h3 β S D w us a ⟨b.rd, b.inv⟩ c⟩
theorem scL {f : FuncId} {args : List V} {L : List (Option Chunk)} {cr : CRes} (h : SC EL f args L cr) : SC E f args L cr :=
  ⟨h.1, fun β S w us h1 h2 h3 => h.2 β S w us h1 h2 ⟨h3.rd, h3.inv⟩⟩
end Go.Proofs.YtniogljhkjbcgaaDoor
/- An example of the chapter, run. -/
set_option linter.unusedSimpArgs false
set_option linter.unusedVariables false
namespace Go.Proofs.YtniogljhkjbcgaaDoor
open Go Go.Am
def src1 : ByteArray := ⟨#[112, 114, 111, 99, 101, 100, 117, 114, 101, 32, 112, 40, 116, 58, 32, 115, 41, 32, 123, 32, 108, 101, 116, 32, 101, 32, 61, 32, 50, 32, 87, 32, 42, 32, 116, 59, 32, 105, 102, 32, 116, 108, 109, 46, 98, 97, 116, 116, 101, 114, 121, 32, 62, 32, 101, 32, 123, 32, 119, 97, 105, 116, 32, 53, 32, 109, 105, 110, 59, 32, 125, 32, 125]⟩
theorem chk1 : SC E 26 [st src1] [] (.ret (i64 0) []) := scL (SC.closedQ hWL hXL 80 (by kernel_rfl))
end Go.Proofs.YtniogljhkjbcgaaDoor
/- An example of the chapter, run. -/
set_option linter.unusedSimpArgs false
set_option linter.unusedVariables false
namespace Go.Proofs.YtniogljhkjbcgaaDoor
open Go Go.Am
def src2 : ByteArray := ⟨#[112, 114, 111, 99, 101, 100, 117, 114, 101, 32, 112, 40, 116, 58, 32, 115, 41, 32, 123, 32, 108, 101, 116, 32, 101, 32, 61, 32, 50, 32, 87, 32, 42, 32, 116, 59, 32, 105, 102, 32, 116, 108, 109, 46, 98, 97, 116, 116, 101, 114, 121, 32, 62, 32, 101, 32, 123, 32, 119, 97, 105, 116, 32, 53, 59, 32, 125, 32, 125]⟩
theorem chk2 : SC E 26 [st src2] [] (.ret (i64 10) []) := scL (SC.closedQ hWL hXL 80 (by kernel_rfl))
end Go.Proofs.YtniogljhkjbcgaaDoor
/- An example of the chapter, run. -/
set_option linter.unusedSimpArgs false
set_option linter.unusedVariables false
namespace Go.Proofs.YtniogljhkjbcgaaDoor
open Go Go.Am
def src3 : ByteArray := ⟨#[112, 114, 111, 99, 101, 100, 117, 114, 101, 32, 112, 40, 116, 58, 32, 115, 41, 32, 123, 32, 108, 101, 116, 32, 101, 32, 61, 32, 50, 32, 87, 32, 42, 32, 116, 59, 32, 105, 102, 32, 101, 32, 123, 32, 119, 97, 105, 116, 32, 53, 32, 109, 105, 110, 59, 32, 125, 32, 125]⟩
theorem chk3 : SC E 26 [st src3] [] (.ret (i64 12) []) := scL (SC.closedQ hWL hXL 80 (by kernel_rfl))
end Go.Proofs.YtniogljhkjbcgaaDoor
/- An example of the chapter, run. -/
set_option linter.unusedSimpArgs false
set_option linter.unusedVariables false
namespace Go.Proofs.YtniogljhkjbcgaaDoor
open Go Go.Am
def src4 : ByteArray := ⟨#[112, 114, 111, 99, 101, 100, 117, 114, 101, 32, 112, 40, 116, 58, 32, 115, 41, 32, 123, 32, 108, 101, 116, 32, 101, 32, 61, 32, 50, 32, 87, 32, 42, 32, 116, 59, 32, 102, 32, 61, 32, 49, 59, 32, 125]⟩
theorem chk4 : SC E 26 [st src4] [] (.ret (i64 3) []) := scL (SC.closedQ hWL hXL 80 (by kernel_rfl))
end Go.Proofs.YtniogljhkjbcgaaDoor
/- The examples of the chapter hold. -/
set_option linter.unusedSimpArgs false
set_option linter.unusedVariables false
namespace Go.Proofs.YtniogljhkjbcgaaDoor
open Go Go.Am Go.RowKit
theorem sc_toX {E : Env} {f : FuncId} {args : List V} {v : V} (h : SC E f args [] (.ret v [])) (hp' : v.pure = true) (ha : pureL args = true) (β : Bt) (S D : Pr) (w : World) (us : List Value) (hd : denL β S w D args us) (hG : Glob E S w) (hS : ∀ b, S b → b < w.heap.size) :
    Calls E.P f us.toArray w fun e w' => ∃ u S', e = .returned u ∧ Below w.heap.size w w' ∧ den (fun _ => none) S' w' (fun _ => False) v u ∧ (∀ b, S b → S' b) ∧ ∀ b, S' b → S b ∨ (w.heap.size ≤ b ∧ b < w'.heap.size) := by
  refine (h.2 (fun _ => none) S w us (denL_pure (fun _ h => h) (fun _ _ => rfl) _ _ ha hd) ⟨fun i c hc => (by simp [hp] at hc), fun _ _ => rfl, fun i b m h => (by cases h), fun i b m h => (by cases h), fun i j b m m' h => (by cases h), hS⟩ hG).mono ?_
  rintro e w' ⟨u, β', S', rfl, g1, g2, g3, g4⟩
  refine ⟨u, S', rfl, below_of_evo g3, den_pure (fun _ h => h) (fun _ _ => rfl) _ _ hp' g2, g3.sub, fun b hb => ?_⟩
  rcases g3.newS b hb with h | h | ⟨i, m, h⟩
  · exact .inl h
  · exact .inr ⟨h, g1.st b hb⟩
  · cases h
noncomputable def extG (f : FuncId) (args : List V) : Option V :=
  if f = 26 then match args with
    | [.sc (.string s)] => if s = src1 then some (i64 0) else if s = src2 then some (i64 10) else if s = src3 then some (i64 12) else if s = src4 then some (i64 3) else none
    | _ => none
  else extF f args
noncomputable def EM : Env := { P := Tryd.prog, glob := globF, ext := extG, way := way, lit := fun _ => false, code := annFL maskTab Tryd.prog, inv := [(2, intCell .i64)], dfn := dfnF, idle := idleF, push := false }
theorem hXM : SoundX EM := fun f args v h => by
  have h' : extG f args = some v := h
  unfold extG at h'
  split at h'
  · rename_i hf; subst hf
    have hcal : callable EM.P 26 := ⟨_, Tryd.func26, by kernel_rfl, by intro e; exact absurd e (by decide +kernel)⟩
    have key : ∀ (s : ByteArray) (n : Int), SC E 26 [st s] [] (.ret (i64 n) []) → some (i64 n) = some v → args = [.sc (.string s)] → callable EM.P 26 ∧ v.pure = true ∧ ∀ (β : Bt) (S D : Pr) (w : World) (us : List Value), denL β S w D args us → Glob EM S w → (∀ b, S b → b < w.heap.size) →
        Calls EM.P 26 us.toArray w fun e w' => ∃ u S', e = .returned u ∧ Below w.heap.size w w' ∧ den (fun _ => none) S' w' (fun _ => False) v u ∧ (∀ b, S b → S' b) ∧ ∀ b, S' b → S b ∨ (w.heap.size ≤ b ∧ b < w'.heap.size) := by
      rintro s n hs hv rfl
      cases hv
      exact ⟨hcal, rfl, fun β S D w us hd hG hS => sc_toX hs rfl rfl β S D w us hd ⟨hG.rd, hG.inv⟩ hS⟩
    split at h'
    · rename_i s
      split at h'
      · rename_i e; subst e; exact key _ _ chk1 h' rfl
      split at h'
      · rename_i e; subst e; exact key _ _ chk2 h' rfl
      split at h'
      · rename_i e; subst e; exact key _ _ chk3 h' rfl
      split at h'
      · rename_i e; subst e; exact key _ _ chk4 h' rfl
      · cases h'
    · cases h'
  · obtain ⟨g1, g2, g3⟩ := hX f args v h'
    exact ⟨g1, g2, fun β S D w us a b c => g3 β S D w us a ⟨b.rd, b.inv⟩ c⟩
set_option maxRecDepth 100000 in
theorem hWM : WF EM := hWL
theorem scM {f : FuncId} {args : List V} {L : List (Option Chunk)} {cr : CRes} (h : SC EM f args L cr) : SC E f args L cr :=
  ⟨h.1, fun β S w us h1 h2 h3 => h.2 β S w us h1 h2 ⟨h3.rd, h3.inv⟩⟩
theorem lives_true : SC E 10 [] [] (.ret (bo true) []) := scM (SC.closedQ hWM hXM 80 (by kernel_rfl))
end Go.Proofs.YtniogljhkjbcgaaDoor
/- Types: the small functions, lifted. -/
namespace Go.Proofs.YtniogljhkjbcgaaDoor
open Go Go.Am Go.Proofs
set_option linter.unusedSimpArgs false
set_option linter.unusedVariables false
set_option maxRecDepth 100000
abbrev nilS : V := .sc (.slice none 0 0)
noncomputable def E5 : Env := { P := Tryd.prog, glob := globF, ext := fun _ _ => none, way := fun a b => if b = 11 then .giveM else if b = 20 then .lend else way a b, lit := fun _ => false, code := fun f => (Tryd.prog.funcs[f]?).bind annF, sett := fun _ => true, rows := true, inv := [(2, intCell .i64)] }
theorem hW5 : WF E5 := WF.of E5 (fun _ => rfl) (by kernel_rfl)
theorem hX5 : SoundX E5 := SoundX.none fun _ _ => rfl
theorem sc5 {f : FuncId} {args : List V} {L : List (Option Chunk)} {cr : CRes} : SC E5 f args L cr ↔ SC E f args L cr :=
  ⟨fun h => ⟨h.1, fun β S w us h1 h2 h3 => h.2 β S w us h1 h2 ⟨h3.rd, h3.inv⟩⟩, fun h => ⟨h.1, fun β S w us h1 h2 h3 => h.2 β S w us h1 h2 ⟨h3.rd, h3.inv⟩⟩⟩
def K : CRes → Option Ans := fun r => some (.c r)
abbrev w (n : Int) : Int := IntKind.wrap .i64 n
abbrev a_kind : Type := ByteArray
abbrev g_kind : Type := Int
def A_kind : a_kind → List V × List (Option Chunk) := (fun x => (fun (s : ByteArray) => (([st s] : List V), ([] : List (Option Chunk)))) x)
def d_kind (t : List V × List (Option Chunk)) : a_kind := ((vS (t.1.getD 0 .junk)))
theorem i_kind : ∀ x y, A_kind x = A_kind y → x = y := fun x y h => (congrArg d_kind h :)
def R_kind : g_kind → CRes := (fun z => (fun (k : Int) => .ret (i64 k) []) z : (Int) → CRes)
def x_kind (z : g_kind) (k : CRes → Option Ans) : Option Ans := k (R_kind z)
theorem xe_kind : ∀ z k, x_kind z k = k (R_kind z) := fun z k => rfl
def t_kind {β : Type} (x : a_kind) (dn : g_kind → Option β) : Option β :=
 if (ByteArray.toList { data := #[(124 : UInt8), (124 : UInt8)] } == ByteArray.toList x) = true then
  dn ((1 : Int))
 else
  if (ByteArray.toList { data := #[(38 : UInt8), (38 : UInt8)] } == ByteArray.toList x) = true then
   dn ((1 : Int))
  else
   if (ByteArray.toList { data := #[(43 : UInt8)] } == ByteArray.toList x) = true then
    dn ((2 : Int))
   else
    if (ByteArray.toList { data := #[(45 : UInt8)] } == ByteArray.toList x) = true then
     dn ((2 : Int))
    else
     if (ByteArray.toList { data := #[(42 : UInt8)] } == ByteArray.toList x) = true then
      dn ((3 : Int))
     else
      if (ByteArray.toList { data := #[(47 : UInt8)] } == ByteArray.toList x) = true then
       dn ((3 : Int))
      else
       if (ByteArray.toList { data := #[(60 : UInt8)] } == ByteArray.toList x) = true then
        dn ((4 : Int))
       else
        if (ByteArray.toList { data := #[(60 : UInt8), (61 : UInt8)] } == ByteArray.toList x) = true then
         dn ((4 : Int))
        else
         if (ByteArray.toList { data := #[(62 : UInt8)] } == ByteArray.toList x) = true then
          dn ((4 : Int))
         else
          if (ByteArray.toList { data := #[(62 : UInt8), (61 : UInt8)] } == ByteArray.toList x) = true then
           dn ((4 : Int))
          else
           if (ByteArray.toList { data := #[(61 : UInt8), (61 : UInt8)] } == ByteArray.toList x) = true then
            dn ((4 : Int))
           else
            if (ByteArray.toList { data := #[(33 : UInt8), (61 : UInt8)] } == ByteArray.toList x) = true then
             dn ((4 : Int))
            else
             dn ((0 : Int))
theorem n_kind {β : Type} (x : a_kind) (dn : g_kind → Option β) : t_kind x dn = (t_kind x some).bind dn := by
  unfold t_kind
  repeat' first | exact free_none | refine free_bind (fun z => ?_) | refine free_ite ?_ ?_ | refine free_sum (fun z => ?_) (fun z => ?_) | rfl
theorem r_kind (x : a_kind) : callK E5 ca0 (loU E5 ca0 [0] lo0 20) 44 (A_kind x).1 (A_kind x).2 K = t_kind x (fun z => some (.c (R_kind z))) := by kernel_rfl
theorem s_kind (q : Nat) (x : a_kind) (z : g_kind) (h : t_kind x some = some z) : SC E5 44 (A_kind x).1 (A_kind x).2 (R_kind z) := by
  refine SC.of hW5 hX5 ca0_sound (loU_sound ca0_sound hX5 lo0_sound 20) ((r_kind x).trans ?_)
  rw [n_kind, h]; rfl
noncomputable def kind (q : Nat) (x : a_kind) : Option g_kind := t_kind x some
theorem sc_kind (q : Nat) : ∀ (x : a_kind) (z : g_kind), kind q x = some z → SC E5 44 (A_kind x).1 (A_kind x).2 (R_kind z) := fun x z h => s_kind q x z h
abbrev a_kids : Type := Int × Int × ByteArray × Nat × (Nat → List V)
abbrev g_kids : Type := Int
def A_kids : a_kids → List V × List (Option Chunk) := (fun x => (fun (nk : Int) (nn : Int) (ns : ByteArray) (nm : Nat) (nf : Nat → List V) => (([.agg [i64 nk, i64 nn, st ns, .ro 4 nm nf]] : List V), ([] : List (Option Chunk)))) x.1 x.2.1 x.2.2.1 x.2.2.2.1 x.2.2.2.2)
def d_kids (t : List V × List (Option Chunk)) : a_kids := ((vI ((vAg (t.1.getD 0 .junk)).getD 0 .junk)), (vI ((vAg (t.1.getD 0 .junk)).getD 1 .junk)), (vS ((vAg (t.1.getD 0 .junk)).getD 2 .junk)), (vRoN ((vAg (t.1.getD 0 .junk)).getD 3 .junk)), (vRoF ((vAg (t.1.getD 0 .junk)).getD 3 .junk)))
theorem i_kids : ∀ x y, A_kids x = A_kids y → x = y := fun x y h => (congrArg d_kids h :)
def R_kids : g_kids → CRes := (fun z => (fun (k : Int) => .ret (i64 k) []) z : (Int) → CRes)
def x_kids (z : g_kids) (k : CRes → Option Ans) : Option Ans := k (R_kids z)
theorem xe_kids : ∀ z k, x_kids z k = k (R_kids z) := fun z k => rfl
def t_kids {β : Type} (c_kind : a_kind → Option g_kind) (x : a_kids) (dn : g_kids → Option β) : Option β :=
 if (x.1 == (16 : Int)) = true then
  if (x.2.1 != (0 : Int)) = true then
   if (x.2.1 != (1 : Int)) = true then
    dn ((-1 : Int))
   else
    dn ((0 : Int))
  else
   dn ((0 : Int))
 else
  if (x.1 == (15 : Int)) = true then
   dn ((0 : Int))
  else
   if (x.1 == (17 : Int)) = true then
    dn ((0 : Int))
   else
    if (x.1 == (18 : Int)) = true then
     dn ((0 : Int))
    else
     if (x.1 == (19 : Int)) = true then
      if (ByteArray.toList (x.2.2.1) == ByteArray.toList { data := #[(33 : UInt8)] }) = true then
       dn ((1 : Int))
      else
       if (ByteArray.toList (x.2.2.1) == ByteArray.toList { data := #[(45 : UInt8)] }) = true then
        dn ((1 : Int))
       else
        dn ((-1 : Int))
     else
      if (x.1 == (20 : Int)) = true then
       (c_kind (x.2.2.1)).bind fun z1 =>
        if decide (z1 > (0 : Int)) = true then
         dn ((2 : Int))
        else
         dn ((-1 : Int))
      else
       dn ((-1 : Int))
theorem n_kids {β : Type} (c_kind : a_kind → Option g_kind) (x : a_kids) (dn : g_kids → Option β) : t_kids c_kind x dn = (t_kids c_kind x some).bind dn := by
  unfold t_kids
  repeat' first | exact free_none | refine free_bind (fun z => ?_) | refine free_ite ?_ ?_ | refine free_sum (fun z => ?_) (fun z => ?_) | rfl
theorem r_kids (c_kind : a_kind → Option g_kind) (x : a_kids) : callK E5 (ftab 44 (fun _ _ => true) A_kind x_kind c_kind ca0) lo0 29 (A_kids x).1 (A_kids x).2 K = t_kids (fun x => viaF A_kind c_kind (A_kind x)) x (fun z => some (.c (R_kids z))) := by kernel_rfl
theorem s_kids (c_kind : a_kind → Option g_kind) (h_kind : ∀ x z, c_kind x = some z → SC E5 44 (A_kind x).1 (A_kind x).2 (R_kind z)) (q : Nat) (x : a_kids) (z : g_kids) (h : t_kids c_kind x some = some z) : SC E5 29 (A_kids x).1 (A_kids x).2 (R_kids z) := by
  refine SC.of hW5 hX5 (ftab_cons h_kind xe_kind ca0_sound) lo0_sound ((r_kids c_kind x).trans ?_)
  rw [via_eq i_kind c_kind, n_kids, h]; rfl
noncomputable def kids (q : Nat) (x : a_kids) : Option g_kids := t_kids (kind q) x some
theorem sc_kids (q : Nat) : ∀ (x : a_kids) (z : g_kids), kids q x = some z → SC E5 29 (A_kids x).1 (A_kids x).2 (R_kids z) := fun x z h => s_kids (kind q) (sc_kind q) q x z h
abbrev a_adm : Type := Int × Int × Int × Int × Int
abbrev g_adm : Type := Bool
def A_adm : a_adm → List V × List (Option Chunk) := (fun x => (fun (d0 : Int) (d1 : Int) (d2 : Int) (d3 : Int) (d4 : Int) => (([.agg [i64 d0, i64 d1, i64 d2, i64 d3, i64 d4]] : List V), ([] : List (Option Chunk)))) x.1 x.2.1 x.2.2.1 x.2.2.2.1 x.2.2.2.2)
def d_adm (t : List V × List (Option Chunk)) : a_adm := ((vI ((vAg (t.1.getD 0 .junk)).getD 0 .junk)), (vI ((vAg (t.1.getD 0 .junk)).getD 1 .junk)), (vI ((vAg (t.1.getD 0 .junk)).getD 2 .junk)), (vI ((vAg (t.1.getD 0 .junk)).getD 3 .junk)), (vI ((vAg (t.1.getD 0 .junk)).getD 4 .junk)))
theorem i_adm : ∀ x y, A_adm x = A_adm y → x = y := fun x y h => (congrArg d_adm h :)
def R_adm : g_adm → CRes := (fun z => (fun (b : Bool) => .ret (bo b) []) z : (Bool) → CRes)
def x_adm (z : g_adm) (k : CRes → Option Ans) : Option Ans := k (R_adm z)
theorem xe_adm : ∀ z k, x_adm z k = k (R_adm z) := fun z k => rfl
def t_adm {β : Type} (x : a_adm) (dn : g_adm → Option β) : Option β :=
 if decide (x.1 < (-8 : Int)) = true then
  dn false
 else
  if decide (x.1 > (8 : Int)) = true then
   dn false
  else
   if decide (x.2.1 < (-8 : Int)) = true then
    dn false
   else
    if decide (x.2.1 > (8 : Int)) = true then
     dn false
    else
     if decide (x.2.2.1 < (-8 : Int)) = true then
      dn false
     else
      if decide (x.2.2.1 > (8 : Int)) = true then
       dn false
      else
       if decide (x.2.2.2.1 < (-8 : Int)) = true then
        dn false
       else
        if decide (x.2.2.2.1 > (8 : Int)) = true then
         dn false
        else
         if decide (x.2.2.2.2 < (-8 : Int)) = true then
          dn false
         else
          if decide (x.2.2.2.2 > (8 : Int)) = true then
           dn false
          else
           dn true
theorem n_adm {β : Type} (x : a_adm) (dn : g_adm → Option β) : t_adm x dn = (t_adm x some).bind dn := by
  unfold t_adm
  repeat' first | exact free_none | refine free_bind (fun z => ?_) | refine free_ite ?_ ?_ | refine free_sum (fun z => ?_) (fun z => ?_) | rfl
theorem r_adm (x : a_adm) : callK E5 ca0 (loU E5 ca0 [0] lo0 20) 47 (A_adm x).1 (A_adm x).2 K = t_adm x (fun z => some (.c (R_adm z))) := by kernel_rfl
theorem s_adm (q : Nat) (x : a_adm) (z : g_adm) (h : t_adm x some = some z) : SC E5 47 (A_adm x).1 (A_adm x).2 (R_adm z) := by
  refine SC.of hW5 hX5 ca0_sound (loU_sound ca0_sound hX5 lo0_sound 20) ((r_adm x).trans ?_)
  rw [n_adm, h]; rfl
noncomputable def adm (q : Nat) (x : a_adm) : Option g_adm := t_adm x some
theorem sc_adm (q : Nat) : ∀ (x : a_adm) (z : g_adm), adm q x = some z → SC E5 47 (A_adm x).1 (A_adm x).2 (R_adm z) := fun x z h => s_adm q x z h
abbrev a_Lookup : Type := ByteArray
abbrev g_Lookup : Type := Int × Int × Int × Int × Int × Int × Bool
def A_Lookup : a_Lookup → List V × List (Option Chunk) := (fun x => (fun (s : ByteArray) => (([st s] : List V), ([] : List (Option Chunk)))) x)
def d_Lookup (t : List V × List (Option Chunk)) : a_Lookup := ((vS (t.1.getD 0 .junk)))
theorem i_Lookup : ∀ x y, A_Lookup x = A_Lookup y → x = y := fun x y h => (congrArg d_Lookup h :)
def R_Lookup : g_Lookup → CRes := (fun z => (fun (d0 : Int) (d1 : Int) (d2 : Int) (d3 : Int) (d4 : Int) (n : Int) (b : Bool) => .ret (.tup [.agg [i64 d0, i64 d1, i64 d2, i64 d3, i64 d4], i64 n, bo b]) []) z.1 z.2.1 z.2.2.1 z.2.2.2.1 z.2.2.2.2.1 z.2.2.2.2.2.1 z.2.2.2.2.2.2 : (Int × Int × Int × Int × Int × Int × Bool) → CRes)
def x_Lookup (z : g_Lookup) (k : CRes → Option Ans) : Option Ans := k (R_Lookup z)
theorem xe_Lookup : ∀ z k, x_Lookup z k = k (R_Lookup z) := fun z k => rfl
def t_Lookup {β : Type} (x : a_Lookup) (dn : g_Lookup → Option β) : Option β :=
 if (ByteArray.toList { data := #[(74 : UInt8)] } == ByteArray.toList x) = true then
  dn (((1 : Int), (0 : Int), (0 : Int), (0 : Int), (0 : Int), (1 : Int), true))
 else
  if (ByteArray.toList { data := #[(107 : UInt8), (74 : UInt8)] } == ByteArray.toList x) = true then
   dn (((1 : Int), (0 : Int), (0 : Int), (0 : Int), (0 : Int), (1000 : Int), true))
  else
   if (ByteArray.toList { data := #[(87 : UInt8), (104 : UInt8)] } == ByteArray.toList x) = true then
    dn (((1 : Int), (0 : Int), (0 : Int), (0 : Int), (0 : Int), (3600 : Int), true))
   else
    if (ByteArray.toList { data := #[(66 : UInt8)] } == ByteArray.toList x) = true then
     dn (((0 : Int), (1 : Int), (0 : Int), (0 : Int), (0 : Int), (1 : Int), true))
    else
     if (ByteArray.toList { data := #[(107 : UInt8), (66 : UInt8)] } == ByteArray.toList x) = true then
      dn (((0 : Int), (1 : Int), (0 : Int), (0 : Int), (0 : Int), (1000 : Int), true))
     else
      if (ByteArray.toList { data := #[(115 : UInt8)] } == ByteArray.toList x) = true then
       dn (((0 : Int), (0 : Int), (1 : Int), (0 : Int), (0 : Int), (1 : Int), true))
      else
       if (ByteArray.toList { data := #[(109 : UInt8), (105 : UInt8), (110 : UInt8)] } == ByteArray.toList x) = true then
        dn (((0 : Int), (0 : Int), (1 : Int), (0 : Int), (0 : Int), (60 : Int), true))
       else
        if (ByteArray.toList { data := #[(104 : UInt8)] } == ByteArray.toList x) = true then
         dn (((0 : Int), (0 : Int), (1 : Int), (0 : Int), (0 : Int), (3600 : Int), true))
        else
         if (ByteArray.toList { data := #[(100 : UInt8), (101 : UInt8), (103 : UInt8)] } == ByteArray.toList x) = true then
          dn (((0 : Int), (0 : Int), (0 : Int), (1 : Int), (0 : Int), (1 : Int), true))
         else
          if (ByteArray.toList { data := #[(75 : UInt8)] } == ByteArray.toList x) = true then
           dn (((0 : Int), (0 : Int), (0 : Int), (0 : Int), (1 : Int), (1 : Int), true))
          else
           if (ByteArray.toList { data := #[(87 : UInt8)] } == ByteArray.toList x) = true then
            dn (((1 : Int), (0 : Int), (-1 : Int), (0 : Int), (0 : Int), (1 : Int), true))
           else
            if (ByteArray.toList { data := #[(107 : UInt8), (87 : UInt8)] } == ByteArray.toList x) = true then
             dn (((1 : Int), (0 : Int), (-1 : Int), (0 : Int), (0 : Int), (1000 : Int), true))
            else
             if (ByteArray.toList { data := #[(66 : UInt8), (112 : UInt8), (115 : UInt8)] } == ByteArray.toList x) = true then
              dn (((0 : Int), (1 : Int), (-1 : Int), (0 : Int), (0 : Int), (1 : Int), true))
             else
              dn (((0 : Int), (0 : Int), (0 : Int), (0 : Int), (0 : Int), (0 : Int), false))
theorem n_Lookup {β : Type} (x : a_Lookup) (dn : g_Lookup → Option β) : t_Lookup x dn = (t_Lookup x some).bind dn := by
  unfold t_Lookup
  repeat' first | exact free_none | refine free_bind (fun z => ?_) | refine free_ite ?_ ?_ | refine free_sum (fun z => ?_) (fun z => ?_) | rfl
theorem r_Lookup (x : a_Lookup) : callK E5 ca0 (loU E5 ca0 [0] lo0 20) 36 (A_Lookup x).1 (A_Lookup x).2 K = t_Lookup x (fun z => some (.c (R_Lookup z))) := by kernel_rfl
theorem s_Lookup (q : Nat) (x : a_Lookup) (z : g_Lookup) (h : t_Lookup x some = some z) : SC E5 36 (A_Lookup x).1 (A_Lookup x).2 (R_Lookup z) := by
  refine SC.of hW5 hX5 ca0_sound (loU_sound ca0_sound hX5 lo0_sound 20) ((r_Lookup x).trans ?_)
  rw [n_Lookup, h]; rfl
noncomputable def Lookup (q : Nat) (x : a_Lookup) : Option g_Lookup := t_Lookup x some
theorem sc_Lookup (q : Nat) : ∀ (x : a_Lookup) (z : g_Lookup), Lookup q x = some z → SC E5 36 (A_Lookup x).1 (A_Lookup x).2 (R_Lookup z) := fun x z h => s_Lookup q x z h
abbrev a_number : Type := Int × Int × ByteArray × Nat × (Nat → List V)
abbrev g_number : Type := Int × Int × Int × Int × Int × Int
def A_number : a_number → List V × List (Option Chunk) := (fun x => (fun (nk : Int) (nn : Int) (ns : ByteArray) (nm : Nat) (nf : Nat → List V) => (([.agg [i64 nk, i64 nn, st ns, .ro 4 nm nf]] : List V), ([] : List (Option Chunk)))) x.1 x.2.1 x.2.2.1 x.2.2.2.1 x.2.2.2.2)
def d_number (t : List V × List (Option Chunk)) : a_number := ((vI ((vAg (t.1.getD 0 .junk)).getD 0 .junk)), (vI ((vAg (t.1.getD 0 .junk)).getD 1 .junk)), (vS ((vAg (t.1.getD 0 .junk)).getD 2 .junk)), (vRoN ((vAg (t.1.getD 0 .junk)).getD 3 .junk)), (vRoF ((vAg (t.1.getD 0 .junk)).getD 3 .junk)))
theorem i_number : ∀ x y, A_number x = A_number y → x = y := fun x y h => (congrArg d_number h :)
def R_number : g_number → CRes := (fun z => (fun (d0 : Int) (d1 : Int) (d2 : Int) (d3 : Int) (d4 : Int) (e : Int) => .ret (.tup [.agg [i64 d0, i64 d1, i64 d2, i64 d3, i64 d4], i64 e]) []) z.1 z.2.1 z.2.2.1 z.2.2.2.1 z.2.2.2.2.1 z.2.2.2.2.2 : (Int × Int × Int × Int × Int × Int) → CRes)
def x_number (z : g_number) (k : CRes → Option Ans) : Option Ans := k (R_number z)
theorem xe_number : ∀ z k, x_number z k = k (R_number z) := fun z k => rfl
def t_number {β : Type} (c_Lookup : a_Lookup → Option g_Lookup) (x : a_number) (dn : g_number → Option β) : Option β :=
 if (!ByteArray.toList (x.2.2.1) == ByteArray.toList { data := #[] }) = true then
  (c_Lookup (x.2.2.1)).bind fun z1 =>
   if (!z1.2.2.2.2.2.2) = true then
    dn (((0 : Int), (0 : Int), (0 : Int), (0 : Int), (0 : Int), (10 : Int)))
   else
    if decide (x.2.1 < (0 : Int)) = true then
     dn (((0 : Int), (0 : Int), (0 : Int), (0 : Int), (0 : Int), (5 : Int)))
    else
     if z1.2.2.2.2.2.1 = (0 : Int) then
      none
     else
      if decide (x.2.1 > w (Int.tdiv (2147483647 : Int) (z1.2.2.2.2.2.1))) = true then
       dn (((0 : Int), (0 : Int), (0 : Int), (0 : Int), (0 : Int), (5 : Int)))
      else
       dn ((z1.1, z1.2.1, z1.2.2.1, z1.2.2.2.1, z1.2.2.2.2.1, (0 : Int)))
 else
  if decide (x.2.1 < (0 : Int)) = true then
   dn (((0 : Int), (0 : Int), (0 : Int), (0 : Int), (0 : Int), (5 : Int)))
  else
   if decide (x.2.1 > (2147483647 : Int)) = true then
    dn (((0 : Int), (0 : Int), (0 : Int), (0 : Int), (0 : Int), (5 : Int)))
   else
    dn (((0 : Int), (0 : Int), (0 : Int), (0 : Int), (0 : Int), (0 : Int)))
theorem n_number {β : Type} (c_Lookup : a_Lookup → Option g_Lookup) (x : a_number) (dn : g_number → Option β) : t_number c_Lookup x dn = (t_number c_Lookup x some).bind dn := by
  unfold t_number
  repeat' first | exact free_none | refine free_bind (fun z => ?_) | refine free_ite ?_ ?_ | refine free_sum (fun z => ?_) (fun z => ?_) | rfl
theorem r_number (c_Lookup : a_Lookup → Option g_Lookup) (x : a_number) : callK E5 (ftab 36 (fun _ _ => true) A_Lookup x_Lookup c_Lookup ca0) lo0 30 (A_number x).1 (A_number x).2 K = t_number (fun x => viaF A_Lookup c_Lookup (A_Lookup x)) x (fun z => some (.c (R_number z))) := by kernel_rfl
theorem s_number (c_Lookup : a_Lookup → Option g_Lookup) (h_Lookup : ∀ x z, c_Lookup x = some z → SC E5 36 (A_Lookup x).1 (A_Lookup x).2 (R_Lookup z)) (q : Nat) (x : a_number) (z : g_number) (h : t_number c_Lookup x some = some z) : SC E5 30 (A_number x).1 (A_number x).2 (R_number z) := by
  refine SC.of hW5 hX5 (ftab_cons h_Lookup xe_Lookup ca0_sound) lo0_sound ((r_number c_Lookup x).trans ?_)
  rw [via_eq i_Lookup c_Lookup, n_number, h]; rfl
noncomputable def number (q : Nat) (x : a_number) : Option g_number := t_number (Lookup q) x some
theorem sc_number (q : Nat) : ∀ (x : a_number) (z : g_number), number q x = some z → SC E5 30 (A_number x).1 (A_number x).2 (R_number z) := fun x z h => s_number (Lookup q) (sc_Lookup q) q x z h
abbrev a_found : Type := Int × Int × Int × Int × Int × Bool
abbrev g_found : Type := Bool × Int × Int × Int × Int × Int × Int
def A_found : a_found → List V × List (Option Chunk) := (fun x => (fun (d0 : Int) (d1 : Int) (d2 : Int) (d3 : Int) (d4 : Int) (ok : Bool) => (([.agg [i64 d0, i64 d1, i64 d2, i64 d3, i64 d4], bo ok] : List V), ([] : List (Option Chunk)))) x.1 x.2.1 x.2.2.1 x.2.2.2.1 x.2.2.2.2.1 x.2.2.2.2.2)
def d_found (t : List V × List (Option Chunk)) : a_found := ((vI ((vAg (t.1.getD 0 .junk)).getD 0 .junk)), (vI ((vAg (t.1.getD 0 .junk)).getD 1 .junk)), (vI ((vAg (t.1.getD 0 .junk)).getD 2 .junk)), (vI ((vAg (t.1.getD 0 .junk)).getD 3 .junk)), (vI ((vAg (t.1.getD 0 .junk)).getD 4 .junk)), (vB (t.1.getD 1 .junk)))
theorem i_found : ∀ x y, A_found x = A_found y → x = y := fun x y h => (congrArg d_found h :)
def R_found : g_found → CRes := (fun z => (fun (b : Bool) (d0 : Int) (d1 : Int) (d2 : Int) (d3 : Int) (d4 : Int) (e : Int) => .ret (.tup [bo b, .agg [i64 d0, i64 d1, i64 d2, i64 d3, i64 d4], i64 e]) []) z.1 z.2.1 z.2.2.1 z.2.2.2.1 z.2.2.2.2.1 z.2.2.2.2.2.1 z.2.2.2.2.2.2 : (Bool × Int × Int × Int × Int × Int × Int) → CRes)
def x_found (z : g_found) (k : CRes → Option Ans) : Option Ans := k (R_found z)
theorem xe_found : ∀ z k, x_found z k = k (R_found z) := fun z k => rfl
def t_found {β : Type} (x : a_found) (dn : g_found → Option β) : Option β :=
 if (!x.2.2.2.2.2) = true then
  dn ((false, (0 : Int), (0 : Int), (0 : Int), (0 : Int), (0 : Int), (3 : Int)))
 else
  dn ((false, x.1, x.2.1, x.2.2.1, x.2.2.2.1, x.2.2.2.2.1, (0 : Int)))
theorem n_found {β : Type} (x : a_found) (dn : g_found → Option β) : t_found x dn = (t_found x some).bind dn := by
  unfold t_found
  repeat' first | exact free_none | refine free_bind (fun z => ?_) | refine free_ite ?_ ?_ | refine free_sum (fun z => ?_) (fun z => ?_) | rfl
theorem r_found (x : a_found) : callK E5 ca0 lo0 31 (A_found x).1 (A_found x).2 K = t_found x (fun z => some (.c (R_found z))) := by kernel_rfl
theorem s_found (q : Nat) (x : a_found) (z : g_found) (h : t_found x some = some z) : SC E5 31 (A_found x).1 (A_found x).2 (R_found z) := by
  refine SC.of hW5 hX5 ca0_sound lo0_sound ((r_found x).trans ?_)
  rw [n_found, h]; rfl
noncomputable def found (q : Nat) (x : a_found) : Option g_found := t_found x some
theorem sc_found (q : Nat) : ∀ (x : a_found) (z : g_found), found q x = some z → SC E5 31 (A_found x).1 (A_found x).2 (R_found z) := fun x z h => s_found q x z h
abbrev a_Times : Type := Int × Int × Int × Int × Int × Int × Int × Int × Int × Int
abbrev g_Times : Type := Int × Int × Int × Int × Int
def A_Times : a_Times → List V × List (Option Chunk) := (fun x => (fun (d0 : Int) (d1 : Int) (d2 : Int) (d3 : Int) (d4 : Int) (f0 : Int) (f1 : Int) (f2 : Int) (f3 : Int) (f4 : Int) => (([.agg [i64 d0, i64 d1, i64 d2, i64 d3, i64 d4], .agg [i64 f0, i64 f1, i64 f2, i64 f3, i64 f4]] : List V), ([] : List (Option Chunk)))) x.1 x.2.1 x.2.2.1 x.2.2.2.1 x.2.2.2.2.1 x.2.2.2.2.2.1 x.2.2.2.2.2.2.1 x.2.2.2.2.2.2.2.1 x.2.2.2.2.2.2.2.2.1 x.2.2.2.2.2.2.2.2.2)
def d_Times (t : List V × List (Option Chunk)) : a_Times := ((vI ((vAg (t.1.getD 0 .junk)).getD 0 .junk)), (vI ((vAg (t.1.getD 0 .junk)).getD 1 .junk)), (vI ((vAg (t.1.getD 0 .junk)).getD 2 .junk)), (vI ((vAg (t.1.getD 0 .junk)).getD 3 .junk)), (vI ((vAg (t.1.getD 0 .junk)).getD 4 .junk)), (vI ((vAg (t.1.getD 1 .junk)).getD 0 .junk)), (vI ((vAg (t.1.getD 1 .junk)).getD 1 .junk)), (vI ((vAg (t.1.getD 1 .junk)).getD 2 .junk)), (vI ((vAg (t.1.getD 1 .junk)).getD 3 .junk)), (vI ((vAg (t.1.getD 1 .junk)).getD 4 .junk)))
theorem i_Times : ∀ x y, A_Times x = A_Times y → x = y := fun x y h => (congrArg d_Times h :)
def R_Times : g_Times → CRes := (fun z => (fun (d0 : Int) (d1 : Int) (d2 : Int) (d3 : Int) (d4 : Int) => .ret (.agg [i64 d0, i64 d1, i64 d2, i64 d3, i64 d4]) []) z.1 z.2.1 z.2.2.1 z.2.2.2.1 z.2.2.2.2 : (Int × Int × Int × Int × Int) → CRes)
def x_Times (z : g_Times) (k : CRes → Option Ans) : Option Ans := k (R_Times z)
theorem xe_Times : ∀ z k, x_Times z k = k (R_Times z) := fun z k => rfl
def t_Times {β : Type} (x : a_Times) (dn : g_Times → Option β) : Option β :=
 dn ((w (x.1 + w ((1 : Int) * x.2.2.2.2.2.1)), w (x.2.1 + w ((1 : Int) * x.2.2.2.2.2.2.1)), w (x.2.2.1 + w ((1 : Int) * x.2.2.2.2.2.2.2.1)), w (x.2.2.2.1 + w ((1 : Int) * x.2.2.2.2.2.2.2.2.1)), w (x.2.2.2.2.1 + w ((1 : Int) * x.2.2.2.2.2.2.2.2.2))))
theorem n_Times {β : Type} (x : a_Times) (dn : g_Times → Option β) : t_Times x dn = (t_Times x some).bind dn := by
  unfold t_Times
  repeat' first | exact free_none | refine free_bind (fun z => ?_) | refine free_ite ?_ ?_ | refine free_sum (fun z => ?_) (fun z => ?_) | rfl
theorem r_Times (x : a_Times) : callK E5 (callG E5 20) lo0 45 (A_Times x).1 (A_Times x).2 K = t_Times x (fun z => some (.c (R_Times z))) := by kernel_rfl
theorem s_Times (q : Nat) (x : a_Times) (z : g_Times) (h : t_Times x some = some z) : SC E5 45 (A_Times x).1 (A_Times x).2 (R_Times z) := by
  refine SC.of hW5 hX5 (sound_G hW5 hX5 20).1 lo0_sound ((r_Times x).trans ?_)
  rw [n_Times, h]; rfl
noncomputable def Times (q : Nat) (x : a_Times) : Option g_Times := t_Times x some
theorem sc_Times (q : Nat) : ∀ (x : a_Times) (z : g_Times), Times q x = some z → SC E5 45 (A_Times x).1 (A_Times x).2 (R_Times z) := fun x z h => s_Times q x z h
abbrev a_Over : Type := Int × Int × Int × Int × Int × Int × Int × Int × Int × Int
abbrev g_Over : Type := Int × Int × Int × Int × Int
def A_Over : a_Over → List V × List (Option Chunk) := (fun x => (fun (d0 : Int) (d1 : Int) (d2 : Int) (d3 : Int) (d4 : Int) (f0 : Int) (f1 : Int) (f2 : Int) (f3 : Int) (f4 : Int) => (([.agg [i64 d0, i64 d1, i64 d2, i64 d3, i64 d4], .agg [i64 f0, i64 f1, i64 f2, i64 f3, i64 f4]] : List V), ([] : List (Option Chunk)))) x.1 x.2.1 x.2.2.1 x.2.2.2.1 x.2.2.2.2.1 x.2.2.2.2.2.1 x.2.2.2.2.2.2.1 x.2.2.2.2.2.2.2.1 x.2.2.2.2.2.2.2.2.1 x.2.2.2.2.2.2.2.2.2)
def d_Over (t : List V × List (Option Chunk)) : a_Over := ((vI ((vAg (t.1.getD 0 .junk)).getD 0 .junk)), (vI ((vAg (t.1.getD 0 .junk)).getD 1 .junk)), (vI ((vAg (t.1.getD 0 .junk)).getD 2 .junk)), (vI ((vAg (t.1.getD 0 .junk)).getD 3 .junk)), (vI ((vAg (t.1.getD 0 .junk)).getD 4 .junk)), (vI ((vAg (t.1.getD 1 .junk)).getD 0 .junk)), (vI ((vAg (t.1.getD 1 .junk)).getD 1 .junk)), (vI ((vAg (t.1.getD 1 .junk)).getD 2 .junk)), (vI ((vAg (t.1.getD 1 .junk)).getD 3 .junk)), (vI ((vAg (t.1.getD 1 .junk)).getD 4 .junk)))
theorem i_Over : ∀ x y, A_Over x = A_Over y → x = y := fun x y h => (congrArg d_Over h :)
def R_Over : g_Over → CRes := (fun z => (fun (d0 : Int) (d1 : Int) (d2 : Int) (d3 : Int) (d4 : Int) => .ret (.agg [i64 d0, i64 d1, i64 d2, i64 d3, i64 d4]) []) z.1 z.2.1 z.2.2.1 z.2.2.2.1 z.2.2.2.2 : (Int × Int × Int × Int × Int) → CRes)
def x_Over (z : g_Over) (k : CRes → Option Ans) : Option Ans := k (R_Over z)
theorem xe_Over : ∀ z k, x_Over z k = k (R_Over z) := fun z k => rfl
def t_Over {β : Type} (x : a_Over) (dn : g_Over → Option β) : Option β :=
 dn ((w (x.1 + w ((-1 : Int) * x.2.2.2.2.2.1)), w (x.2.1 + w ((-1 : Int) * x.2.2.2.2.2.2.1)), w (x.2.2.1 + w ((-1 : Int) * x.2.2.2.2.2.2.2.1)), w (x.2.2.2.1 + w ((-1 : Int) * x.2.2.2.2.2.2.2.2.1)), w (x.2.2.2.2.1 + w ((-1 : Int) * x.2.2.2.2.2.2.2.2.2))))
theorem n_Over {β : Type} (x : a_Over) (dn : g_Over → Option β) : t_Over x dn = (t_Over x some).bind dn := by
  unfold t_Over
  repeat' first | exact free_none | refine free_bind (fun z => ?_) | refine free_ite ?_ ?_ | refine free_sum (fun z => ?_) (fun z => ?_) | rfl
theorem r_Over (x : a_Over) : callK E5 (callG E5 20) lo0 46 (A_Over x).1 (A_Over x).2 K = t_Over x (fun z => some (.c (R_Over z))) := by kernel_rfl
theorem s_Over (q : Nat) (x : a_Over) (z : g_Over) (h : t_Over x some = some z) : SC E5 46 (A_Over x).1 (A_Over x).2 (R_Over z) := by
  refine SC.of hW5 hX5 (sound_G hW5 hX5 20).1 lo0_sound ((r_Over x).trans ?_)
  rw [n_Over, h]; rfl
noncomputable def Over (q : Nat) (x : a_Over) : Option g_Over := t_Over x some
theorem sc_Over (q : Nat) : ∀ (x : a_Over) (z : g_Over), Over q x = some z → SC E5 46 (A_Over x).1 (A_Over x).2 (R_Over z) := fun x z h => s_Over q x z h
abbrev a_binary : Type := ByteArray × Bool × Bool × Int × Int × Int × Int × Int × Int × Int × Int × Int × Int
abbrev g_binary : Type := Bool × Int × Int × Int × Int × Int × Int
def A_binary : a_binary → List V × List (Option Chunk) := (fun x => (fun (s : ByteArray) (x : Bool) (y : Bool) (d0 : Int) (d1 : Int) (d2 : Int) (d3 : Int) (d4 : Int) (f0 : Int) (f1 : Int) (f2 : Int) (f3 : Int) (f4 : Int) => (([st s, .agg [bo x, bo y], .agg [i64 d0, i64 d1, i64 d2, i64 d3, i64 d4, i64 f0, i64 f1, i64 f2, i64 f3, i64 f4]] : List V), ([] : List (Option Chunk)))) x.1 x.2.1 x.2.2.1 x.2.2.2.1 x.2.2.2.2.1 x.2.2.2.2.2.1 x.2.2.2.2.2.2.1 x.2.2.2.2.2.2.2.1 x.2.2.2.2.2.2.2.2.1 x.2.2.2.2.2.2.2.2.2.1 x.2.2.2.2.2.2.2.2.2.2.1 x.2.2.2.2.2.2.2.2.2.2.2.1 x.2.2.2.2.2.2.2.2.2.2.2.2)
def d_binary (t : List V × List (Option Chunk)) : a_binary := ((vS (t.1.getD 0 .junk)), (vB ((vAg (t.1.getD 1 .junk)).getD 0 .junk)), (vB ((vAg (t.1.getD 1 .junk)).getD 1 .junk)), (vI ((vAg (t.1.getD 2 .junk)).getD 0 .junk)), (vI ((vAg (t.1.getD 2 .junk)).getD 1 .junk)), (vI ((vAg (t.1.getD 2 .junk)).getD 2 .junk)), (vI ((vAg (t.1.getD 2 .junk)).getD 3 .junk)), (vI ((vAg (t.1.getD 2 .junk)).getD 4 .junk)), (vI ((vAg (t.1.getD 2 .junk)).getD 5 .junk)), (vI ((vAg (t.1.getD 2 .junk)).getD 6 .junk)), (vI ((vAg (t.1.getD 2 .junk)).getD 7 .junk)), (vI ((vAg (t.1.getD 2 .junk)).getD 8 .junk)), (vI ((vAg (t.1.getD 2 .junk)).getD 9 .junk)))
theorem i_binary : ∀ x y, A_binary x = A_binary y → x = y := fun x y h => (congrArg d_binary h :)
def R_binary : g_binary → CRes := (fun z => (fun (b : Bool) (d0 : Int) (d1 : Int) (d2 : Int) (d3 : Int) (d4 : Int) (e : Int) => .ret (.tup [bo b, .agg [i64 d0, i64 d1, i64 d2, i64 d3, i64 d4], i64 e]) []) z.1 z.2.1 z.2.2.1 z.2.2.2.1 z.2.2.2.2.1 z.2.2.2.2.2.1 z.2.2.2.2.2.2 : (Bool × Int × Int × Int × Int × Int × Int) → CRes)
def x_binary (z : g_binary) (k : CRes → Option Ans) : Option Ans := k (R_binary z)
theorem xe_binary : ∀ z k, x_binary z k = k (R_binary z) := fun z k => rfl
def t_binary {β : Type} (c_kind : a_kind → Option g_kind) (c_adm : a_adm → Option g_adm) (c_Times : a_Times → Option g_Times) (c_Over : a_Over → Option g_Over) (x : a_binary) (dn : g_binary → Option β) : Option β :=
 (c_kind (x.1)).bind fun z1 =>
  if (!x.2.1 == (z1 == (1 : Int))) = true then
   dn ((false, (0 : Int), (0 : Int), (0 : Int), (0 : Int), (0 : Int), (12 : Int)))
  else
   if (!x.2.2.1 == (z1 == (1 : Int))) = true then
    dn ((false, (0 : Int), (0 : Int), (0 : Int), (0 : Int), (0 : Int), (12 : Int)))
   else
    if (z1 == (1 : Int)) = true then
     dn ((true, (0 : Int), (0 : Int), (0 : Int), (0 : Int), (0 : Int), (0 : Int)))
    else
     if (z1 == (3 : Int)) = true then
      (c_Times (x.2.2.2)).bind fun z12 =>
       if (ByteArray.toList (x.1) == ByteArray.toList { data := #[(47 : UInt8)] }) = true then
        (c_Over (x.2.2.2)).bind fun z23 =>
         (c_adm z23).bind fun z29 =>
          if (!z29) = true then
           dn ((false, (0 : Int), (0 : Int), (0 : Int), (0 : Int), (0 : Int), (5 : Int)))
          else
           dn ((false, z23.1, z23.2.1, z23.2.2.1, z23.2.2.2.1, z23.2.2.2.2, (0 : Int)))
       else
        (c_adm z12).bind fun z35 =>
         if (!z35) = true then
          dn ((false, (0 : Int), (0 : Int), (0 : Int), (0 : Int), (0 : Int), (5 : Int)))
         else
          dn ((false, z12.1, z12.2.1, z12.2.2.1, z12.2.2.2.1, z12.2.2.2.2, (0 : Int)))
     else
      if (if true = true then !(x.2.2.2.1 == x.2.2.2.2.2.2.2.2.1 && (x.2.2.2.2.1 == x.2.2.2.2.2.2.2.2.2.1 && (x.2.2.2.2.2.1 == x.2.2.2.2.2.2.2.2.2.2.1 && (x.2.2.2.2.2.2.1 == x.2.2.2.2.2.2.2.2.2.2.2.1 && (x.2.2.2.2.2.2.2.1 == x.2.2.2.2.2.2.2.2.2.2.2.2 && true))))) else x.2.2.2.1 == x.2.2.2.2.2.2.2.2.1 && (x.2.2.2.2.1 == x.2.2.2.2.2.2.2.2.2.1 && (x.2.2.2.2.2.1 == x.2.2.2.2.2.2.2.2.2.2.1 && (x.2.2.2.2.2.2.1 == x.2.2.2.2.2.2.2.2.2.2.2.1 && (x.2.2.2.2.2.2.2.1 == x.2.2.2.2.2.2.2.2.2.2.2.2 && true))))) = true then
       dn ((false, (0 : Int), (0 : Int), (0 : Int), (0 : Int), (0 : Int), (10 : Int)))
      else
       if (z1 == (4 : Int)) = true then
        dn ((true, (0 : Int), (0 : Int), (0 : Int), (0 : Int), (0 : Int), (0 : Int)))
       else
        dn ((false, x.2.2.2.1, x.2.2.2.2.1, x.2.2.2.2.2.1, x.2.2.2.2.2.2.1, x.2.2.2.2.2.2.2.1, (0 : Int)))
theorem n_binary {β : Type} (c_kind : a_kind → Option g_kind) (c_adm : a_adm → Option g_adm) (c_Times : a_Times → Option g_Times) (c_Over : a_Over → Option g_Over) (x : a_binary) (dn : g_binary → Option β) : t_binary c_kind c_adm c_Times c_Over x dn = (t_binary c_kind c_adm c_Times c_Over x some).bind dn := by
  unfold t_binary
  repeat' first | exact free_none | refine free_bind (fun z => ?_) | refine free_ite ?_ ?_ | refine free_sum (fun z => ?_) (fun z => ?_) | rfl
theorem r_binary (c_kind : a_kind → Option g_kind) (c_adm : a_adm → Option g_adm) (c_Times : a_Times → Option g_Times) (c_Over : a_Over → Option g_Over) (x : a_binary) : callK E5 (ftab 44 (fun _ _ => true) A_kind x_kind c_kind (ftab 47 (fun _ _ => true) A_adm x_adm c_adm (ftab 45 (fun _ _ => true) A_Times x_Times c_Times (ftab 46 (fun _ _ => true) A_Over x_Over c_Over ca0)))) lo0 32 (A_binary x).1 (A_binary x).2 K = t_binary (fun x => viaF A_kind c_kind (A_kind x)) (fun x => viaF A_adm c_adm (A_adm x)) (fun x => viaF A_Times c_Times (A_Times x)) (fun x => viaF A_Over c_Over (A_Over x)) x (fun z => some (.c (R_binary z))) := by kernel_rfl
theorem s_binary (c_kind : a_kind → Option g_kind) (h_kind : ∀ x z, c_kind x = some z → SC E5 44 (A_kind x).1 (A_kind x).2 (R_kind z)) (c_adm : a_adm → Option g_adm) (h_adm : ∀ x z, c_adm x = some z → SC E5 47 (A_adm x).1 (A_adm x).2 (R_adm z)) (c_Times : a_Times → Option g_Times) (h_Times : ∀ x z, c_Times x = some z → SC E5 45 (A_Times x).1 (A_Times x).2 (R_Times z)) (c_Over : a_Over → Option g_Over) (h_Over : ∀ x z, c_Over x = some z → SC E5 46 (A_Over x).1 (A_Over x).2 (R_Over z)) (q : Nat) (x : a_binary) (z : g_binary) (h : t_binary c_kind c_adm c_Times c_Over x some = some z) : SC E5 32 (A_binary x).1 (A_binary x).2 (R_binary z) := by
  refine SC.of hW5 hX5 (ftab_cons h_kind xe_kind (ftab_cons h_adm xe_adm (ftab_cons h_Times xe_Times (ftab_cons h_Over xe_Over ca0_sound)))) lo0_sound ((r_binary c_kind c_adm c_Times c_Over x).trans ?_)
  rw [via_eq i_kind c_kind, via_eq i_adm c_adm, via_eq i_Times c_Times, via_eq i_Over c_Over, n_binary, h]; rfl
noncomputable def binary (q : Nat) (x : a_binary) : Option g_binary := t_binary (kind q) (adm q) (Times q) (Over q) x some
theorem sc_binary (q : Nat) : ∀ (x : a_binary) (z : g_binary), binary q x = some z → SC E5 32 (A_binary x).1 (A_binary x).2 (R_binary z) := fun x z h => s_binary (kind q) (sc_kind q) (adm q) (sc_adm q) (Times q) (sc_Times q) (Over q) (sc_Over q) q x z h
abbrev a_Tele : Type := ByteArray
abbrev g_Tele : Type := Int × Int × Int × Int × Int × Int × Bool
def A_Tele : a_Tele → List V × List (Option Chunk) := (fun x => (fun (s : ByteArray) => (([st s] : List V), ([] : List (Option Chunk)))) x)
def d_Tele (t : List V × List (Option Chunk)) : a_Tele := ((vS (t.1.getD 0 .junk)))
theorem i_Tele : ∀ x y, A_Tele x = A_Tele y → x = y := fun x y h => (congrArg d_Tele h :)
def R_Tele : g_Tele → CRes := (fun z => (fun (k : Int) (d0 : Int) (d1 : Int) (d2 : Int) (d3 : Int) (d4 : Int) (b : Bool) => .ret (.tup [i64 k, .agg [i64 d0, i64 d1, i64 d2, i64 d3, i64 d4], bo b]) []) z.1 z.2.1 z.2.2.1 z.2.2.2.1 z.2.2.2.2.1 z.2.2.2.2.2.1 z.2.2.2.2.2.2 : (Int × Int × Int × Int × Int × Int × Bool) → CRes)
def x_Tele (z : g_Tele) (k : CRes → Option Ans) : Option Ans := k (R_Tele z)
theorem xe_Tele : ∀ z k, x_Tele z k = k (R_Tele z) := fun z k => rfl
def t_Tele {β : Type} (x : a_Tele) (dn : g_Tele → Option β) : Option β :=
 if (ByteArray.toList x == ByteArray.toList { data := #[(98 : UInt8), (97 : UInt8), (116 : UInt8), (116 : UInt8), (101 : UInt8), (114 : UInt8), (121 : UInt8)] }) = true then
  dn (((0 : Int), (1 : Int), (0 : Int), (0 : Int), (0 : Int), (0 : Int), true))
 else
  if (ByteArray.toList x == ByteArray.toList { data := #[(104 : UInt8), (101 : UInt8), (97 : UInt8), (116 : UInt8)] }) = true then
   dn (((1 : Int), (0 : Int), (0 : Int), (0 : Int), (0 : Int), (1 : Int), true))
  else
   if (ByteArray.toList x == ByteArray.toList { data := #[(97 : UInt8), (110 : UInt8), (103 : UInt8), (108 : UInt8), (101 : UInt8)] }) = true then
    dn (((2 : Int), (0 : Int), (0 : Int), (0 : Int), (1 : Int), (0 : Int), true))
   else
    if (ByteArray.toList x == ByteArray.toList { data := #[(110 : UInt8), (111 : UInt8), (119 : UInt8)] }) = true then
     dn (((3 : Int), (0 : Int), (0 : Int), (1 : Int), (0 : Int), (0 : Int), true))
    else
     if (ByteArray.toList x == ByteArray.toList { data := #[(109 : UInt8), (111 : UInt8), (100 : UInt8), (101 : UInt8)] }) = true then
      dn (((4 : Int), (0 : Int), (0 : Int), (0 : Int), (0 : Int), (0 : Int), true))
     else
      if (ByteArray.toList x == ByteArray.toList { data := #[(102 : UInt8), (114 : UInt8), (101 : UInt8), (101 : UInt8)] }) = true then
       dn (((5 : Int), (0 : Int), (1 : Int), (0 : Int), (0 : Int), (0 : Int), true))
      else
       dn (((0 : Int), (0 : Int), (0 : Int), (0 : Int), (0 : Int), (0 : Int), false))
theorem n_Tele {β : Type} (x : a_Tele) (dn : g_Tele → Option β) : t_Tele x dn = (t_Tele x some).bind dn := by
  unfold t_Tele
  repeat' first | exact free_none | refine free_bind (fun z => ?_) | refine free_ite ?_ ?_ | refine free_sum (fun z => ?_) (fun z => ?_) | rfl
theorem r_Tele (x : a_Tele) : callK E5 ca0 lo0 15 (A_Tele x).1 (A_Tele x).2 K = t_Tele x (fun z => some (.c (R_Tele z))) := by kernel_rfl
theorem s_Tele (q : Nat) (x : a_Tele) (z : g_Tele) (h : t_Tele x some = some z) : SC E5 15 (A_Tele x).1 (A_Tele x).2 (R_Tele z) := by
  refine SC.of hW5 hX5 ca0_sound lo0_sound ((r_Tele x).trans ?_)
  rw [n_Tele, h]; rfl
noncomputable def Tele (q : Nat) (x : a_Tele) : Option g_Tele := t_Tele x some
theorem sc_Tele (q : Nat) : ∀ (x : a_Tele) (z : g_Tele), Tele q x = some z → SC E5 15 (A_Tele x).1 (A_Tele x).2 (R_Tele z) := fun x z h => s_Tele q x z h
abbrev a_Operator : Type := ByteArray
abbrev g_Operator : Type := Int
def t_Operator {β : Type} (x : a_Operator) (dn : g_Operator → Option β) : Option β :=
 if (ByteArray.toList x == ByteArray.toList { data := #[(124 : UInt8), (124 : UInt8)] }) = true then
  dn ((1 : Int))
 else
  if (ByteArray.toList x == ByteArray.toList { data := #[(38 : UInt8), (38 : UInt8)] }) = true then
   dn ((1 : Int))
  else
   if (ByteArray.toList x == ByteArray.toList { data := #[(43 : UInt8)] }) = true then
    dn ((2 : Int))
   else
    if (ByteArray.toList x == ByteArray.toList { data := #[(45 : UInt8)] }) = true then
     dn ((2 : Int))
    else
     if (ByteArray.toList x == ByteArray.toList { data := #[(42 : UInt8)] }) = true then
      dn ((3 : Int))
     else
      if (ByteArray.toList x == ByteArray.toList { data := #[(47 : UInt8)] }) = true then
       dn ((3 : Int))
      else
       if (ByteArray.toList x == ByteArray.toList { data := #[(60 : UInt8)] }) = true then
        dn ((4 : Int))
       else
        if (ByteArray.toList x == ByteArray.toList { data := #[(60 : UInt8), (61 : UInt8)] }) = true then
         dn ((4 : Int))
        else
         if (ByteArray.toList x == ByteArray.toList { data := #[(62 : UInt8)] }) = true then
          dn ((4 : Int))
         else
          if (ByteArray.toList x == ByteArray.toList { data := #[(62 : UInt8), (61 : UInt8)] }) = true then
           dn ((4 : Int))
          else
           if (ByteArray.toList x == ByteArray.toList { data := #[(61 : UInt8), (61 : UInt8)] }) = true then
            dn ((4 : Int))
           else
            if (ByteArray.toList x == ByteArray.toList { data := #[(33 : UInt8), (61 : UInt8)] }) = true then
             dn ((4 : Int))
            else
             dn ((0 : Int))
noncomputable def Operator (q : Nat) (x : a_Operator) : Option g_Operator := t_Operator x some
abbrev a_formed : Type := Int × Int × ByteArray × Nat × (Nat → List V)
abbrev g_formed : Type := Bool
def t_formed {β : Type} (c_Operator : a_Operator → Option g_Operator) (x : a_formed) (dn : g_formed → Option β) : Option β :=
 if (x.1 == (15 : Int)) = true then
  dn (((x.2.2.2.1 : Nat) : Int) == (0 : Int))
 else
  if (x.1 == (17 : Int)) = true then
   dn (((x.2.2.2.1 : Nat) : Int) == (0 : Int))
  else
   if (x.1 == (18 : Int)) = true then
    dn (((x.2.2.2.1 : Nat) : Int) == (0 : Int))
   else
    if (x.1 == (16 : Int)) = true then
     if (((x.2.2.2.1 : Nat) : Int) == (0 : Int)) = true then
      if (x.2.1 == (0 : Int)) = true then
       dn true
      else
       dn (x.2.1 == (1 : Int))
     else
      dn false
    else
     if (x.1 == (19 : Int)) = true then
      if (((x.2.2.2.1 : Nat) : Int) == (1 : Int)) = true then
       if (ByteArray.toList (x.2.2.1) == ByteArray.toList { data := #[(33 : UInt8)] }) = true then
        dn true
       else
        dn (ByteArray.toList (x.2.2.1) == ByteArray.toList { data := #[(45 : UInt8)] })
      else
       dn false
     else
      if (x.1 == (20 : Int)) = true then
       if (((x.2.2.2.1 : Nat) : Int) == (2 : Int)) = true then
        (c_Operator (x.2.2.1)).bind fun z1 =>
         dn (decide (z1 > (0 : Int)))
       else
        dn false
      else
       dn false
noncomputable def formed (q : Nat) (x : a_formed) : Option g_formed := t_formed (Operator q) x some
abbrev a_radm : Type := Int × Int × Int × Int × Int
abbrev g_radm : Type := Bool
def t_radm {β : Type} (x : a_radm) (dn : g_radm → Option β) : Option β :=
 if decide ((if x.2.2.2.2 > if x.2.2.2.1 > if x.2.2.1 > if x.2.1 > x.1 then x.2.1 else x.1 then x.2.2.1 else if x.2.1 > x.1 then x.2.1 else x.1 then x.2.2.2.1 else if x.2.2.1 > if x.2.1 > x.1 then x.2.1 else x.1 then x.2.2.1 else if x.2.1 > x.1 then x.2.1 else x.1 then x.2.2.2.2 else if x.2.2.2.1 > if x.2.2.1 > if x.2.1 > x.1 then x.2.1 else x.1 then x.2.2.1 else if x.2.1 > x.1 then x.2.1 else x.1 then x.2.2.2.1 else if x.2.2.1 > if x.2.1 > x.1 then x.2.1 else x.1 then x.2.2.1 else if x.2.1 > x.1 then x.2.1 else x.1) ≤ (8 : Int)) = true then
  dn (decide ((if x.2.2.2.2 < if x.2.2.2.1 < if x.2.2.1 < if x.2.1 < x.1 then x.2.1 else x.1 then x.2.2.1 else if x.2.1 < x.1 then x.2.1 else x.1 then x.2.2.2.1 else if x.2.2.1 < if x.2.1 < x.1 then x.2.1 else x.1 then x.2.2.1 else if x.2.1 < x.1 then x.2.1 else x.1 then x.2.2.2.2 else if x.2.2.2.1 < if x.2.2.1 < if x.2.1 < x.1 then x.2.1 else x.1 then x.2.2.1 else if x.2.1 < x.1 then x.2.1 else x.1 then x.2.2.2.1 else if x.2.2.1 < if x.2.1 < x.1 then x.2.1 else x.1 then x.2.2.1 else if x.2.1 < x.1 then x.2.1 else x.1) ≥ (-8 : Int)))
 else
  dn false
noncomputable def radm (q : Nat) (x : a_radm) : Option g_radm := t_radm x some
abbrev a_RLookup : Type := ByteArray
abbrev g_RLookup : Type := Int × Int × Int × Int × Int × Int × Bool
def t_RLookup {β : Type} (x : a_RLookup) (dn : g_RLookup → Option β) : Option β :=
 if (ByteArray.toList x == ByteArray.toList { data := #[(74 : UInt8)] }) = true then
  dn (((1 : Int), (0 : Int), (0 : Int), (0 : Int), (0 : Int), (1 : Int), true))
 else
  if (ByteArray.toList x == ByteArray.toList { data := #[(107 : UInt8), (74 : UInt8)] }) = true then
   dn (((1 : Int), (0 : Int), (0 : Int), (0 : Int), (0 : Int), (1000 : Int), true))
  else
   if (ByteArray.toList x == ByteArray.toList { data := #[(87 : UInt8), (104 : UInt8)] }) = true then
    dn (((1 : Int), (0 : Int), (0 : Int), (0 : Int), (0 : Int), (3600 : Int), true))
   else
    if (ByteArray.toList x == ByteArray.toList { data := #[(66 : UInt8)] }) = true then
     dn (((0 : Int), (1 : Int), (0 : Int), (0 : Int), (0 : Int), (1 : Int), true))
    else
     if (ByteArray.toList x == ByteArray.toList { data := #[(107 : UInt8), (66 : UInt8)] }) = true then
      dn (((0 : Int), (1 : Int), (0 : Int), (0 : Int), (0 : Int), (1000 : Int), true))
     else
      if (ByteArray.toList x == ByteArray.toList { data := #[(115 : UInt8)] }) = true then
       dn (((0 : Int), (0 : Int), (1 : Int), (0 : Int), (0 : Int), (1 : Int), true))
      else
       if (ByteArray.toList x == ByteArray.toList { data := #[(109 : UInt8), (105 : UInt8), (110 : UInt8)] }) = true then
        dn (((0 : Int), (0 : Int), (1 : Int), (0 : Int), (0 : Int), (60 : Int), true))
       else
        if (ByteArray.toList x == ByteArray.toList { data := #[(104 : UInt8)] }) = true then
         dn (((0 : Int), (0 : Int), (1 : Int), (0 : Int), (0 : Int), (3600 : Int), true))
        else
         if (ByteArray.toList x == ByteArray.toList { data := #[(100 : UInt8), (101 : UInt8), (103 : UInt8)] }) = true then
          dn (((0 : Int), (0 : Int), (0 : Int), (1 : Int), (0 : Int), (1 : Int), true))
         else
          if (ByteArray.toList x == ByteArray.toList { data := #[(75 : UInt8)] }) = true then
           dn (((0 : Int), (0 : Int), (0 : Int), (0 : Int), (1 : Int), (1 : Int), true))
          else
           if (ByteArray.toList x == ByteArray.toList { data := #[(87 : UInt8)] }) = true then
            dn (((1 : Int), (0 : Int), (-1 : Int), (0 : Int), (0 : Int), (1 : Int), true))
           else
            if (ByteArray.toList x == ByteArray.toList { data := #[(107 : UInt8), (87 : UInt8)] }) = true then
             dn (((1 : Int), (0 : Int), (-1 : Int), (0 : Int), (0 : Int), (1000 : Int), true))
            else
             if (ByteArray.toList x == ByteArray.toList { data := #[(66 : UInt8), (112 : UInt8), (115 : UInt8)] }) = true then
              dn (((0 : Int), (1 : Int), (-1 : Int), (0 : Int), (0 : Int), (1 : Int), true))
             else
              dn (((0 : Int), (0 : Int), (0 : Int), (0 : Int), (0 : Int), (0 : Int), false))
noncomputable def RLookup (q : Nat) (x : a_RLookup) : Option g_RLookup := t_RLookup x some
abbrev a_rliteral : Type := Int × Int × ByteArray × Nat × (Nat → List V)
abbrev g_rliteral : Type := Int × Int × Int × Int × Int × Int
def t_rliteral {β : Type} (c_RLookup : a_RLookup → Option g_RLookup) (x : a_rliteral) (dn : g_rliteral → Option β) : Option β :=
 if (!ByteArray.toList (x.2.2.1) == ByteArray.toList { data := #[] }) = true then
  (c_RLookup (x.2.2.1)).bind fun z1 =>
   if (!z1.2.2.2.2.2.2) = true then
    dn (((0 : Int), (0 : Int), (0 : Int), (0 : Int), (0 : Int), (10 : Int)))
   else
    if decide (x.2.1 < (0 : Int)) = true then
     dn (((0 : Int), (0 : Int), (0 : Int), (0 : Int), (0 : Int), (5 : Int)))
    else
     if z1.2.2.2.2.2.1 = (0 : Int) then
      none
     else
      if decide (x.2.1 > w (Int.tdiv (2147483647 : Int) (z1.2.2.2.2.2.1))) = true then
       dn (((0 : Int), (0 : Int), (0 : Int), (0 : Int), (0 : Int), (5 : Int)))
      else
       dn ((z1.1, z1.2.1, z1.2.2.1, z1.2.2.2.1, z1.2.2.2.2.1, (0 : Int)))
 else
  if decide (x.2.1 < (0 : Int)) = true then
   dn (((0 : Int), (0 : Int), (0 : Int), (0 : Int), (0 : Int), (5 : Int)))
  else
   if decide (x.2.1 > (2147483647 : Int)) = true then
    dn (((0 : Int), (0 : Int), (0 : Int), (0 : Int), (0 : Int), (5 : Int)))
   else
    dn (((0 : Int), (0 : Int), (0 : Int), (0 : Int), (0 : Int), (0 : Int)))
noncomputable def rliteral (q : Nat) (x : a_rliteral) : Option g_rliteral := t_rliteral (RLookup q) x some
abbrev a_RTele : Type := ByteArray
abbrev g_RTele : Type := Int × Int × Int × Int × Int × Int × Bool
def t_RTele {β : Type} (x : a_RTele) (dn : g_RTele → Option β) : Option β :=
 if (ByteArray.toList x == ByteArray.toList { data := #[(98 : UInt8), (97 : UInt8), (116 : UInt8), (116 : UInt8), (101 : UInt8), (114 : UInt8), (121 : UInt8)] }) = true then
  dn (((0 : Int), (1 : Int), (0 : Int), (0 : Int), (0 : Int), (0 : Int), true))
 else
  if (ByteArray.toList x == ByteArray.toList { data := #[(104 : UInt8), (101 : UInt8), (97 : UInt8), (116 : UInt8)] }) = true then
   dn (((1 : Int), (0 : Int), (0 : Int), (0 : Int), (0 : Int), (1 : Int), true))
  else
   if (ByteArray.toList x == ByteArray.toList { data := #[(97 : UInt8), (110 : UInt8), (103 : UInt8), (108 : UInt8), (101 : UInt8)] }) = true then
    dn (((2 : Int), (0 : Int), (0 : Int), (0 : Int), (1 : Int), (0 : Int), true))
   else
    if (ByteArray.toList x == ByteArray.toList { data := #[(110 : UInt8), (111 : UInt8), (119 : UInt8)] }) = true then
     dn (((3 : Int), (0 : Int), (0 : Int), (1 : Int), (0 : Int), (0 : Int), true))
    else
     if (ByteArray.toList x == ByteArray.toList { data := #[(109 : UInt8), (111 : UInt8), (100 : UInt8), (101 : UInt8)] }) = true then
      dn (((4 : Int), (0 : Int), (0 : Int), (0 : Int), (0 : Int), (0 : Int), true))
     else
      if (ByteArray.toList x == ByteArray.toList { data := #[(102 : UInt8), (114 : UInt8), (101 : UInt8), (101 : UInt8)] }) = true then
       dn (((5 : Int), (0 : Int), (1 : Int), (0 : Int), (0 : Int), (0 : Int), true))
      else
       dn (((0 : Int), (0 : Int), (0 : Int), (0 : Int), (0 : Int), (0 : Int), false))
noncomputable def RTele (q : Nat) (x : a_RTele) : Option g_RTele := t_RTele x some
end Go.Proofs.YtniogljhkjbcgaaDoor
/- Types: trees, lifted. -/
namespace Go.Proofs.YtniogljhkjbcgaaDoor
open Go Go.Am Go.Proofs
set_option linter.unusedSimpArgs false
set_option linter.unusedVariables false
set_option maxRecDepth 100000
def opK (f : Nat → List V) (j : Nat) : Int := vI ((f j).getD 0 .junk)
def opN (f : Nat → List V) (j : Nat) : Int := vI ((f j).getD 1 .junk)
def opS (f : Nat → List V) (j : Nat) : ByteArray := vS ((f j).getD 2 .junk)
def opM (f : Nat → List V) (j : Nat) : Nat := vRoN ((f j).getD 3 .junk)
def opF (f : Nat → List V) (j : Nat) : Nat → List V := vRoF ((f j).getD 3 .junk)
/-- The cells of the kids are those of nodes. -/
def OpenN (f : Nat → List V) : Prop := ∀ j, f j = [i64 (opK f j), i64 (opN f j), st (opS f j), .ro 4 (opM f j) (opF f j)]
theorem open_eq {f : Nat → List V} (h : OpenN f) : (fun j => [i64 (opK f j), i64 (opN f j), st (opS f j), .ro 4 (opM f j) (opF f j)]) = f := funext fun j => (h j).symm
def jk (n : Nat) : List V := List.replicate n .junk
abbrev a_Bound : Type := Int × Int
abbrev g_Bound : Type := Int
def t_Bound {β : Type} (x : a_Bound) (dn : g_Bound → Option β) : Option β :=
 if decide (x.1 < (0 : Int)) = true then
  if w (w ((2 : Int) * x.2) + (1 : Int)) = (0 : Int) then
   none
  else
   dn (w (Int.tmod (w ((0 : Int) - w (x.1 + (1 : Int)))) (w (w ((2 : Int) * x.2) + (1 : Int))) - x.2))
 else
  if w (w ((2 : Int) * x.2) + (1 : Int)) = (0 : Int) then
   none
  else
   dn (w (Int.tmod (x.1) (w (w ((2 : Int) * x.2) + (1 : Int))) - x.2))
noncomputable def Bound (q : Nat) (x : a_Bound) : Option g_Bound := t_Bound x some
abbrev a_Find : Type := Nat × (Nat → ByteArray) × (Nat → Int) × (Nat → Int) × (Nat → Int) × (Nat → Int) × (Nat → Int) × ByteArray
abbrev g_Find : Type := Int
abbrev Find_l0_a : Type := Int
abbrev Find_l0_g : Type := (Int) ⊕ (Unit)
def Find_l0_t {β : Type} (x : a_Find) (y : Find_l0_a) (nx : Find_l0_a → Option β) (dn : Find_l0_g → Option β) : Option β :=
 if decide (y < ((x.1 : Nat) : Int)) = true then
  if (0 : Int) ≤ y ∧ y < ((x.1 : Nat) : Int) then
   if (ByteArray.toList (x.2.1 (Int.toNat y)) == ByteArray.toList (x.2.2.2.2.2.2.2)) = true then
    dn (.inl y)
   else
    nx (w (y + (1 : Int)))
  else
   none
 else
  dn (.inr ())
noncomputable def Find_l0 (q : Nat) (x : a_Find) : Find_l0_a → Option Find_l0_g := lpG (fun y => Find_l0_t x y (fun y => some (.inl y)) (fun z => some (.inr z))) q
def t_Find {β : Type} (l_Find_l0 : Find_l0_a → Option Find_l0_g) (x : a_Find) (dn : g_Find → Option β) : Option β :=
 (l_Find_l0 ((0 : Int))).bind fun z4 =>
  Sum.elim (fun z4a =>
  dn z4a) (fun z4b =>
  dn ((-1 : Int))) z4
noncomputable def Find (q : Nat) (x : a_Find) : Option g_Find := t_Find (Find_l0 q x) x some
abbrev a_FindZ : Type := ByteArray
abbrev g_FindZ : Type := Int
abbrev FindZ_l0_a : Type := Unit
abbrev FindZ_l0_g : Type := Unit
def FindZ_l0_t {β : Type} (x : a_FindZ) (y : FindZ_l0_a) (nx : FindZ_l0_a → Option β) (dn : FindZ_l0_g → Option β) : Option β :=
 dn ()
noncomputable def FindZ_l0 (q : Nat) (x : a_FindZ) : FindZ_l0_a → Option FindZ_l0_g := lpG (fun y => FindZ_l0_t x y (fun y => some (.inl y)) (fun z => some (.inr z))) q
def t_FindZ {β : Type} (l_FindZ_l0 : FindZ_l0_a → Option FindZ_l0_g) (x : a_FindZ) (dn : g_FindZ → Option β) : Option β :=
 (l_FindZ_l0 ()).bind fun z0 =>
  dn ((-1 : Int))
noncomputable def FindZ (q : Nat) (x : a_FindZ) : Option g_FindZ := t_FindZ (FindZ_l0 q x) x some
abbrev a_Nodes : Type := Int × Int × ByteArray × Nat × (Nat → List V) × Int
abbrev g_Nodes : Type := Int
def A_Nodes : a_Nodes → List V × List (Option Chunk) := (fun x => (fun (nk : Int) (nn : Int) (ns : ByteArray) (nm : Nat) (nf : Nat → List V) (most : Int) => (([.agg [i64 nk, i64 nn, st ns, .ro 4 nm nf], i64 most] : List V), ([] : List (Option Chunk)))) x.1 x.2.1 x.2.2.1 x.2.2.2.1 x.2.2.2.2.1 x.2.2.2.2.2)
def d_Nodes (t : List V × List (Option Chunk)) : a_Nodes := ((vI ((vAg (t.1.getD 0 .junk)).getD 0 .junk)), (vI ((vAg (t.1.getD 0 .junk)).getD 1 .junk)), (vS ((vAg (t.1.getD 0 .junk)).getD 2 .junk)), (vRoN ((vAg (t.1.getD 0 .junk)).getD 3 .junk)), (vRoF ((vAg (t.1.getD 0 .junk)).getD 3 .junk)), (vI (t.1.getD 1 .junk)))
theorem i_Nodes : ∀ x y, A_Nodes x = A_Nodes y → x = y := fun x y h => (congrArg d_Nodes h :)
def R_Nodes : g_Nodes → CRes := (fun z => (fun (k : Int) => .ret (i64 k) []) z : (Int) → CRes)
def x_Nodes (z : g_Nodes) (k : CRes → Option Ans) : Option Ans := k (R_Nodes z)
theorem xe_Nodes : ∀ z k, x_Nodes z k = k (R_Nodes z) := fun z k => rfl
abbrev a_NodesN : Type := Int × Int × ByteArray × Nat × (Nat → Int) × (Nat → Int) × (Nat → ByteArray) × (Nat → Nat) × (Nat → Nat → List V) × Int
abbrev g_NodesN : Type := Int
def A_NodesN : a_NodesN → List V × List (Option Chunk) := (fun x => (fun (nk : Int) (nn : Int) (ns : ByteArray) (nm : Nat) (ek : Nat → Int) (en : Nat → Int) (es : Nat → ByteArray) (em : Nat → Nat) (ef : Nat → Nat → List V) (most : Int) => (([.agg [i64 nk, i64 nn, st ns, .ro 4 nm (fun j => [i64 (ek j), i64 (en j), st (es j), .ro 4 (em j) (ef j)])], i64 most] : List V), ([] : List (Option Chunk)))) x.1 x.2.1 x.2.2.1 x.2.2.2.1 x.2.2.2.2.1 x.2.2.2.2.2.1 x.2.2.2.2.2.2.1 x.2.2.2.2.2.2.2.1 x.2.2.2.2.2.2.2.2.1 x.2.2.2.2.2.2.2.2.2)
def R_NodesN : g_NodesN → CRes := (fun z => (fun (k : Int) => .ret (i64 k) []) z : (Int) → CRes)
abbrev NodesN_l0_a : Type := Int × Int
abbrev NodesN_l0_g : Type := Int
def NodesN_l0_S (x : a_NodesN) (y : NodesN_l0_a) : St := { fr := [V.junk, i64 (x.2.2.2.2.2.2.2.2.2), V.ptr 0 0, V.junk, V.junk, i64 (y.1), i64 (y.2)] ++ jk 24, H := hp [some (Chunk.blk [i64 (x.1), i64 (x.2.1), st (x.2.2.1), V.ro 4 (x.2.2.2.1) fun (j : Nat) => [i64 (x.2.2.2.2.1 j), i64 (x.2.2.2.2.2.1 j), st (x.2.2.2.2.2.2.1 j), V.ro 4 (x.2.2.2.2.2.2.2.1 j) (x.2.2.2.2.2.2.2.2.1 j)]])], nx := 1, rt := 0, me := 9 }
def NodesN_l0_d (s : St) : NodesN_l0_a := ((vI (s.fr.getD 5 .junk)), (vI (s.fr.getD 6 .junk)))
theorem NodesN_l0_i (x : a_NodesN) : ∀ y y', NodesN_l0_S x y = NodesN_l0_S x y' → y = y' := fun y y' h => (congrArg NodesN_l0_d h :)
def NodesN_l0_T (x : a_NodesN) : NodesN_l0_g → Ex × St := (fun z => (Ex.exit 0, { fr := jk 5 ++ [i64 z] ++ jk 25, H := hp [], nx := 0, rt := 0, me := 9 }))
def NodesN_l0_x (x : a_NodesN) (z : NodesN_l0_g) (k : KX) : Option Ans := k (NodesN_l0_T x z).1 (NodesN_l0_T x z).2
theorem NodesN_l0_xe (x : a_NodesN) : ∀ z k, NodesN_l0_x x z k = k (NodesN_l0_T x z).1 (NodesN_l0_T x z).2 := fun z k => rfl
theorem NodesN_l0_k0 (x : a_NodesN) (z : Int) : KCM [(0, 32)] 16 (NodesN_l0_T x z).1 (NodesN_l0_T x z).2 = some (.l (NodesN_l0_T x z).1 (NodesN_l0_T x z).2) := by kernel_rfl
def NodesN_l0_t {β : Type} (c_Nodes : a_Nodes → Option g_Nodes) (x : a_NodesN) (y : NodesN_l0_a) (nx : NodesN_l0_a → Option β) (dn : NodesN_l0_g → Option β) : Option β :=
 if decide (y.2 < ((x.2.2.2.1 : Nat) : Int)) = true then
  if decide (y.1 ≤ x.2.2.2.2.2.2.2.2.2) = true then
   if (0 : Int) ≤ y.2 ∧ y.2 < ((x.2.2.2.1 : Nat) : Int) then
    (c_Nodes ((x.2.2.2.2.1 (Int.toNat (y.2)), x.2.2.2.2.2.1 (Int.toNat (y.2)), x.2.2.2.2.2.2.1 (Int.toNat (y.2)), x.2.2.2.2.2.2.2.1 (Int.toNat (y.2)), x.2.2.2.2.2.2.2.2.1 (Int.toNat (y.2)), w (x.2.2.2.2.2.2.2.2.2 - y.1)))).bind fun z42 =>
     nx ((w (y.1 + z42), w (y.2 + (1 : Int))))
   else
    none
  else
   dn (y.1)
 else
  dn (y.1)
theorem NodesN_l0_n {β : Type} (c_Nodes : a_Nodes → Option g_Nodes) (x : a_NodesN) (y : NodesN_l0_a) (nx : NodesN_l0_a → Option β) (dn : NodesN_l0_g → Option β) : NodesN_l0_t c_Nodes x y nx dn = (NodesN_l0_t c_Nodes x y (fun y => some (.inl y)) (fun z => some (.inr z))).bind fun r => Sum.elim nx dn r := by
  unfold NodesN_l0_t
  repeat' first | exact free_none | refine free_bind (fun z => ?_) | refine free_ite ?_ ?_ | refine free_sum (fun z => ?_) (fun z => ?_) | rfl
theorem NodesN_l0_r (c_Nodes : a_Nodes → Option g_Nodes) (x : a_NodesN) (y : NodesN_l0_a) (lo : LoopT) : loopK E5 (ftab 9 (fun _ _ => true) A_Nodes x_Nodes c_Nodes ca0) lo 0 102 (bodyOf E5 9 0) (NodesN_l0_S x y) (KCM [(0, 32)] 16) = NodesN_l0_t (fun x => viaF A_Nodes c_Nodes (A_Nodes x)) x y (fun y => lo 0 102 (bodyOf E5 9 0) (NodesN_l0_S x y) (KCM [(0, 32)] 16)) (fun z => some (.l (NodesN_l0_T x z).1 (NodesN_l0_T x z).2)) := by kernel_rfl
noncomputable def NodesN_l0 (c_Nodes : a_Nodes → Option g_Nodes) (q : Nat) (x : a_NodesN) : NodesN_l0_a → Option NodesN_l0_g := lpG (fun y => NodesN_l0_t c_Nodes x y (fun y => some (.inl y)) (fun z => some (.inr z))) q
theorem NodesN_l0_s (c_Nodes : a_Nodes → Option g_Nodes) (h_Nodes : ∀ x z, c_Nodes x = some z → SC E5 9 (A_Nodes x).1 (A_Nodes x).2 (R_Nodes z)) (q : Nat) (x : a_NodesN) : ∀ y z, NodesN_l0 c_Nodes q x y = some z → SL E5 (bodyOf E5 9 0) (NodesN_l0_S x y) (NodesN_l0_T x z).1 (NodesN_l0_T x z).2 :=
  SL.lp (LT := fun lo => lo) (T := NodesN_l0_T x) (S := NodesN_l0_S x) (ftab_cons h_Nodes xe_Nodes ca0_sound) hX5 (fun lo h => h) (fun lo y => (NodesN_l0_r c_Nodes x y lo).trans (by rw [via_eq i_Nodes c_Nodes]; exact NodesN_l0_n _ _ _ _ _)) (NodesN_l0_k0 x) q
def t_NodesN {β : Type} (c_Nodes : a_Nodes → Option g_Nodes) (l_NodesN_l0 : NodesN_l0_a → Option NodesN_l0_g) (x : a_NodesN) (dn : g_NodesN → Option β) : Option β :=
 (l_NodesN_l0 (((1 : Int), (0 : Int)))).bind fun z23 =>
  dn z23
theorem n_NodesN {β : Type} (c_Nodes : a_Nodes → Option g_Nodes) (l_NodesN_l0 : NodesN_l0_a → Option NodesN_l0_g) (x : a_NodesN) (dn : g_NodesN → Option β) : t_NodesN c_Nodes l_NodesN_l0 x dn = (t_NodesN c_Nodes l_NodesN_l0 x some).bind dn := by
  unfold t_NodesN
  repeat' first | exact free_none | refine free_bind (fun z => ?_) | refine free_ite ?_ ?_ | refine free_sum (fun z => ?_) (fun z => ?_) | rfl
theorem r_NodesN (c_Nodes : a_Nodes → Option g_Nodes) (l_NodesN_l0 : NodesN_l0_a → Option NodesN_l0_g) (x : a_NodesN) : callK E5 (ftab 9 (fun _ _ => true) A_Nodes x_Nodes c_Nodes ca0) (ltabF 0 (fun _ => true) (bodyOf E5 9 0) (NodesN_l0_S x) (NodesN_l0_x x) l_NodesN_l0 lo0) 9 (A_NodesN x).1 (A_NodesN x).2 K = t_NodesN (fun x => viaF A_Nodes c_Nodes (A_Nodes x)) (fun y => viaF (fun y => (bodyOf E5 9 0, NodesN_l0_S x y)) l_NodesN_l0 (bodyOf E5 9 0, NodesN_l0_S x y)) x (fun z => some (.c (R_NodesN z))) := by kernel_rfl
theorem s_NodesN (c_Nodes : a_Nodes → Option g_Nodes) (h_Nodes : ∀ x z, c_Nodes x = some z → SC E5 9 (A_Nodes x).1 (A_Nodes x).2 (R_Nodes z)) (q : Nat) (x : a_NodesN) (z : g_NodesN) (h : t_NodesN c_Nodes (NodesN_l0 c_Nodes q x) x some = some z) : SC E5 9 (A_NodesN x).1 (A_NodesN x).2 (R_NodesN z) := by
  refine SC.of hW5 hX5 (ftab_cons h_Nodes xe_Nodes ca0_sound) (ltabF_cons (NodesN_l0_s c_Nodes h_Nodes q x) (NodesN_l0_xe x) lo0_sound) ((r_NodesN c_Nodes (NodesN_l0 c_Nodes q x) x).trans ?_)
  rw [via_eq i_Nodes c_Nodes, via_eq (pair_inj (bodyOf E5 9 0) (NodesN_l0_i x)) (NodesN_l0 c_Nodes q x), n_NodesN, h]; rfl
open Classical in
noncomputable def Nodes : Nat → a_Nodes → Option g_Nodes
  | 0, _ => none
  | q + 1, x => if OpenN x.2.2.2.2.1 then t_NodesN (Nodes q) (NodesN_l0 (Nodes q) q (x.1, x.2.1, x.2.2.1, x.2.2.2.1, opK x.2.2.2.2.1, opN x.2.2.2.2.1, opS x.2.2.2.2.1, opM x.2.2.2.2.1, opF x.2.2.2.2.1, x.2.2.2.2.2)) (x.1, x.2.1, x.2.2.1, x.2.2.2.1, opK x.2.2.2.2.1, opN x.2.2.2.2.1, opS x.2.2.2.2.1, opM x.2.2.2.2.1, opF x.2.2.2.2.1, x.2.2.2.2.2) some else none
theorem sc_Nodes : ∀ (q : Nat) (x : a_Nodes) (z : g_Nodes), Nodes q x = some z → SC E5 9 (A_Nodes x).1 (A_Nodes x).2 (R_Nodes z) := by
  intro q
  induction q with
  | zero => intro x z h; cases h
  | succ q ih =>
    intro x z h
    unfold Nodes at h
    split at h
    · rename_i hO
      have this := s_NodesN (Nodes q) ih q (x.1, x.2.1, x.2.2.1, x.2.2.2.1, opK x.2.2.2.2.1, opN x.2.2.2.2.1, opS x.2.2.2.2.1, opM x.2.2.2.2.1, opF x.2.2.2.2.1, x.2.2.2.2.2) z h
      unfold A_NodesN at this
      unfold A_Nodes
      simp only at this ⊢
      rw [open_eq hO] at this
      exact this
    · cases h
abbrev a_Of : Type := Int × Int × ByteArray × Nat × (Nat → List V) × Nat × (ByteArray → Bool) × (ByteArray → Int) × (ByteArray → Int) × (ByteArray → Int) × (ByteArray → Int) × (ByteArray → Int)
abbrev g_Of : Type := Bool × Int × Int × Int × Int × Int × Int × Nat × (ByteArray → Bool) × (ByteArray → Int) × (ByteArray → Int) × (ByteArray → Int) × (ByteArray → Int) × (ByteArray → Int)
def A_Of : a_Of → List V × List (Option Chunk) := (fun x => (fun (nk : Int) (nn : Int) (ns : ByteArray) (nm : Nat) (nf : Nat → List V) (mn : Nat) (mh : ByteArray → Bool) (m0 : ByteArray → Int) (m1 : ByteArray → Int) (m2 : ByteArray → Int) (m3 : ByteArray → Int) (m4 : ByteArray → Int) => (([.agg [i64 nk, i64 nn, st ns, .ro 4 nm nf], .mp 0] : List V), ([some (.smap mn mh (fun j => .agg [i64 (m0 j), i64 (m1 j), i64 (m2 j), i64 (m3 j), i64 (m4 j)]))] : List (Option Chunk)))) x.1 x.2.1 x.2.2.1 x.2.2.2.1 x.2.2.2.2.1 x.2.2.2.2.2.1 x.2.2.2.2.2.2.1 x.2.2.2.2.2.2.2.1 x.2.2.2.2.2.2.2.2.1 x.2.2.2.2.2.2.2.2.2.1 x.2.2.2.2.2.2.2.2.2.2.1 x.2.2.2.2.2.2.2.2.2.2.2)
def d_Of (t : List V × List (Option Chunk)) : a_Of := ((vI ((vAg (t.1.getD 0 .junk)).getD 0 .junk)), (vI ((vAg (t.1.getD 0 .junk)).getD 1 .junk)), (vS ((vAg (t.1.getD 0 .junk)).getD 2 .junk)), (vRoN ((vAg (t.1.getD 0 .junk)).getD 3 .junk)), (vRoF ((vAg (t.1.getD 0 .junk)).getD 3 .junk)), (smN (t.2.getD 0 none)), (smH (t.2.getD 0 none)), (fun j => vI ((vAg (smF (t.2.getD 0 none) j)).getD 0 .junk)), (fun j => vI ((vAg (smF (t.2.getD 0 none) j)).getD 1 .junk)), (fun j => vI ((vAg (smF (t.2.getD 0 none) j)).getD 2 .junk)), (fun j => vI ((vAg (smF (t.2.getD 0 none) j)).getD 3 .junk)), (fun j => vI ((vAg (smF (t.2.getD 0 none) j)).getD 4 .junk)))
theorem i_Of : ∀ x y, A_Of x = A_Of y → x = y := fun x y h => (congrArg d_Of h :)
def R_Of : g_Of → CRes := (fun z => (fun (b : Bool) (d0 : Int) (d1 : Int) (d2 : Int) (d3 : Int) (d4 : Int) (e : Int) (mn : Nat) (mh : ByteArray → Bool) (m0 : ByteArray → Int) (m1 : ByteArray → Int) (m2 : ByteArray → Int) (m3 : ByteArray → Int) (m4 : ByteArray → Int) => .ret (.tup [bo b, .agg [i64 d0, i64 d1, i64 d2, i64 d3, i64 d4], i64 e]) [some (.smap mn mh (fun j => .agg [i64 (m0 j), i64 (m1 j), i64 (m2 j), i64 (m3 j), i64 (m4 j)]))]) z.1 z.2.1 z.2.2.1 z.2.2.2.1 z.2.2.2.2.1 z.2.2.2.2.2.1 z.2.2.2.2.2.2.1 z.2.2.2.2.2.2.2.1 z.2.2.2.2.2.2.2.2.1 z.2.2.2.2.2.2.2.2.2.1 z.2.2.2.2.2.2.2.2.2.2.1 z.2.2.2.2.2.2.2.2.2.2.2.1 z.2.2.2.2.2.2.2.2.2.2.2.2.1 z.2.2.2.2.2.2.2.2.2.2.2.2.2 : (Bool × Int × Int × Int × Int × Int × Int × Nat × (ByteArray → Bool) × (ByteArray → Int) × (ByteArray → Int) × (ByteArray → Int) × (ByteArray → Int) × (ByteArray → Int)) → CRes)
def x_Of (z : g_Of) (k : CRes → Option Ans) : Option Ans := k (R_Of z)
theorem xe_Of : ∀ z k, x_Of z k = k (R_Of z) := fun z k => rfl
abbrev a_OfN : Type := Int × Int × ByteArray × Nat × (Nat → Int) × (Nat → Int) × (Nat → ByteArray) × (Nat → Nat) × (Nat → Nat → List V) × Nat × (ByteArray → Bool) × (ByteArray → Int) × (ByteArray → Int) × (ByteArray → Int) × (ByteArray → Int) × (ByteArray → Int)
abbrev g_OfN : Type := Bool × Int × Int × Int × Int × Int × Int × Nat × (ByteArray → Bool) × (ByteArray → Int) × (ByteArray → Int) × (ByteArray → Int) × (ByteArray → Int) × (ByteArray → Int)
def A_OfN : a_OfN → List V × List (Option Chunk) := (fun x => (fun (nk : Int) (nn : Int) (ns : ByteArray) (nm : Nat) (ek : Nat → Int) (en : Nat → Int) (es : Nat → ByteArray) (em : Nat → Nat) (ef : Nat → Nat → List V) (mn : Nat) (mh : ByteArray → Bool) (m0 : ByteArray → Int) (m1 : ByteArray → Int) (m2 : ByteArray → Int) (m3 : ByteArray → Int) (m4 : ByteArray → Int) => (([.agg [i64 nk, i64 nn, st ns, .ro 4 nm (fun j => [i64 (ek j), i64 (en j), st (es j), .ro 4 (em j) (ef j)])], .mp 0] : List V), ([some (.smap mn mh (fun j => .agg [i64 (m0 j), i64 (m1 j), i64 (m2 j), i64 (m3 j), i64 (m4 j)]))] : List (Option Chunk)))) x.1 x.2.1 x.2.2.1 x.2.2.2.1 x.2.2.2.2.1 x.2.2.2.2.2.1 x.2.2.2.2.2.2.1 x.2.2.2.2.2.2.2.1 x.2.2.2.2.2.2.2.2.1 x.2.2.2.2.2.2.2.2.2.1 x.2.2.2.2.2.2.2.2.2.2.1 x.2.2.2.2.2.2.2.2.2.2.2.1 x.2.2.2.2.2.2.2.2.2.2.2.2.1 x.2.2.2.2.2.2.2.2.2.2.2.2.2.1 x.2.2.2.2.2.2.2.2.2.2.2.2.2.2.1 x.2.2.2.2.2.2.2.2.2.2.2.2.2.2.2)
def R_OfN : g_OfN → CRes := (fun z => (fun (b : Bool) (d0 : Int) (d1 : Int) (d2 : Int) (d3 : Int) (d4 : Int) (e : Int) (mn : Nat) (mh : ByteArray → Bool) (m0 : ByteArray → Int) (m1 : ByteArray → Int) (m2 : ByteArray → Int) (m3 : ByteArray → Int) (m4 : ByteArray → Int) => .ret (.tup [bo b, .agg [i64 d0, i64 d1, i64 d2, i64 d3, i64 d4], i64 e]) [some (.smap mn mh (fun j => .agg [i64 (m0 j), i64 (m1 j), i64 (m2 j), i64 (m3 j), i64 (m4 j)]))]) z.1 z.2.1 z.2.2.1 z.2.2.2.1 z.2.2.2.2.1 z.2.2.2.2.2.1 z.2.2.2.2.2.2.1 z.2.2.2.2.2.2.2.1 z.2.2.2.2.2.2.2.2.1 z.2.2.2.2.2.2.2.2.2.1 z.2.2.2.2.2.2.2.2.2.2.1 z.2.2.2.2.2.2.2.2.2.2.2.1 z.2.2.2.2.2.2.2.2.2.2.2.2.1 z.2.2.2.2.2.2.2.2.2.2.2.2.2 : (Bool × Int × Int × Int × Int × Int × Int × Nat × (ByteArray → Bool) × (ByteArray → Int) × (ByteArray → Int) × (ByteArray → Int) × (ByteArray → Int) × (ByteArray → Int)) → CRes)
def t_OfN {β : Type} (c_kids : a_kids → Option g_kids) (c_Of : a_Of → Option g_Of) (c_number : a_number → Option g_number) (c_found : a_found → Option g_found) (c_Tele : a_Tele → Option g_Tele) (c_binary : a_binary → Option g_binary) (x : a_OfN) (dn : g_OfN → Option β) : Option β :=
 (c_kids ((x.1, x.2.1, x.2.2.1, x.2.2.2.1, fun (j : Nat) => [i64 (x.2.2.2.2.1 j), i64 (x.2.2.2.2.2.1 j), st (x.2.2.2.2.2.2.1 j), V.ro 4 (x.2.2.2.2.2.2.2.1 j) (x.2.2.2.2.2.2.2.2.1 j)]))).bind fun z5 =>
  if (z5 != ((x.2.2.2.1 : Nat) : Int)) = true then
   dn ((false, (0 : Int), (0 : Int), (0 : Int), (0 : Int), (0 : Int), (7 : Int), x.2.2.2.2.2.2.2.2.2))
  else
   if decide ((0 : Int) < ((x.2.2.2.1 : Nat) : Int)) = true then
    if (0 : Int) ≤ (0 : Int) ∧ (0 : Int) < ((x.2.2.2.1 : Nat) : Int) then
     (c_Of ((x.2.2.2.2.1 0, x.2.2.2.2.2.1 0, x.2.2.2.2.2.2.1 0, x.2.2.2.2.2.2.2.1 0, x.2.2.2.2.2.2.2.2.1 0, x.2.2.2.2.2.2.2.2.2))).bind fun z18 =>
      if (z18.2.2.2.2.2.2.1 != (0 : Int)) = true then
       dn ((false, (0 : Int), (0 : Int), (0 : Int), (0 : Int), (0 : Int), z18.2.2.2.2.2.2))
      else
       if decide ((1 : Int) < ((x.2.2.2.1 : Nat) : Int)) = true then
        if (0 : Int) ≤ (1 : Int) ∧ (1 : Int) < ((x.2.2.2.1 : Nat) : Int) then
         (c_Of ((x.2.2.2.2.1 1, x.2.2.2.2.2.1 1, x.2.2.2.2.2.2.1 1, x.2.2.2.2.2.2.2.1 1, x.2.2.2.2.2.2.2.2.1 1, z18.2.2.2.2.2.2.2))).bind fun z31 =>
          if (z31.2.2.2.2.2.2.1 != (0 : Int)) = true then
           dn ((false, (0 : Int), (0 : Int), (0 : Int), (0 : Int), (0 : Int), z31.2.2.2.2.2.2))
          else
           if decide ((2 : Int) < ((x.2.2.2.1 : Nat) : Int)) = true then
            if (0 : Int) ≤ (2 : Int) ∧ (2 : Int) < ((x.2.2.2.1 : Nat) : Int) then
             (c_Of ((x.2.2.2.2.1 2, x.2.2.2.2.2.1 2, x.2.2.2.2.2.2.1 2, x.2.2.2.2.2.2.2.1 2, x.2.2.2.2.2.2.2.2.1 2, z31.2.2.2.2.2.2.2))).bind fun z44 =>
              none
            else
             none
           else
            if (x.1 == (15 : Int)) = true then
             (c_number ((x.1, x.2.1, x.2.2.1, x.2.2.2.1, fun (j : Nat) => [i64 (x.2.2.2.2.1 j), i64 (x.2.2.2.2.2.1 j), st (x.2.2.2.2.2.2.1 j), V.ro 4 (x.2.2.2.2.2.2.2.1 j) (x.2.2.2.2.2.2.2.2.1 j)]))).bind fun z50 =>
              dn ((false, z50.1, z50.2.1, z50.2.2.1, z50.2.2.2.1, z50.2.2.2.2.1, z50.2.2.2.2.2, z31.2.2.2.2.2.2.2))
            else
             if (x.1 == (16 : Int)) = true then
              dn ((true, (0 : Int), (0 : Int), (0 : Int), (0 : Int), (0 : Int), (0 : Int), z31.2.2.2.2.2.2.2))
             else
              if (x.1 == (17 : Int)) = true then
               (c_found ((if z31.2.2.2.2.2.2.2.2.1 (x.2.2.1) = true then z31.2.2.2.2.2.2.2.2.2.1 (x.2.2.1) else (0 : Int), if z31.2.2.2.2.2.2.2.2.1 (x.2.2.1) = true then z31.2.2.2.2.2.2.2.2.2.2.1 (x.2.2.1) else (0 : Int), if z31.2.2.2.2.2.2.2.2.1 (x.2.2.1) = true then z31.2.2.2.2.2.2.2.2.2.2.2.1 (x.2.2.1) else (0 : Int), if z31.2.2.2.2.2.2.2.2.1 (x.2.2.1) = true then z31.2.2.2.2.2.2.2.2.2.2.2.2.1 (x.2.2.1) else (0 : Int), if z31.2.2.2.2.2.2.2.2.1 (x.2.2.1) = true then z31.2.2.2.2.2.2.2.2.2.2.2.2.2 (x.2.2.1) else (0 : Int), z31.2.2.2.2.2.2.2.2.1 (x.2.2.1)))).bind fun z57 =>
                dn ((z57.1, z57.2.1, z57.2.2.1, z57.2.2.2.1, z57.2.2.2.2.1, z57.2.2.2.2.2.1, z57.2.2.2.2.2.2, z31.2.2.2.2.2.2.2))
              else
               if (x.1 == (18 : Int)) = true then
                (c_Tele (x.2.2.1)).bind fun z59 =>
                 (c_found (z59.2)).bind fun z66 =>
                  dn ((z66.1, z66.2.1, z66.2.2.1, z66.2.2.2.1, z66.2.2.2.2.1, z66.2.2.2.2.2.1, z66.2.2.2.2.2.2, z31.2.2.2.2.2.2.2))
               else
                if (x.1 == (19 : Int)) = true then
                 if (!z18.1 == (ByteArray.toList (x.2.2.1) == ByteArray.toList { data := #[(33 : UInt8)] })) = true then
                  dn ((false, (0 : Int), (0 : Int), (0 : Int), (0 : Int), (0 : Int), (12 : Int), z31.2.2.2.2.2.2.2))
                 else
                  dn ((z18.1, z18.2.1, z18.2.2.1, z18.2.2.2.1, z18.2.2.2.2.1, z18.2.2.2.2.2.1, (0 : Int), z31.2.2.2.2.2.2.2))
                else
                 (c_binary ((x.2.2.1, z18.1, z31.1, z18.2.1, z18.2.2.1, z18.2.2.2.1, z18.2.2.2.2.1, z18.2.2.2.2.2.1, z31.2.1, z31.2.2.1, z31.2.2.2.1, z31.2.2.2.2.1, z31.2.2.2.2.2.1))).bind fun z80 =>
                  dn ((z80.1, z80.2.1, z80.2.2.1, z80.2.2.2.1, z80.2.2.2.2.1, z80.2.2.2.2.2.1, z80.2.2.2.2.2.2, z31.2.2.2.2.2.2.2))
        else
         none
       else
        if (x.1 == (15 : Int)) = true then
         (c_number ((x.1, x.2.1, x.2.2.1, x.2.2.2.1, fun (j : Nat) => [i64 (x.2.2.2.2.1 j), i64 (x.2.2.2.2.2.1 j), st (x.2.2.2.2.2.2.1 j), V.ro 4 (x.2.2.2.2.2.2.2.1 j) (x.2.2.2.2.2.2.2.2.1 j)]))).bind fun z86 =>
          dn ((false, z86.1, z86.2.1, z86.2.2.1, z86.2.2.2.1, z86.2.2.2.2.1, z86.2.2.2.2.2, z18.2.2.2.2.2.2.2))
        else
         if (x.1 == (16 : Int)) = true then
          dn ((true, (0 : Int), (0 : Int), (0 : Int), (0 : Int), (0 : Int), (0 : Int), z18.2.2.2.2.2.2.2))
         else
          if (x.1 == (17 : Int)) = true then
           (c_found ((if z18.2.2.2.2.2.2.2.2.1 (x.2.2.1) = true then z18.2.2.2.2.2.2.2.2.2.1 (x.2.2.1) else (0 : Int), if z18.2.2.2.2.2.2.2.2.1 (x.2.2.1) = true then z18.2.2.2.2.2.2.2.2.2.2.1 (x.2.2.1) else (0 : Int), if z18.2.2.2.2.2.2.2.2.1 (x.2.2.1) = true then z18.2.2.2.2.2.2.2.2.2.2.2.1 (x.2.2.1) else (0 : Int), if z18.2.2.2.2.2.2.2.2.1 (x.2.2.1) = true then z18.2.2.2.2.2.2.2.2.2.2.2.2.1 (x.2.2.1) else (0 : Int), if z18.2.2.2.2.2.2.2.2.1 (x.2.2.1) = true then z18.2.2.2.2.2.2.2.2.2.2.2.2.2 (x.2.2.1) else (0 : Int), z18.2.2.2.2.2.2.2.2.1 (x.2.2.1)))).bind fun z93 =>
            dn ((z93.1, z93.2.1, z93.2.2.1, z93.2.2.2.1, z93.2.2.2.2.1, z93.2.2.2.2.2.1, z93.2.2.2.2.2.2, z18.2.2.2.2.2.2.2))
          else
           if (x.1 == (18 : Int)) = true then
            (c_Tele (x.2.2.1)).bind fun z95 =>
             (c_found (z95.2)).bind fun z102 =>
              dn ((z102.1, z102.2.1, z102.2.2.1, z102.2.2.2.1, z102.2.2.2.2.1, z102.2.2.2.2.2.1, z102.2.2.2.2.2.2, z18.2.2.2.2.2.2.2))
           else
            if (x.1 == (19 : Int)) = true then
             if (!z18.1 == (ByteArray.toList (x.2.2.1) == ByteArray.toList { data := #[(33 : UInt8)] })) = true then
              dn ((false, (0 : Int), (0 : Int), (0 : Int), (0 : Int), (0 : Int), (12 : Int), z18.2.2.2.2.2.2.2))
             else
              dn ((z18.1, z18.2.1, z18.2.2.1, z18.2.2.2.1, z18.2.2.2.2.1, z18.2.2.2.2.2.1, (0 : Int), z18.2.2.2.2.2.2.2))
            else
             (c_binary ((x.2.2.1, z18.1, false, z18.2.1, z18.2.2.1, z18.2.2.2.1, z18.2.2.2.2.1, z18.2.2.2.2.2.1, (0 : Int), (0 : Int), (0 : Int), (0 : Int), (0 : Int)))).bind fun z116 =>
              dn ((z116.1, z116.2.1, z116.2.2.1, z116.2.2.2.1, z116.2.2.2.2.1, z116.2.2.2.2.2.1, z116.2.2.2.2.2.2, z18.2.2.2.2.2.2.2))
    else
     none
   else
    if (x.1 == (15 : Int)) = true then
     (c_number ((x.1, x.2.1, x.2.2.1, x.2.2.2.1, fun (j : Nat) => [i64 (x.2.2.2.2.1 j), i64 (x.2.2.2.2.2.1 j), st (x.2.2.2.2.2.2.1 j), V.ro 4 (x.2.2.2.2.2.2.2.1 j) (x.2.2.2.2.2.2.2.2.1 j)]))).bind fun z122 =>
      dn ((false, z122.1, z122.2.1, z122.2.2.1, z122.2.2.2.1, z122.2.2.2.2.1, z122.2.2.2.2.2, x.2.2.2.2.2.2.2.2.2))
    else
     if (x.1 == (16 : Int)) = true then
      dn ((true, (0 : Int), (0 : Int), (0 : Int), (0 : Int), (0 : Int), (0 : Int), x.2.2.2.2.2.2.2.2.2))
     else
      if (x.1 == (17 : Int)) = true then
       (c_found ((if x.2.2.2.2.2.2.2.2.2.2.1 (x.2.2.1) = true then x.2.2.2.2.2.2.2.2.2.2.2.1 (x.2.2.1) else (0 : Int), if x.2.2.2.2.2.2.2.2.2.2.1 (x.2.2.1) = true then x.2.2.2.2.2.2.2.2.2.2.2.2.1 (x.2.2.1) else (0 : Int), if x.2.2.2.2.2.2.2.2.2.2.1 (x.2.2.1) = true then x.2.2.2.2.2.2.2.2.2.2.2.2.2.1 (x.2.2.1) else (0 : Int), if x.2.2.2.2.2.2.2.2.2.2.1 (x.2.2.1) = true then x.2.2.2.2.2.2.2.2.2.2.2.2.2.2.1 (x.2.2.1) else (0 : Int), if x.2.2.2.2.2.2.2.2.2.2.1 (x.2.2.1) = true then x.2.2.2.2.2.2.2.2.2.2.2.2.2.2.2 (x.2.2.1) else (0 : Int), x.2.2.2.2.2.2.2.2.2.2.1 (x.2.2.1)))).bind fun z129 =>
        dn ((z129.1, z129.2.1, z129.2.2.1, z129.2.2.2.1, z129.2.2.2.2.1, z129.2.2.2.2.2.1, z129.2.2.2.2.2.2, x.2.2.2.2.2.2.2.2.2))
      else
       if (x.1 == (18 : Int)) = true then
        (c_Tele (x.2.2.1)).bind fun z131 =>
         (c_found (z131.2)).bind fun z138 =>
          dn ((z138.1, z138.2.1, z138.2.2.1, z138.2.2.2.1, z138.2.2.2.2.1, z138.2.2.2.2.2.1, z138.2.2.2.2.2.2, x.2.2.2.2.2.2.2.2.2))
       else
        if (x.1 == (19 : Int)) = true then
         if (!false == (ByteArray.toList (x.2.2.1) == ByteArray.toList { data := #[(33 : UInt8)] })) = true then
          dn ((false, (0 : Int), (0 : Int), (0 : Int), (0 : Int), (0 : Int), (12 : Int), x.2.2.2.2.2.2.2.2.2))
         else
          dn ((false, (0 : Int), (0 : Int), (0 : Int), (0 : Int), (0 : Int), (0 : Int), x.2.2.2.2.2.2.2.2.2))
        else
         (c_binary ((x.2.2.1, false, false, (0 : Int), (0 : Int), (0 : Int), (0 : Int), (0 : Int), (0 : Int), (0 : Int), (0 : Int), (0 : Int), (0 : Int)))).bind fun z152 =>
          dn ((z152.1, z152.2.1, z152.2.2.1, z152.2.2.2.1, z152.2.2.2.2.1, z152.2.2.2.2.2.1, z152.2.2.2.2.2.2, x.2.2.2.2.2.2.2.2.2))
theorem n_OfN {β : Type} (c_kids : a_kids → Option g_kids) (c_Of : a_Of → Option g_Of) (c_number : a_number → Option g_number) (c_found : a_found → Option g_found) (c_Tele : a_Tele → Option g_Tele) (c_binary : a_binary → Option g_binary) (x : a_OfN) (dn : g_OfN → Option β) : t_OfN c_kids c_Of c_number c_found c_Tele c_binary x dn = (t_OfN c_kids c_Of c_number c_found c_Tele c_binary x some).bind dn := by
  unfold t_OfN
  repeat' first | exact free_none | refine free_bind (fun z => ?_) | refine free_ite ?_ ?_ | refine free_sum (fun z => ?_) (fun z => ?_) | rfl
theorem r_OfN (c_kids : a_kids → Option g_kids) (c_Of : a_Of → Option g_Of) (c_number : a_number → Option g_number) (c_found : a_found → Option g_found) (c_Tele : a_Tele → Option g_Tele) (c_binary : a_binary → Option g_binary) (x : a_OfN) : callK E5 (ftab 29 (fun _ _ => true) A_kids x_kids c_kids (ftab 12 (fun _ _ => true) A_Of x_Of c_Of (ftab 30 (fun _ _ => true) A_number x_number c_number (ftab 31 (fun _ _ => true) A_found x_found c_found (ftab 15 (fun _ _ => true) A_Tele x_Tele c_Tele (ftab 32 (fun _ _ => true) A_binary x_binary c_binary ca0)))))) (loU E5 (ftab 29 (fun _ _ => true) A_kids x_kids c_kids (ftab 12 (fun _ _ => true) A_Of x_Of c_Of (ftab 30 (fun _ _ => true) A_number x_number c_number (ftab 31 (fun _ _ => true) A_found x_found c_found (ftab 15 (fun _ _ => true) A_Tele x_Tele c_Tele (ftab 32 (fun _ _ => true) A_binary x_binary c_binary ca0)))))) [0] lo0 20) 12 (A_OfN x).1 (A_OfN x).2 K = t_OfN (fun x => viaF A_kids c_kids (A_kids x)) (fun x => viaF A_Of c_Of (A_Of x)) (fun x => viaF A_number c_number (A_number x)) (fun x => viaF A_found c_found (A_found x)) (fun x => viaF A_Tele c_Tele (A_Tele x)) (fun x => viaF A_binary c_binary (A_binary x)) x (fun z => some (.c (R_OfN z))) := by kernel_rfl
theorem s_OfN (c_kids : a_kids → Option g_kids) (h_kids : ∀ x z, c_kids x = some z → SC E5 29 (A_kids x).1 (A_kids x).2 (R_kids z)) (c_Of : a_Of → Option g_Of) (h_Of : ∀ x z, c_Of x = some z → SC E5 12 (A_Of x).1 (A_Of x).2 (R_Of z)) (c_number : a_number → Option g_number) (h_number : ∀ x z, c_number x = some z → SC E5 30 (A_number x).1 (A_number x).2 (R_number z)) (c_found : a_found → Option g_found) (h_found : ∀ x z, c_found x = some z → SC E5 31 (A_found x).1 (A_found x).2 (R_found z)) (c_Tele : a_Tele → Option g_Tele) (h_Tele : ∀ x z, c_Tele x = some z → SC E5 15 (A_Tele x).1 (A_Tele x).2 (R_Tele z)) (c_binary : a_binary → Option g_binary) (h_binary : ∀ x z, c_binary x = some z → SC E5 32 (A_binary x).1 (A_binary x).2 (R_binary z)) (q : Nat) (x : a_OfN) (z : g_OfN) (h : t_OfN c_kids c_Of c_number c_found c_Tele c_binary x some = some z) : SC E5 12 (A_OfN x).1 (A_OfN x).2 (R_OfN z) := by
  refine SC.of hW5 hX5 (ftab_cons h_kids xe_kids (ftab_cons h_Of xe_Of (ftab_cons h_number xe_number (ftab_cons h_found xe_found (ftab_cons h_Tele xe_Tele (ftab_cons h_binary xe_binary ca0_sound)))))) (loU_sound (ftab_cons h_kids xe_kids (ftab_cons h_Of xe_Of (ftab_cons h_number xe_number (ftab_cons h_found xe_found (ftab_cons h_Tele xe_Tele (ftab_cons h_binary xe_binary ca0_sound)))))) hX5 lo0_sound 20) ((r_OfN c_kids c_Of c_number c_found c_Tele c_binary x).trans ?_)
  rw [via_eq i_kids c_kids, via_eq i_Of c_Of, via_eq i_number c_number, via_eq i_found c_found, via_eq i_Tele c_Tele, via_eq i_binary c_binary, n_OfN, h]; rfl
open Classical in
noncomputable def Of : Nat → a_Of → Option g_Of
  | 0, _ => none
  | q + 1, x => if OpenN x.2.2.2.2.1 then t_OfN (kids q) (Of q) (number q) (found q) (Tele q) (binary q) (x.1, x.2.1, x.2.2.1, x.2.2.2.1, opK x.2.2.2.2.1, opN x.2.2.2.2.1, opS x.2.2.2.2.1, opM x.2.2.2.2.1, opF x.2.2.2.2.1, x.2.2.2.2.2) some else none
theorem sc_Of : ∀ (q : Nat) (x : a_Of) (z : g_Of), Of q x = some z → SC E5 12 (A_Of x).1 (A_Of x).2 (R_Of z) := by
  intro q
  induction q with
  | zero => intro x z h; cases h
  | succ q ih =>
    intro x z h
    unfold Of at h
    split at h
    · rename_i hO
      have this := s_OfN (kids q) (sc_kids q) (Of q) ih (number q) (sc_number q) (found q) (sc_found q) (Tele q) (sc_Tele q) (binary q) (sc_binary q) q (x.1, x.2.1, x.2.2.1, x.2.2.2.1, opK x.2.2.2.2.1, opN x.2.2.2.2.1, opS x.2.2.2.2.1, opM x.2.2.2.2.1, opF x.2.2.2.2.1, x.2.2.2.2.2) z h
      unfold A_OfN at this
      unfold A_Of
      simp only at this ⊢
      rw [open_eq hO] at this
      exact this
    · cases h
abbrev g_ROf : Type := Bool × Int × Int × Int × Int × Int × Int
abbrev a_Vars : Type := Nat × (Nat → ByteArray) × (Nat → Int) × (Nat → Int) × (Nat → Int) × (Nat → Int) × (Nat → Int)
abbrev g_Vars : Type := (Unit) ⊕ (Nat × (Nat → ByteArray) × (Nat → Int) × (Nat → Int) × (Nat → Int) × (Nat → Int) × (Nat → Int))
abbrev Vars_l0_a : Type := (Int) ⊕ ((Nat → Int) × (Nat → Int) × (Nat → Int) × (Nat → Int) × (Nat → Int) × Int × (Nat → ByteArray) × Nat)
abbrev Vars_l0_g : Type := (Unit) ⊕ (Nat × (Nat → ByteArray) × (Nat → Int) × (Nat → Int) × (Nat → Int) × (Nat → Int) × (Nat → Int))
def Vars_l0_t0 {β : Type} (c_Bound : a_Bound → Option g_Bound) (c_FindZ : a_FindZ → Option g_FindZ) (c_Find : a_Find → Option g_Find) (x : a_Vars) (y : Int) (nx : Vars_l0_a → Option β) (dn : Vars_l0_g → Option β) : Option β :=
 if decide (y < ((x.1 : Nat) : Int)) = true then
  if (0 : Int) ≤ y ∧ y < ((x.1 : Nat) : Int) then
   (c_Bound ((x.2.2.1 (Int.toNat y), (8 : Int)))).bind fun z246 =>
    if (0 : Int) ≤ y ∧ y < ((x.1 : Nat) : Int) then
     (c_Bound ((x.2.2.2.1 (Int.toNat y), (8 : Int)))).bind fun z249 =>
      if (0 : Int) ≤ y ∧ y < ((x.1 : Nat) : Int) then
       (c_Bound ((x.2.2.2.2.1 (Int.toNat y), (8 : Int)))).bind fun z252 =>
        if (0 : Int) ≤ y ∧ y < ((x.1 : Nat) : Int) then
         (c_Bound ((x.2.2.2.2.2.1 (Int.toNat y), (8 : Int)))).bind fun z255 =>
          if (0 : Int) ≤ y ∧ y < ((x.1 : Nat) : Int) then
           (c_Bound ((x.2.2.2.2.2.2 (Int.toNat y), (8 : Int)))).bind fun z258 =>
            if (0 : Int) ≤ y ∧ y < ((x.1 : Nat) : Int) then
             (c_FindZ (x.2.1 (Int.toNat y))).bind fun z260 =>
              if decide (z260 < (0 : Int)) = true then
               if (0 : Int) ≤ y ∧ y < ((x.1 : Nat) : Int) then
                nx (.inr ((fun j => z246, fun (j : Nat) => z249, fun (j : Nat) => z252, fun (j : Nat) => z255, fun (j : Nat) => z258, w (y + (1 : Int)), fun (j : Nat) => x.2.1 (Int.toNat y), 1)))
               else
                none
              else
               nx (.inl (w (y + (1 : Int))))
            else
             none
          else
           none
        else
         none
      else
       none
    else
     none
  else
   none
 else
  dn (.inl ())
def Vars_l0_t1 {β : Type} (c_Bound : a_Bound → Option g_Bound) (c_FindZ : a_FindZ → Option g_FindZ) (c_Find : a_Find → Option g_Find) (x : a_Vars) (y : (Nat → Int) × (Nat → Int) × (Nat → Int) × (Nat → Int) × (Nat → Int) × Int × (Nat → ByteArray) × Nat) (nx : Vars_l0_a → Option β) (dn : Vars_l0_g → Option β) : Option β :=
 if decide (y.2.2.2.2.2.1 < ((x.1 : Nat) : Int)) = true then
  if decide (((y.2.2.2.2.2.2.2 : Nat) : Int) < (12 : Int)) = true then
   if (0 : Int) ≤ y.2.2.2.2.2.1 ∧ y.2.2.2.2.2.1 < ((x.1 : Nat) : Int) then
    (c_Bound ((x.2.2.1 (Int.toNat (y.2.2.2.2.2.1)), (8 : Int)))).bind fun z264 =>
     if (0 : Int) ≤ y.2.2.2.2.2.1 ∧ y.2.2.2.2.2.1 < ((x.1 : Nat) : Int) then
      (c_Bound ((x.2.2.2.1 (Int.toNat (y.2.2.2.2.2.1)), (8 : Int)))).bind fun z267 =>
       if (0 : Int) ≤ y.2.2.2.2.2.1 ∧ y.2.2.2.2.2.1 < ((x.1 : Nat) : Int) then
        (c_Bound ((x.2.2.2.2.1 (Int.toNat (y.2.2.2.2.2.1)), (8 : Int)))).bind fun z270 =>
         if (0 : Int) ≤ y.2.2.2.2.2.1 ∧ y.2.2.2.2.2.1 < ((x.1 : Nat) : Int) then
          (c_Bound ((x.2.2.2.2.2.1 (Int.toNat (y.2.2.2.2.2.1)), (8 : Int)))).bind fun z273 =>
           if (0 : Int) ≤ y.2.2.2.2.2.1 ∧ y.2.2.2.2.2.1 < ((x.1 : Nat) : Int) then
            (c_Bound ((x.2.2.2.2.2.2 (Int.toNat (y.2.2.2.2.2.1)), (8 : Int)))).bind fun z276 =>
             if (0 : Int) ≤ y.2.2.2.2.2.1 ∧ y.2.2.2.2.2.1 < ((x.1 : Nat) : Int) then
              if 0 + y.2.2.2.2.2.2.2 ≤ y.2.2.2.2.2.2.2 ∧ 6 = 6 then
               (c_Find ((y.2.2.2.2.2.2.2, fun (j : Nat) => y.2.2.2.2.2.2.1 (0 + j), fun (j : Nat) => y.1 (0 + j), fun (j : Nat) => y.2.1 (0 + j), fun (j : Nat) => y.2.2.1 (0 + j), fun (j : Nat) => y.2.2.2.1 (0 + j), fun (j : Nat) => y.2.2.2.2.1 (0 + j), x.2.1 (Int.toNat (y.2.2.2.2.2.1))))).bind fun z285 =>
                if decide (z285 < (0 : Int)) = true then
                 if (0 : Int) ≤ y.2.2.2.2.2.1 ∧ y.2.2.2.2.2.1 < ((x.1 : Nat) : Int) then
                  if (y.2.2.2.2.2.2.2 + 1) * 56 ≤ roomBound ∧ y.2.2.2.2.2.2.2 + 1 ≤ maxLen ∧ y.2.2.2.2.2.2.2 ≤ y.2.2.2.2.2.2.2 then
                   nx (.inr ((fun j => if j < y.2.2.2.2.2.2.2 then y.1 j else z264, fun (j : Nat) => if j < y.2.2.2.2.2.2.2 then y.2.1 j else z267, fun (j : Nat) => if j < y.2.2.2.2.2.2.2 then y.2.2.1 j else z270, fun (j : Nat) => if j < y.2.2.2.2.2.2.2 then y.2.2.2.1 j else z273, fun (j : Nat) => if j < y.2.2.2.2.2.2.2 then y.2.2.2.2.1 j else z276, w (y.2.2.2.2.2.1 + (1 : Int)), fun (j : Nat) => if j < y.2.2.2.2.2.2.2 then y.2.2.2.2.2.2.1 j else x.2.1 (Int.toNat (y.2.2.2.2.2.1)), y.2.2.2.2.2.2.2 + 1)))
                  else
                   none
                 else
                  none
                else
                 nx (.inr ((y.1, y.2.1, y.2.2.1, y.2.2.2.1, y.2.2.2.2.1, w (y.2.2.2.2.2.1 + (1 : Int)), y.2.2.2.2.2.2)))
              else
               none
             else
              none
           else
            none
         else
          none
       else
        none
     else
      none
   else
    none
  else
   dn (.inr ((y.2.2.2.2.2.2.2, y.2.2.2.2.2.2.1, y.1, y.2.1, y.2.2.1, y.2.2.2.1, y.2.2.2.2.1)))
 else
  dn (.inr ((y.2.2.2.2.2.2.2, y.2.2.2.2.2.2.1, y.1, y.2.1, y.2.2.1, y.2.2.2.1, y.2.2.2.2.1)))
noncomputable def Vars_l0 (c_Bound : a_Bound → Option g_Bound) (c_FindZ : a_FindZ → Option g_FindZ) (c_Find : a_Find → Option g_Find) (q : Nat) (x : a_Vars) : Vars_l0_a → Option Vars_l0_g := lpG (Sum.elim (fun y => Vars_l0_t0 c_Bound c_FindZ c_Find x y (fun y => some (.inl y)) (fun z => some (.inr z))) (fun y => Vars_l0_t1 c_Bound c_FindZ c_Find x y (fun y => some (.inl y)) (fun z => some (.inr z)))) q
def t_Vars {β : Type} (c_Bound : a_Bound → Option g_Bound) (c_FindZ : a_FindZ → Option g_FindZ) (c_Find : a_Find → Option g_Find) (l_Vars_l0 : Vars_l0_a → Option Vars_l0_g) (x : a_Vars) (dn : g_Vars → Option β) : Option β :=
 (l_Vars_l0 (.inl ((0 : Int)))).bind fun z227 =>
  Sum.elim (fun z227a =>
  dn (.inl ())) (fun z227b =>
  dn (.inr z227b)) z227
noncomputable def Vars (q : Nat) (x : a_Vars) : Option g_Vars := t_Vars (Bound q) (FindZ q) (Find q) (Vars_l0 (Bound q) (FindZ q) (Find q) q x) x some
abbrev a_table : Type := Nat × (Nat → ByteArray) × (Nat → Int) × (Nat → Int) × (Nat → Int) × (Nat → Int) × (Nat → Int)
abbrev g_table : Type := Nat × (ByteArray → Bool) × (ByteArray → Int) × (ByteArray → Int) × (ByteArray → Int) × (ByteArray → Int) × (ByteArray → Int)
abbrev table_l0_a : Type := Int × Nat × (ByteArray → Bool) × (ByteArray → Int) × (ByteArray → Int) × (ByteArray → Int) × (ByteArray → Int) × (ByteArray → Int)
abbrev table_l0_g : Type := Nat × (ByteArray → Bool) × (ByteArray → Int) × (ByteArray → Int) × (ByteArray → Int) × (ByteArray → Int) × (ByteArray → Int)
def table_l0_t {β : Type} (x : a_table) (y : table_l0_a) (nx : table_l0_a → Option β) (dn : table_l0_g → Option β) : Option β :=
 if decide (y.1 < ((x.1 : Nat) : Int)) = true then
  if (0 : Int) ≤ y.1 ∧ y.1 < ((x.1 : Nat) : Int) then
   if (0 : Int) ≤ y.1 ∧ y.1 < ((x.1 : Nat) : Int) then
    nx ((w (y.1 + (1 : Int)), if y.2.2.1 (x.2.1 (Int.toNat (y.1))) = true then y.2.1 else y.2.1 + 1, fun (q : ByteArray) => q == x.2.1 (Int.toNat (y.1)) || y.2.2.1 q, fun (j : ByteArray) => if (j == x.2.1 (Int.toNat (y.1))) = true then x.2.2.1 (Int.toNat (y.1)) else y.2.2.2.1 j, fun (j : ByteArray) => if (j == x.2.1 (Int.toNat (y.1))) = true then x.2.2.2.1 (Int.toNat (y.1)) else y.2.2.2.2.1 j, fun (j : ByteArray) => if (j == x.2.1 (Int.toNat (y.1))) = true then x.2.2.2.2.1 (Int.toNat (y.1)) else y.2.2.2.2.2.1 j, fun (j : ByteArray) => if (j == x.2.1 (Int.toNat (y.1))) = true then x.2.2.2.2.2.1 (Int.toNat (y.1)) else y.2.2.2.2.2.2.1 j, fun (j : ByteArray) => if (j == x.2.1 (Int.toNat (y.1))) = true then x.2.2.2.2.2.2 (Int.toNat (y.1)) else y.2.2.2.2.2.2.2 j))
   else
    none
  else
   none
 else
  dn (y.2)
noncomputable def table_l0 (q : Nat) (x : a_table) : table_l0_a → Option table_l0_g := lpG (fun y => table_l0_t x y (fun y => some (.inl y)) (fun z => some (.inr z))) q
def t_table {β : Type} (l_table_l0 : table_l0_a → Option table_l0_g) (x : a_table) (dn : g_table → Option β) : Option β :=
 (l_table_l0 (((0 : Int), 0, fun (x : ByteArray) => false, fun (j : ByteArray) => (0 : Int), fun (j : ByteArray) => (0 : Int), fun (j : ByteArray) => (0 : Int), fun (j : ByteArray) => (0 : Int), fun (j : ByteArray) => (0 : Int)))).bind fun z31 =>
  dn z31
noncomputable def table (q : Nat) (x : a_table) : Option g_table := t_table (table_l0 q x) x some
end Go.Proofs.YtniogljhkjbcgaaDoor
/- Types: the small functions agree (plain). -/
namespace Go.Proofs.YtniogljhkjbcgaaDoor
open Go Go.Am Go.Proofs
set_option linter.unusedSimpArgs false
set_option linter.unusedVariables false
set_option maxRecDepth 100000
theorem w_in {n : Int} (h : inR n) : w n = n := by
  unfold w; rw [IntKind.wrap_i64]; unfold inR at h; omega
/-- Both answer, and so. -/
def Both {α : Type} (x y : Option α) (Q : α → Prop) : Prop := ∃ v, x = some v ∧ y = some v ∧ Q v
theorem Both.some {α : Type} {v : α} {Q : α → Prop} (h : Q v) : Both (some v) (some v) Q := ⟨v, rfl, rfl, h⟩
theorem Both.bind {α β : Type} {x y : Option α} {Q : α → Prop} {f g : α → Option β} {R : β → Prop} (h : Both x y Q) (k : ∀ v, Q v → Both (f v) (g v) R) : Both (x.bind f) (y.bind g) R := by
  obtain ⟨v, rfl, rfl, hq⟩ := h
  exact k v hq
theorem Both.ite {α : Type} {c : Prop} [Decidable c] {x y x' y' : Option α} {Q : α → Prop} (h1 : c → Both x x' Q) (h2 : ¬ c → Both y y' Q) : Both (_root_.ite c x y) (_root_.ite c x' y') Q := by
  by_cases h : c
  · rw [if_pos h, if_pos h]; exact h1 h
  · rw [if_neg h, if_neg h]; exact h2 h
theorem Both.flip {α : Type} {a b : List UInt8} {x y x' y' : Option α} {Q : α → Prop} (h1 : Both x x' Q) (h2 : Both y y' Q) : Both (_root_.ite ((b == a) = true) x y) (_root_.ite ((a == b) = true) x' y') Q := by
  rw [BEq.comm (a := b)]
  exact Both.ite (fun _ => h1) (fun _ => h2)
theorem Both.same {α : Type} {a b : List UInt8} {x y x' y' : Option α} {Q : α → Prop} (h1 : Both x x' Q) (h2 : Both y y' Q) : Both (_root_.ite ((a == b) = true) x y) (_root_.ite ((a == b) = true) x' y') Q := Both.ite (fun _ => h1) (fun _ => h2)
theorem Both.mono {α : Type} {x y : Option α} {Q R : α → Prop} (h : Both x y Q) (g : ∀ v, Q v → R v) : Both x y R := by
  obtain ⟨v, h1, h2, h3⟩ := h
  exact ⟨v, h1, h2, g v h3⟩
abbrev DimT : Type := Int × Int × Int × Int × Int
/-- Exponents that types have. -/
def R8 (d : DimT) : Prop := (-8 ≤ d.1 ∧ d.1 ≤ 8) ∧ (-8 ≤ d.2.1 ∧ d.2.1 ≤ 8) ∧ (-8 ≤ d.2.2.1 ∧ d.2.2.1 ≤ 8) ∧ (-8 ≤ d.2.2.2.1 ∧ d.2.2.2.1 ≤ 8) ∧ (-8 ≤ d.2.2.2.2 ∧ d.2.2.2.2 ≤ 8)
theorem kind_both (q q' : Nat) (s : ByteArray) : Both (kind q s) (Operator q' s) (fun v => 0 ≤ v ∧ v ≤ 4) := by
  unfold kind Operator t_kind t_Operator
  repeat' first
    | exact Both.some (by decide)
    | refine Both.flip ?_ ?_
theorem lookup_both (q q' : Nat) (s : ByteArray) : Both (Lookup q s) (RLookup q' s) (fun z => R8 (z.1, z.2.1, z.2.2.1, z.2.2.2.1, z.2.2.2.2.1) ∧ (z.2.2.2.2.2.2 = true → 1 ≤ z.2.2.2.2.2.1 ∧ z.2.2.2.2.2.1 ≤ 3600)) := by
  unfold Lookup RLookup t_Lookup t_RLookup
  repeat' first
    | exact Both.some ⟨by unfold R8; decide, by decide⟩
    | refine Both.flip ?_ ?_
theorem tele_both (q q' : Nat) (s : ByteArray) : Both (Tele q s) (RTele q' s) (fun z => R8 (z.2.1, z.2.2.1, z.2.2.2.1, z.2.2.2.2.1, z.2.2.2.2.2.1)) := by
  unfold Tele RTele t_Tele t_RTele
  repeat' first
    | exact Both.some (by unfold R8; decide)
    | refine Both.same ?_ ?_
theorem number_both (q q' : Nat) (x : a_number) : Both (number q x) (rliteral q' x) (fun z => R8 (z.1, z.2.1, z.2.2.1, z.2.2.2.1, z.2.2.2.2.1)) := by
  unfold number rliteral t_number t_rliteral
  refine Both.ite (fun _ => Both.bind (lookup_both q q' _) fun z hz => ?_) fun _ => ?_
  · refine Both.ite (fun _ => Both.some (by unfold R8; decide)) fun hf => Both.ite (fun _ => Both.some (by unfold R8; decide)) fun _ => ?_
    have h1 := hz.2 (by simpa using hf)
    have h0 : ¬ z.2.2.2.2.2.1 = 0 := by omega
    rw [if_neg h0]
    exact Both.ite (fun _ => Both.some (by unfold R8; decide)) fun _ => Both.some hz.1
  · exact Both.ite (fun _ => Both.some (by unfold R8; decide)) fun _ => Both.ite (fun _ => Both.some (by unfold R8; decide)) fun _ => Both.some (by unfold R8; decide)
theorem gtmax (a b : Int) : (if b > a then b else a) = max a b := by split <;> omega
theorem ltmin (a b : Int) : (if b < a then b else a) = min a b := by split <;> omega
theorem adm_both (q q' : Nat) (d : DimT) : Both (adm q d) (radm q' d) (fun b => b = true → R8 d) := by
  obtain ⟨a, b, c, e, f⟩ := d
  by_cases h : R8 (a, b, c, e, f)
  · refine ⟨true, ?_, ?_, fun _ => h⟩
    · unfold adm t_adm
      unfold R8 at h
      simp only at h ⊢
      repeat (rw [if_neg (by simp only [decide_eq_true_eq]; omega)])
    · unfold radm t_radm
      unfold R8 at h
      simp only [gtmax, ltmin] at h ⊢
      rw [if_pos (by simp only [decide_eq_true_eq]; omega)]
      refine congrArg some (decide_eq_true ?_)
      omega
  · refine ⟨false, ?_, ?_, fun g => by cases g⟩
    · unfold adm t_adm
      simp only
      repeat' split
      all_goals first
        | rfl
        | (exfalso; apply h; unfold R8; simp only [decide_eq_true_eq] at *; omega)
    · unfold radm t_radm
      simp only [gtmax, ltmin]
      split
      · rename_i g
        refine congrArg some (decide_eq_false fun g2 => h ?_)
        unfold R8
        simp only [decide_eq_true_eq] at g ⊢
        omega
      · rfl
theorem bb {x y : Bool} : ((!x == y) = true) ↔ x ≠ y := by cases x <;> cases y <;> decide
end Go.Proofs.YtniogljhkjbcgaaDoor
/- Types: trees and variables (plain). -/
namespace Go.Proofs.YtniogljhkjbcgaaDoor
open Go Go.Am Go.Proofs
set_option linter.unusedSimpArgs false
set_option linter.unusedVariables false
set_option maxRecDepth 100000
def Runs {α : Type} (o : Option α) (P : α → Prop) : Prop := ∃ z, o = some z ∧ P z
theorem Runs.bind {α β : Type} {o : Option α} {f : α → Option β} {P : α → Prop} {Q : β → Prop} (h : Runs o P) (g : ∀ z, P z → Runs (f z) Q) : Runs (o.bind f) Q := by
  obtain ⟨z, rfl, hz⟩ := h
  exact g z hz
theorem Runs.some {α : Type} {z : α} {P : α → Prop} (h : P z) : Runs (some z) P := ⟨z, rfl, h⟩
theorem Runs.mono {α : Type} {o : Option α} {P Q : α → Prop} (h : Runs o P) (g : ∀ z, P z → Q z) : Runs o Q := by
  obtain ⟨z, h1, h2⟩ := h
  exact ⟨z, h1, g z h2⟩
theorem Runs.if_pos {α : Type} {c : Prop} [Decidable c] {a b : Option α} {P : α → Prop} (hc : c) (h : Runs a P) : Runs (ite c a b) P := by rw [_root_.if_pos hc]; exact h
theorem Runs.if_neg {α : Type} {c : Prop} [Decidable c] {a b : Option α} {P : α → Prop} (hc : ¬ c) (h : Runs b P) : Runs (ite c a b) P := by rw [_root_.if_neg hc]; exact h
theorem Runs.ite {α : Type} {c : Prop} [Decidable c] {a b : Option α} {P : α → Prop} (h1 : c → Runs a P) (h2 : ¬ c → Runs b P) : Runs (_root_.ite c a b) P := by
  by_cases h : c
  · exact Runs.if_pos h (h1 h)
  · exact Runs.if_neg h (h2 h)
theorem lp_step {α γ : Type} {st : α → Option (α ⊕ γ)} {q : Nat} {y : α} {P : γ → Prop} (h : Runs (st y) (fun r => Sum.elim (fun y' => Runs (lpG st q y') P) P r)) : Runs (lpG st (q + 1) y) P := by
  obtain ⟨r, h1, h2⟩ := h
  rw [lpG_succ, h1]
  cases r with
  | inl y' => exact h2
  | inr z => exact ⟨z, rfl, h2⟩
/-- So many levels of kids are nodes. -/
def OpenD : Nat → Nat → (Nat → List V) → Prop
  | 0, _, f => OpenN f
  | d + 1, m, f => OpenN f ∧ ∀ j, j < m → OpenD d (opM f j) (opF f j)
def OpenA (m : Nat) (f : Nat → List V) : Prop := ∀ d, OpenD d m f
theorem OpenA.here {m : Nat} {f : Nat → List V} (h : OpenA m f) : OpenN f := h 0
theorem OpenA.of {m : Nat} {f : Nat → List V} (h : OpenN f) (g : ∀ j, j < m → OpenA (opM f j) (opF f j)) : OpenA m f
  | 0 => h
  | d + 1 => ⟨h, fun j hj => g j hj d⟩
/-- The tree is not deeper. -/
def Dp : Nat → Nat → (Nat → List V) → Prop
  | 0, m, f => m = 0
  | d + 1, m, f => ∀ j, j < m → Dp d (opM f j) (opF f j)
theorem Dp.succ : ∀ {d m : Nat} {f : Nat → List V}, Dp d m f → Dp (d + 1) m f
  | 0, m, f, h => fun j hj => by have h : m = 0 := h; omega
  | d + 1, m, f, h => fun j hj => Dp.succ (h j hj)
theorem Dp.le {d d' m : Nat} {f : Nat → List V} (h : Dp d m f) (hd : d ≤ d') : Dp d' m f := by
  induction d' with
  | zero => have : d = 0 := by omega
            subst this; exact h
  | succ d' ih =>
    by_cases hh : d = d' + 1
    · subst hh; exact h
    · exact (ih (by omega)).succ
theorem tl_eq {a b : ByteArray} : ((ByteArray.toList a == ByteArray.toList b) = true) ↔ a = b := by
  rw [beq_iff_eq, ByteArray.toList_eq, ByteArray.toList_eq]
  constructor
  · intro h
    obtain ⟨⟨x⟩⟩ := a
    obtain ⟨⟨y⟩⟩ := b
    simp only at h
    rw [h]
  · rintro rfl; rfl
end Go.Proofs.YtniogljhkjbcgaaDoor
/- TypesOf, lifted. -/
namespace Go.Proofs.YtniogljhkjbcgaaDoor
open Go Go.Am Go.Proofs
set_option linter.unusedSimpArgs false
set_option linter.unusedVariables false
set_option maxRecDepth 100000
abbrev a_lives : Type := Unit
abbrev g_lives : Type := Bool
def A_lives : a_lives → List V × List (Option Chunk) := (fun _ => (([] : List V), ([] : List (Option Chunk))))
def d_lives (t : List V × List (Option Chunk)) : a_lives := ()
theorem i_lives : ∀ x y, A_lives x = A_lives y → x = y := fun x y h => (congrArg d_lives h :)
def R_lives : g_lives → CRes := (fun z => (fun (b : Bool) => .ret (bo b) []) z : (Bool) → CRes)
def x_lives (z : g_lives) (k : CRes → Option Ans) : Option Ans := k (R_lives z)
theorem xe_lives : ∀ z k, x_lives z k = k (R_lives z) := fun z k => rfl
noncomputable def lives (q : Nat) (x : a_lives) : Option g_lives := some true
theorem sc_lives (q : Nat) : ∀ (x : a_lives) (z : g_lives), lives q x = some z → SC E5 10 (A_lives x).1 (A_lives x).2 (R_lives z) := by
  intro x z h
  cases h
  exact sc5.2 lives_true
abbrev a_VarsR : Type := Nat × (Nat → ByteArray) × (Nat → Int) × (Nat → Int) × (Nat → Int) × (Nat → Int) × (Nat → Int)
abbrev g_VarsR : Type := Nat × (Nat → ByteArray) × (Nat → Int) × (Nat → Int) × (Nat → Int) × (Nat → Int) × (Nat → Int)
noncomputable def VarsR (q : Nat) (x : a_VarsR) : Option g_VarsR := (Vars q x).map fun z => Sum.elim (fun _ => (0, x.2)) id z
end Go.Proofs.YtniogljhkjbcgaaDoor
/- Types: the variables, the table (plain). -/
namespace Go.Proofs.YtniogljhkjbcgaaDoor
open Go Go.Am Go.Proofs
set_option linter.unusedSimpArgs false
set_option linter.unusedVariables false
set_option maxRecDepth 100000
abbrev TabT : Type := Nat × (ByteArray → Bool) × (ByteArray → Int) × (ByteArray → Int) × (ByteArray → Int) × (ByteArray → Int) × (ByteArray → Int)
theorem ba_eq {a b : ByteArray} : ((a == b) = true) ↔ a = b := by
  obtain ⟨x⟩ := a
  obtain ⟨y⟩ := b
  constructor
  · intro h
    have e : x = y := by simpa using (show (x == y) = true from h)
    rw [e]
  · intro h
    cases h
    show (x == x) = true
    simp
end Go.Proofs.YtniogljhkjbcgaaDoor
/- Types: the type of a tree (plain). -/
namespace Go.Proofs.YtniogljhkjbcgaaDoor
open Go Go.Am Go.Proofs
set_option linter.unusedSimpArgs false
set_option linter.unusedVariables false
set_option maxRecDepth 100000
theorem formed_both (q q' : Nat) (k n : Int) (s : ByteArray) (m : Nat) : ∃ (r : Int) (b : Bool), (∀ f, kids q (k, n, s, m, f) = some r) ∧ (∀ f, formed q' (k, n, s, m, f) = some b) ∧ (b = true ↔ r = m) ∧ (b = true → (m = 0 ∧ (k = 15 ∨ k = 16 ∨ k = 17 ∨ k = 18)) ∨ (m = 1 ∧ k = 19) ∨ (m = 2 ∧ k = 20)) := by
  unfold kids formed t_kids t_formed
  dsimp only
  have b0 : ∀ {c : Prop} [Decidable c], (decide c = true) ↔ c := decide_eq_true_iff
  by_cases h15 : k = 15
  · subst h15
    refine ⟨0, (m : Int) == 0, fun f => by simp, fun f => by simp, by rw [beq_iff_eq]; omega, fun h => ?_⟩
    rw [beq_iff_eq] at h; omega
  by_cases h17 : k = 17
  · subst h17
    refine ⟨0, (m : Int) == 0, fun f => by simp, fun f => by simp, by rw [beq_iff_eq]; omega, fun h => ?_⟩
    rw [beq_iff_eq] at h; omega
  by_cases h18 : k = 18
  · subst h18
    refine ⟨0, (m : Int) == 0, fun f => by simp, fun f => by simp, by rw [beq_iff_eq]; omega, fun h => ?_⟩
    rw [beq_iff_eq] at h; omega
  by_cases h16 : k = 16
  · subst h16
    refine ⟨if n = 0 ∨ n = 1 then 0 else -1, decide ((m : Int) = 0 ∧ (n = 0 ∨ n = 1)), fun f => ?_, fun f => ?_, ?_, fun h => ?_⟩
    · by_cases h0 : n = 0 <;> by_cases h1 : n = 1 <;> simp [h0, h1]
    · by_cases hm : m = 0 <;> by_cases h0 : n = 0 <;> by_cases h1 : n = 1 <;> simp [h0, h1, hm]
    · rw [b0]; split <;> omega
    · rw [b0] at h; omega
  by_cases h19 : k = 19
  · subst h19
    obtain ⟨b1, x1⟩ : ∃ b, (ByteArray.toList s == ByteArray.toList { data := #[(33 : UInt8)] }) = b := ⟨_, rfl⟩
    obtain ⟨b2, x2⟩ : ∃ b, (ByteArray.toList s == ByteArray.toList { data := #[(45 : UInt8)] }) = b := ⟨_, rfl⟩
    cases b1 <;> cases b2
    · refine ⟨-1, false, fun f => by simp only [x1, x2]; simp, fun f => ?_, ?_, fun h => by cases h⟩
      · by_cases hm : (m : Int) = 1 <;> simp only [x1, x2] <;> simp [hm]
      · simp only [Bool.false_eq_true, false_iff]; omega
    all_goals
      refine ⟨1, (m : Int) == 1, fun f => by simp only [x1, x2]; simp, fun f => ?_, by rw [beq_iff_eq]; omega, fun h => ?_⟩
      · by_cases hm : (m : Int) = 1 <;> simp only [x1, x2] <;> simp [hm]
      · rw [beq_iff_eq] at h; omega
  by_cases h20 : k = 20
  · subst h20
    obtain ⟨(v : Int), hv1, hv2, hv3⟩ := kind_both q q' s
    refine ⟨if v > 0 then 2 else -1, decide ((m : Int) = 2 ∧ v > 0), fun f => ?_, fun f => ?_, ?_, fun h => ?_⟩
    · simp only [hv1, Option.bind_some]; by_cases h : v > 0 <;> simp [h]
    · simp only [hv2, Option.bind_some]; by_cases hm : (m : Int) = 2 <;> by_cases h : v > 0 <;> simp [h, hm]
    · rw [b0]; split <;> omega
    · rw [b0] at h; omega
  refine ⟨-1, false, fun f => ?_, fun f => ?_, ?_, fun h => by cases h⟩
  · simp [h15, h16, h17, h18, h19, h20]
  · simp [h15, h16, h17, h18, h19, h20]
  · simp only [Bool.false_eq_true, false_iff]; omega
end Go.Proofs.YtniogljhkjbcgaaDoor
/- TypesOf (plain), and trees that come in. -/
namespace Go.Proofs.YtniogljhkjbcgaaDoor
open Go Go.Am Go.Proofs
set_option linter.unusedSimpArgs false
set_option linter.unusedVariables false
set_option maxRecDepth 100000
theorem wt_struct {P : Program} {d : Nat} {t : TypeId} {vs : List V} {l : List TypeId} (h : WT P (d + 1) t vs) (ht : structP P t = some l) : Cat (l.map (WT P d)) vs := by
  unfold structP at ht
  unfold WT at h
  split at ht
  · rename_i hu; rw [hu] at h; cases ht; rw [List.map_map]; exact h
  · rename_i hu; rw [hu] at h; cases ht; exact h
  · cases ht
theorem wt_slice {P : Program} {d : Nat} {t e : TypeId} {vs : List V} {c : Nat} (h : WT P (d + 1) t vs) (ht : elemP P t = some e) (hc : P.cellsOf e = c) (h0 : 0 < c) : ∃ n f, vs = [.ro c n f] ∧ n ≤ Go.maxLen ∧ ∀ j, j < n → WT P d e (f j) := by
  unfold elemP at ht
  unfold WT at h
  split at ht
  · rename_i hu; rw [hu] at h; cases ht; subst hc; exact h h0
  · cases ht
/-- A node that came in, so far down. -/
def NodeOk : Nat → List V → Prop
  | 0, _ => False
  | d + 1, l => ∃ (k n : Int) (s : ByteArray) (m : Nat) (f : Nat → List V), l = [i64 k, i64 n, st s, .ro 4 m f] ∧ inR k ∧ inR n ∧ s.size ≤ Go.maxLen ∧ m ≤ Go.maxLen ∧ OpenA m f ∧ ∀ j, j < m → NodeOk d (f j)
def leafV : List V := [i64 0, i64 0, st ByteArray.empty, .ro 4 0 (fun _ => [])]
theorem NodeOk.open {d : Nat} {l : List V} (h : NodeOk d l) : ∃ (k n : Int) (s : ByteArray) (m : Nat) (f : Nat → List V), l = [i64 k, i64 n, st s, .ro 4 m f] ∧ OpenA m f := by
  cases d with
  | zero => cases h
  | succ d => obtain ⟨k, n, s, m, f, h1, _, _, _, _, h2, _⟩ := h; exact ⟨k, n, s, m, f, h1, h2⟩
theorem NodeOk.pure {d : Nat} {l : List V} (h : NodeOk d l) : pureL l = true := by
  obtain ⟨k, n, s, m, f, rfl, _⟩ := h.open
  rfl
theorem openA_of {m : Nat} {f : Nat → List V} (h1 : ∀ j, j < m → ∃ (k n : Int) (s : ByteArray) (m' : Nat) (f' : Nat → List V), f j = [i64 k, i64 n, st s, .ro 4 m' f'] ∧ OpenA m' f') (h2 : ∀ j, ¬ j < m → f j = leafV) : OpenA m f := by
  refine OpenA.of (fun j => ?_) fun j hj => ?_
  · by_cases h : j < m
    · obtain ⟨k, n, s, m', f', e, _⟩ := h1 j h
      unfold opK opN opS opM opF
      rw [e]; rfl
    · unfold opK opN opS opM opF
      rw [h2 j h]; rfl
  · obtain ⟨k, n, s, m', f', e, ho⟩ := h1 j hj
    unfold opM opF
    rw [e]; exact ho
theorem toE {f : FuncId} {args : List V} {L : List (Option Chunk)} {cr : CRes} (h : SC E5 f args L cr) : SC E f args L cr := sc5.1 h
end Go.Proofs.YtniogljhkjbcgaaDoor
/- Types: trees as data, and what the functions make of them (plain). -/
namespace Go.Proofs.YtniogljhkjbcgaaDoor
open Go Go.Am Go.Proofs
set_option linter.unusedSimpArgs false
set_option linter.unusedVariables false
set_option maxRecDepth 100000
inductive Tr where
  | node (k n : Int) (s : ByteArray) (l : List Tr) : Tr
mutual
def siz : Tr → Nat
  | .node _ _ _ l => 1 + sizL l
def sizL : List Tr → Nat
  | [] => 0
  | t :: l => siz t + sizL l
end
abbrev NodeT : Type := Int × Int × ByteArray × Nat × (Nat → List V)
abbrev kidAt (f : Nat → List V) (j : Nat) : NodeT := (opK f j, opN f j, opS f j, opM f j, opF f j)
mutual
/-- These cells are this tree. -/
def Rep : Tr → NodeT → Prop
  | .node k n s l, x => x.1 = k ∧ x.2.1 = n ∧ x.2.2.1 = s ∧ x.2.2.2.1 = l.length ∧ l.length ≤ Go.maxLen ∧ OpenN x.2.2.2.2 ∧ RepL l x.2.2.2.2 0
def RepL : List Tr → (Nat → List V) → Nat → Prop
  | [], _, _ => True
  | t :: l, f, j => Rep t (kidAt f j) ∧ RepL l f (j + 1)
end
theorem siz_pos (t : Tr) : 1 ≤ siz t := by cases t; simp [siz]
theorem sizL_len : ∀ l : List Tr, l.length ≤ sizL l
  | [] => Nat.le_refl _
  | t :: l => by have := sizL_len l; have := siz_pos t; simp only [sizL, List.length_cons]; omega
theorem repL_at : ∀ (l : List Tr) (f : Nat → List V) (i : Nat), RepL l f i → ∀ (j : Nat) (t : Tr), l[j]? = some t → Rep t (kidAt f (i + j))
  | [], _, _, _, j, t, h => by simp at h
  | t :: l, f, i, h, 0, t', e => by
    simp only [RepL] at h
    simp only [List.getElem?_cons_zero, Option.some.injEq] at e
    subst e
    exact h.1
  | t :: l, f, i, h, j + 1, t', e => by
    simp only [RepL] at h
    have := repL_at l f (i + 1) h.2 j t' (by simpa using e)
    rwa [show i + 1 + j = i + (j + 1) by omega] at this
theorem repL_mk : ∀ (l : List Tr) (f : Nat → List V) (i : Nat), (∀ (j : Nat) (t : Tr), l[j]? = some t → Rep t (kidAt f (i + j))) → RepL l f i
  | [], _, _, _ => by simp only [RepL]
  | t :: l, f, i, h => by
    simp only [RepL]
    refine ⟨h 0 t rfl, repL_mk l f (i + 1) fun j t' e => ?_⟩
    have := h (j + 1) t' (by simpa using e)
    rwa [show i + (j + 1) = i + 1 + j by omega] at this
theorem sizL_at : ∀ (l : List Tr) (j : Nat) (t : Tr), l[j]? = some t → sizL (l.take j) + siz t ≤ sizL l
  | [], j, t, h => by simp at h
  | t :: l, 0, t', e => by
    simp only [List.getElem?_cons_zero, Option.some.injEq] at e
    subst e
    simp [sizL]
  | t :: l, j + 1, t', e => by
    have := sizL_at l j t' (by simpa using e)
    simp only [List.take_succ_cons, sizL]; omega
theorem sizL_take_succ : ∀ (l : List Tr) (j : Nat) (t : Tr), l[j]? = some t → sizL (l.take (j + 1)) = sizL (l.take j) + siz t
  | [], j, t, h => by simp at h
  | t :: l, 0, t', e => by
    simp only [List.getElem?_cons_zero, Option.some.injEq] at e
    subst e
    simp [sizL]
  | t :: l, j + 1, t', e => by
    have := sizL_take_succ l j t' (by simpa using e)
    simp only [List.take_succ_cons, sizL] at this ⊢; omega
end Go.Proofs.YtniogljhkjbcgaaDoor
/- TypesWeakens, lifted. -/
namespace Go.Proofs.YtniogljhkjbcgaaDoor
open Go Go.Am Go.Proofs
set_option linter.unusedSimpArgs false
set_option linter.unusedVariables false
set_option maxRecDepth 100000
abbrev a_tableS : Type := Nat × (Nat → ByteArray) × (Nat → Int) × (Nat → Int) × (Nat → Int) × (Nat → Int) × (Nat → Int)
abbrev g_tableS : Type := Nat × (Nat → ByteArray) × (Nat → Int) × (Nat → Int) × (Nat → Int) × (Nat → Int) × (Nat → Int) × Nat × (ByteArray → Bool) × (ByteArray → Int) × (ByteArray → Int) × (ByteArray → Int) × (ByteArray → Int) × (ByteArray → Int)
abbrev tableS_l0_a : Type := Int × Nat × (ByteArray → Bool) × (ByteArray → Int) × (ByteArray → Int) × (ByteArray → Int) × (ByteArray → Int) × (ByteArray → Int)
abbrev tableS_l0_g : Type := Nat × (ByteArray → Bool) × (ByteArray → Int) × (ByteArray → Int) × (ByteArray → Int) × (ByteArray → Int) × (ByteArray → Int)
def tableS_l0_t {β : Type} (x : a_tableS) (y : tableS_l0_a) (nx : tableS_l0_a → Option β) (dn : tableS_l0_g → Option β) : Option β :=
 if decide (y.1 < ((x.1 : Nat) : Int)) = true then
  if (0 : Int) ≤ y.1 ∧ y.1 < ((x.1 : Nat) : Int) then
   if 0 + Int.toNat (y.1) < x.1 ∧ 6 = 6 then
    if (0 : Int) ≤ y.1 ∧ y.1 < ((x.1 : Nat) : Int) then
     if 0 + Int.toNat (y.1) < x.1 ∧ 6 = 6 then
      nx ((w (y.1 + (1 : Int)), if y.2.2.1 (x.2.1 (0 + Int.toNat (y.1))) = true then y.2.1 else y.2.1 + 1, fun (q : ByteArray) => q == x.2.1 (0 + Int.toNat (y.1)) || y.2.2.1 q, fun (j : ByteArray) => if (j == x.2.1 (0 + Int.toNat (y.1))) = true then x.2.2.1 (0 + Int.toNat (y.1)) else y.2.2.2.1 j, fun (j : ByteArray) => if (j == x.2.1 (0 + Int.toNat (y.1))) = true then x.2.2.2.1 (0 + Int.toNat (y.1)) else y.2.2.2.2.1 j, fun (j : ByteArray) => if (j == x.2.1 (0 + Int.toNat (y.1))) = true then x.2.2.2.2.1 (0 + Int.toNat (y.1)) else y.2.2.2.2.2.1 j, fun (j : ByteArray) => if (j == x.2.1 (0 + Int.toNat (y.1))) = true then x.2.2.2.2.2.1 (0 + Int.toNat (y.1)) else y.2.2.2.2.2.2.1 j, fun (j : ByteArray) => if (j == x.2.1 (0 + Int.toNat (y.1))) = true then x.2.2.2.2.2.2 (0 + Int.toNat (y.1)) else y.2.2.2.2.2.2.2 j))
     else
      none
    else
     none
   else
    none
  else
   none
 else
  dn (y.2)
noncomputable def tableS_l0 (q : Nat) (x : a_tableS) : tableS_l0_a → Option tableS_l0_g := lpG (fun y => tableS_l0_t x y (fun y => some (.inl y)) (fun z => some (.inr z))) q
def t_tableS {β : Type} (l_tableS_l0 : tableS_l0_a → Option tableS_l0_g) (x : a_tableS) (dn : g_tableS → Option β) : Option β :=
 (l_tableS_l0 (((0 : Int), 0, fun (x : ByteArray) => false, fun (j : ByteArray) => (0 : Int), fun (j : ByteArray) => (0 : Int), fun (j : ByteArray) => (0 : Int), fun (j : ByteArray) => (0 : Int), fun (j : ByteArray) => (0 : Int)))).bind fun z31 =>
  dn ((x.1, x.2.1, x.2.2.1, x.2.2.2.1, x.2.2.2.2.1, x.2.2.2.2.2.1, x.2.2.2.2.2.2, z31))
noncomputable def tableS (q : Nat) (x : a_tableS) : Option g_tableS := t_tableS (tableS_l0 q x) x some
end Go.Proofs.YtniogljhkjbcgaaDoor
/- Types: the functions on trees as data (plain). -/
namespace Go.Proofs.YtniogljhkjbcgaaDoor
open Go Go.Am Go.Proofs
set_option linter.unusedSimpArgs false
set_option linter.unusedVariables false
set_option maxRecDepth 100000
theorem sizL_take_le : ∀ (l : List Tr) (i : Nat), sizL (l.take i) ≤ sizL l
  | [], i => by simp [sizL]
  | t :: l, 0 => by simp [sizL]
  | t :: l, i + 1 => by have := sizL_take_le l i; simp only [List.take_succ_cons, sizL]; omega
theorem nodes_loopV {c : a_Nodes → Option g_Nodes} {most : Nat} {l : List Tr} {f : Nat → List V} {nk nn : Int} {ns : ByteArray} (hm : most ≤ 300) (hl : l.length ≤ Go.maxLen)
    (hc : ∀ (most' j : Nat) (t : Tr), most' ≤ 300 → l[j]? = some t → Runs (c (opK f j, opN f j, opS f j, opM f j, opF f j, (most' : Int))) (fun (z : Int) => z = ((min (siz t) (most' + 1) : Nat) : Int))) :
    ∀ (r q kk i : Nat), i + r = l.length → r < q → kk = min (1 + sizL (l.take i)) (most + 1) →
      Runs (NodesN_l0 c q (nk, nn, ns, l.length, opK f, opN f, opS f, opM f, opF f, (most : Int)) ((kk : Int), (i : Int))) (fun (z : Int) => z = ((min (1 + sizL l) (most + 1) : Nat) : Int)) := by
  have hml : Go.maxLen = 9223372036854775807 := by decide
  intro r
  induction r with
  | zero =>
    intro q kk i hi hq hk
    obtain ⟨q, rfl⟩ : ∃ k, q = k + 1 := ⟨q - 1, by omega⟩
    refine lp_step ?_
    unfold NodesN_l0_t
    dsimp only
    rw [List.take_of_length_le (by omega)] at hk
    refine Runs.if_neg (show ¬ decide ((i : Int) < (l.length : Int)) = true by simp only [decide_eq_true_eq]; omega) (Runs.some ?_)
    show (kk : Int) = _
    rw [hk]
  | succ r ih =>
    intro q kk i hi hq hk
    obtain ⟨q, rfl⟩ : ∃ k, q = k + 1 := ⟨q - 1, by omega⟩
    refine lp_step ?_
    unfold NodesN_l0_t
    dsimp only
    have hil : i < l.length := by omega
    obtain ⟨t, ht⟩ : ∃ t, l[i]? = some t := ⟨l[i], List.getElem?_eq_getElem hil⟩
    have hts := sizL_take_succ l i t ht
    have hle := sizL_take_le l (i + 1)
    have hsp := siz_pos t
    refine Runs.if_pos (show decide ((i : Int) < (l.length : Int)) = true by simp only [decide_eq_true_eq]; omega) (Runs.ite (fun h2 => Runs.if_pos ⟨by omega, by omega⟩ ?_) fun h2 => Runs.some ?_)
    · simp only [decide_eq_true_eq] at h2
      have e1 : w ((most : Int) - (kk : Int)) = ((most - kk : Nat) : Int) := by rw [w_in (by unfold inR; omega)]; omega
      have e2 : w ((i : Int) + 1) = ((i + 1 : Nat) : Int) := by rw [w_in (by unfold inR; omega)]; omega
      rw [e1, e2, Int.toNat_natCast]
      refine Runs.bind (hc (most - kk) i t (by omega) ht) fun (z : Int) hz => Runs.some ?_
      subst hz
      have e3 : w ((kk : Int) + ((min (siz t) (most - kk + 1) : Nat) : Int)) = ((kk + min (siz t) (most - kk + 1) : Nat) : Int) := by rw [w_in (by unfold inR; omega)]; omega
      rw [e3]
      exact ih q _ (i + 1) (by omega) (by omega) (by omega)
    · simp only [decide_eq_true_eq] at h2
      show (kk : Int) = _
      omega
theorem nodes_V : ∀ (q : Nat) (t : Tr) (x : NodeT) (most : Nat), Rep t x → siz t < q → most ≤ 300 → Runs (Nodes q (x.1, x.2.1, x.2.2.1, x.2.2.2.1, x.2.2.2.2, (most : Int))) (fun (z : Int) => z = ((min (siz t) (most + 1) : Nat) : Int)) := by
  intro q
  induction q with
  | zero => intro t x most _ h; omega
  | succ q ih =>
    rintro ⟨k, n, s, l⟩ ⟨k', n', s', m', f⟩ most hr hq hm
    simp only [Rep] at hr
    obtain ⟨rfl, rfl, rfl, rfl, hl, ho, hk⟩ := hr
    unfold Nodes
    dsimp only
    rw [_root_.if_pos ho]
    unfold t_NodesN
    simp only [siz] at hq ⊢
    have := sizL_len l
    refine Runs.bind (nodes_loopV hm hl (fun most' j t hm' ht => ?_) l.length q 1 0 (by omega) (by omega) (by simp only [List.take_zero, sizL]; omega)) fun z hz => Runs.some hz
    have h1 := repL_at l f 0 hk j t ht
    rw [Nat.zero_add] at h1
    have h2 := sizL_at l j t ht
    exact ih t (kidAt f j) most' h1 (by omega) hm'
end Go.Proofs.YtniogljhkjbcgaaDoor
/- Types: the type of a tree as data; tables as functions (plain). -/
namespace Go.Proofs.YtniogljhkjbcgaaDoor
open Go Go.Am Go.Proofs
set_option linter.unusedSimpArgs false
set_option linter.unusedVariables false
set_option maxRecDepth 100000
abbrev Ty : Type := g_ROf
def badV (e : Int) : Ty := (false, 0, 0, 0, 0, 0, e)
noncomputable def kidsV (k n : Int) (s : ByteArray) : Int := (kids 0 (k, n, s, 0, fun _ => [])).getD 0
noncomputable def numV (n : Int) (s : ByteArray) : g_number := (number 0 (15, n, s, 0, fun _ => [])).getD (0, 0, 0, 0, 0, 0)
noncomputable def teleV (s : ByteArray) : g_Tele := (Tele 0 s).getD (0, 0, 0, 0, 0, 0, false)
noncomputable def binV (x : a_binary) : g_binary := (binary 0 x).getD (false, 0, 0, 0, 0, 0, 0)
theorem some_getD {α : Type} {o : Option α} {d : α} (h : ∃ z, o = some z) : o = some (o.getD d) := by obtain ⟨z, rfl⟩ := h; rfl
theorem kids_eq (q : Nat) (k n : Int) (s : ByteArray) (m : Nat) (f : Nat → List V) : kids q (k, n, s, m, f) = some (kidsV k n s) := by
  obtain ⟨r, b, h1, _⟩ := formed_both 0 0 k n s 0
  exact (show kids q (k, n, s, m, f) = kids 0 (k, n, s, 0, fun _ => []) from rfl).trans (some_getD ⟨r, h1 _⟩)
theorem kidsV_range (k n : Int) (s : ByteArray) : (kidsV k n s = 0 → k = 15 ∨ k = 16 ∨ k = 17 ∨ k = 18) ∧ (kidsV k n s = 1 → k = 19) ∧ (kidsV k n s = 2 → k = 20) ∧ kidsV k n s ≤ 2 := by
  have key : ∀ m : Nat, kidsV k n s = m → (m = 0 ∧ (k = 15 ∨ k = 16 ∨ k = 17 ∨ k = 18)) ∨ (m = 1 ∧ k = 19) ∨ (m = 2 ∧ k = 20) := fun m hm => by
    obtain ⟨r, b, h1, _, h2, h3⟩ := formed_both 0 0 k n s m
    have e := (h1 (fun _ => [])).symm.trans (kids_eq 0 k n s m (fun _ => []))
    cases e
    exact h3 (h2.2 hm)
  refine ⟨fun h => ?_, fun h => ?_, fun h => ?_, ?_⟩
  · rcases key 0 h with ⟨_, h⟩ | ⟨h, _⟩ | ⟨h, _⟩
    · exact h
    · omega
    · omega
  · rcases key 1 h with ⟨h, _⟩ | ⟨_, h⟩ | ⟨h, _⟩
    · omega
    · exact h
    · omega
  · rcases key 2 h with ⟨h, _⟩ | ⟨h, _⟩ | ⟨_, h⟩
    · omega
    · omega
    · exact h
  · rcases Int.lt_or_le 2 (kidsV k n s) with h | h
    · rcases key (kidsV k n s).toNat (by omega) with ⟨h, _⟩ | ⟨h, _⟩ | ⟨h, _⟩ <;> omega
    · exact h
theorem num_eq (q : Nat) (k n : Int) (s : ByteArray) (m : Nat) (f : Nat → List V) : number q (k, n, s, m, f) = some (numV n s) := by
  obtain ⟨z, h, _⟩ := number_both 0 0 (15, n, s, 0, fun _ => [])
  exact (show number q (k, n, s, m, f) = number 0 (15, n, s, 0, fun _ => []) from rfl).trans (some_getD ⟨z, h⟩)
theorem tele_eq (q : Nat) (s : ByteArray) : Tele q s = some (teleV s) := by
  obtain ⟨z, h, _⟩ := tele_both 0 0 s
  exact (show Tele q s = Tele 0 s from rfl).trans (some_getD ⟨z, h⟩)
theorem adm_some (q : Nat) (d : DimT) : ∃ z, adm q d = some z := by
  obtain ⟨z, h, _⟩ := adm_both q q d
  exact ⟨z, h⟩
theorem bin_eq (q : Nat) (x : a_binary) : binary q x = some (binV x) := by
  refine (show binary q x = binary 0 x from rfl).trans (some_getD ?_)
  obtain ⟨k, hk, _⟩ := kind_both 0 0 x.1
  obtain ⟨b1, h1⟩ := adm_some 0 ((Over 0 x.2.2.2).getD (0, 0, 0, 0, 0))
  obtain ⟨b2, h2⟩ := adm_some 0 ((Times 0 x.2.2.2).getD (0, 0, 0, 0, 0))
  have o1 : Over 0 x.2.2.2 = some ((Over 0 x.2.2.2).getD (0, 0, 0, 0, 0)) := rfl
  have o2 : Times 0 x.2.2.2 = some ((Times 0 x.2.2.2).getD (0, 0, 0, 0, 0)) := rfl
  unfold binary t_binary
  rw [hk, o1, o2]
  simp only [Option.bind_some, h1, h2]
  repeat' split
  all_goals exact ⟨_, rfl⟩
noncomputable def leafV' (T : ByteArray → Option DimT) (k n : Int) (s : ByteArray) : Ty :=
  if k = 15 then (false, numV n s)
  else if k = 16 then (true, 0, 0, 0, 0, 0, 0)
  else if k = 17 then (match T s with | some d => (false, d.1, d.2.1, d.2.2.1, d.2.2.2.1, d.2.2.2.2, 0) | none => badV 3)
  else if (teleV s).2.2.2.2.2.2 = true then (false, (teleV s).2.1, (teleV s).2.2.1, (teleV s).2.2.2.1, (teleV s).2.2.2.2.1, (teleV s).2.2.2.2.2.1, 0) else badV 3
def errV (z : Ty) : Int := z.2.2.2.2.2.2
noncomputable def unV (s : ByteArray) (z : Ty) : Ty :=
  if errV z ≠ 0 then badV (errV z)
  else if (!z.1 == (ByteArray.toList s == ByteArray.toList { data := #[(33 : UInt8)] })) = true then badV 12 else (z.1, z.2.1, z.2.2.1, z.2.2.2.1, z.2.2.2.2.1, z.2.2.2.2.2.1, 0)
noncomputable def biV (s : ByteArray) (z z' : Ty) : Ty :=
  if errV z ≠ 0 then badV (errV z) else if errV z' ≠ 0 then badV (errV z')
  else binV (s, z.1, z'.1, z.2.1, z.2.2.1, z.2.2.2.1, z.2.2.2.2.1, z.2.2.2.2.2.1, z'.2.1, z'.2.2.1, z'.2.2.2.1, z'.2.2.2.2.1, z'.2.2.2.2.2.1)
noncomputable def ofV (T : ByteArray → Option DimT) : Tr → Ty
  | .node k n s [] => if kidsV k n s = 0 then leafV' T k n s else badV 7
  | .node k n s [a] => if kidsV k n s = 1 then unV s (ofV T a) else badV 7
  | .node k n s [a, b] => if kidsV k n s = 2 then biV s (ofV T a) (ofV T b) else badV 7
  | .node _ _ _ (_ :: _ :: _ :: _) => badV 7
theorem ofV_nil (T : ByteArray → Option DimT) (k n : Int) (s : ByteArray) : ofV T (.node k n s []) = if kidsV k n s = 0 then leafV' T k n s else badV 7 := by rw [ofV]
theorem ofV_one (T : ByteArray → Option DimT) (k n : Int) (s : ByteArray) (a : Tr) : ofV T (.node k n s [a]) = if kidsV k n s = 1 then unV s (ofV T a) else badV 7 := by rw [ofV]
theorem ofV_two (T : ByteArray → Option DimT) (k n : Int) (s : ByteArray) (a b : Tr) : ofV T (.node k n s [a, b]) = if kidsV k n s = 2 then biV s (ofV T a) (ofV T b) else badV 7 := by rw [ofV]
theorem ofV_more (T : ByteArray → Option DimT) (k n : Int) (s : ByteArray) (a b c : Tr) (l : List Tr) : ofV T (.node k n s (a :: b :: c :: l)) = badV 7 := by rw [ofV]
def tabOf (t : TabT) (s : ByteArray) : Option DimT := if t.2.1 s = true then some (t.2.2.1 s, t.2.2.2.1 s, t.2.2.2.2.1 s, t.2.2.2.2.2.1 s, t.2.2.2.2.2.2 s) else none
theorem of_V (t : TabT) : ∀ (tr : Tr) (x : NodeT) (q : Nat), Rep tr x → siz tr < q → Of q (x.1, x.2.1, x.2.2.1, x.2.2.2.1, x.2.2.2.2, t) = some ((ofV (tabOf t) tr).1, (ofV (tabOf t) tr).2.1, (ofV (tabOf t) tr).2.2.1, (ofV (tabOf t) tr).2.2.2.1, (ofV (tabOf t) tr).2.2.2.2.1, (ofV (tabOf t) tr).2.2.2.2.2.1, (ofV (tabOf t) tr).2.2.2.2.2.2, t)
  | .node k n s [], (k', n', s', m', f), q, hr, hq => by
    simp only [Rep] at hr
    obtain ⟨rfl, rfl, rfl, rfl, hl, ho, hk⟩ := hr
    obtain ⟨q, rfl⟩ : ∃ k, q = k + 1 := ⟨q - 1, by omega⟩
    unfold Of
    dsimp only
    rw [_root_.if_pos ho]
    unfold t_OfN
    dsimp only [List.length_nil]
    simp only [kids_eq, Option.bind_some]
    rw [ofV_nil]
    by_cases h0 : kidsV k' n' s' = 0
    · rw [_root_.if_pos h0, h0]
      unfold leafV' found t_found
      rcases (kidsV_range k' n' s').1 h0 with rfl | rfl | rfl | rfl
      · simp [num_eq]
      · simp
      · by_cases hT : t.2.1 s' = true
        · simp [tabOf, hT]
        · simp [tabOf, hT, badV]
      · by_cases hT : (teleV s').2.2.2.2.2.2 = true
        · simp [tele_eq, hT]
        · simp [tele_eq, hT, badV]
    · rw [_root_.if_neg h0]
      simp [h0, badV]
  | .node k n s [a], (k', n', s', m', f), q, hr, hq => by
    simp only [Rep, RepL] at hr
    obtain ⟨rfl, rfl, rfl, rfl, hl, ho, ha, -⟩ := hr
    obtain ⟨q, rfl⟩ : ∃ k, q = k + 1 := ⟨q - 1, by omega⟩
    simp only [siz, sizL] at hq
    have ih := of_V t a (kidAt f 0) q ha (by omega)
    unfold Of
    dsimp only
    rw [_root_.if_pos ho]
    unfold t_OfN
    dsimp only [List.length_cons, List.length_nil]
    dsimp only at ih
    simp only [kids_eq, Option.bind_some, ih]
    rw [ofV_one]
    generalize ofV (tabOf t) a = z
    by_cases h0 : kidsV k' n' s' = 1
    · rw [_root_.if_pos h0, h0]
      obtain rfl := (kidsV_range k' n' s').2.1 h0
      unfold unV errV
      by_cases he : z.2.2.2.2.2.2 = 0
      · by_cases hx : (!z.1 == (ByteArray.toList s' == ByteArray.toList { data := #[(33 : UInt8)] })) = true
        · simp only [hx]; simp [he, badV]
        · simp only [hx]; simp [he]
      · simp [he, badV]
    · rw [_root_.if_neg h0]
      simp [h0, badV]
  | .node k n s [a, b], (k', n', s', m', f), q, hr, hq => by
    simp only [Rep, RepL] at hr
    obtain ⟨rfl, rfl, rfl, rfl, hl, ho, ha, hb, -⟩ := hr
    obtain ⟨q, rfl⟩ : ∃ k, q = k + 1 := ⟨q - 1, by omega⟩
    simp only [siz, sizL] at hq
    have ih := of_V t a (kidAt f 0) q ha (by omega)
    have ih' := of_V t b (kidAt f 1) q hb (by omega)
    unfold Of
    dsimp only
    rw [_root_.if_pos ho]
    unfold t_OfN
    dsimp only [List.length_cons, List.length_nil]
    dsimp only at ih ih'
    simp only [kids_eq, Option.bind_some, ih, ih']
    rw [ofV_two]
    generalize ofV (tabOf t) a = z
    generalize ofV (tabOf t) b = z'
    by_cases h0 : kidsV k' n' s' = 2
    · rw [_root_.if_pos h0, h0]
      obtain rfl := (kidsV_range k' n' s').2.2.1 h0
      unfold biV errV
      by_cases he : z.2.2.2.2.2.2 = 0
      · by_cases he' : z'.2.2.2.2.2.2 = 0
        · simp [he, he', bin_eq]
        · simp [he, he', badV]
      · simp [he, badV]
    · rw [_root_.if_neg h0]
      simp [h0, badV]
  | .node k n s (a :: b :: c :: l), (k', n', s', m', f), q, hr, hq => by
    simp only [Rep] at hr
    obtain ⟨rfl, rfl, rfl, rfl, hl, ho, ha⟩ := hr
    obtain ⟨q, rfl⟩ : ∃ k, q = k + 1 := ⟨q - 1, by omega⟩
    unfold Of
    dsimp only
    rw [_root_.if_pos ho]
    unfold t_OfN
    dsimp only
    simp only [kids_eq, Option.bind_some]
    rw [ofV_more]
    have h2 := (kidsV_range k' n' s').2.2.2
    have h0 : ¬ kidsV k' n' s' = (((a :: b :: c :: l).length : Nat) : Int) := by simp only [List.length_cons]; omega
    rw [_root_.if_pos (show (kidsV k' n' s' != (((a :: b :: c :: l).length : Nat) : Int)) = true by simpa using h0)]
    rfl
end Go.Proofs.YtniogljhkjbcgaaDoor
/- Types: tables as functions; a further variable (plain). -/
namespace Go.Proofs.YtniogljhkjbcgaaDoor
open Go Go.Am Go.Proofs
set_option linter.unusedSimpArgs false
set_option linter.unusedVariables false
set_option maxRecDepth 100000
theorem tabOf_put (t : TabT) (nm : ByteArray) (d : DimT) (n : Nat) : tabOf (n, (fun q => q == nm || t.2.1 q), (fun j => if (j == nm) = true then d.1 else t.2.2.1 j), (fun j => if (j == nm) = true then d.2.1 else t.2.2.2.1 j), (fun j => if (j == nm) = true then d.2.2.1 else t.2.2.2.2.1 j), (fun j => if (j == nm) = true then d.2.2.2.1 else t.2.2.2.2.2.1 j), (fun j => if (j == nm) = true then d.2.2.2.2 else t.2.2.2.2.2.2 j)) = fun s => if s = nm then some d else tabOf t s := by
  funext s
  unfold tabOf
  by_cases h : s = nm
  · subst h
    have hb : (s == s) = true := ba_eq.2 rfl
    simp [hb]
  · have hb : ¬ (s == nm) = true := fun g => h (ba_eq.1 g)
    simp only [hb, if_neg h, Bool.false_or, if_false, Bool.false_eq_true]
theorem w_succ {i : Nat} (h : i < 9223372036854775807) : w ((i : Int) + 1) = ((i + 1 : Nat) : Int) := by rw [w_in (by unfold inR; omega)]; omega
end Go.Proofs.YtniogljhkjbcgaaDoor
/- TypesSubstitutes, lifted. -/
namespace Go.Proofs.YtniogljhkjbcgaaDoor
open Go Go.Am Go.Proofs
set_option linter.unusedSimpArgs false
set_option linter.unusedVariables false
set_option maxRecDepth 100000
abbrev a_replaced : Type := Int × Int × ByteArray × Nat × (Nat → List V) × ByteArray × Int × Int × ByteArray × Nat × (Nat → List V)
abbrev g_replaced : Type := Int × Int × ByteArray × Nat × (Nat → List V)
abbrev a_replacedN : Type := Int × Int × ByteArray × Nat × (Nat → Int) × (Nat → Int) × (Nat → ByteArray) × (Nat → Nat) × (Nat → Nat → List V) × ByteArray × Int × Int × ByteArray × Nat × (Nat → List V)
abbrev g_replacedN : Type := (Int × Int × ByteArray × Nat × (Nat → List V)) ⊕ (Int × Int × ByteArray) ⊕ (Int × Int × ByteArray × Nat × (Nat → Int) × (Nat → Int) × (Nat → ByteArray) × (Nat → Nat) × (Nat → Nat → List V))
abbrev replacedN_l0_a : Type := (Unit) ⊕ ((Nat → Int) × (Nat → Int) × (Nat → ByteArray) × (Nat → Nat) × (Nat → Nat → List V) × Int × Nat)
abbrev replacedN_l0_g : Type := (Unit) ⊕ (Nat × (Nat → Int) × (Nat → Int) × (Nat → ByteArray) × (Nat → Nat) × (Nat → Nat → List V))
def replacedN_l0_t0 {β : Type} (c_replaced : a_replaced → Option g_replaced) (x : a_replacedN) (y : Unit) (nx : replacedN_l0_a → Option β) (dn : replacedN_l0_g → Option β) : Option β :=
 if decide ((0 : Int) < ((x.2.2.2.1 : Nat) : Int)) = true then
  if (0 : Int) ≤ (0 : Int) ∧ (0 : Int) < ((x.2.2.2.1 : Nat) : Int) then
   (c_replaced ((x.2.2.2.2.1 0, x.2.2.2.2.2.1 0, x.2.2.2.2.2.2.1 0, x.2.2.2.2.2.2.2.1 0, x.2.2.2.2.2.2.2.2.1 0, x.2.2.2.2.2.2.2.2.2))).bind fun z194 =>
    nx (.inr ((fun j => z194.1, fun (j : Nat) => z194.2.1, fun (j : Nat) => z194.2.2.1, fun (j : Nat) => z194.2.2.2.1, fun (j : Nat) => z194.2.2.2.2, (1 : Int), 1)))
  else
   none
 else
  dn (.inl ())
def replacedN_l0_t1 {β : Type} (c_replaced : a_replaced → Option g_replaced) (x : a_replacedN) (y : (Nat → Int) × (Nat → Int) × (Nat → ByteArray) × (Nat → Nat) × (Nat → Nat → List V) × Int × Nat) (nx : replacedN_l0_a → Option β) (dn : replacedN_l0_g → Option β) : Option β :=
 if decide (y.2.2.2.2.2.1 < ((x.2.2.2.1 : Nat) : Int)) = true then
  if (0 : Int) ≤ y.2.2.2.2.2.1 ∧ y.2.2.2.2.2.1 < ((x.2.2.2.1 : Nat) : Int) then
   (c_replaced ((x.2.2.2.2.1 (Int.toNat (y.2.2.2.2.2.1)), x.2.2.2.2.2.1 (Int.toNat (y.2.2.2.2.2.1)), x.2.2.2.2.2.2.1 (Int.toNat (y.2.2.2.2.2.1)), x.2.2.2.2.2.2.2.1 (Int.toNat (y.2.2.2.2.2.1)), x.2.2.2.2.2.2.2.2.1 (Int.toNat (y.2.2.2.2.2.1)), x.2.2.2.2.2.2.2.2.2))).bind fun z207 =>
    if (y.2.2.2.2.2.2 + 1) * 56 ≤ roomBound ∧ y.2.2.2.2.2.2 + 1 ≤ maxLen ∧ y.2.2.2.2.2.2 ≤ y.2.2.2.2.2.2 then
     nx (.inr ((fun j => if j < y.2.2.2.2.2.2 then y.1 j else z207.1, fun (j : Nat) => if j < y.2.2.2.2.2.2 then y.2.1 j else z207.2.1, fun (j : Nat) => if j < y.2.2.2.2.2.2 then y.2.2.1 j else z207.2.2.1, fun (j : Nat) => if j < y.2.2.2.2.2.2 then y.2.2.2.1 j else z207.2.2.2.1, fun (j j_1 : Nat) => if j < y.2.2.2.2.2.2 then y.2.2.2.2.1 j j_1 else z207.2.2.2.2 j_1, w (y.2.2.2.2.2.1 + (1 : Int)), y.2.2.2.2.2.2 + 1)))
    else
     none
  else
   none
 else
  dn (.inr ((y.2.2.2.2.2.2, y.1, y.2.1, y.2.2.1, y.2.2.2.1, y.2.2.2.2.1)))
noncomputable def replacedN_l0 (c_replaced : a_replaced → Option g_replaced) (q : Nat) (x : a_replacedN) : replacedN_l0_a → Option replacedN_l0_g := lpG (Sum.elim (fun y => replacedN_l0_t0 c_replaced x y (fun y => some (.inl y)) (fun z => some (.inr z))) (fun y => replacedN_l0_t1 c_replaced x y (fun y => some (.inl y)) (fun z => some (.inr z)))) q
def t_replacedN {β : Type} (c_replaced : a_replaced → Option g_replaced) (l_replacedN_l0 : replacedN_l0_a → Option replacedN_l0_g) (x : a_replacedN) (dn : g_replacedN → Option β) : Option β :=
 if (x.1 == (17 : Int)) = true then
  if (ByteArray.toList (x.2.2.1) == ByteArray.toList (x.2.2.2.2.2.2.2.2.2.1)) = true then
   dn (.inl (x.2.2.2.2.2.2.2.2.2.2))
  else
   (l_replacedN_l0 (.inl ())).bind fun z134 =>
    Sum.elim (fun z134a =>
    dn (.inr (.inl ((x.1, x.2.1, x.2.2.1))))) (fun z134b =>
    dn (.inr (.inr ((x.1, x.2.1, x.2.2.1, z134b))))) z134
 else
  (l_replacedN_l0 (.inl ())).bind fun z136 =>
   Sum.elim (fun z136a =>
   dn (.inr (.inl ((x.1, x.2.1, x.2.2.1))))) (fun z136b =>
   dn (.inr (.inr ((x.1, x.2.1, x.2.2.1, z136b))))) z136
def cv_replaced : g_replacedN → g_replaced := Sum.elim id (Sum.elim (fun z => (z.1, z.2.1, z.2.2, 0, fun _ => [i64 0, i64 0, st ByteArray.empty, .ro 4 0 (fun _ => [])])) (fun z => (z.1, z.2.1, z.2.2.1, z.2.2.2.1, fun j => [i64 (z.2.2.2.2.1 j), i64 (z.2.2.2.2.2.1 j), st (z.2.2.2.2.2.2.1 j), .ro 4 (z.2.2.2.2.2.2.2.1 j) (z.2.2.2.2.2.2.2.2 j)])))
open Classical in
noncomputable def replaced : Nat → a_replaced → Option g_replaced
  | 0, _ => none
  | q + 1, x => if OpenN x.2.2.2.2.1 then ((t_replacedN (replaced q) (replacedN_l0 (replaced q) q (x.1, x.2.1, x.2.2.1, x.2.2.2.1, opK x.2.2.2.2.1, opN x.2.2.2.2.1, opS x.2.2.2.2.1, opM x.2.2.2.2.1, opF x.2.2.2.2.1, x.2.2.2.2.2)) (x.1, x.2.1, x.2.2.1, x.2.2.2.1, opK x.2.2.2.2.1, opN x.2.2.2.2.1, opS x.2.2.2.2.1, opM x.2.2.2.2.1, opF x.2.2.2.2.1, x.2.2.2.2.2) some).map cv_replaced) else none
abbrev a_subst : Type := Int × Int × ByteArray × Nat × (Nat → List V) × Int × Int × ByteArray × Nat × (Nat → List V) × Nat × (Nat → ByteArray) × (Nat → Int) × (Nat → Int) × (Nat → Int) × (Nat → Int) × (Nat → Int) × Int
abbrev g_subst : Type := Bool
def t_subst {β : Type} (c_Nodes : a_Nodes → Option g_Nodes) (c_lives : a_lives → Option g_lives) (c_VarsR : a_VarsR → Option g_VarsR) (c_tableS : a_tableS → Option g_tableS) (c_table : a_table → Option g_table) (c_replaced : a_replaced → Option g_replaced) (c_Of : a_Of → Option g_Of) (x : a_subst) (dn : g_subst → Option β) : Option β :=
 (c_VarsR ((x.2.2.2.2.2.2.2.2.2.2.1, x.2.2.2.2.2.2.2.2.2.2.2.1, x.2.2.2.2.2.2.2.2.2.2.2.2.1, x.2.2.2.2.2.2.2.2.2.2.2.2.2.1, x.2.2.2.2.2.2.2.2.2.2.2.2.2.2.1, x.2.2.2.2.2.2.2.2.2.2.2.2.2.2.2.1, x.2.2.2.2.2.2.2.2.2.2.2.2.2.2.2.2.1))).bind fun z7 =>
  (c_Nodes ((x.1, x.2.1, x.2.2.1, x.2.2.2.1, x.2.2.2.2.1, (100 : Int)))).bind fun z14 =>
   if decide (z14 > (100 : Int)) = true then
    (c_lives ()).bind fun z15 =>
     dn z15
   else
    (c_Nodes ((x.2.2.2.2.2.1, x.2.2.2.2.2.2.1, x.2.2.2.2.2.2.2.1, x.2.2.2.2.2.2.2.2.1, x.2.2.2.2.2.2.2.2.2.1, (100 : Int)))).bind fun z22 =>
     if decide (z22 > (100 : Int)) = true then
      (c_lives ()).bind fun z23 =>
       dn z23
     else
      if decide (((x.2.2.2.2.2.2.2.2.2.2.1 : Nat) : Int) > (40 : Int)) = true then
       (c_lives ()).bind fun z24 =>
        dn z24
      else
       if (((z7.1 : Nat) : Int) == (0 : Int)) = true then
        (c_lives ()).bind fun z25 =>
         dn z25
       else
        (c_table z7).bind fun z33 =>
         (c_Of ((x.2.2.2.2.2.1, x.2.2.2.2.2.2.1, x.2.2.2.2.2.2.2.1, x.2.2.2.2.2.2.2.2.1, x.2.2.2.2.2.2.2.2.2.1, z33))).bind fun z46 =>
          if (z46.2.2.2.2.2.2.1 != (0 : Int)) = true then
           (c_lives ()).bind fun z47 =>
            dn z47
          else
           if z46.1 = true then
            (c_lives ()).bind fun z48 =>
             dn z48
           else
            if ((z7.1 : Nat) : Int) = (0 : Int) then
             none
            else
             if (0 + z7.1) * 56 ≤ roomBound ∧ 0 + z7.1 ≤ maxLen ∧ 0 ≤ 0 then
              if (0 : Int) ≤ Int.tmod (w (x.2.2.2.2.2.2.2.2.2.2.2.2.2.2.2.2.2)) ((z7.1 : Nat) : Int) ∧ Int.tmod (w (x.2.2.2.2.2.2.2.2.2.2.2.2.2.2.2.2.2)) ((z7.1 : Nat) : Int) < ((0 + z7.1 : Nat) : Int) then
               if 0 + Int.toNat (Int.tmod (w (x.2.2.2.2.2.2.2.2.2.2.2.2.2.2.2.2.2)) ((z7.1 : Nat) : Int)) < 0 + z7.1 ∧ 6 = 6 then
                (c_tableS ((0 + z7.1, z7.2.1, fun (j : Nat) => if j = 0 + Int.toNat (Int.tmod (w (x.2.2.2.2.2.2.2.2.2.2.2.2.2.2.2.2.2)) ((z7.1 : Nat) : Int)) then z46.2.1 else z7.2.2.1 j, fun (j : Nat) => if j = 0 + Int.toNat (Int.tmod (w (x.2.2.2.2.2.2.2.2.2.2.2.2.2.2.2.2.2)) ((z7.1 : Nat) : Int)) then z46.2.2.1 else z7.2.2.2.1 j, fun (j : Nat) => if j = 0 + Int.toNat (Int.tmod (w (x.2.2.2.2.2.2.2.2.2.2.2.2.2.2.2.2.2)) ((z7.1 : Nat) : Int)) then z46.2.2.2.1 else z7.2.2.2.2.1 j, fun (j : Nat) => if j = 0 + Int.toNat (Int.tmod (w (x.2.2.2.2.2.2.2.2.2.2.2.2.2.2.2.2.2)) ((z7.1 : Nat) : Int)) then z46.2.2.2.2.1 else z7.2.2.2.2.2.1 j, fun (j : Nat) => if j = 0 + Int.toNat (Int.tmod (w (x.2.2.2.2.2.2.2.2.2.2.2.2.2.2.2.2.2)) ((z7.1 : Nat) : Int)) then z46.2.2.2.2.2.1 else z7.2.2.2.2.2.2 j))).bind fun z56 =>
                 (c_Of ((x.1, x.2.1, x.2.2.1, x.2.2.2.1, x.2.2.2.2.1, z56.2.2.2.2.2.2.2))).bind fun z69 =>
                  if (z69.2.2.2.2.2.2.1 != (0 : Int)) = true then
                   (c_lives ()).bind fun z70 =>
                    dn z70
                  else
                   if (0 : Int) ≤ Int.tmod (w (x.2.2.2.2.2.2.2.2.2.2.2.2.2.2.2.2.2)) ((z7.1 : Nat) : Int) ∧ Int.tmod (w (x.2.2.2.2.2.2.2.2.2.2.2.2.2.2.2.2.2)) ((z7.1 : Nat) : Int) < ((z7.1 : Nat) : Int) then
                    (c_replaced ((x.1, x.2.1, x.2.2.1, x.2.2.2.1, x.2.2.2.2.1, z7.2.1 (Int.toNat (Int.tmod (w (x.2.2.2.2.2.2.2.2.2.2.2.2.2.2.2.2.2)) ((z7.1 : Nat) : Int))), x.2.2.2.2.2.1, x.2.2.2.2.2.2.1, x.2.2.2.2.2.2.2.1, x.2.2.2.2.2.2.2.2.1, x.2.2.2.2.2.2.2.2.2.1))).bind fun z82 =>
                     (c_table z7).bind fun z90 =>
                      (c_Of ((z82.1, z82.2.1, z82.2.2.1, z82.2.2.2.1, z82.2.2.2.2, z90))).bind fun z103 =>
                       if (z103.2.2.2.2.2.2.1 == (0 : Int)) = true then
                        if (z69.1 == z103.1) = true then
                         if (if false = true then !(z69.2.1 == z103.2.1 && (z69.2.2.1 == z103.2.2.1 && (z69.2.2.2.1 == z103.2.2.2.1 && (z69.2.2.2.2.1 == z103.2.2.2.2.1 && (z69.2.2.2.2.2.1 == z103.2.2.2.2.2.1 && true))))) else z69.2.1 == z103.2.1 && (z69.2.2.1 == z103.2.2.1 && (z69.2.2.2.1 == z103.2.2.2.1 && (z69.2.2.2.2.1 == z103.2.2.2.2.1 && (z69.2.2.2.2.2.1 == z103.2.2.2.2.2.1 && true))))) = true then
                          (c_lives ()).bind fun z104 =>
                           dn z104
                         else
                          dn false
                        else
                         dn false
                       else
                        dn false
                   else
                    none
               else
                none
              else
               none
             else
              none
noncomputable def subst (q : Nat) (x : a_subst) : Option g_subst := t_subst (Nodes q) (lives q) (VarsR q) (tableS q) (table q) (replaced q) (Of q) x some
end Go.Proofs.YtniogljhkjbcgaaDoor
/- Types: an expression in place of a variable (plain). -/
namespace Go.Proofs.YtniogljhkjbcgaaDoor
open Go Go.Am Go.Proofs
set_option linter.unusedSimpArgs false
set_option linter.unusedVariables false
set_option maxRecDepth 100000
abbrev RowT : Type := (Nat → Int) × (Nat → Int) × (Nat → ByteArray) × (Nat → Nat) × (Nat → Nat → List V)
/-- The row holds the first trees. -/
def RowR (l : List Tr) (i : Nat) (y : RowT) : Prop := ∀ j t, j < i → l[j]? = some t → Rep t (y.1 j, y.2.1 j, y.2.2.1 j, y.2.2.2.1 j, y.2.2.2.2 j)
theorem RowR.put {l : List Tr} {i : Nat} {y : RowT} (h : RowR l i y) {z : NodeT} {t : Tr} (ht : l[i]? = some t) (hz : Rep t z) :
    RowR l (i + 1) ((fun j => if j < i then y.1 j else z.1), (fun j => if j < i then y.2.1 j else z.2.1), (fun j => if j < i then y.2.2.1 j else z.2.2.1), (fun j => if j < i then y.2.2.2.1 j else z.2.2.2.1), (fun j j' => if j < i then y.2.2.2.2 j j' else z.2.2.2.2 j')) := by
  intro j t' hj ht'
  dsimp only
  by_cases hji : j < i
  · simp only [if_pos hji]
    exact h j t' hji ht'
  · have : j = i := by omega
    subst this
    rw [ht] at ht'; cases ht'
    simp only [if_neg hji]
    exact hz
theorem rep_row {k n : Int} {s : ByteArray} {l : List Tr} {y : RowT} (hl : l.length ≤ Go.maxLen) (h : RowR l l.length y) :
    Rep (.node k n s l) (k, n, s, l.length, fun j => [i64 (y.1 j), i64 (y.2.1 j), st (y.2.2.1 j), .ro 4 (y.2.2.2.1 j) (y.2.2.2.2 j)]) := by
  simp only [Rep]
  refine ⟨trivial, trivial, trivial, trivial, hl, fun j => rfl, repL_mk _ _ _ fun j t e => ?_⟩
  rw [Nat.zero_add]
  exact h j t (List.getElem?_eq_some_iff.1 e).1 e
theorem rep_none {k n : Int} {s : ByteArray} : Rep (.node k n s []) (k, n, s, 0, fun _ => [i64 0, i64 0, st ByteArray.empty, .ro 4 0 (fun _ => [])]) := by
  simp only [Rep, RepL]
  exact ⟨trivial, trivial, trivial, rfl, Nat.zero_le _, fun j => rfl, trivial⟩
end Go.Proofs.YtniogljhkjbcgaaDoor
/- TypesSound, lifted. -/
namespace Go.Proofs.YtniogljhkjbcgaaDoor
open Go Go.Am Go.Proofs
set_option linter.unusedSimpArgs false
set_option linter.unusedVariables false
set_option maxRecDepth 100000
abbrev a_checked : Type := Int × Int × Int × Int × Int × Int
abbrev g_checked : Type := Int × Int × Int × Int × Int × Int × Int
def t_checked {β : Type} (x : a_checked) (dn : g_checked → Option β) : Option β :=
 if decide (x.1 ≥ (-2147483647 : Int)) = true then
  if (!decide (x.1 ≤ (2147483647 : Int))) = true then
   dn (((0 : Int), (0 : Int), (0 : Int), (0 : Int), (0 : Int), (0 : Int), (5 : Int)))
  else
   if decide (x.2.1 ≥ (-8 : Int)) = true then
    if (!decide (x.2.1 ≤ (8 : Int))) = true then
     dn (((0 : Int), (0 : Int), (0 : Int), (0 : Int), (0 : Int), (0 : Int), (5 : Int)))
    else
     if decide (x.2.2.1 ≥ (-8 : Int)) = true then
      if (!decide (x.2.2.1 ≤ (8 : Int))) = true then
       dn (((0 : Int), (0 : Int), (0 : Int), (0 : Int), (0 : Int), (0 : Int), (5 : Int)))
      else
       if decide (x.2.2.2.1 ≥ (-8 : Int)) = true then
        if (!decide (x.2.2.2.1 ≤ (8 : Int))) = true then
         dn (((0 : Int), (0 : Int), (0 : Int), (0 : Int), (0 : Int), (0 : Int), (5 : Int)))
        else
         if decide (x.2.2.2.2.1 ≥ (-8 : Int)) = true then
          if (!decide (x.2.2.2.2.1 ≤ (8 : Int))) = true then
           dn (((0 : Int), (0 : Int), (0 : Int), (0 : Int), (0 : Int), (0 : Int), (5 : Int)))
          else
           if decide (x.2.2.2.2.2 ≥ (-8 : Int)) = true then
            if (!decide (x.2.2.2.2.2 ≤ (8 : Int))) = true then
             dn (((0 : Int), (0 : Int), (0 : Int), (0 : Int), (0 : Int), (0 : Int), (5 : Int)))
            else
             dn ((x.1, x.2.1, x.2.2.1, x.2.2.2.1, x.2.2.2.2.1, x.2.2.2.2.2, (0 : Int)))
           else
            dn (((0 : Int), (0 : Int), (0 : Int), (0 : Int), (0 : Int), (0 : Int), (5 : Int)))
         else
          dn (((0 : Int), (0 : Int), (0 : Int), (0 : Int), (0 : Int), (0 : Int), (5 : Int)))
       else
        dn (((0 : Int), (0 : Int), (0 : Int), (0 : Int), (0 : Int), (0 : Int), (5 : Int)))
     else
      dn (((0 : Int), (0 : Int), (0 : Int), (0 : Int), (0 : Int), (0 : Int), (5 : Int)))
   else
    dn (((0 : Int), (0 : Int), (0 : Int), (0 : Int), (0 : Int), (0 : Int), (5 : Int)))
 else
  dn (((0 : Int), (0 : Int), (0 : Int), (0 : Int), (0 : Int), (0 : Int), (5 : Int)))
noncomputable def checked (q : Nat) (x : a_checked) : Option g_checked := t_checked x some
abbrev a_uSub : Type := Int × Int × Int × Int × Int × Int × Int × Int × Int × Int × Int × Int
abbrev g_uSub : Type := Int × Int × Int × Int × Int × Int × Int
def t_uSub {β : Type} (c_checked : a_checked → Option g_checked) (x : a_uSub) (dn : g_uSub → Option β) : Option β :=
 if (if true = true then !(x.2.1 == x.2.2.2.2.2.2.2.1 && (x.2.2.1 == x.2.2.2.2.2.2.2.2.1 && (x.2.2.2.1 == x.2.2.2.2.2.2.2.2.2.1 && (x.2.2.2.2.1 == x.2.2.2.2.2.2.2.2.2.2.1 && (x.2.2.2.2.2.1 == x.2.2.2.2.2.2.2.2.2.2.2 && true))))) else x.2.1 == x.2.2.2.2.2.2.2.1 && (x.2.2.1 == x.2.2.2.2.2.2.2.2.1 && (x.2.2.2.1 == x.2.2.2.2.2.2.2.2.2.1 && (x.2.2.2.2.1 == x.2.2.2.2.2.2.2.2.2.2.1 && (x.2.2.2.2.2.1 == x.2.2.2.2.2.2.2.2.2.2.2 && true))))) = true then
  dn (((0 : Int), (0 : Int), (0 : Int), (0 : Int), (0 : Int), (0 : Int), (10 : Int)))
 else
  (c_checked ((w (x.1 - x.2.2.2.2.2.2.1), x.2.1, x.2.2.1, x.2.2.2.1, x.2.2.2.2.1, x.2.2.2.2.2.1))).bind fun z6 =>
   dn z6
noncomputable def uSub (q : Nat) (x : a_uSub) : Option g_uSub := t_uSub (checked q) x some
abbrev a_uAdd : Type := Int × Int × Int × Int × Int × Int × Int × Int × Int × Int × Int × Int
abbrev g_uAdd : Type := Int × Int × Int × Int × Int × Int × Int
def t_uAdd {β : Type} (c_checked : a_checked → Option g_checked) (x : a_uAdd) (dn : g_uAdd → Option β) : Option β :=
 if (if true = true then !(x.2.1 == x.2.2.2.2.2.2.2.1 && (x.2.2.1 == x.2.2.2.2.2.2.2.2.1 && (x.2.2.2.1 == x.2.2.2.2.2.2.2.2.2.1 && (x.2.2.2.2.1 == x.2.2.2.2.2.2.2.2.2.2.1 && (x.2.2.2.2.2.1 == x.2.2.2.2.2.2.2.2.2.2.2 && true))))) else x.2.1 == x.2.2.2.2.2.2.2.1 && (x.2.2.1 == x.2.2.2.2.2.2.2.2.1 && (x.2.2.2.1 == x.2.2.2.2.2.2.2.2.2.1 && (x.2.2.2.2.1 == x.2.2.2.2.2.2.2.2.2.2.1 && (x.2.2.2.2.2.1 == x.2.2.2.2.2.2.2.2.2.2.2 && true))))) = true then
  dn (((0 : Int), (0 : Int), (0 : Int), (0 : Int), (0 : Int), (0 : Int), (10 : Int)))
 else
  (c_checked ((w (x.1 + x.2.2.2.2.2.2.1), x.2.1, x.2.2.1, x.2.2.2.1, x.2.2.2.2.1, x.2.2.2.2.2.1))).bind fun z6 =>
   dn z6
noncomputable def uAdd (q : Nat) (x : a_uAdd) : Option g_uAdd := t_uAdd (checked q) x some
abbrev a_uMul : Type := Int × Int × Int × Int × Int × Int × Int × Int × Int × Int × Int × Int
abbrev g_uMul : Type := Int × Int × Int × Int × Int × Int × Int
def t_uMul {β : Type} (c_checked : a_checked → Option g_checked) (c_Times : a_Times → Option g_Times) (x : a_uMul) (dn : g_uMul → Option β) : Option β :=
 (c_Times ((x.2.1, x.2.2.1, x.2.2.2.1, x.2.2.2.2.1, x.2.2.2.2.2.1, x.2.2.2.2.2.2.2))).bind fun z10 =>
  (c_checked ((w (x.1 * x.2.2.2.2.2.2.1), z10))).bind fun z17 =>
   dn z17
noncomputable def uMul (q : Nat) (x : a_uMul) : Option g_uMul := t_uMul (checked q) (Times q) x some
abbrev a_uDiv : Type := Int × Int × Int × Int × Int × Int × Int × Int × Int × Int × Int × Int
abbrev g_uDiv : Type := Int × Int × Int × Int × Int × Int × Int
def t_uDiv {β : Type} (c_checked : a_checked → Option g_checked) (c_Over : a_Over → Option g_Over) (x : a_uDiv) (dn : g_uDiv → Option β) : Option β :=
 if (x.2.2.2.2.2.2.1 == (0 : Int)) = true then
  dn (((0 : Int), (0 : Int), (0 : Int), (0 : Int), (0 : Int), (0 : Int), (1 : Int)))
 else
  if x.2.2.2.2.2.2.1 = (0 : Int) then
   none
  else
   if x.2.2.2.2.2.2.1 = (0 : Int) then
    none
   else
    if (Int.tmod (x.1) (x.2.2.2.2.2.2.1) != (0 : Int)) = true then
     if (!decide (x.1 < (0 : Int)) == decide (x.2.2.2.2.2.2.1 < (0 : Int))) = true then
      (c_Over ((x.2.1, x.2.2.1, x.2.2.2.1, x.2.2.2.2.1, x.2.2.2.2.2.1, x.2.2.2.2.2.2.2))).bind fun z10 =>
       (c_checked ((w (w (Int.tdiv (x.1) (x.2.2.2.2.2.2.1)) - (1 : Int)), z10))).bind fun z17 =>
        dn z17
     else
      (c_Over ((x.2.1, x.2.2.1, x.2.2.2.1, x.2.2.2.2.1, x.2.2.2.2.2.1, x.2.2.2.2.2.2.2))).bind fun z28 =>
       (c_checked ((w (Int.tdiv (x.1) (x.2.2.2.2.2.2.1)), z28))).bind fun z35 =>
        dn z35
    else
     (c_Over ((x.2.1, x.2.2.1, x.2.2.2.1, x.2.2.2.2.1, x.2.2.2.2.2.1, x.2.2.2.2.2.2.2))).bind fun z46 =>
      (c_checked ((w (Int.tdiv (x.1) (x.2.2.2.2.2.2.1)), z46))).bind fun z53 =>
       dn z53
noncomputable def uDiv (q : Nat) (x : a_uDiv) : Option g_uDiv := t_uDiv (checked q) (Over q) x some
abbrev a_uCompare : Type := Int × Int × Int × Int × Int × Int × Int × Int × Int × Int × Int × Int
abbrev g_uCompare : Type := Int × Int
def t_uCompare {β : Type} (x : a_uCompare) (dn : g_uCompare → Option β) : Option β :=
 if (if true = true then !(x.2.1 == x.2.2.2.2.2.2.2.1 && (x.2.2.1 == x.2.2.2.2.2.2.2.2.1 && (x.2.2.2.1 == x.2.2.2.2.2.2.2.2.2.1 && (x.2.2.2.2.1 == x.2.2.2.2.2.2.2.2.2.2.1 && (x.2.2.2.2.2.1 == x.2.2.2.2.2.2.2.2.2.2.2 && true))))) else x.2.1 == x.2.2.2.2.2.2.2.1 && (x.2.2.1 == x.2.2.2.2.2.2.2.2.1 && (x.2.2.2.1 == x.2.2.2.2.2.2.2.2.2.1 && (x.2.2.2.2.1 == x.2.2.2.2.2.2.2.2.2.2.1 && (x.2.2.2.2.2.1 == x.2.2.2.2.2.2.2.2.2.2.2 && true))))) = true then
  dn (((0 : Int), (10 : Int)))
 else
  if decide (x.1 < x.2.2.2.2.2.2.1) = true then
   dn (((-1 : Int), (0 : Int)))
  else
   if decide (x.1 > x.2.2.2.2.2.2.1) = true then
    dn (((1 : Int), (0 : Int)))
   else
    dn (((0 : Int), (0 : Int)))
noncomputable def uCompare (q : Nat) (x : a_uCompare) : Option g_uCompare := t_uCompare x some
abbrev a_Pick : Type := Nat × (Nat → Int) × Int × Int
abbrev g_Pick : Type := Int
def t_Pick {β : Type} (x : a_Pick) (dn : g_Pick → Option β) : Option β :=
 if decide (x.2.2.1 < (0 : Int)) = true then
  dn ((0 : Int))
 else
  if decide (x.2.2.1 ≥ ((x.1 : Nat) : Int)) = true then
   dn ((0 : Int))
  else
   if (0 : Int) ≤ x.2.2.1 ∧ x.2.2.1 < ((x.1 : Nat) : Int) then
    if decide (x.2.1 (Int.toNat (x.2.2.1)) < (0 : Int)) = true then
     if x.2.2.2 = (0 : Int) then
      none
     else
      dn (Int.tmod (w ((0 : Int) - w (x.2.1 (Int.toNat (x.2.2.1)) + (1 : Int)))) (x.2.2.2))
    else
     if x.2.2.2 = (0 : Int) then
      none
     else
      dn (Int.tmod (x.2.1 (Int.toNat (x.2.2.1))) (x.2.2.2))
   else
    none
noncomputable def Pick (q : Nat) (x : a_Pick) : Option g_Pick := t_Pick x some
abbrev a_combine : Type := ByteArray × Bool × Bool × Int × Int × Int × Int × Int × Int × Int × Bool × Bool × Int × Int × Int × Int × Int × Int × Int
abbrev g_combine : Type := Bool × Bool × Int × Int × Int × Int × Int × Int × Int
def t_combine {β : Type} (c_uAdd : a_uAdd → Option g_uAdd) (c_uSub : a_uSub → Option g_uSub) (c_uMul : a_uMul → Option g_uMul) (c_uDiv : a_uDiv → Option g_uDiv) (c_uCompare : a_uCompare → Option g_uCompare) (x : a_combine) (dn : g_combine → Option β) : Option β :=
 if (ByteArray.toList (x.1) == ByteArray.toList { data := #[(38 : UInt8), (38 : UInt8)] }) = true then
  if x.2.2.1 = true then
   dn ((true, x.2.2.2.2.2.2.2.2.2.2.2.1, (0 : Int), (0 : Int), (0 : Int), (0 : Int), (0 : Int), (0 : Int), (0 : Int)))
  else
   dn ((true, false, (0 : Int), (0 : Int), (0 : Int), (0 : Int), (0 : Int), (0 : Int), (0 : Int)))
 else
  if (ByteArray.toList (x.1) == ByteArray.toList { data := #[(124 : UInt8), (124 : UInt8)] }) = true then
   if x.2.2.1 = true then
    dn ((true, true, (0 : Int), (0 : Int), (0 : Int), (0 : Int), (0 : Int), (0 : Int), (0 : Int)))
   else
    dn ((true, x.2.2.2.2.2.2.2.2.2.2.2.1, (0 : Int), (0 : Int), (0 : Int), (0 : Int), (0 : Int), (0 : Int), (0 : Int)))
  else
   if (ByteArray.toList (x.1) == ByteArray.toList { data := #[(43 : UInt8)] }) = true then
    (c_uAdd ((x.2.2.2.1, x.2.2.2.2.1, x.2.2.2.2.2.1, x.2.2.2.2.2.2.1, x.2.2.2.2.2.2.2.1, x.2.2.2.2.2.2.2.2.1, x.2.2.2.2.2.2.2.2.2.2.2.2.1, x.2.2.2.2.2.2.2.2.2.2.2.2.2.1, x.2.2.2.2.2.2.2.2.2.2.2.2.2.2.1, x.2.2.2.2.2.2.2.2.2.2.2.2.2.2.2.1, x.2.2.2.2.2.2.2.2.2.2.2.2.2.2.2.2.1, x.2.2.2.2.2.2.2.2.2.2.2.2.2.2.2.2.2.1))).bind fun z12 =>
     dn ((false, false, z12))
   else
    if (ByteArray.toList (x.1) == ByteArray.toList { data := #[(45 : UInt8)] }) = true then
     (c_uSub ((x.2.2.2.1, x.2.2.2.2.1, x.2.2.2.2.2.1, x.2.2.2.2.2.2.1, x.2.2.2.2.2.2.2.1, x.2.2.2.2.2.2.2.2.1, x.2.2.2.2.2.2.2.2.2.2.2.2.1, x.2.2.2.2.2.2.2.2.2.2.2.2.2.1, x.2.2.2.2.2.2.2.2.2.2.2.2.2.2.1, x.2.2.2.2.2.2.2.2.2.2.2.2.2.2.2.1, x.2.2.2.2.2.2.2.2.2.2.2.2.2.2.2.2.1, x.2.2.2.2.2.2.2.2.2.2.2.2.2.2.2.2.2.1))).bind fun z25 =>
      dn ((false, false, z25))
    else
     if (ByteArray.toList (x.1) == ByteArray.toList { data := #[(42 : UInt8)] }) = true then
      (c_uMul ((x.2.2.2.1, x.2.2.2.2.1, x.2.2.2.2.2.1, x.2.2.2.2.2.2.1, x.2.2.2.2.2.2.2.1, x.2.2.2.2.2.2.2.2.1, x.2.2.2.2.2.2.2.2.2.2.2.2.1, x.2.2.2.2.2.2.2.2.2.2.2.2.2.1, x.2.2.2.2.2.2.2.2.2.2.2.2.2.2.1, x.2.2.2.2.2.2.2.2.2.2.2.2.2.2.2.1, x.2.2.2.2.2.2.2.2.2.2.2.2.2.2.2.2.1, x.2.2.2.2.2.2.2.2.2.2.2.2.2.2.2.2.2.1))).bind fun z38 =>
       dn ((false, false, z38))
     else
      if (ByteArray.toList (x.1) == ByteArray.toList { data := #[(47 : UInt8)] }) = true then
       (c_uDiv ((x.2.2.2.1, x.2.2.2.2.1, x.2.2.2.2.2.1, x.2.2.2.2.2.2.1, x.2.2.2.2.2.2.2.1, x.2.2.2.2.2.2.2.2.1, x.2.2.2.2.2.2.2.2.2.2.2.2.1, x.2.2.2.2.2.2.2.2.2.2.2.2.2.1, x.2.2.2.2.2.2.2.2.2.2.2.2.2.2.1, x.2.2.2.2.2.2.2.2.2.2.2.2.2.2.2.1, x.2.2.2.2.2.2.2.2.2.2.2.2.2.2.2.2.1, x.2.2.2.2.2.2.2.2.2.2.2.2.2.2.2.2.2.1))).bind fun z51 =>
        dn ((false, false, z51))
      else
       (c_uCompare ((x.2.2.2.1, x.2.2.2.2.1, x.2.2.2.2.2.1, x.2.2.2.2.2.2.1, x.2.2.2.2.2.2.2.1, x.2.2.2.2.2.2.2.2.1, x.2.2.2.2.2.2.2.2.2.2.2.2.1, x.2.2.2.2.2.2.2.2.2.2.2.2.2.1, x.2.2.2.2.2.2.2.2.2.2.2.2.2.2.1, x.2.2.2.2.2.2.2.2.2.2.2.2.2.2.2.1, x.2.2.2.2.2.2.2.2.2.2.2.2.2.2.2.2.1, x.2.2.2.2.2.2.2.2.2.2.2.2.2.2.2.2.2.1))).bind fun z64 =>
        dn ((true, decide (z64.1 < (0 : Int)), (0 : Int), (0 : Int), (0 : Int), (0 : Int), (0 : Int), (0 : Int), z64.2))
noncomputable def combine (q : Nat) (x : a_combine) : Option g_combine := t_combine (uAdd q) (uSub q) (uMul q) (uDiv q) (uCompare q) x some
abbrev a_eval : Type := Int × Int × ByteArray × Nat × (Nat → List V) × Nat × (Nat → ByteArray) × (Nat → Int) × (Nat → Int) × (Nat → Int) × (Nat → Int) × (Nat → Int) × Nat × (Nat → Int)
abbrev g_eval : Type := Bool × Bool × Int × Int × Int × Int × Int × Int × Int
abbrev a_evalN : Type := Int × Int × ByteArray × Nat × (Nat → Int) × (Nat → Int) × (Nat → ByteArray) × (Nat → Nat) × (Nat → Nat → List V) × Nat × (Nat → ByteArray) × (Nat → Int) × (Nat → Int) × (Nat → Int) × (Nat → Int) × (Nat → Int) × Nat × (Nat → Int)
abbrev g_evalN : Type := Bool × Bool × Int × Int × Int × Int × Int × Int × Int
def t_evalN {β : Type} (c_eval : a_eval → Option g_eval) (c_Lookup : a_Lookup → Option g_Lookup) (c_Find : a_Find → Option g_Find) (c_Pick : a_Pick → Option g_Pick) (c_Tele : a_Tele → Option g_Tele) (c_uSub : a_uSub → Option g_uSub) (c_combine : a_combine → Option g_combine) (x : a_evalN) (dn : g_evalN → Option β) : Option β :=
 if (x.1 == (15 : Int)) = true then
  (c_Lookup (x.2.2.1)).bind fun z1 =>
   if (ByteArray.toList (x.2.2.1) == ByteArray.toList { data := #[] }) = true then
    dn ((false, false, w (x.2.1 * (1 : Int)), z1.1, z1.2.1, z1.2.2.1, z1.2.2.2.1, z1.2.2.2.2.1, (0 : Int)))
   else
    dn ((false, false, w (x.2.1 * z1.2.2.2.2.2.1), z1.1, z1.2.1, z1.2.2.1, z1.2.2.2.1, z1.2.2.2.2.1, (0 : Int)))
 else
  if (x.1 == (16 : Int)) = true then
   dn ((true, x.2.1 == (1 : Int), (0 : Int), (0 : Int), (0 : Int), (0 : Int), (0 : Int), (0 : Int), (0 : Int)))
  else
   if (x.1 == (17 : Int)) = true then
    (c_Find ((x.2.2.2.2.2.2.2.2.2.1, x.2.2.2.2.2.2.2.2.2.2.1, x.2.2.2.2.2.2.2.2.2.2.2.1, x.2.2.2.2.2.2.2.2.2.2.2.2.1, x.2.2.2.2.2.2.2.2.2.2.2.2.2.1, x.2.2.2.2.2.2.2.2.2.2.2.2.2.2.1, x.2.2.2.2.2.2.2.2.2.2.2.2.2.2.2.1, x.2.2.1))).bind fun z10 =>
     (c_Pick ((x.2.2.2.2.2.2.2.2.2.2.2.2.2.2.2.2.1, x.2.2.2.2.2.2.2.2.2.2.2.2.2.2.2.2.2, z10, (1000 : Int)))).bind fun z15 =>
      if (0 : Int) ≤ z10 ∧ z10 < ((x.2.2.2.2.2.2.2.2.2.1 : Nat) : Int) then
       dn ((false, false, z15, x.2.2.2.2.2.2.2.2.2.2.2.1 (Int.toNat z10), x.2.2.2.2.2.2.2.2.2.2.2.2.1 (Int.toNat z10), x.2.2.2.2.2.2.2.2.2.2.2.2.2.1 (Int.toNat z10), x.2.2.2.2.2.2.2.2.2.2.2.2.2.2.1 (Int.toNat z10), x.2.2.2.2.2.2.2.2.2.2.2.2.2.2.2.1 (Int.toNat z10), (0 : Int)))
      else
       none
   else
    if (x.1 == (18 : Int)) = true then
     (c_Tele (x.2.2.1)).bind fun z17 =>
      dn ((false, false, w ((100 : Int) + z17.1), z17.2.1, z17.2.2.1, z17.2.2.2.1, z17.2.2.2.2.1, z17.2.2.2.2.2.1, (0 : Int)))
    else
     if (0 : Int) ≤ (0 : Int) ∧ (0 : Int) < ((x.2.2.2.1 : Nat) : Int) then
      (c_eval ((x.2.2.2.2.1 0, x.2.2.2.2.2.1 0, x.2.2.2.2.2.2.1 0, x.2.2.2.2.2.2.2.1 0, x.2.2.2.2.2.2.2.2.1 0, x.2.2.2.2.2.2.2.2.2))).bind fun z32 =>
       if (z32.2.2.2.2.2.2.2.2 != (0 : Int)) = true then
        dn z32
       else
        if (x.1 == (19 : Int)) = true then
         if (ByteArray.toList (x.2.2.1) == ByteArray.toList { data := #[(33 : UInt8)] }) = true then
          dn ((true, !z32.2.1, (0 : Int), (0 : Int), (0 : Int), (0 : Int), (0 : Int), (0 : Int), (0 : Int)))
         else
          (c_uSub (((0 : Int), z32.2.2.2.1, z32.2.2.2.2.1, z32.2.2.2.2.2.1, z32.2.2.2.2.2.2.1, z32.2.2.2.2.2.2.2.1, z32.2.2.1, z32.2.2.2.1, z32.2.2.2.2.1, z32.2.2.2.2.2.1, z32.2.2.2.2.2.2.1, z32.2.2.2.2.2.2.2.1))).bind fun z45 =>
           dn ((false, false, z45))
        else
         if (0 : Int) ≤ (1 : Int) ∧ (1 : Int) < ((x.2.2.2.1 : Nat) : Int) then
          (c_eval ((x.2.2.2.2.1 1, x.2.2.2.2.2.1 1, x.2.2.2.2.2.2.1 1, x.2.2.2.2.2.2.2.1 1, x.2.2.2.2.2.2.2.2.1 1, x.2.2.2.2.2.2.2.2.2))).bind fun z60 =>
           if (z60.2.2.2.2.2.2.2.2 != (0 : Int)) = true then
            dn z60
           else
            (c_combine ((x.2.2.1, z32.1, z32.2.1, z32.2.2.1, z32.2.2.2.1, z32.2.2.2.2.1, z32.2.2.2.2.2.1, z32.2.2.2.2.2.2.1, z32.2.2.2.2.2.2.2.1, z32.2.2.2.2.2.2.2.2, z60))).bind fun z80 =>
             dn z80
         else
          none
     else
      none
open Classical in
noncomputable def eval : Nat → a_eval → Option g_eval
  | 0, _ => none
  | q + 1, x => if OpenN x.2.2.2.2.1 then t_evalN (eval q) (Lookup q) (Find q) (Pick q) (Tele q) (uSub q) (combine q) (x.1, x.2.1, x.2.2.1, x.2.2.2.1, opK x.2.2.2.2.1, opN x.2.2.2.2.1, opS x.2.2.2.2.1, opM x.2.2.2.2.1, opF x.2.2.2.2.1, x.2.2.2.2.2) some else none
end Go.Proofs.YtniogljhkjbcgaaDoor
/- TypesSound (plain). -/
namespace Go.Proofs.YtniogljhkjbcgaaDoor
open Go Go.Am Go.Proofs
set_option linter.unusedSimpArgs false
set_option linter.unusedVariables false
set_option maxRecDepth 100000
theorem dims_ne {a b c d e a' b' c' d' e' : Int} : ((if true = true then !(a == a' && (b == b' && (c == c' && (d == d' && (e == e' && true))))) else a == a' && (b == b' && (c == c' && (d == d' && (e == e' && true))))) = true) ↔ ¬ ((a, b, c, d, e) = (a', b', c', d', e')) := by
  simp only [if_true, Bool.not_eq_true', Bool.and_true, Prod.mk.injEq]
  rw [← Bool.not_eq_true]
  simp only [Bool.and_eq_true, beq_iff_eq]
end Go.Proofs.YtniogljhkjbcgaaDoor
/- TypesSound (plain): evaluation. -/
namespace Go.Proofs.YtniogljhkjbcgaaDoor
open Go Go.Am Go.Proofs
set_option linter.unusedSimpArgs false
set_option linter.unusedVariables false
set_option maxRecDepth 100000
theorem leaf15 (T : ByteArray → Option DimT) (n : Int) (s : ByteArray) : leafV' T 15 n s = (false, numV n s) := by unfold leafV'; simp
theorem leaf16 (T : ByteArray → Option DimT) (n : Int) (s : ByteArray) : leafV' T 16 n s = (true, 0, 0, 0, 0, 0, 0) := by unfold leafV'; simp
theorem leaf17 (T : ByteArray → Option DimT) (n : Int) (s : ByteArray) : leafV' T 17 n s = (match T s with | some d => (false, d.1, d.2.1, d.2.2.1, d.2.2.2.1, d.2.2.2.2, 0) | none => badV 3) := by unfold leafV'; rw [if_neg (by decide), if_neg (by decide), if_pos rfl] <;> cases T s <;> rfl
theorem leaf18 (T : ByteArray → Option DimT) (n : Int) (s : ByteArray) : leafV' T 18 n s = if (teleV s).2.2.2.2.2.2 = true then (false, (teleV s).2.1, (teleV s).2.2.1, (teleV s).2.2.2.1, (teleV s).2.2.2.2.1, (teleV s).2.2.2.2.2.1, 0) else badV 3 := by unfold leafV'; simp
end Go.Proofs.YtniogljhkjbcgaaDoor
