/- Texts joined. -/
import Derived.Test.YtcljccpddodckaaGreatDoorQC
import Derived.Test.YtcljccpddodckaaGreatDoorProg
import Derived.Test.YtcljccpddodckaaGreatDoorRows
import Derived.Lib.Strings
import Derived.Lib.IndexMore
import Derived.Recover
import Derived.Test.YtcljccpddodckaaGreatDoorShelf
import Derived.Test.YtcljccpddodckaaGreatDoorCards
import Derived.Test.YtcljccpddodckaaGreatDoorTie
import Derived.Deep.DeepHandedRow
import Derived.Deep.DeepWitnessRowRef
import Derived.LaidMore
import Derived.Deep.LoopGhost
import Derived.Lib.Walk
import Derived.Lib.SliceRun
/- The environment of this seat: variables of the packages, library functions by contract. -/
set_option linter.unusedSimpArgs false
set_option linter.unusedVariables false
namespace Go.Proofs.YtcljccpddodckaaGreatDoor
open Go Go.Am
abbrev i64 (n : Int) : V := .sc (.int .i64 n)
abbrev bo (b : Bool) : V := .sc (.bool b)
abbrev st (s : ByteArray) : V := .sc (.string s)
def tabL : List (List V) := [
  [.sc (.string ⟨#[74]⟩), i64 1, i64 1, i64 0, i64 0, i64 0, i64 0],
  [.sc (.string ⟨#[107, 74]⟩), i64 1000, i64 1, i64 0, i64 0, i64 0, i64 0],
  [.sc (.string ⟨#[87, 104]⟩), i64 3600, i64 1, i64 0, i64 0, i64 0, i64 0],
  [.sc (.string ⟨#[66]⟩), i64 1, i64 0, i64 1, i64 0, i64 0, i64 0],
  [.sc (.string ⟨#[107, 66]⟩), i64 1000, i64 0, i64 1, i64 0, i64 0, i64 0],
  [.sc (.string ⟨#[115]⟩), i64 1, i64 0, i64 0, i64 1, i64 0, i64 0],
  [.sc (.string ⟨#[109, 105, 110]⟩), i64 60, i64 0, i64 0, i64 1, i64 0, i64 0],
  [.sc (.string ⟨#[104]⟩), i64 3600, i64 0, i64 0, i64 1, i64 0, i64 0],
  [.sc (.string ⟨#[100, 101, 103]⟩), i64 1, i64 0, i64 0, i64 0, i64 1, i64 0],
  [.sc (.string ⟨#[75]⟩), i64 1, i64 0, i64 0, i64 0, i64 0, i64 1],
  [.sc (.string ⟨#[87]⟩), i64 1, i64 1, i64 0, i64 (-1), i64 0, i64 0],
  [.sc (.string ⟨#[107, 87]⟩), i64 1000, i64 1, i64 0, i64 (-1), i64 0, i64 0],
  [.sc (.string ⟨#[66, 112, 115]⟩), i64 1, i64 0, i64 1, i64 (-1), i64 0, i64 0]]
def tabV : V := .ro 7 13 (fun j => tabL.getD j [])
def opsL : List V := [.sc (.string ⟨#[124, 124]⟩), i64 1, .sc (.string ⟨#[38, 38]⟩), i64 1, .sc (.string ⟨#[43]⟩), i64 2, .sc (.string ⟨#[45]⟩), i64 2, .sc (.string ⟨#[42]⟩), i64 3, .sc (.string ⟨#[47]⟩), i64 3, .sc (.string ⟨#[60]⟩), i64 4, .sc (.string ⟨#[60, 61]⟩), i64 4, .sc (.string ⟨#[62]⟩), i64 4, .sc (.string ⟨#[62, 61]⟩), i64 4, .sc (.string ⟨#[61, 61]⟩), i64 4, .sc (.string ⟨#[33, 61]⟩), i64 4]
def globF : Nat → Option (List V)
  | 0 => some [tabV]
  | 2 => some opsL
  | _ => none
def extF (f : FuncId) (args : List V) : Option V :=
  if f = 117 then match args with
    | [.sc (.string s), .sc (.string sub)] => if s.size < 4294967281 then some (bo (Lib.contains s.data.toList sub.data.toList)) else none
    | _ => none
  else if f = 89 then match args with
    | [.sc (.string s), .sc (.int .u8 c)] => some (i64 (Lib.indexByte s.data.toList (UInt8.ofNat c.toNat)))
    | _ => none
  else none
def way (a b : Nat) : Am.Way := if b ∈ [63, 79, 80, 94, 118, 119, 120, 121, 122, 123, 124, 125, 136, 144, 145] then .giveM else if b ∈ [48, 60, 21] then .give else if b ∈ [22, 7, 8] then .lend else .plain
def litF (f : FuncId) : Bool := f == 9
def dfnF (f : FuncId) : Bool := f == 48
def idleF (f : FuncId) : Option Nat := if f = 61 then some 3 else none
open Go.RowKit
set_option linter.unusedVariables false
noncomputable def E : Env := { P := Tryz.prog, glob := globF, ext := extF, way := way, lit := litF, code := fun f => (Tryz.prog.funcs[f]?).bind annF, inv := [(1, intCell .i64)], dfn := dfnF, idle := idleF }
noncomputable def E0 : Env := { P := Tryz.prog, glob := fun _ => none, ext := fun _ _ => none, way := fun _ _ => .plain, lit := fun _ => false, code := fun f => (Tryz.prog.funcs[f]?).bind annF }
noncomputable def rest65 : ACode := match E0.code 61 with | some (.seq _ b) => b | _ => .skip
def fr65 : List V := [.junk, .junk, .junk, .sc .nilIface] ++ List.replicate 2 (.sc undef) ++ [.sc .nilIface] ++ List.replicate 13 (.sc undef)
def T0 : CallT := fun _ _ _ _ => none
def L0 : LoopT := fun _ _ _ _ _ => none
def isNormal : Ex → Bool | .normal => true | _ => false
theorem run65 : execK E0 T0 L0 rest65 { fr := fr65, H := hp [], nx := 0, rt := 0, me := 61 } (fun e _ => if isNormal e then some (.c (.pan .junk)) else none) = some (.c (.pan .junk)) := by kernel_rfl
theorem body65 (a : Act) (w : World) (hd : a.defers = []) (ht : denL (fun _ => none) (fun _ => False) w (fun _ => False) fr65 a.tmps.toList) : Code.wp Tryz.prog rest65.erase (fun e a' w' => e = .normal ∧ a'.defers = [] ∧ Below w.heap.size w w') a w := by
  obtain ⟨e, s', h1, h2⟩ := exec_sound (E := E0) (ca := T0) (lo := L0) (fun _ _ _ _ _ h => by cases h) (SoundX.none fun _ _ => rfl) (fun _ _ _ _ _ _ h => by cases h) rest65 _ _ _ run65
  split at h1
  case isFalse => cases h1
  rename_i he
  have he : e = .normal := by cases e <;> simp_all [isNormal]
  subst he
  refine wp_mono (h2 (fun _ => none) (fun _ => False) (fun _ => False) a w ⟨ht, ⟨fun i c hc => (by simp [hp] at hc), fun _ _ => rfl, fun i b m h => (by cases h), fun i b m h => (by cases h), fun i j b m m' h => (by cases h), fun b hb => hb.elim⟩, ⟨fun _ => hd, fun d h => (by rw [hd] at h; cases h)⟩, fun i hi => hi.elim, ⟨fun g cs h => (by cases h), fun p hp => (by cases hp)⟩, fun i hi => absurd hi (Nat.not_lt_zero i)⟩) fun e' a' w' hp => ?_
  obtain ⟨β', S', D', q1, q2, q3, q4, q5, q6⟩ := hp.ex
  cases e' <;> simp only [ExR] at q1
  exact ⟨rfl, q2.df.1 rfl, below_of_evo q3⟩
theorem idle65 : Idle Tryz.prog 61 3 := by
  intro us w hus
  refine ⟨?_, ?_⟩
  · have hb : ∃ fn, Tryz.prog.funcs[61]? = some fn ∧ fn.body.isSome = true ∧ fn.name ≠ "runtime.NumGoroutine" := ⟨_, Tryz.func61, by kernel_rfl, by intro e; exact absurd e (by decide +kernel)⟩
    obtain ⟨fn, h1, h2, h3⟩ := hb
    have hb : ¬ fn.body = none := by intro hb; rw [hb] at h2; cases h2
    simp [callFunc, Sem.run_bind, h1, h3, hb, program, Sem.run]
  · match us, hus with
    | ⟨[x, y, z]⟩, _ =>
      refine callsD_of_wpS Tryz.func61 rfl fun c₀ cs hu => ?_
      apply wpS_seq
      apply wpS_region
      simp [wpOpsS, go_sem, recoverD, hu, Tryz.ntmps61, Exit.thenS]
      refine wpS_of_wp ?_
      refine (congrArg (fun c => Code.wp Tryz.prog c _ _ _) (?_ : rest65.erase = _)).mp (wp_mono (body65 _ w rfl ?_) ?_)
      · kernel_rfl
      · simp [fr65, denL, den]
        exact ⟨_, _, ⟨rfl, rfl⟩, _, _, rfl, _, rfl⟩
      · rintro e a' w' ⟨rfl, hd, hb⟩
        refine ⟨hd, _, ?_, _, by simp [results, Tryz.results61, go_sem]; rfl, ⟨_, rfl⟩, rfl, hb⟩
        cases c₀; simp_all
set_option maxRecDepth 100000 in
theorem hW : WF E := WF.of E (fun _ => rfl) (by kernel_rfl) (fun g n h => by
  have h' : idleF g = some n := h
  unfold idleF at h'
  split at h'
  · rename_i hg; subst hg; cases h'; exact idle65
  · cases h')
end Go.Proofs.YtcljccpddodckaaGreatDoor
/- The library's contracts, as the environment has them; the examples hold. -/
set_option linter.unusedSimpArgs false
set_option linter.unusedVariables false
namespace Go.Proofs.YtcljccpddodckaaGreatDoor
open Go Go.Am Go.RowKit
set_option linter.unusedVariables false
theorem maxLen_at {S : Pr} {w : World} (hG : Glob E S w) : ∃ m, w.cell? ⟨1, 0, none⟩ = some (.int .i64 m) := by
  obtain ⟨_, x, h1, h2⟩ := hG.inv (1, intCell .i64) (by simp [E])
  exact intCell_cell h1 h2
theorem hX : SoundX E := by
  intro f args v h
  have h' : extF f args = some v := h
  unfold extF at h'
  split at h'
  · rename_i hf; subst hf
    split at h'
    · rename_i s sub
      split at h'
      · rename_i hn
        cases h'
        refine ⟨⟨_, Tryz.func117, by kernel_rfl, by intro e; exact absurd e (by decide +kernel)⟩, rfl, fun β S D w us hd hG hS => ?_⟩
        obtain rfl : us = [.string s, .string sub] := by simpa [denL, den] using hd
        obtain ⟨m, hm⟩ := maxLen_at hG
        refine (Tryz.strings_Contains s sub m w hn hm).mono ?_
        rintro e w' ⟨rfl, rfl⟩
        exact ⟨_, S, rfl, Below.refl _ _, by simp only [den], fun _ h => h, fun _ h => .inl h⟩
      · cases h'
    · cases h'
  split at h'
  · rename_i hf; subst hf
    split at h'
    · rename_i s c
      cases h'
      refine ⟨⟨_, Tryz.func89, by kernel_rfl, by intro e; exact absurd e (by decide +kernel)⟩, rfl, fun β S D w us hd hG hS => ?_⟩
      obtain rfl : us = [.string s, .int .u8 c] := by simpa [denL, den] using hd
      refine (Tryz.strings_IndexByte s c w).mono ?_
      rintro e w' ⟨rfl, rfl⟩
      exact ⟨_, S, rfl, Below.refl _ _, by simp only [den], fun _ h => h, fun _ h => .inl h⟩
    · cases h'
  · cases h'
end Go.Proofs.YtcljccpddodckaaGreatDoor
/- What the rows list of the packages' variables; a world that holds it. -/
set_option linter.unusedSimpArgs false
set_option linter.unusedVariables false
namespace Go.Proofs.YtcljccpddodckaaGreatDoor
open Go Go.Am Go.RowKit
theorem packed : packB Tryz.prog = true := by kernel_rfl
abbrev laidL : List (String × DataW Unit) := Rows.compileVerifyRow.laid
theorem laidPlain {W : World} (h : laidMetH Tryz.prog laidL W) : laidMet Tryz.prog laidL W := by
  rw [MakeChecks.laidMetH_plain _ _ _ (by kernel_rfl)] at h; exact h
theorem globAt0 : GlobAt Tryz.prog laidL 0 [tabV] := ⟨"perigee/unit.table", Rows.laid_perigee_unit_table, 154, 8, by simp [laidL, Rows.compileVerifyRow], by kernel_rfl, by kernel_rfl, of_decide_eq_true (by kernel_rfl), by kernel_rfl, by simp⟩
theorem globAt1 : GlobAt Tryz.prog laidL 2 opsL := ⟨"perigee/types.operators", Rows.laid_perigee_types_operators, 188, 8, by simp [laidL, Rows.compileVerifyRow], by kernel_rfl, by kernel_rfl, of_decide_eq_true (by kernel_rfl), by kernel_rfl, by simp [opsL]⟩
theorem glob_of {W : World} (h : laidMetH Tryz.prog laidL W) (hs : W.ShapedOpen Tryz.prog) : Glob E (· < W.heap.size) W := by
  have hl := laidPlain h
  refine Glob.of_laid (laid := laidL) packed hl (fun g cs hg => ?_) (fun p hp => ?_)
  · have hg' : globF g = some cs := hg
    unfold globF at hg'
    split at hg'
    · cases hg'; exact globAt0
    · cases hg'; exact globAt1
    · cases hg'
  · simp only [E, List.mem_cons, List.mem_nil_iff, or_false] at hp
    rcases hp with rfl
    exact intCell_of (cell_of_shapedOpen_int (t := 3) (zero := #[.int .i64 0]) hs (of_decide_eq_true (by kernel_rfl)) (by kernel_rfl) rfl (by kernel_rfl) (by kernel_rfl) (by kernel_rfl))
noncomputable def laidWorld (os : Os) : World := World.doorLaid Tryz.prog 4000 os
theorem laid_met0 (os : Os) (args : Array Value) : laidMet Tryz.prog laidL ((laidWorld os).forCall (fun _ _ => 0) ⟨#[], args, []⟩).memory :=
  laidMet_of_run' 8 (by kernel_rfl) (by kernel_rfl)
theorem laid_met (os : Os) (args : Array Value) : laidMetH Tryz.prog laidL ((laidWorld os).forCall (fun _ _ => 0) ⟨#[], args, []⟩).memory := by
  rw [MakeChecks.laidMetH_plain _ _ _ (by kernel_rfl)]; exact laid_met0 os args
end Go.Proofs.YtcljccpddodckaaGreatDoor
/- Slices cloned: what the library's function does, walked. -/
set_option linter.unusedSimpArgs false
set_option linter.unusedVariables false
namespace Go.Proofs.YtcljccpddodckaaGreatDoor
open Go Go.Am Go.RowKit Go.Lib
theorem ht36 : Tryz.prog.underlying 36 = some (.slice 5) := by kernel_rfl
theorem in5 : ∃ i, Tryz.prog.info? 5 = some i ∧ i.zero = some (.int .u8 0) ∧ i.size = 1 ∧ i.bytes = 1 := by
  have h : ((Tryz.prog.info? 5).map fun i => (i.zero, i.size, i.bytes)) = some (some (.int .u8 0), 1, 1) := by kernel_rfl
  obtain ⟨i, h1, h2⟩ := Option.map_eq_some_iff.1 h
  exact ⟨i, h1, congrArg Prod.fst h2, congrArg (·.2.1) h2, congrArg (·.2.2) h2⟩
set_option maxHeartbeats 2000000 in
set_option maxRecDepth 100000 in
theorem clone52_nil (n cp : Nat) (w : World) : Calls Tryz.prog 52 #[.slice none n cp] w fun e w' => e = .returned (.slice none 0 0) ∧ w' = w := by
  have q22 : ∀ (w : World) (a : Option Addr) (n c n' c' : Nat), (binOp .eql 36 (.slice a n c) (.slice none n' c')).run Tryz.prog w = .ok (.bool a.isNone) w := fun w a n c n' c' => Lib.run_eql_slice_nil w _ _ a n c n' c' ht36
  go_enter Tryz.func52, Tryz.ntmps52
  go_wp2
  go_ret
  exact ⟨rfl, rfl⟩
set_option maxHeartbeats 2000000 in
set_option maxRecDepth 100000 in
theorem clone52_some (a : Addr) (n cp : Nat) (news : List Value) (hl : news.length = n * 1) (hbig : n * 1 ≤ 140737488355328) (hn : n ≤ maxLen) (w : World) (hc : ∀ j u, news[j]? = some u → w.cell? (a.add j) = some u) (h1 : ∀ u ∈ news, u.oneCell' = true) :
    Calls Tryz.prog 52 #[.slice (some a) n cp] w fun e w' => ∃ v', e = .returned v' ∧ w'.ownsRow w.heap.size 5 1 v' n news ∧ Below w.heap.size w w' := by
  obtain ⟨i0, hi, hz0, hz1, hz2⟩ := in5
  have q22 : ∀ (w : World) (a : Option Addr) (n c n' c' : Nat), (binOp .eql 36 (.slice a n c) (.slice none n' c')).run Tryz.prog w = .ok (.bool a.isNone) w := fun w a n c n' c' => Lib.run_eql_slice_nil w _ _ a n c n' c' ht36
  have u22 : ∀ w, Sem.run Tryz.prog (underlying 36) w = .ok (TypeDesc.slice 5) w := run_underlying ht36
  have A : Aside (∀ j u, news[j]? = some u → w.cell? (a.add j) = some u) := hc
  clear hc
  go_enter Tryz.func52, Tryz.ntmps52
  go_wp2_with (at_builtin; refine wpList_append_own _ rfl _ _ 36 rfl w.heap.size 5 i0 (.int .u8 0) 1 1 ht36 hi hz0 hz1 hz2 rfl (by decide) _ _ _ rfl (World.ownsRow_made w #[] 0 (Nat.le_refl _) (Nat.zero_le _) rfl) a n cp news rfl ?qc1 ?qc2 ?qc3 ?qc4 ?qc5 ?qc6 ?_)
  case qc1 => exact hl
  case qc2 => intro j u hj; exact Lib.cell?_alloc_some _ (A.out j u hj)
  case qc3 => exact h1
  case qc4 => simpa using hn
  case qc5 => simpa using hbig
  case qc6 => simp
  intro v' w1 hown hgrow hnil
  go_wp2
  go_ret
  refine ⟨v', rfl, by simpa using hown, ?_⟩
  exact ((Below.refl _ w).alloc (Nat.le_refl _) _).grown hgrow (by simp) (by intro k hk; simp [Value.ownBlock] at hk; omega)
theorem clone52 : CloneLaw Tryz.prog 52 5 1 1 := by
  refine ⟨⟨_, Tryz.func52, by kernel_rfl, by intro e; exact absurd e (by decide +kernel)⟩, fun w A ad n cap us hr hm hA hus => ?_⟩
  cases A with
  | none =>
    have hn : n = 0 := by
      cases n with
      | zero => rfl
      | succ n => exact absurd (hA (Nat.succ_pos n)) (by simp)
    subst hn
    refine (clone52_nil 0 cap w).mono ?_
    rintro e w' ⟨rfl, rfl⟩
    exact ⟨_, rfl, ⟨by simp, .inl ⟨rfl, rfl⟩⟩, Below.refl _ _⟩
  | some a =>
    have hlen : (((List.range n).map us).flatten).length = n * 1 := by
      have h : ∀ m, m ≤ n → (((List.range m).map us).flatten).length = m * 1 := by
        intro m
        induction m with
        | zero => intro _; rfl
        | succ m ih =>
          intro hm
          rw [List.range_succ, List.map_append, List.flatten_append, List.length_append, ih (by omega)]
          simp [(hus m (by omega)).1]
          all_goals omega
      exact h n (Nat.le_refl _)
    refine clone52_some a n cap _ hlen hr hm w ?_ ?_
    · intro j u hj
      have hjl : j < n * 1 := by rw [← hlen]; exact (List.getElem?_eq_some_iff.1 hj).1
      have hq : j / 1 < n := by omega
      have e0 : a = ad := by have := hA (by omega); simpa using this
      subst e0
      have h1 := news_get (us := us) (fun j hj => (hus j hj).1) hq (i := j % 1) (by omega)
      have e1 : j / 1 * 1 + j % 1 = j := by omega
      rw [e1, hj] at h1
      have := (hus (j / 1) hq).2.2 (j % 1) u h1.symm
      rw [e1] at this
      exact this
    · intro u hu
      rw [List.mem_flatten] at hu
      obtain ⟨l, hl, hul⟩ := hu
      obtain ⟨q, hq, rfl⟩ := List.mem_map.1 hl
      exact List.all_eq_true.1 (hus q (List.mem_range.1 hq)).2.1 u hul

end Go.Proofs.YtcljccpddodckaaGreatDoor
/- For closed runs. -/
set_option linter.unusedSimpArgs false
set_option linter.unusedVariables false
namespace Go.Proofs.YtcljccpddodckaaGreatDoor
open Go Go.Am
def maskTab : List (Nat × List (Nat × Nat)) := [(4, [(0, 806), (2, 15622)]), (7, [(0, 962072674306), (2, 33849922949209616891773058)]), (10, [(0, 993)]), (11, [(0, 29360136)]), (13, [(0, 26)]), (14, [(0, 116)]), (15, [(0, 44)]), (16, [(0, 436)]), (18, [(0, 28720)]), (19, [(0, 393226), (2, 939524136)]), (20, [(0, 10), (2, 178)]), (21, [(0, 29360256)]), (22, [(0, 35)]), (30, [(0, 9)]), (40, [(0, 118)]), (47, [(0, 25), (2, 41), (4, 873)]), (48, [(0, 92)]), (49, [(0, 57354)]), (50, [(0, 14358)]), (51, [(0, 3)]), (60, [(0, 65633)]), (63, [(0, 114701)]), (64, [(0, 901)]), (69, [(0, 259)]), (74, [(0, 4194356)]), (79, [(0, 9)]), (80, [(0, 13)]), (86, [(0, 1793)]), (92, [(0, 1835017)]), (96, [(0, 939524518)]), (109, [(0, 897)]), (136, [(1, 51)]), (139, [(0, 97)]), (142, [(0, 98304)]), (143, [(1, 2019)]), (150, [(0, 995), (2, 1507)]), (151, [(0, 49), (2, 464)])]
noncomputable def EL : Env := { P := Tryz.prog, glob := globF, ext := extF, way := way, lit := litF, code := annFL maskTab Tryz.prog, inv := [(1, intCell .i64)], dfn := dfnF, idle := idleF, push := false }
set_option maxRecDepth 100000 in
theorem hWL : WF EL := WF.ofL EL maskTab rfl (by kernel_rfl) (fun g n h => by
  have h' : idleF g = some n := h
  unfold idleF at h'
  split at h'
  · rename_i hg; subst hg; cases h'; exact idle65
  · cases h')
theorem hXL : SoundX EL := fun f args v h => by
  obtain ⟨h1, h2, h3⟩ := hX f args v h
  exact ⟨h1, h2, fun β S D w us a b c => h3 β S D w us a ⟨b.rd, b.inv⟩ c⟩
theorem scL {f : FuncId} {args : List V} {L : List (Option Chunk)} {cr : CRes} (h : SC EL f args L cr) : SC E f args L cr :=
  ⟨h.1, fun β S w us h1 h2 h3 => h.2 β S w us h1 h2 ⟨h3.rd, h3.inv⟩⟩
end Go.Proofs.YtcljccpddodckaaGreatDoor
/- An example of the chapter, run. -/
set_option linter.unusedSimpArgs false
set_option linter.unusedVariables false
namespace Go.Proofs.YtcljccpddodckaaGreatDoor
open Go Go.Am
def src1 : ByteArray := ⟨#[112, 114, 111, 99, 101, 100, 117, 114, 101, 32, 112, 40, 120, 41, 32, 123, 32, 105, 102, 32, 120, 32, 62, 32, 49, 32, 123, 32, 101, 109, 105, 116, 32, 52, 59, 32, 125, 32, 119, 97, 105, 116, 32, 50, 32, 109, 105, 110, 59, 32, 125]⟩
def ins1 : List (List V) := [[i64 2, i64 0], [i64 1, i64 1], [i64 11, i64 0], [i64 13, i64 0], [i64 15, i64 6], [i64 26, i64 4], [i64 18, i64 120], [i64 28, i64 0]]
def cod1 : V := .tup [.ro 4 1 (fun j => [[st ⟨#[112]⟩, i64 1, i64 1, .ro 2 8 (fun j => ins1.getD j [])]].getD j []), i64 0]
theorem bld1 : SC E 21 [st src1] [] (.ret cod1 []) := scL (SC.closedEnd hWL hXL 80 20 _ (by kernel_rfl))
end Go.Proofs.YtcljccpddodckaaGreatDoor
/- An example of the chapter, run. -/
set_option linter.unusedSimpArgs false
set_option linter.unusedVariables false
namespace Go.Proofs.YtcljccpddodckaaGreatDoor
open Go Go.Am
def src2 : ByteArray := ⟨#[112, 114, 111, 99, 101, 100, 117, 114, 101, 32, 113, 40, 41, 32, 123, 32, 114, 101, 112, 101, 97, 116, 32, 51, 32, 123, 32, 117, 115, 101, 32, 50, 32, 102, 111, 114, 32, 53, 32, 115, 59, 32, 125, 32, 125]⟩
def ins2 : List (List V) := [[i64 16, i64 3], [i64 23, i64 2000005], [i64 17, i64 1], [i64 28, i64 0]]
def cod2 : V := .tup [.ro 4 1 (fun j => [[st ⟨#[113]⟩, i64 0, i64 0, .ro 2 4 (fun j => ins2.getD j [])]].getD j []), i64 0]
theorem bld2 : SC E 21 [st src2] [] (.ret cod2 []) := scL (SC.closedEnd hWL hXL 80 20 _ (by kernel_rfl))
end Go.Proofs.YtcljccpddodckaaGreatDoor
/- The examples of the chapter hold. -/
set_option linter.unusedSimpArgs false
set_option linter.unusedVariables false
namespace Go.Proofs.YtcljccpddodckaaGreatDoor
open Go Go.Am Go.RowKit
theorem sc_toX {E : Env} {f : FuncId} {args : List V} {v : V} (h : SC E f args [] (.ret v [])) (hp' : v.pure = true) (ha : pureL args = true) (β : Bt) (S D : Pr) (w : World) (us : List Value) (hd : denL β S w D args us) (hG : Glob E S w) (hS : ∀ b, S b → b < w.heap.size) :
    Calls E.P f us.toArray w fun e w' => ∃ u S', e = .returned u ∧ Below w.heap.size w w' ∧ den (fun _ => none) S' w' (fun _ => False) v u ∧ (∀ b, S b → S' b) ∧ ∀ b, S' b → S b ∨ (w.heap.size ≤ b ∧ b < w'.heap.size) := by
  refine (h.2 (fun _ => none) S w us (denL_pure (fun _ h => h) (fun _ _ => rfl) _ _ ha hd) ⟨fun i c hc => (by simp [hp] at hc), fun _ _ => rfl, fun i b m h => (by cases h), fun i b m h => (by cases h), fun i j b m m' h => (by cases h), hS⟩ hG).mono ?_
  rintro e w' ⟨u, β', S', rfl, g1, g2, g3, g4⟩
  refine ⟨u, S', rfl, below_of_evo g3, den_pure (fun _ h => h) (fun _ _ => rfl) _ _ hp' g2, g3.sub, fun b hb => ?_⟩
  rcases g3.newS b hb with h | h | ⟨i, m, _, h⟩
  · exact .inl h
  · exact .inr ⟨h, g1.st b hb⟩
  · cases h
noncomputable def extG (f : FuncId) (args : List V) : Option V :=
  if f = 21 then match args with
    | [.sc (.string s)] => if s = src1 then some cod1 else if s = src2 then some cod2 else none
    | _ => none
  else extF f args
noncomputable def EM : Env := { P := Tryz.prog, glob := globF, ext := extG, way := way, lit := litF, code := annFL maskTab Tryz.prog, inv := [(1, intCell .i64)], dfn := dfnF, idle := idleF, push := false }
theorem hXM : SoundX EM := fun f args v h => by
  have h' : extG f args = some v := h
  unfold extG at h'
  split at h'
  · rename_i hf; subst hf
    have hcal : callable EM.P 21 := ⟨_, Tryz.func21, by kernel_rfl, by intro e; exact absurd e (by decide +kernel)⟩
    have key : ∀ (s : ByteArray) (x : V), x.pure = true → SC E 21 [st s] [] (.ret x []) → some x = some v → args = [.sc (.string s)] → callable EM.P 21 ∧ v.pure = true ∧ ∀ (β : Bt) (S D : Pr) (w : World) (us : List Value), denL β S w D args us → Glob EM S w → (∀ b, S b → b < w.heap.size) →
        Calls EM.P 21 us.toArray w fun e w' => ∃ u S', e = .returned u ∧ Below w.heap.size w w' ∧ den (fun _ => none) S' w' (fun _ => False) v u ∧ (∀ b, S b → S' b) ∧ ∀ b, S' b → S b ∨ (w.heap.size ≤ b ∧ b < w'.heap.size) := by
      rintro s x hx hs hv rfl
      cases hv
      exact ⟨hcal, hx, fun β S D w us hd hG hS => sc_toX hs hx rfl β S D w us hd ⟨hG.rd, hG.inv⟩ hS⟩
    split at h'
    · rename_i s
      split at h'
      · rename_i e; subst e; exact key _ _ rfl bld1 h' rfl
      split at h'
      · rename_i e; subst e; exact key _ _ rfl bld2 h' rfl
      · cases h'
    · cases h'
  · obtain ⟨g1, g2, g3⟩ := hX f args v h'
    exact ⟨g1, g2, fun β S D w us a b c => g3 β S D w us a ⟨b.rd, b.inv⟩ c⟩
set_option maxRecDepth 100000 in
theorem hWM : WF EM := hWL
theorem scM {f : FuncId} {args : List V} {L : List (Option Chunk)} {cr : CRes} (h : SC EM f args L cr) : SC E f args L cr :=
  ⟨h.1, fun β S w us h1 h2 h3 => h.2 β S w us h1 h2 ⟨h3.rd, h3.inv⟩⟩
theorem lives_true : SC E 9 [] [] (.ret (bo true) []) := scM (SC.closedQ hWM hXM 80 (by kernel_rfl))
end Go.Proofs.YtcljccpddodckaaGreatDoor
/- CompileEncode, CompileDecode, lifted. -/
namespace Go.Proofs.YtcljccpddodckaaGreatDoor
open Go Go.Am Go.Proofs
set_option linter.unusedSimpArgs false
set_option linter.unusedVariables false
set_option maxRecDepth 100000
abbrev nilS : V := .sc (.slice none 0 0)
abbrev u8 (n : Int) : V := .sc (.int .u8 n)
abbrev u64 (n : Int) : V := .sc (.int .u64 n)
def K : CRes → Option Ans := fun r => some (.c r)
abbrev w (n : Int) : Int := IntKind.wrap .i64 n
def jk (n : Nat) : List V := List.replicate n .junk
def way9 (a b : Nat) : Am.Way := if b ∈ [11, 13, 14, 16] then .giveM else .plain
noncomputable def E9 : Env := { P := Tryz.prog, glob := globF, ext := fun _ _ => none, way := way9, lit := fun _ => false, code := fun f => (Tryz.prog.funcs[f]?).bind annF, sett := fun _ => true, rows := true, inv := [(1, intCell .i64)] }
theorem hW9 : WF E9 := WF.of E9 (fun _ => rfl) (by kernel_rfl)
theorem hX9 : SoundX E9 := SoundX.none fun _ _ => rfl
theorem sc9 {f : FuncId} {args : List V} {L : List (Option Chunk)} {cr : CRes} : SC E9 f args L cr ↔ SC E f args L cr :=
  ⟨fun h => ⟨h.1, fun β S w us h1 h2 h3 => h.2 β S w us h1 h2 ⟨h3.rd, h3.inv⟩⟩, fun h => ⟨h.1, fun β S w us h1 h2 h3 => h.2 β S w us h1 h2 ⟨h3.rd, h3.inv⟩⟩⟩
abbrev a_cloneO : Type := Nat × Nat × Nat × (Nat → Int)
abbrev g_cloneO : Type := Nat × (Nat → Int) × Nat × (Nat → Int)
def A_cloneO : a_cloneO → List V × List (Option Chunk) := (fun x => (fun (o : Nat) (l : Nat) (n : Nat) (f : Nat → Int) => (([.sl 0 1 o l] : List V), ([some (.row 5 1 n (fun j => [u8 (f j)]))] : List (Option Chunk)))) x.1 x.2.1 x.2.2.1 x.2.2.2)
def d_cloneO (t : List V × List (Option Chunk)) : a_cloneO := (vSlO (t.1.getD 0 .junk), vSlN (t.1.getD 0 .junk), (chN (t.2.getD 0 none)), (fun j => (vI ((chF (t.2.getD 0 none) j).getD 0 .junk))))
theorem i_cloneO : ∀ x y, A_cloneO x = A_cloneO y → x = y := fun x y h => (congrArg d_cloneO h :)
def R_cloneO : g_cloneO → CRes := (fun z => (fun (n : Nat) (f : Nat → Int) (l : Nat) (g : Nat → Int) => .ret (.sl 1 1 0 l) [some (.row 5 1 n (fun j => [u8 (f j)])), some (.row 5 1 l (fun j => [u8 (g j)]))]) z.1 z.2.1 z.2.2.1 z.2.2.2 : (Nat × (Nat → Int) × Nat × (Nat → Int)) → CRes)
def x_cloneO (z : g_cloneO) (k : CRes → Option Ans) : Option Ans := k (R_cloneO z)
theorem xe_cloneO : ∀ z k, x_cloneO z k = k (R_cloneO z) := fun z k => rfl
noncomputable def cloneO (q : Nat) (x : a_cloneO) : Option g_cloneO := if x.1 + x.2.1 ≤ x.2.2.1 ∧ x.2.1 ≤ roomBound then some (x.2.2.1, x.2.2.2, x.2.1, fun j => x.2.2.2 (x.1 + j)) else none
theorem sc_cloneO (q : Nat) : ∀ (x : a_cloneO) (z : g_cloneO), cloneO q x = some z → SC E9 52 (A_cloneO x).1 (A_cloneO x).2 (R_cloneO z) := by
  rintro ⟨o, l, n, f⟩ z h
  unfold cloneO at h
  split at h
  · rename_i hn
    cases h
    obtain ⟨h1, h2⟩ := hn
    simp only at h1 h2
    exact clone_sc (E := E9) (L := [some (.row 5 1 n (fun j => [u8 (f j)]))]) (x := .sl 0 1 o l) (m := l) (g := fun j => [u8 (f (o + j))]) (by decide) clone52 (by simp [elemsOf, hp, h1]) (.inl rfl) (by unfold roomBound at h2 ⊢; omega) (by unfold roomBound at h2; unfold Go.maxLen; omega)
  · cases h
abbrev a_cloneR : Type := Nat × (Nat → Int)
abbrev g_cloneR : Type := Nat × (Nat → Int)
def A_cloneR : a_cloneR → List V × List (Option Chunk) := (fun x => (fun (n : Nat) (f : Nat → Int) => (([.ro 1 n (fun j => [u8 (f j)])] : List V), ([] : List (Option Chunk)))) x.1 x.2)
def d_cloneR (t : List V × List (Option Chunk)) : a_cloneR := ((vRoN (t.1.getD 0 .junk)), (fun j => (vI ((vRoF (t.1.getD 0 .junk) j).getD 0 .junk))))
theorem i_cloneR : ∀ x y, A_cloneR x = A_cloneR y → x = y := fun x y h => (congrArg d_cloneR h :)
def R_cloneR : g_cloneR → CRes := (fun z => (fun (n : Nat) (f : Nat → Int) => .ret (.sl 0 1 0 n) [some (.row 5 1 n (fun j => [u8 (f j)]))]) z.1 z.2 : (Nat × (Nat → Int)) → CRes)
def x_cloneR (z : g_cloneR) (k : CRes → Option Ans) : Option Ans := k (R_cloneR z)
theorem xe_cloneR : ∀ z k, x_cloneR z k = k (R_cloneR z) := fun z k => rfl
noncomputable def cloneR (q : Nat) (x : a_cloneR) : Option g_cloneR := if x.1 ≤ roomBound then some x else none
theorem sc_cloneR (q : Nat) : ∀ (x : a_cloneR) (z : g_cloneR), cloneR q x = some z → SC E9 52 (A_cloneR x).1 (A_cloneR x).2 (R_cloneR z) := by
  rintro ⟨n, f⟩ z h
  unfold cloneR at h
  split at h
  · rename_i hn
    cases h
    have hn : n ≤ roomBound := hn
    exact clone_sc (E := E9) (L := []) (x := .ro 1 n (fun j => [u8 (f j)])) (by decide) clone52 rfl (.inl rfl) (by unfold roomBound at hn ⊢; omega) (by unfold roomBound at hn; unfold Go.maxLen; omega)
  · cases h
abbrev a_lives : Type := Unit
abbrev g_lives : Type := Bool
def A_lives : a_lives → List V × List (Option Chunk) := (fun _ => (([] : List V), ([] : List (Option Chunk))))
def d_lives (t : List V × List (Option Chunk)) : a_lives := ()
theorem i_lives : ∀ x y, A_lives x = A_lives y → x = y := fun x y h => (congrArg d_lives h :)
def R_lives : g_lives → CRes := (fun z => (fun (b : Bool) => .ret (bo b) []) z : (Bool) → CRes)
def x_lives (z : g_lives) (k : CRes → Option Ans) : Option Ans := k (R_lives z)
theorem xe_lives : ∀ z k, x_lives z k = k (R_lives z) := fun z k => rfl
noncomputable def lives (q : Nat) (x : a_lives) : Option g_lives := some true
theorem sc_lives (q : Nat) : ∀ (x : a_lives) (z : g_lives), lives q x = some z → SC E9 9 (A_lives x).1 (A_lives x).2 (R_lives z) := by
  intro x z h
  cases h
  exact sc9.2 lives_true
abbrev a_putA : Type := Int × Nat × (Nat → Int)
abbrev g_putA : Type := Nat × (Nat → Int)
def A_putA : a_putA → List V × List (Option Chunk) := (fun x => (fun (v : Int) (n : Nat) (f : Nat → Int) => (([.ptr 0 0, u64 v] : List V), ([some (.blk [.sl 1 1 0 n]), some (.row 5 1 n (fun j => [u8 (f j)]))] : List (Option Chunk)))) x.1 x.2.1 x.2.2)
def d_putA (t : List V × List (Option Chunk)) : a_putA := ((vI (t.1.getD 1 .junk)), (vSlN ((chB (t.2.getD 0 none)).getD 0 .junk)), (fun j => (vI (((chF (t.2.getD 1 none)) j).getD 0 .junk))))
theorem i_putA : ∀ x y, A_putA x = A_putA y → x = y := fun x y h => (congrArg d_putA h :)
def R_putA : g_putA → CRes := (fun z => CRes.ret (V.tup []) [some (Chunk.blk [V.sl 1 1 0 (z.1)]), some (Chunk.row 5 1 (z.1) fun (j : Nat) => [V.sc (Value.int IntKind.u8 (z.2 j))])] : (Nat × (Nat → Int)) → CRes)
def x_putA (z : g_putA) (k : CRes → Option Ans) : Option Ans := k (R_putA z)
theorem xe_putA : ∀ z k, x_putA z k = k (R_putA z) := fun z k => rfl
abbrev putA_l0_a : Type := Int × Nat × (Nat → Int)
abbrev putA_l0_g : Type := Int × Nat × (Nat → Int)
def putA_l0_S (x : a_putA) (y : putA_l0_a) : St := { fr := [V.ptr 0 0, V.sc (Value.int IntKind.u64 (y.1))] ++ jk 29, H := hp [some (Chunk.blk [V.sl 1 1 0 (y.2.1)]), some (Chunk.row 5 1 (y.2.1) fun (j : Nat) => [V.sc (Value.int IntKind.u8 (y.2.2 j))])], nx := 2, rt := 1, me := 51 }
def putA_l0_d (s : St) : putA_l0_a := ((vI (s.fr.getD 1 .junk)), (vSlN ((chB (s.H 0)).getD 0 .junk)), (fun j => (vI (((chF (s.H 1)) j).getD 0 .junk))))
theorem putA_l0_i (x : a_putA) : ∀ y y', putA_l0_S x y = putA_l0_S x y' → y = y' := fun y y' h => (congrArg putA_l0_d h :)
def putA_l0_T (x : a_putA) : putA_l0_g → Ex × St := (fun z => (Ex.exit 0, { fr := [V.ptr 0 0, V.sc (Value.int IntKind.u64 (z.1))] ++ jk 29, H := hp [some (Chunk.blk [V.sl 1 1 0 (z.2.1)]), some (Chunk.row 5 1 (z.2.1) fun (j : Nat) => [V.sc (Value.int IntKind.u8 (z.2.2 j))])], nx := 2, rt := 1, me := 51 }))
def putA_l0_x (x : a_putA) (z : putA_l0_g) (k : KX) : Option Ans := k (putA_l0_T x z).1 (putA_l0_T x z).2
theorem putA_l0_xe (x : a_putA) : ∀ z k, putA_l0_x x z k = k (putA_l0_T x z).1 (putA_l0_T x z).2 := fun z k => rfl
theorem putA_l0_k0 (x : a_putA) (z : Int × Nat × (Nat → Int)) : KCM [(0, 3)] 0 (putA_l0_T x z).1 (putA_l0_T x z).2 = some (.l (putA_l0_T x z).1 (putA_l0_T x z).2) := by kernel_rfl
def putA_l0_t {β : Type} (x : a_putA) (y : putA_l0_a) (nx : putA_l0_a → Option β) (dn : putA_l0_g → Option β) : Option β :=
 if decide (y.1 ≥ (128 : Int)) = true then
  if (y.2.1 + 1) * 1 ≤ roomBound ∧ y.2.1 + 1 ≤ maxLen ∧ y.2.1 ≤ y.2.1 then
   nx ((shrI IntKind.u64 (y.1) (7 : Int), y.2.1 + 1, fun (j : Nat) => if j < y.2.1 then y.2.2 j else orI IntKind.u8 (IntKind.wrap IntKind.u8 (y.1)) (128 : Int)))
  else
   none
 else
  dn y
theorem putA_l0_n {β : Type} (x : a_putA) (y : putA_l0_a) (nx : putA_l0_a → Option β) (dn : putA_l0_g → Option β) : putA_l0_t x y nx dn = (putA_l0_t x y (fun y => some (.inl y)) (fun z => some (.inr z))).bind fun r => Sum.elim nx dn r := by
  unfold putA_l0_t
  repeat' first | exact free_none | refine free_bind (fun z => ?_) | refine free_ite ?_ ?_ | refine free_sum (fun z => ?_) (fun z => ?_) | rfl
theorem putA_l0_r (x : a_putA) (y : putA_l0_a) (lo : LoopT) : loopK E9 ca0 lo 0 3 (bodyOf E9 51 0) (putA_l0_S x y) (KCM [(0, 3)] 0) = putA_l0_t x y (fun y => lo 0 3 (bodyOf E9 51 0) (putA_l0_S x y) (KCM [(0, 3)] 0)) (fun z => some (.l (putA_l0_T x z).1 (putA_l0_T x z).2)) := by kernel_rfl
noncomputable def putA_l0 (q : Nat) (x : a_putA) : putA_l0_a → Option putA_l0_g := lpG (fun y => putA_l0_t x y (fun y => some (.inl y)) (fun z => some (.inr z))) q
theorem putA_l0_s (q : Nat) (x : a_putA) : ∀ y z, putA_l0 q x y = some z → SL E9 (bodyOf E9 51 0) (putA_l0_S x y) (putA_l0_T x z).1 (putA_l0_T x z).2 :=
  SL.lp (LT := fun lo => lo) (T := putA_l0_T x) (S := putA_l0_S x) ca0_sound hX9 (fun lo h => h) (fun lo y => (putA_l0_r x y lo).trans (by exact putA_l0_n  _ _ _ _)) (putA_l0_k0 x) q
def t_putA {β : Type} (l_putA_l0 : putA_l0_a → Option putA_l0_g) (x : a_putA) (dn : g_putA → Option β) : Option β :=
 (l_putA_l0 x).bind fun z12 =>
  if (z12.2.1 + 1) * 1 ≤ roomBound ∧ z12.2.1 + 1 ≤ maxLen ∧ z12.2.1 ≤ z12.2.1 then
   dn ((z12.2.1 + 1, fun (j : Nat) => if j < z12.2.1 then z12.2.2 j else IntKind.wrap IntKind.u8 (z12.1)))
  else
   none
theorem n_putA {β : Type} (l_putA_l0 : putA_l0_a → Option putA_l0_g) (x : a_putA) (dn : g_putA → Option β) : t_putA l_putA_l0 x dn = (t_putA l_putA_l0 x some).bind dn := by
  unfold t_putA
  repeat' first | exact free_none | refine free_bind (fun z => ?_) | refine free_ite ?_ ?_ | refine free_sum (fun z => ?_) (fun z => ?_) | rfl
theorem r_putA (l_putA_l0 : putA_l0_a → Option putA_l0_g) (x : a_putA) : callK E9 ca0 (ltabF 0 (fun _ => true) (bodyOf E9 51 0) (putA_l0_S x) (putA_l0_x x) l_putA_l0 lo0) 51 (A_putA x).1 (A_putA x).2 K = t_putA (fun y => viaF (fun y => (bodyOf E9 51 0, putA_l0_S x y)) l_putA_l0 (bodyOf E9 51 0, putA_l0_S x y)) x (fun z => some (.c (R_putA z))) := by kernel_rfl
theorem s_putA (q : Nat) (x : a_putA) (z : g_putA) (h : t_putA (putA_l0 q x) x some = some z) : SC E9 51 (A_putA x).1 (A_putA x).2 (R_putA z) := by
  refine SC.of hW9 hX9 ca0_sound (ltabF_cons (putA_l0_s q x) (putA_l0_xe x) lo0_sound) ((r_putA (putA_l0 q x) x).trans ?_)
  rw [via_eq (pair_inj (bodyOf E9 51 0) (putA_l0_i x)) (putA_l0 q x), n_putA, h]; rfl
noncomputable def putA (q : Nat) (x : a_putA) : Option g_putA := t_putA (putA_l0 q x) x some
theorem sc_putA (q : Nat) : ∀ (x : a_putA) (z : g_putA), putA q x = some z → SC E9 51 (A_putA x).1 (A_putA x).2 (R_putA z) := fun x z h => s_putA q x z h
abbrev a_putZ : Type := Int
abbrev g_putZ : Type := (Nat → Int) × Nat
def A_putZ : a_putZ → List V × List (Option Chunk) := (fun x => (fun (v : Int) => (([.ptr 0 0, u64 v] : List V), ([some (.blk [nilS])] : List (Option Chunk)))) x)
def d_putZ (t : List V × List (Option Chunk)) : a_putZ := ((vI (t.1.getD 1 .junk)))
theorem i_putZ : ∀ x y, A_putZ x = A_putZ y → x = y := fun x y h => (congrArg d_putZ h :)
def R_putZ : g_putZ → CRes := (fun z => CRes.ret (V.tup []) [some (Chunk.blk [V.sl 1 1 0 (z.2)]), some (Chunk.row 5 1 (z.2) fun (j : Nat) => [V.sc (Value.int IntKind.u8 (z.1 j))])] : ((Nat → Int) × Nat) → CRes)
def x_putZ (z : g_putZ) (k : CRes → Option Ans) : Option Ans := k (R_putZ z)
theorem xe_putZ : ∀ z k, x_putZ z k = k (R_putZ z) := fun z k => rfl
abbrev putZ_l0_a : Type := (Unit) ⊕ (Int × Nat × (Nat → Int))
abbrev putZ_l0_g : Type := (Unit) ⊕ (Int × Nat × (Nat → Int))
def putZ_l0_S0 (x : a_putZ) (y : Unit) : St := { fr := [V.ptr 0 0, V.sc (Value.int IntKind.u64 x)] ++ jk 29, H := hp [some (Chunk.blk [nilS])], nx := 1, rt := 1, me := 51 }
def putZ_l0_d0 (s : St) : Unit := ()
def putZ_l0_S1 (x : a_putZ) (y : Int × Nat × (Nat → Int)) : St := { fr := [V.ptr 0 0, V.sc (Value.int IntKind.u64 (y.1))] ++ jk 29, H := hp [some (Chunk.blk [V.sl 1 1 0 (y.2.1)]), some (Chunk.row 5 1 (y.2.1) fun (j : Nat) => [V.sc (Value.int IntKind.u8 (y.2.2 j))])], nx := 2, rt := 1, me := 51 }
def putZ_l0_d1 (s : St) : Int × Nat × (Nat → Int) := ((vI (s.fr.getD 1 .junk)), (vSlN ((chB (s.H 0)).getD 0 .junk)), (fun j => (vI (((chF (s.H 1)) j).getD 0 .junk))))
def putZ_l0_S (x : a_putZ) : putZ_l0_a → St := (Sum.elim (putZ_l0_S0 x) (putZ_l0_S1 x))
def putZ_l0_d (s : St) : putZ_l0_a := (match s.nx == 1 with | true => (.inl (putZ_l0_d0 s)) | false => (.inr (putZ_l0_d1 s)))
theorem putZ_l0_i (x : a_putZ) : ∀ y y', putZ_l0_S x y = putZ_l0_S x y' → y = y' := fun y y' h => by rcases y with y | y <;> rcases y' with y | y <;> exact (congrArg putZ_l0_d h :)
def putZ_l0_T (x : a_putZ) : putZ_l0_g → Ex × St := (Sum.elim (fun z => (Ex.exit 0, { fr := [V.ptr 0 0, V.sc (Value.int IntKind.u64 x)] ++ jk 29, H := hp [some (Chunk.blk [nilS])], nx := 1, rt := 1, me := 51 })) (fun z => (Ex.exit 0, { fr := [V.ptr 0 0, V.sc (Value.int IntKind.u64 (z.1))] ++ jk 29, H := hp [some (Chunk.blk [V.sl 1 1 0 (z.2.1)]), some (Chunk.row 5 1 (z.2.1) fun (j : Nat) => [V.sc (Value.int IntKind.u8 (z.2.2 j))])], nx := 2, rt := 1, me := 51 })))
def putZ_l0_x (x : a_putZ) (z : putZ_l0_g) (k : KX) : Option Ans := Sum.elim (fun za => k (putZ_l0_T x (.inl za)).1 (putZ_l0_T x (.inl za)).2) (fun zb => k (putZ_l0_T x (.inr zb)).1 (putZ_l0_T x (.inr zb)).2) z
theorem putZ_l0_xe (x : a_putZ) : ∀ z k, putZ_l0_x x z k = k (putZ_l0_T x z).1 (putZ_l0_T x z).2 := fun z k => by
  rcases z with z | z <;> rfl
theorem putZ_l0_k0 (x : a_putZ) (z : Unit) : KCM [(0, 3)] 0 (putZ_l0_T x (.inl z)).1 (putZ_l0_T x (.inl z)).2 = some (.l (putZ_l0_T x (.inl z)).1 (putZ_l0_T x (.inl z)).2) := by kernel_rfl
theorem putZ_l0_k1 (x : a_putZ) (z : Int × Nat × (Nat → Int)) : KCM [(0, 3)] 0 (putZ_l0_T x (.inr z)).1 (putZ_l0_T x (.inr z)).2 = some (.l (putZ_l0_T x (.inr z)).1 (putZ_l0_T x (.inr z)).2) := by kernel_rfl
def putZ_l0_t0 {β : Type} (x : a_putZ) (y : Unit) (nx : putZ_l0_a → Option β) (dn : putZ_l0_g → Option β) : Option β :=
 if decide (x ≥ (128 : Int)) = true then
  nx (.inr ((shrI IntKind.u64 x (7 : Int), 1, fun (j : Nat) => orI IntKind.u8 (IntKind.wrap IntKind.u8 x) (128 : Int))))
 else
  dn (.inl ())
theorem putZ_l0_n0 {β : Type} (x : a_putZ) (y : Unit) (nx : putZ_l0_a → Option β) (dn : putZ_l0_g → Option β) : putZ_l0_t0 x y nx dn = (putZ_l0_t0 x y (fun y => some (.inl y)) (fun z => some (.inr z))).bind fun r => Sum.elim nx dn r := by
  unfold putZ_l0_t0
  repeat' first | exact free_none | refine free_bind (fun z => ?_) | refine free_ite ?_ ?_ | refine free_sum (fun z => ?_) (fun z => ?_) | rfl
theorem putZ_l0_r0 (x : a_putZ) (y : Unit) (lo : LoopT) : loopK E9 ca0 lo 0 3 (bodyOf E9 51 0) (putZ_l0_S x (.inl y)) (KCM [(0, 3)] 0) = putZ_l0_t0 x y (fun y => lo 0 3 (bodyOf E9 51 0) (putZ_l0_S x y) (KCM [(0, 3)] 0)) (fun z => some (.l (putZ_l0_T x z).1 (putZ_l0_T x z).2)) := by kernel_rfl
def putZ_l0_t1 {β : Type} (x : a_putZ) (y : Int × Nat × (Nat → Int)) (nx : putZ_l0_a → Option β) (dn : putZ_l0_g → Option β) : Option β :=
 if decide (y.1 ≥ (128 : Int)) = true then
  if (y.2.1 + 1) * 1 ≤ roomBound ∧ y.2.1 + 1 ≤ maxLen ∧ y.2.1 ≤ y.2.1 then
   nx (.inr ((shrI IntKind.u64 (y.1) (7 : Int), y.2.1 + 1, fun (j : Nat) => if j < y.2.1 then y.2.2 j else orI IntKind.u8 (IntKind.wrap IntKind.u8 (y.1)) (128 : Int))))
  else
   none
 else
  dn (.inr y)
theorem putZ_l0_n1 {β : Type} (x : a_putZ) (y : Int × Nat × (Nat → Int)) (nx : putZ_l0_a → Option β) (dn : putZ_l0_g → Option β) : putZ_l0_t1 x y nx dn = (putZ_l0_t1 x y (fun y => some (.inl y)) (fun z => some (.inr z))).bind fun r => Sum.elim nx dn r := by
  unfold putZ_l0_t1
  repeat' first | exact free_none | refine free_bind (fun z => ?_) | refine free_ite ?_ ?_ | refine free_sum (fun z => ?_) (fun z => ?_) | rfl
theorem putZ_l0_r1 (x : a_putZ) (y : Int × Nat × (Nat → Int)) (lo : LoopT) : loopK E9 ca0 lo 0 3 (bodyOf E9 51 0) (putZ_l0_S x (.inr y)) (KCM [(0, 3)] 0) = putZ_l0_t1 x y (fun y => lo 0 3 (bodyOf E9 51 0) (putZ_l0_S x y) (KCM [(0, 3)] 0)) (fun z => some (.l (putZ_l0_T x z).1 (putZ_l0_T x z).2)) := by kernel_rfl
noncomputable def putZ_l0 (q : Nat) (x : a_putZ) : putZ_l0_a → Option putZ_l0_g := lpG (Sum.elim (fun y => putZ_l0_t0 x y (fun y => some (.inl y)) (fun z => some (.inr z))) (fun y => putZ_l0_t1 x y (fun y => some (.inl y)) (fun z => some (.inr z)))) q
theorem putZ_l0_s (q : Nat) (x : a_putZ) : ∀ y z, putZ_l0 q x y = some z → SL E9 (bodyOf E9 51 0) (putZ_l0_S x y) (putZ_l0_T x z).1 (putZ_l0_T x z).2 :=
  SL.lp (LT := fun lo => lo) (T := putZ_l0_T x) (S := putZ_l0_S x) ca0_sound hX9 (fun lo h => h) (fun lo y => by
      rcases y with y | y
      · exact (putZ_l0_r0 x y lo).trans (by exact putZ_l0_n0  _ _ _ _)
      · exact (putZ_l0_r1 x y lo).trans (by exact putZ_l0_n1  _ _ _ _)) (fun z => by rcases z with z | z <;> first | exact putZ_l0_k0 x z | exact putZ_l0_k1 x z) q
def t_putZ {β : Type} (l_putZ_l0 : putZ_l0_a → Option putZ_l0_g) (x : a_putZ) (dn : g_putZ → Option β) : Option β :=
 (l_putZ_l0 (.inl ())).bind fun z22 =>
  Sum.elim (fun z22a =>
  dn ((fun j => IntKind.wrap IntKind.u8 x, 1))) (fun z22b =>
  if (z22b.2.1 + 1) * 1 ≤ roomBound ∧ z22b.2.1 + 1 ≤ maxLen ∧ z22b.2.1 ≤ z22b.2.1 then
   dn ((fun j => if j < z22b.2.1 then z22b.2.2 j else IntKind.wrap IntKind.u8 (z22b.1), z22b.2.1 + 1))
  else
   none) z22
theorem n_putZ {β : Type} (l_putZ_l0 : putZ_l0_a → Option putZ_l0_g) (x : a_putZ) (dn : g_putZ → Option β) : t_putZ l_putZ_l0 x dn = (t_putZ l_putZ_l0 x some).bind dn := by
  unfold t_putZ
  repeat' first | exact free_none | refine free_bind (fun z => ?_) | refine free_ite ?_ ?_ | refine free_sum (fun z => ?_) (fun z => ?_) | rfl
theorem r_putZ (l_putZ_l0 : putZ_l0_a → Option putZ_l0_g) (x : a_putZ) : callK E9 ca0 (ltabF 0 (fun _ => true) (bodyOf E9 51 0) (putZ_l0_S x) (putZ_l0_x x) l_putZ_l0 lo0) 51 (A_putZ x).1 (A_putZ x).2 K = t_putZ (fun y => viaF (fun y => (bodyOf E9 51 0, putZ_l0_S x y)) l_putZ_l0 (bodyOf E9 51 0, putZ_l0_S x y)) x (fun z => some (.c (R_putZ z))) := by kernel_rfl
theorem s_putZ (q : Nat) (x : a_putZ) (z : g_putZ) (h : t_putZ (putZ_l0 q x) x some = some z) : SC E9 51 (A_putZ x).1 (A_putZ x).2 (R_putZ z) := by
  refine SC.of hW9 hX9 ca0_sound (ltabF_cons (putZ_l0_s q x) (putZ_l0_xe x) lo0_sound) ((r_putZ (putZ_l0 q x) x).trans ?_)
  rw [via_eq (pair_inj (bodyOf E9 51 0) (putZ_l0_i x)) (putZ_l0 q x), n_putZ, h]; rfl
noncomputable def putZ (q : Nat) (x : a_putZ) : Option g_putZ := t_putZ (putZ_l0 q x) x some
theorem sc_putZ (q : Nat) : ∀ (x : a_putZ) (z : g_putZ), putZ q x = some z → SC E9 51 (A_putZ x).1 (A_putZ x).2 (R_putZ z) := fun x z h => s_putZ q x z h
abbrev a_WBytesZ : Type := Nat × (Nat → Int)
abbrev g_WBytesZ : Type := Nat × (Nat → Int)
def A_WBytesZ : a_WBytesZ → List V × List (Option Chunk) := (fun x => (fun (m : Nat) (g : Nat → Int) => (([.ptr 0 0, .ro 1 m (fun j => [u8 (g j)])] : List V), ([some (.blk [nilS])] : List (Option Chunk)))) x.1 x.2)
def d_WBytesZ (t : List V × List (Option Chunk)) : a_WBytesZ := ((vRoN (t.1.getD 1 .junk)), (fun j => (vI (((vRoF (t.1.getD 1 .junk)) j).getD 0 .junk))))
theorem i_WBytesZ : ∀ x y, A_WBytesZ x = A_WBytesZ y → x = y := fun x y h => (congrArg d_WBytesZ h :)
def R_WBytesZ : g_WBytesZ → CRes := (fun z => CRes.ret (V.tup []) [some (Chunk.blk [V.sl 1 1 0 (z.1)]), some (Chunk.row 5 1 (z.1) fun (j : Nat) => [V.sc (Value.int IntKind.u8 (z.2 j))])] : (Nat × (Nat → Int)) → CRes)
def x_WBytesZ (z : g_WBytesZ) (k : CRes → Option Ans) : Option Ans := k (R_WBytesZ z)
theorem xe_WBytesZ : ∀ z k, x_WBytesZ z k = k (R_WBytesZ z) := fun z k => rfl
def t_WBytesZ {β : Type} (c_putZ : a_putZ → Option g_putZ) (x : a_WBytesZ) (dn : g_WBytesZ → Option β) : Option β :=
 (c_putZ (IntKind.wrap IntKind.u64 ((x.1 : Nat) : Int))).bind fun z1 =>
  if (z1.2 + x.1) * 1 ≤ roomBound ∧ z1.2 + x.1 ≤ maxLen ∧ z1.2 ≤ z1.2 then
   dn ((z1.2 + x.1, fun (j : Nat) => if j < z1.2 then z1.1 j else x.2 (j - z1.2)))
  else
   none
theorem n_WBytesZ {β : Type} (c_putZ : a_putZ → Option g_putZ) (x : a_WBytesZ) (dn : g_WBytesZ → Option β) : t_WBytesZ c_putZ x dn = (t_WBytesZ c_putZ x some).bind dn := by
  unfold t_WBytesZ
  repeat' first | exact free_none | refine free_bind (fun z => ?_) | refine free_ite ?_ ?_ | refine free_sum (fun z => ?_) (fun z => ?_) | rfl
theorem r_WBytesZ (c_putZ : a_putZ → Option g_putZ) (x : a_WBytesZ) : callK E9 (ftab 51 (fun _ L => L.length == 1) A_putZ x_putZ c_putZ ca0) lo0 24 (A_WBytesZ x).1 (A_WBytesZ x).2 K = t_WBytesZ (fun x => viaF A_putZ c_putZ (A_putZ x)) x (fun z => some (.c (R_WBytesZ z))) := by kernel_rfl
theorem s_WBytesZ (c_putZ : a_putZ → Option g_putZ) (h_putZ : ∀ x z, c_putZ x = some z → SC E9 51 (A_putZ x).1 (A_putZ x).2 (R_putZ z)) (q : Nat) (x : a_WBytesZ) (z : g_WBytesZ) (h : t_WBytesZ c_putZ x some = some z) : SC E9 24 (A_WBytesZ x).1 (A_WBytesZ x).2 (R_WBytesZ z) := by
  refine SC.of hW9 hX9 (ftab_cons h_putZ xe_putZ ca0_sound) lo0_sound ((r_WBytesZ c_putZ x).trans ?_)
  rw [via_eq i_putZ c_putZ, n_WBytesZ, h]; rfl
noncomputable def WBytesZ (q : Nat) (x : a_WBytesZ) : Option g_WBytesZ := t_WBytesZ (putZ q) x some
theorem sc_WBytesZ (q : Nat) : ∀ (x : a_WBytesZ) (z : g_WBytesZ), WBytesZ q x = some z → SC E9 24 (A_WBytesZ x).1 (A_WBytesZ x).2 (R_WBytesZ z) := fun x z h => s_WBytesZ (putZ q) (sc_putZ q) q x z h
abbrev a_WIntA : Type := Int × Nat × (Nat → Int)
abbrev g_WIntA : Type := Nat × (Nat → Int)
def A_WIntA : a_WIntA → List V × List (Option Chunk) := (fun x => (fun (v : Int) (n : Nat) (f : Nat → Int) => (([.ptr 0 0, i64 v] : List V), ([some (.blk [.sl 1 1 0 n]), some (.row 5 1 n (fun j => [u8 (f j)]))] : List (Option Chunk)))) x.1 x.2.1 x.2.2)
def d_WIntA (t : List V × List (Option Chunk)) : a_WIntA := ((vI (t.1.getD 1 .junk)), (vSlN ((chB (t.2.getD 0 none)).getD 0 .junk)), (fun j => (vI (((chF (t.2.getD 1 none)) j).getD 0 .junk))))
theorem i_WIntA : ∀ x y, A_WIntA x = A_WIntA y → x = y := fun x y h => (congrArg d_WIntA h :)
def R_WIntA : g_WIntA → CRes := (fun z => CRes.ret (V.tup []) [some (Chunk.blk [V.sl 1 1 0 (z.1)]), some (Chunk.row 5 1 (z.1) fun (j : Nat) => [V.sc (Value.int IntKind.u8 (z.2 j))])] : (Nat × (Nat → Int)) → CRes)
def x_WIntA (z : g_WIntA) (k : CRes → Option Ans) : Option Ans := k (R_WIntA z)
theorem xe_WIntA : ∀ z k, x_WIntA z k = k (R_WIntA z) := fun z k => rfl
def t_WIntA {β : Type} (c_putA : a_putA → Option g_putA) (x : a_WIntA) (dn : g_WIntA → Option β) : Option β :=
 (c_putA ((xorI IntKind.u64 (shlI IntKind.u64 (IntKind.wrap IntKind.u64 (x.1)) (1 : Int)) (IntKind.wrap IntKind.u64 (shrI IntKind.i64 (x.1) (63 : Int))), x.2))).bind fun z3 =>
  dn z3
theorem n_WIntA {β : Type} (c_putA : a_putA → Option g_putA) (x : a_WIntA) (dn : g_WIntA → Option β) : t_WIntA c_putA x dn = (t_WIntA c_putA x some).bind dn := by
  unfold t_WIntA
  repeat' first | exact free_none | refine free_bind (fun z => ?_) | refine free_ite ?_ ?_ | refine free_sum (fun z => ?_) (fun z => ?_) | rfl
theorem r_WIntA (c_putA : a_putA → Option g_putA) (x : a_WIntA) : callK E9 (ftab 51 (fun _ L => L.length == 2) A_putA x_putA c_putA ca0) lo0 25 (A_WIntA x).1 (A_WIntA x).2 K = t_WIntA (fun x => viaF A_putA c_putA (A_putA x)) x (fun z => some (.c (R_WIntA z))) := by kernel_rfl
theorem s_WIntA (c_putA : a_putA → Option g_putA) (h_putA : ∀ x z, c_putA x = some z → SC E9 51 (A_putA x).1 (A_putA x).2 (R_putA z)) (q : Nat) (x : a_WIntA) (z : g_WIntA) (h : t_WIntA c_putA x some = some z) : SC E9 25 (A_WIntA x).1 (A_WIntA x).2 (R_WIntA z) := by
  refine SC.of hW9 hX9 (ftab_cons h_putA xe_putA ca0_sound) lo0_sound ((r_WIntA c_putA x).trans ?_)
  rw [via_eq i_putA c_putA, n_WIntA, h]; rfl
noncomputable def WIntA (q : Nat) (x : a_WIntA) : Option g_WIntA := t_WIntA (putA q) x some
theorem sc_WIntA (q : Nat) : ∀ (x : a_WIntA) (z : g_WIntA), WIntA q x = some z → SC E9 25 (A_WIntA x).1 (A_WIntA x).2 (R_WIntA z) := fun x z h => s_WIntA (putA q) (sc_putA q) q x z h
abbrev a_WUintA : Type := Int × Nat × (Nat → Int)
abbrev g_WUintA : Type := Nat × (Nat → Int)
def A_WUintA : a_WUintA → List V × List (Option Chunk) := (fun x => (fun (v : Int) (n : Nat) (f : Nat → Int) => (([.ptr 0 0, u64 v] : List V), ([some (.blk [.sl 1 1 0 n]), some (.row 5 1 n (fun j => [u8 (f j)]))] : List (Option Chunk)))) x.1 x.2.1 x.2.2)
def d_WUintA (t : List V × List (Option Chunk)) : a_WUintA := ((vI (t.1.getD 1 .junk)), (vSlN ((chB (t.2.getD 0 none)).getD 0 .junk)), (fun j => (vI (((chF (t.2.getD 1 none)) j).getD 0 .junk))))
theorem i_WUintA : ∀ x y, A_WUintA x = A_WUintA y → x = y := fun x y h => (congrArg d_WUintA h :)
def R_WUintA : g_WUintA → CRes := (fun z => CRes.ret (V.tup []) [some (Chunk.blk [V.sl 1 1 0 (z.1)]), some (Chunk.row 5 1 (z.1) fun (j : Nat) => [V.sc (Value.int IntKind.u8 (z.2 j))])] : (Nat × (Nat → Int)) → CRes)
def x_WUintA (z : g_WUintA) (k : CRes → Option Ans) : Option Ans := k (R_WUintA z)
theorem xe_WUintA : ∀ z k, x_WUintA z k = k (R_WUintA z) := fun z k => rfl
def t_WUintA {β : Type} (c_putA : a_putA → Option g_putA) (x : a_WUintA) (dn : g_WUintA → Option β) : Option β :=
 (c_putA x).bind fun z3 =>
  dn z3
theorem n_WUintA {β : Type} (c_putA : a_putA → Option g_putA) (x : a_WUintA) (dn : g_WUintA → Option β) : t_WUintA c_putA x dn = (t_WUintA c_putA x some).bind dn := by
  unfold t_WUintA
  repeat' first | exact free_none | refine free_bind (fun z => ?_) | refine free_ite ?_ ?_ | refine free_sum (fun z => ?_) (fun z => ?_) | rfl
theorem r_WUintA (c_putA : a_putA → Option g_putA) (x : a_WUintA) : callK E9 (ftab 51 (fun _ L => L.length == 2) A_putA x_putA c_putA ca0) lo0 26 (A_WUintA x).1 (A_WUintA x).2 K = t_WUintA (fun x => viaF A_putA c_putA (A_putA x)) x (fun z => some (.c (R_WUintA z))) := by kernel_rfl
theorem s_WUintA (c_putA : a_putA → Option g_putA) (h_putA : ∀ x z, c_putA x = some z → SC E9 51 (A_putA x).1 (A_putA x).2 (R_putA z)) (q : Nat) (x : a_WUintA) (z : g_WUintA) (h : t_WUintA c_putA x some = some z) : SC E9 26 (A_WUintA x).1 (A_WUintA x).2 (R_WUintA z) := by
  refine SC.of hW9 hX9 (ftab_cons h_putA xe_putA ca0_sound) lo0_sound ((r_WUintA c_putA x).trans ?_)
  rw [via_eq i_putA c_putA, n_WUintA, h]; rfl
noncomputable def WUintA (q : Nat) (x : a_WUintA) : Option g_WUintA := t_WUintA (putA q) x some
theorem sc_WUintA (q : Nat) : ∀ (x : a_WUintA) (z : g_WUintA), WUintA q x = some z → SC E9 26 (A_WUintA x).1 (A_WUintA x).2 (R_WUintA z) := fun x z h => s_WUintA (putA q) (sc_putA q) q x z h
abbrev a_Done : Type := Nat × (Nat → Int)
abbrev g_Done : Type := Nat × Nat × Nat × (Nat → Int) × (Nat → Int)
def A_Done : a_Done → List V × List (Option Chunk) := (fun x => (fun (n : Nat) (f : Nat → Int) => (([.ptr 0 0] : List V), ([some (.blk [.sl 1 1 0 n]), some (.row 5 1 n (fun j => [u8 (f j)]))] : List (Option Chunk)))) x.1 x.2)
def d_Done (t : List V × List (Option Chunk)) : a_Done := ((vSlN ((chB (t.2.getD 0 none)).getD 0 .junk)), (fun j => (vI (((chF (t.2.getD 1 none)) j).getD 0 .junk))))
theorem i_Done : ∀ x y, A_Done x = A_Done y → x = y := fun x y h => (congrArg d_Done h :)
def R_Done : g_Done → CRes := (fun z => CRes.ret (V.sl 2 1 0 (z.1)) [some (Chunk.blk [V.sl 1 1 0 (z.2.1)]), some (Chunk.row 5 1 (z.2.2.1) fun (j : Nat) => [V.sc (Value.int IntKind.u8 (z.2.2.2.1 j))]), some (Chunk.row 5 1 (z.1) fun (j : Nat) => [V.sc (Value.int IntKind.u8 (z.2.2.2.2 j))])] : (Nat × Nat × Nat × (Nat → Int) × (Nat → Int)) → CRes)
def x_Done (z : g_Done) (k : CRes → Option Ans) : Option Ans := k (R_Done z)
theorem xe_Done : ∀ z k, x_Done z k = k (R_Done z) := fun z k => rfl
def t_Done {β : Type} (c_cloneO : a_cloneO → Option g_cloneO) (x : a_Done) (dn : g_Done → Option β) : Option β :=
 (c_cloneO ((0, x.1, x))).bind fun z4 =>
  dn ((z4.2.2.1, x.1, z4.1, z4.2.1, z4.2.2.2))
theorem n_Done {β : Type} (c_cloneO : a_cloneO → Option g_cloneO) (x : a_Done) (dn : g_Done → Option β) : t_Done c_cloneO x dn = (t_Done c_cloneO x some).bind dn := by
  unfold t_Done
  repeat' first | exact free_none | refine free_bind (fun z => ?_) | refine free_ite ?_ ?_ | refine free_sum (fun z => ?_) (fun z => ?_) | rfl
theorem r_Done (c_cloneO : a_cloneO → Option g_cloneO) (x : a_Done) : callK E9 (ftab 52 (fun _ L => L.length == 1) A_cloneO x_cloneO c_cloneO ca0) lo0 27 (A_Done x).1 (A_Done x).2 K = t_Done (fun x => viaF A_cloneO c_cloneO (A_cloneO x)) x (fun z => some (.c (R_Done z))) := by kernel_rfl
theorem s_Done (c_cloneO : a_cloneO → Option g_cloneO) (h_cloneO : ∀ x z, c_cloneO x = some z → SC E9 52 (A_cloneO x).1 (A_cloneO x).2 (R_cloneO z)) (q : Nat) (x : a_Done) (z : g_Done) (h : t_Done c_cloneO x some = some z) : SC E9 27 (A_Done x).1 (A_Done x).2 (R_Done z) := by
  refine SC.of hW9 hX9 (ftab_cons h_cloneO xe_cloneO ca0_sound) lo0_sound ((r_Done c_cloneO x).trans ?_)
  rw [via_eq i_cloneO c_cloneO, n_Done, h]; rfl
noncomputable def Done (q : Nat) (x : a_Done) : Option g_Done := t_Done (cloneO q) x some
theorem sc_Done (q : Nat) : ∀ (x : a_Done) (z : g_Done), Done q x = some z → SC E9 27 (A_Done x).1 (A_Done x).2 (R_Done z) := fun x z h => s_Done (cloneO q) (sc_cloneO q) q x z h
abbrev a_Encode : Type := ByteArray × Int × Int × Nat × (Nat → Int) × (Nat → Int)
abbrev g_Encode : Type := Nat × (Nat → Int)
def A_Encode : a_Encode → List V × List (Option Chunk) := (fun x => (fun (nm : ByteArray) (ps : Int) (vs : Int) (n : Nat) (op : Nat → Int) (ar : Nat → Int) => (([.agg [st nm, i64 ps, i64 vs, .ro 2 n (fun j => [i64 (op j), i64 (ar j)])]] : List V), ([] : List (Option Chunk)))) x.1 x.2.1 x.2.2.1 x.2.2.2.1 x.2.2.2.2.1 x.2.2.2.2.2)
def d_Encode (t : List V × List (Option Chunk)) : a_Encode := ((vS ((vAg (t.1.getD 0 .junk)).getD 0 .junk)), (vI ((vAg (t.1.getD 0 .junk)).getD 1 .junk)), (vI ((vAg (t.1.getD 0 .junk)).getD 2 .junk)), (vRoN ((vAg (t.1.getD 0 .junk)).getD 3 .junk)), (fun j => (vI (((vRoF ((vAg (t.1.getD 0 .junk)).getD 3 .junk)) j).getD 0 .junk))), (fun j => (vI (((vRoF ((vAg (t.1.getD 0 .junk)).getD 3 .junk)) j).getD 1 .junk))))
theorem i_Encode : ∀ x y, A_Encode x = A_Encode y → x = y := fun x y h => (congrArg d_Encode h :)
def R_Encode : g_Encode → CRes := (fun z => CRes.ret (V.sl 0 1 0 (z.1)) [some (Chunk.row 5 1 (z.1) fun (j : Nat) => [V.sc (Value.int IntKind.u8 (z.2 j))])] : (Nat × (Nat → Int)) → CRes)
def x_Encode (z : g_Encode) (k : CRes → Option Ans) : Option Ans := k (R_Encode z)
theorem xe_Encode : ∀ z k, x_Encode z k = k (R_Encode z) := fun z k => rfl
abbrev Encode_l0_a : Type := Nat × (Nat → Int) × Int
abbrev Encode_l0_g : Type := Nat × (Nat → Int)
def Encode_l0_S (x : a_Encode) (y : Encode_l0_a) : St := { fr := [V.junk, V.junk, V.junk, V.ptr 0 0] ++ jk 18 ++ [V.ro 2 (x.2.2.2.1) fun (j : Nat) => [i64 (x.2.2.2.2.1 j), i64 (x.2.2.2.2.2 j)], i64 ((x.2.2.2.1 : Nat) : Int), i64 (y.2.2)] ++ jk 11, H := hp [some (Chunk.blk [V.sl 1 1 0 (y.1)]), some (Chunk.row 5 1 (y.1) fun (j : Nat) => [V.sc (Value.int IntKind.u8 (y.2.1 j))])], nx := 2, rt := 0, me := 11 }
def Encode_l0_d (s : St) : Encode_l0_a := ((vSlN ((chB (s.H 0)).getD 0 .junk)), (fun j => (vI (((chF (s.H 1)) j).getD 0 .junk))), (vI (s.fr.getD 24 .junk)))
theorem Encode_l0_i (x : a_Encode) : ∀ y y', Encode_l0_S x y = Encode_l0_S x y' → y = y' := fun y y' h => (congrArg Encode_l0_d h :)
def Encode_l0_T (x : a_Encode) : Encode_l0_g → Ex × St := (fun z => (Ex.exit 0, { fr := [V.junk, V.junk, V.junk, V.ptr 0 0] ++ jk 32, H := hp [some (Chunk.blk [V.sl 1 1 0 (z.1)]), some (Chunk.row 5 1 (z.1) fun (j : Nat) => [V.sc (Value.int IntKind.u8 (z.2 j))])], nx := 2, rt := 0, me := 11 }))
def Encode_l0_x (x : a_Encode) (z : Encode_l0_g) (k : KX) : Option Ans := k (Encode_l0_T x z).1 (Encode_l0_T x z).2
theorem Encode_l0_xe (x : a_Encode) : ∀ z k, Encode_l0_x x z k = k (Encode_l0_T x z).1 (Encode_l0_T x z).2 := fun z k => rfl
theorem Encode_l0_k0 (x : a_Encode) (z : Nat × (Nat → Int)) : KCM [(0, 8)] 4 (Encode_l0_T x z).1 (Encode_l0_T x z).2 = some (.l (Encode_l0_T x z).1 (Encode_l0_T x z).2) := by kernel_rfl
def Encode_l0_t {β : Type} (c_WBytesZ : a_WBytesZ → Option g_WBytesZ) (c_WIntA : a_WIntA → Option g_WIntA) (c_WUintA : a_WUintA → Option g_WUintA) (c_Done : a_Done → Option g_Done) (x : a_Encode) (y : Encode_l0_a) (nx : Encode_l0_a → Option β) (dn : Encode_l0_g → Option β) : Option β :=
 if decide (y.2.2 < ((x.2.2.2.1 : Nat) : Int)) = true then
  if (0 : Int) ≤ y.2.2 ∧ y.2.2 < ((x.2.2.2.1 : Nat) : Int) then
   (c_WIntA ((x.2.2.2.2.1 (Int.toNat (y.2.2)), y.1, y.2.1))).bind fun z60 =>
    (c_WIntA ((x.2.2.2.2.2 (Int.toNat (y.2.2)), z60))).bind fun z64 =>
     nx ((z64.1, z64.2, w (y.2.2 + (1 : Int))))
  else
   none
 else
  dn ((y.1, y.2.1))
theorem Encode_l0_n {β : Type} (c_WBytesZ : a_WBytesZ → Option g_WBytesZ) (c_WIntA : a_WIntA → Option g_WIntA) (c_WUintA : a_WUintA → Option g_WUintA) (c_Done : a_Done → Option g_Done) (x : a_Encode) (y : Encode_l0_a) (nx : Encode_l0_a → Option β) (dn : Encode_l0_g → Option β) : Encode_l0_t c_WBytesZ c_WIntA c_WUintA c_Done x y nx dn = (Encode_l0_t c_WBytesZ c_WIntA c_WUintA c_Done x y (fun y => some (.inl y)) (fun z => some (.inr z))).bind fun r => Sum.elim nx dn r := by
  unfold Encode_l0_t
  repeat' first | exact free_none | refine free_bind (fun z => ?_) | refine free_ite ?_ ?_ | refine free_sum (fun z => ?_) (fun z => ?_) | rfl
theorem Encode_l0_r (c_WBytesZ : a_WBytesZ → Option g_WBytesZ) (c_WIntA : a_WIntA → Option g_WIntA) (c_WUintA : a_WUintA → Option g_WUintA) (c_Done : a_Done → Option g_Done) (x : a_Encode) (y : Encode_l0_a) (lo : LoopT) : loopK E9 (ftab 24 (fun _ L => L.length == 1) A_WBytesZ x_WBytesZ c_WBytesZ (ftab 25 (fun _ L => L.length == 2) A_WIntA x_WIntA c_WIntA (ftab 26 (fun _ L => L.length == 2) A_WUintA x_WUintA c_WUintA (ftab 27 (fun _ L => L.length == 2) A_Done x_Done c_Done ca0)))) lo 0 29360136 (bodyOf E9 11 0) (Encode_l0_S x y) (KCM [(0, 8)] 4) = Encode_l0_t (fun x => viaF A_WBytesZ c_WBytesZ (A_WBytesZ x)) (fun x => viaF A_WIntA c_WIntA (A_WIntA x)) (fun x => viaF A_WUintA c_WUintA (A_WUintA x)) (fun x => viaF A_Done c_Done (A_Done x)) x y (fun y => lo 0 29360136 (bodyOf E9 11 0) (Encode_l0_S x y) (KCM [(0, 8)] 4)) (fun z => some (.l (Encode_l0_T x z).1 (Encode_l0_T x z).2)) := by kernel_rfl
noncomputable def Encode_l0 (c_WBytesZ : a_WBytesZ → Option g_WBytesZ) (c_WIntA : a_WIntA → Option g_WIntA) (c_WUintA : a_WUintA → Option g_WUintA) (c_Done : a_Done → Option g_Done) (q : Nat) (x : a_Encode) : Encode_l0_a → Option Encode_l0_g := lpG (fun y => Encode_l0_t c_WBytesZ c_WIntA c_WUintA c_Done x y (fun y => some (.inl y)) (fun z => some (.inr z))) q
theorem Encode_l0_s (c_WBytesZ : a_WBytesZ → Option g_WBytesZ) (h_WBytesZ : ∀ x z, c_WBytesZ x = some z → SC E9 24 (A_WBytesZ x).1 (A_WBytesZ x).2 (R_WBytesZ z)) (c_WIntA : a_WIntA → Option g_WIntA) (h_WIntA : ∀ x z, c_WIntA x = some z → SC E9 25 (A_WIntA x).1 (A_WIntA x).2 (R_WIntA z)) (c_WUintA : a_WUintA → Option g_WUintA) (h_WUintA : ∀ x z, c_WUintA x = some z → SC E9 26 (A_WUintA x).1 (A_WUintA x).2 (R_WUintA z)) (c_Done : a_Done → Option g_Done) (h_Done : ∀ x z, c_Done x = some z → SC E9 27 (A_Done x).1 (A_Done x).2 (R_Done z)) (q : Nat) (x : a_Encode) : ∀ y z, Encode_l0 c_WBytesZ c_WIntA c_WUintA c_Done q x y = some z → SL E9 (bodyOf E9 11 0) (Encode_l0_S x y) (Encode_l0_T x z).1 (Encode_l0_T x z).2 :=
  SL.lp (LT := fun lo => lo) (T := Encode_l0_T x) (S := Encode_l0_S x) (ftab_cons h_WBytesZ xe_WBytesZ (ftab_cons h_WIntA xe_WIntA (ftab_cons h_WUintA xe_WUintA (ftab_cons h_Done xe_Done ca0_sound)))) hX9 (fun lo h => h) (fun lo y => (Encode_l0_r c_WBytesZ c_WIntA c_WUintA c_Done x y lo).trans (by rw [via_eq i_WBytesZ c_WBytesZ, via_eq i_WIntA c_WIntA, via_eq i_WUintA c_WUintA, via_eq i_Done c_Done]; exact Encode_l0_n _ _ _ _ _ _ _ _)) (Encode_l0_k0 x) q
def t_Encode {β : Type} (c_WBytesZ : a_WBytesZ → Option g_WBytesZ) (c_WIntA : a_WIntA → Option g_WIntA) (c_WUintA : a_WUintA → Option g_WUintA) (c_Done : a_Done → Option g_Done) (l_Encode_l0 : Encode_l0_a → Option Encode_l0_g) (x : a_Encode) (dn : g_Encode → Option β) : Option β :=
 if ByteArray.size (x.1) ≤ maxLen then
  (c_WBytesZ ((ByteArray.size (x.1), fun (j : Nat) => ((UInt8.toNat (List.getD (Array.toList (ByteArray.data (x.1))) j (0 : UInt8)) : Nat) : Int)))).bind fun z2 =>
   (c_WIntA ((x.2.1, z2))).bind fun z6 =>
    (c_WIntA ((x.2.2.1, z6))).bind fun z10 =>
     (c_WUintA ((IntKind.wrap IntKind.u64 ((x.2.2.2.1 : Nat) : Int), z10))).bind fun z14 =>
      (l_Encode_l0 ((z14.1, z14.2, (0 : Int)))).bind fun z44 =>
       (c_Done z44).bind fun z47 =>
        dn ((z47.1, z47.2.2.2.2))
 else
  none
theorem n_Encode {β : Type} (c_WBytesZ : a_WBytesZ → Option g_WBytesZ) (c_WIntA : a_WIntA → Option g_WIntA) (c_WUintA : a_WUintA → Option g_WUintA) (c_Done : a_Done → Option g_Done) (l_Encode_l0 : Encode_l0_a → Option Encode_l0_g) (x : a_Encode) (dn : g_Encode → Option β) : t_Encode c_WBytesZ c_WIntA c_WUintA c_Done l_Encode_l0 x dn = (t_Encode c_WBytesZ c_WIntA c_WUintA c_Done l_Encode_l0 x some).bind dn := by
  unfold t_Encode
  repeat' first | exact free_none | refine free_bind (fun z => ?_) | refine free_ite ?_ ?_ | refine free_sum (fun z => ?_) (fun z => ?_) | rfl
theorem r_Encode (c_WBytesZ : a_WBytesZ → Option g_WBytesZ) (c_WIntA : a_WIntA → Option g_WIntA) (c_WUintA : a_WUintA → Option g_WUintA) (c_Done : a_Done → Option g_Done) (l_Encode_l0 : Encode_l0_a → Option Encode_l0_g) (x : a_Encode) : callK E9 (ftab 24 (fun _ L => L.length == 1) A_WBytesZ x_WBytesZ c_WBytesZ (ftab 25 (fun _ L => L.length == 2) A_WIntA x_WIntA c_WIntA (ftab 26 (fun _ L => L.length == 2) A_WUintA x_WUintA c_WUintA (ftab 27 (fun _ L => L.length == 2) A_Done x_Done c_Done ca0)))) (ltabF 0 (fun _ => true) (bodyOf E9 11 0) (Encode_l0_S x) (Encode_l0_x x) l_Encode_l0 lo0) 11 (A_Encode x).1 (A_Encode x).2 K = t_Encode (fun x => viaF A_WBytesZ c_WBytesZ (A_WBytesZ x)) (fun x => viaF A_WIntA c_WIntA (A_WIntA x)) (fun x => viaF A_WUintA c_WUintA (A_WUintA x)) (fun x => viaF A_Done c_Done (A_Done x)) (fun y => viaF (fun y => (bodyOf E9 11 0, Encode_l0_S x y)) l_Encode_l0 (bodyOf E9 11 0, Encode_l0_S x y)) x (fun z => some (.c (R_Encode z))) := by kernel_rfl
theorem s_Encode (c_WBytesZ : a_WBytesZ → Option g_WBytesZ) (h_WBytesZ : ∀ x z, c_WBytesZ x = some z → SC E9 24 (A_WBytesZ x).1 (A_WBytesZ x).2 (R_WBytesZ z)) (c_WIntA : a_WIntA → Option g_WIntA) (h_WIntA : ∀ x z, c_WIntA x = some z → SC E9 25 (A_WIntA x).1 (A_WIntA x).2 (R_WIntA z)) (c_WUintA : a_WUintA → Option g_WUintA) (h_WUintA : ∀ x z, c_WUintA x = some z → SC E9 26 (A_WUintA x).1 (A_WUintA x).2 (R_WUintA z)) (c_Done : a_Done → Option g_Done) (h_Done : ∀ x z, c_Done x = some z → SC E9 27 (A_Done x).1 (A_Done x).2 (R_Done z)) (q : Nat) (x : a_Encode) (z : g_Encode) (h : t_Encode c_WBytesZ c_WIntA c_WUintA c_Done (Encode_l0 c_WBytesZ c_WIntA c_WUintA c_Done q x) x some = some z) : SC E9 11 (A_Encode x).1 (A_Encode x).2 (R_Encode z) := by
  refine SC.of hW9 hX9 (ftab_cons h_WBytesZ xe_WBytesZ (ftab_cons h_WIntA xe_WIntA (ftab_cons h_WUintA xe_WUintA (ftab_cons h_Done xe_Done ca0_sound)))) (ltabF_cons (Encode_l0_s c_WBytesZ h_WBytesZ c_WIntA h_WIntA c_WUintA h_WUintA c_Done h_Done q x) (Encode_l0_xe x) lo0_sound) ((r_Encode c_WBytesZ c_WIntA c_WUintA c_Done (Encode_l0 c_WBytesZ c_WIntA c_WUintA c_Done q x) x).trans ?_)
  rw [via_eq i_WBytesZ c_WBytesZ, via_eq i_WIntA c_WIntA, via_eq i_WUintA c_WUintA, via_eq i_Done c_Done, via_eq (pair_inj (bodyOf E9 11 0) (Encode_l0_i x)) (Encode_l0 c_WBytesZ c_WIntA c_WUintA c_Done q x), n_Encode, h]; rfl
noncomputable def Encode (q : Nat) (x : a_Encode) : Option g_Encode := t_Encode (WBytesZ q) (WIntA q) (WUintA q) (Done q) (Encode_l0 (WBytesZ q) (WIntA q) (WUintA q) (Done q) q x) x some
theorem sc_Encode (q : Nat) : ∀ (x : a_Encode) (z : g_Encode), Encode q x = some z → SC E9 11 (A_Encode x).1 (A_Encode x).2 (R_Encode z) := fun x z h => s_Encode (WBytesZ q) (sc_WBytesZ q) (WIntA q) (sc_WIntA q) (WUintA q) (sc_WUintA q) (Done q) (sc_Done q) q x z h
abbrev a_rUint : Type := Int
abbrev g_rUint : Type := (Nat → Int) × Nat
def A_rUint : a_rUint → List V × List (Option Chunk) := (fun x => (fun (v : Int) => (([u64 v] : List V), ([] : List (Option Chunk)))) x)
def d_rUint (t : List V × List (Option Chunk)) : a_rUint := ((vI (t.1.getD 0 .junk)))
theorem i_rUint : ∀ x y, A_rUint x = A_rUint y → x = y := fun x y h => (congrArg d_rUint h :)
def R_rUint : g_rUint → CRes := (fun z => CRes.ret (V.sl 0 1 0 (z.2)) [some (Chunk.row 5 1 (z.2) fun (j : Nat) => [V.sc (Value.int IntKind.u8 (z.1 j))])] : ((Nat → Int) × Nat) → CRes)
def x_rUint (z : g_rUint) (k : CRes → Option Ans) : Option Ans := k (R_rUint z)
theorem xe_rUint : ∀ z k, x_rUint z k = k (R_rUint z) := fun z k => rfl
abbrev rUint_l0_a : Type := (Unit) ⊕ (Int × Nat × (Nat → Int))
abbrev rUint_l0_g : Type := (Unit) ⊕ (Int × Nat × (Nat → Int))
def rUint_l0_S0 (x : a_rUint) (y : Unit) : St := { fr := [V.sc (Value.int IntKind.u64 x), V.junk, V.junk, nilS] ++ jk 16, H := hp [], nx := 0, rt := 0, me := 30 }
def rUint_l0_d0 (s : St) : Unit := ()
def rUint_l0_S1 (x : a_rUint) (y : Int × Nat × (Nat → Int)) : St := { fr := [V.sc (Value.int IntKind.u64 (y.1)), V.junk, V.junk, V.sl 0 1 0 (y.2.1)] ++ jk 16, H := hp [some (Chunk.row 5 1 (y.2.1) fun (j : Nat) => [V.sc (Value.int IntKind.u8 (y.2.2 j))])], nx := 1, rt := 0, me := 30 }
def rUint_l0_d1 (s : St) : Int × Nat × (Nat → Int) := ((vI (s.fr.getD 0 .junk)), (vSlN (s.fr.getD 3 .junk)), (fun j => (vI (((chF (s.H 0)) j).getD 0 .junk))))
def rUint_l0_S (x : a_rUint) : rUint_l0_a → St := (Sum.elim (rUint_l0_S0 x) (rUint_l0_S1 x))
def rUint_l0_d (s : St) : rUint_l0_a := (match s.nx == 0 with | true => (.inl (rUint_l0_d0 s)) | false => (.inr (rUint_l0_d1 s)))
theorem rUint_l0_i (x : a_rUint) : ∀ y y', rUint_l0_S x y = rUint_l0_S x y' → y = y' := fun y y' h => by rcases y with y | y <;> rcases y' with y | y <;> exact (congrArg rUint_l0_d h :)
def rUint_l0_T (x : a_rUint) : rUint_l0_g → Ex × St := (Sum.elim (fun z => (Ex.exit 0, { fr := [V.sc (Value.int IntKind.u64 x), V.junk, V.junk, nilS] ++ jk 16, H := hp [], nx := 0, rt := 0, me := 30 })) (fun z => (Ex.exit 0, { fr := [V.sc (Value.int IntKind.u64 (z.1)), V.junk, V.junk, V.sl 0 1 0 (z.2.1)] ++ jk 16, H := hp [some (Chunk.row 5 1 (z.2.1) fun (j : Nat) => [V.sc (Value.int IntKind.u8 (z.2.2 j))])], nx := 1, rt := 0, me := 30 })))
def rUint_l0_x (x : a_rUint) (z : rUint_l0_g) (k : KX) : Option Ans := Sum.elim (fun za => k (rUint_l0_T x (.inl za)).1 (rUint_l0_T x (.inl za)).2) (fun zb => k (rUint_l0_T x (.inr zb)).1 (rUint_l0_T x (.inr zb)).2) z
theorem rUint_l0_xe (x : a_rUint) : ∀ z k, rUint_l0_x x z k = k (rUint_l0_T x z).1 (rUint_l0_T x z).2 := fun z k => by
  rcases z with z | z <;> rfl
theorem rUint_l0_k0 (x : a_rUint) (z : Unit) : KCM [(0, 9)] 4 (rUint_l0_T x (.inl z)).1 (rUint_l0_T x (.inl z)).2 = some (.l (rUint_l0_T x (.inl z)).1 (rUint_l0_T x (.inl z)).2) := by kernel_rfl
theorem rUint_l0_k1 (x : a_rUint) (z : Int × Nat × (Nat → Int)) : KCM [(0, 9)] 4 (rUint_l0_T x (.inr z)).1 (rUint_l0_T x (.inr z)).2 = some (.l (rUint_l0_T x (.inr z)).1 (rUint_l0_T x (.inr z)).2) := by kernel_rfl
def rUint_l0_t0 {β : Type} (x : a_rUint) (y : Unit) (nx : rUint_l0_a → Option β) (dn : rUint_l0_g → Option β) : Option β :=
 if decide (x > (127 : Int)) = true then
  nx (.inr ((IntKind.wrap IntKind.u64 (Int.tdiv x (128 : Int)), 1, fun (j : Nat) => IntKind.wrap IntKind.u8 (IntKind.wrap IntKind.u8 (Int.tmod x (128 : Int)) + (128 : Int)))))
 else
  dn (.inl ())
theorem rUint_l0_n0 {β : Type} (x : a_rUint) (y : Unit) (nx : rUint_l0_a → Option β) (dn : rUint_l0_g → Option β) : rUint_l0_t0 x y nx dn = (rUint_l0_t0 x y (fun y => some (.inl y)) (fun z => some (.inr z))).bind fun r => Sum.elim nx dn r := by
  unfold rUint_l0_t0
  repeat' first | exact free_none | refine free_bind (fun z => ?_) | refine free_ite ?_ ?_ | refine free_sum (fun z => ?_) (fun z => ?_) | rfl
theorem rUint_l0_r0 (x : a_rUint) (y : Unit) (lo : LoopT) : loopK E9 ca0 lo 0 9 (bodyOf E9 30 0) (rUint_l0_S x (.inl y)) (KCM [(0, 9)] 4) = rUint_l0_t0 x y (fun y => lo 0 9 (bodyOf E9 30 0) (rUint_l0_S x y) (KCM [(0, 9)] 4)) (fun z => some (.l (rUint_l0_T x z).1 (rUint_l0_T x z).2)) := by kernel_rfl
def rUint_l0_t1 {β : Type} (x : a_rUint) (y : Int × Nat × (Nat → Int)) (nx : rUint_l0_a → Option β) (dn : rUint_l0_g → Option β) : Option β :=
 if decide (y.1 > (127 : Int)) = true then
  if (y.2.1 + 1) * 1 ≤ roomBound ∧ y.2.1 + 1 ≤ maxLen ∧ y.2.1 ≤ y.2.1 then
   nx (.inr ((IntKind.wrap IntKind.u64 (Int.tdiv (y.1) (128 : Int)), y.2.1 + 1, fun (j : Nat) => if j < y.2.1 then y.2.2 j else IntKind.wrap IntKind.u8 (IntKind.wrap IntKind.u8 (Int.tmod (y.1) (128 : Int)) + (128 : Int)))))
  else
   none
 else
  dn (.inr y)
theorem rUint_l0_n1 {β : Type} (x : a_rUint) (y : Int × Nat × (Nat → Int)) (nx : rUint_l0_a → Option β) (dn : rUint_l0_g → Option β) : rUint_l0_t1 x y nx dn = (rUint_l0_t1 x y (fun y => some (.inl y)) (fun z => some (.inr z))).bind fun r => Sum.elim nx dn r := by
  unfold rUint_l0_t1
  repeat' first | exact free_none | refine free_bind (fun z => ?_) | refine free_ite ?_ ?_ | refine free_sum (fun z => ?_) (fun z => ?_) | rfl
theorem rUint_l0_r1 (x : a_rUint) (y : Int × Nat × (Nat → Int)) (lo : LoopT) : loopK E9 ca0 lo 0 9 (bodyOf E9 30 0) (rUint_l0_S x (.inr y)) (KCM [(0, 9)] 4) = rUint_l0_t1 x y (fun y => lo 0 9 (bodyOf E9 30 0) (rUint_l0_S x y) (KCM [(0, 9)] 4)) (fun z => some (.l (rUint_l0_T x z).1 (rUint_l0_T x z).2)) := by kernel_rfl
noncomputable def rUint_l0 (q : Nat) (x : a_rUint) : rUint_l0_a → Option rUint_l0_g := lpG (Sum.elim (fun y => rUint_l0_t0 x y (fun y => some (.inl y)) (fun z => some (.inr z))) (fun y => rUint_l0_t1 x y (fun y => some (.inl y)) (fun z => some (.inr z)))) q
theorem rUint_l0_s (q : Nat) (x : a_rUint) : ∀ y z, rUint_l0 q x y = some z → SL E9 (bodyOf E9 30 0) (rUint_l0_S x y) (rUint_l0_T x z).1 (rUint_l0_T x z).2 :=
  SL.lp (LT := fun lo => lo) (T := rUint_l0_T x) (S := rUint_l0_S x) ca0_sound hX9 (fun lo h => h) (fun lo y => by
      rcases y with y | y
      · exact (rUint_l0_r0 x y lo).trans (by exact rUint_l0_n0  _ _ _ _)
      · exact (rUint_l0_r1 x y lo).trans (by exact rUint_l0_n1  _ _ _ _)) (fun z => by rcases z with z | z <;> first | exact rUint_l0_k0 x z | exact rUint_l0_k1 x z) q
def t_rUint {β : Type} (l_rUint_l0 : rUint_l0_a → Option rUint_l0_g) (x : a_rUint) (dn : g_rUint → Option β) : Option β :=
 (l_rUint_l0 (.inl ())).bind fun z22 =>
  Sum.elim (fun z22a =>
  dn ((fun j => IntKind.wrap IntKind.u8 x, 1))) (fun z22b =>
  if (z22b.2.1 + 1) * 1 ≤ roomBound ∧ z22b.2.1 + 1 ≤ maxLen ∧ z22b.2.1 ≤ z22b.2.1 then
   dn ((fun j => if j < z22b.2.1 then z22b.2.2 j else IntKind.wrap IntKind.u8 (z22b.1), z22b.2.1 + 1))
  else
   none) z22
theorem n_rUint {β : Type} (l_rUint_l0 : rUint_l0_a → Option rUint_l0_g) (x : a_rUint) (dn : g_rUint → Option β) : t_rUint l_rUint_l0 x dn = (t_rUint l_rUint_l0 x some).bind dn := by
  unfold t_rUint
  repeat' first | exact free_none | refine free_bind (fun z => ?_) | refine free_ite ?_ ?_ | refine free_sum (fun z => ?_) (fun z => ?_) | rfl
theorem r_rUint (l_rUint_l0 : rUint_l0_a → Option rUint_l0_g) (x : a_rUint) : callK E9 ca0 (ltabF 0 (fun _ => true) (bodyOf E9 30 0) (rUint_l0_S x) (rUint_l0_x x) l_rUint_l0 lo0) 30 (A_rUint x).1 (A_rUint x).2 K = t_rUint (fun y => viaF (fun y => (bodyOf E9 30 0, rUint_l0_S x y)) l_rUint_l0 (bodyOf E9 30 0, rUint_l0_S x y)) x (fun z => some (.c (R_rUint z))) := by kernel_rfl
theorem s_rUint (q : Nat) (x : a_rUint) (z : g_rUint) (h : t_rUint (rUint_l0 q x) x some = some z) : SC E9 30 (A_rUint x).1 (A_rUint x).2 (R_rUint z) := by
  refine SC.of hW9 hX9 ca0_sound (ltabF_cons (rUint_l0_s q x) (rUint_l0_xe x) lo0_sound) ((r_rUint (rUint_l0 q x) x).trans ?_)
  rw [via_eq (pair_inj (bodyOf E9 30 0) (rUint_l0_i x)) (rUint_l0 q x), n_rUint, h]; rfl
noncomputable def rUint (q : Nat) (x : a_rUint) : Option g_rUint := t_rUint (rUint_l0 q x) x some
theorem sc_rUint (q : Nat) : ∀ (x : a_rUint) (z : g_rUint), rUint q x = some z → SC E9 30 (A_rUint x).1 (A_rUint x).2 (R_rUint z) := fun x z h => s_rUint q x z h
abbrev a_rZig : Type := Int
abbrev g_rZig : Type := Int
def A_rZig : a_rZig → List V × List (Option Chunk) := (fun x => (fun (v : Int) => (([i64 v] : List V), ([] : List (Option Chunk)))) x)
def d_rZig (t : List V × List (Option Chunk)) : a_rZig := ((vI (t.1.getD 0 .junk)))
theorem i_rZig : ∀ x y, A_rZig x = A_rZig y → x = y := fun x y h => (congrArg d_rZig h :)
def R_rZig : g_rZig → CRes := (fun z => CRes.ret (V.sc (Value.int IntKind.u64 z)) [] : (Int) → CRes)
def x_rZig (z : g_rZig) (k : CRes → Option Ans) : Option Ans := k (R_rZig z)
theorem xe_rZig : ∀ z k, x_rZig z k = k (R_rZig z) := fun z k => rfl
def t_rZig {β : Type} (x : a_rZig) (dn : g_rZig → Option β) : Option β :=
 if decide (x ≥ (0 : Int)) = true then
  dn (IntKind.wrap IntKind.u64 ((2 : Int) * IntKind.wrap IntKind.u64 x))
 else
  dn (IntKind.wrap IntKind.u64 (IntKind.wrap IntKind.u64 ((2 : Int) * IntKind.wrap IntKind.u64 (w ((0 : Int) - w (x + (1 : Int))))) + (1 : Int)))
theorem n_rZig {β : Type} (x : a_rZig) (dn : g_rZig → Option β) : t_rZig x dn = (t_rZig x some).bind dn := by
  unfold t_rZig
  repeat' first | exact free_none | refine free_bind (fun z => ?_) | refine free_ite ?_ ?_ | refine free_sum (fun z => ?_) (fun z => ?_) | rfl
theorem r_rZig (x : a_rZig) : callK E9 ca0 lo0 53 (A_rZig x).1 (A_rZig x).2 K = t_rZig x (fun z => some (.c (R_rZig z))) := by kernel_rfl
theorem s_rZig (q : Nat) (x : a_rZig) (z : g_rZig) (h : t_rZig x some = some z) : SC E9 53 (A_rZig x).1 (A_rZig x).2 (R_rZig z) := by
  refine SC.of hW9 hX9 ca0_sound lo0_sound ((r_rZig x).trans ?_)
  rw [n_rZig, h]; rfl
noncomputable def rZig (q : Nat) (x : a_rZig) : Option g_rZig := t_rZig x some
theorem sc_rZig (q : Nat) : ∀ (x : a_rZig) (z : g_rZig), rZig q x = some z → SC E9 53 (A_rZig x).1 (A_rZig x).2 (R_rZig z) := fun x z h => s_rZig q x z h
abbrev a_rInt : Type := Int
abbrev g_rInt : Type := Nat × (Nat → Int)
def A_rInt : a_rInt → List V × List (Option Chunk) := (fun x => (fun (v : Int) => (([i64 v] : List V), ([] : List (Option Chunk)))) x)
def d_rInt (t : List V × List (Option Chunk)) : a_rInt := ((vI (t.1.getD 0 .junk)))
theorem i_rInt : ∀ x y, A_rInt x = A_rInt y → x = y := fun x y h => (congrArg d_rInt h :)
def R_rInt : g_rInt → CRes := (fun z => CRes.ret (V.sl 0 1 0 (z.1)) [some (Chunk.row 5 1 (z.1) fun (j : Nat) => [V.sc (Value.int IntKind.u8 (z.2 j))])] : (Nat × (Nat → Int)) → CRes)
def x_rInt (z : g_rInt) (k : CRes → Option Ans) : Option Ans := k (R_rInt z)
theorem xe_rInt : ∀ z k, x_rInt z k = k (R_rInt z) := fun z k => rfl
def t_rInt {β : Type} (c_rZig : a_rZig → Option g_rZig) (c_rUint : a_rUint → Option g_rUint) (x : a_rInt) (dn : g_rInt → Option β) : Option β :=
 (c_rZig x).bind fun z1 =>
  (c_rUint z1).bind fun z3 =>
   dn ((z3.2, z3.1))
theorem n_rInt {β : Type} (c_rZig : a_rZig → Option g_rZig) (c_rUint : a_rUint → Option g_rUint) (x : a_rInt) (dn : g_rInt → Option β) : t_rInt c_rZig c_rUint x dn = (t_rInt c_rZig c_rUint x some).bind dn := by
  unfold t_rInt
  repeat' first | exact free_none | refine free_bind (fun z => ?_) | refine free_ite ?_ ?_ | refine free_sum (fun z => ?_) (fun z => ?_) | rfl
theorem r_rInt (c_rZig : a_rZig → Option g_rZig) (c_rUint : a_rUint → Option g_rUint) (x : a_rInt) : callK E9 (ftab 53 (fun _ _ => true) A_rZig x_rZig c_rZig (ftab 30 (fun _ _ => true) A_rUint x_rUint c_rUint ca0)) lo0 29 (A_rInt x).1 (A_rInt x).2 K = t_rInt (fun x => viaF A_rZig c_rZig (A_rZig x)) (fun x => viaF A_rUint c_rUint (A_rUint x)) x (fun z => some (.c (R_rInt z))) := by kernel_rfl
theorem s_rInt (c_rZig : a_rZig → Option g_rZig) (h_rZig : ∀ x z, c_rZig x = some z → SC E9 53 (A_rZig x).1 (A_rZig x).2 (R_rZig z)) (c_rUint : a_rUint → Option g_rUint) (h_rUint : ∀ x z, c_rUint x = some z → SC E9 30 (A_rUint x).1 (A_rUint x).2 (R_rUint z)) (q : Nat) (x : a_rInt) (z : g_rInt) (h : t_rInt c_rZig c_rUint x some = some z) : SC E9 29 (A_rInt x).1 (A_rInt x).2 (R_rInt z) := by
  refine SC.of hW9 hX9 (ftab_cons h_rZig xe_rZig (ftab_cons h_rUint xe_rUint ca0_sound)) lo0_sound ((r_rInt c_rZig c_rUint x).trans ?_)
  rw [via_eq i_rZig c_rZig, via_eq i_rUint c_rUint, n_rInt, h]; rfl
noncomputable def rInt (q : Nat) (x : a_rInt) : Option g_rInt := t_rInt (rZig q) (rUint q) x some
theorem sc_rInt (q : Nat) : ∀ (x : a_rInt) (z : g_rInt), rInt q x = some z → SC E9 29 (A_rInt x).1 (A_rInt x).2 (R_rInt z) := fun x z h => s_rInt (rZig q) (sc_rZig q) (rUint q) (sc_rUint q) q x z h
abbrev a_rBytes : Type := Nat × (Nat → Int)
abbrev g_rBytes : Type := Nat × (Nat → Int)
def A_rBytes : a_rBytes → List V × List (Option Chunk) := (fun x => (fun (n : Nat) (f : Nat → Int) => (([.ro 1 n (fun j => [u8 (f j)])] : List V), ([] : List (Option Chunk)))) x.1 x.2)
def d_rBytes (t : List V × List (Option Chunk)) : a_rBytes := ((vRoN (t.1.getD 0 .junk)), (fun j => (vI (((vRoF (t.1.getD 0 .junk)) j).getD 0 .junk))))
theorem i_rBytes : ∀ x y, A_rBytes x = A_rBytes y → x = y := fun x y h => (congrArg d_rBytes h :)
def R_rBytes : g_rBytes → CRes := (fun z => CRes.ret (V.sl 0 1 0 (z.1)) [some (Chunk.row 5 1 (z.1) fun (j : Nat) => [V.sc (Value.int IntKind.u8 (z.2 j))])] : (Nat × (Nat → Int)) → CRes)
def x_rBytes (z : g_rBytes) (k : CRes → Option Ans) : Option Ans := k (R_rBytes z)
theorem xe_rBytes : ∀ z k, x_rBytes z k = k (R_rBytes z) := fun z k => rfl
def t_rBytes {β : Type} (c_rUint : a_rUint → Option g_rUint) (x : a_rBytes) (dn : g_rBytes → Option β) : Option β :=
 (c_rUint (IntKind.wrap IntKind.u64 ((x.1 : Nat) : Int))).bind fun z1 =>
  if (z1.2 + x.1) * 1 ≤ roomBound ∧ z1.2 + x.1 ≤ maxLen ∧ z1.2 ≤ z1.2 then
   dn ((z1.2 + x.1, fun (j : Nat) => if j < z1.2 then z1.1 j else x.2 (j - z1.2)))
  else
   none
theorem n_rBytes {β : Type} (c_rUint : a_rUint → Option g_rUint) (x : a_rBytes) (dn : g_rBytes → Option β) : t_rBytes c_rUint x dn = (t_rBytes c_rUint x some).bind dn := by
  unfold t_rBytes
  repeat' first | exact free_none | refine free_bind (fun z => ?_) | refine free_ite ?_ ?_ | refine free_sum (fun z => ?_) (fun z => ?_) | rfl
theorem r_rBytes (c_rUint : a_rUint → Option g_rUint) (x : a_rBytes) : callK E9 (ftab 30 (fun _ _ => true) A_rUint x_rUint c_rUint ca0) lo0 28 (A_rBytes x).1 (A_rBytes x).2 K = t_rBytes (fun x => viaF A_rUint c_rUint (A_rUint x)) x (fun z => some (.c (R_rBytes z))) := by kernel_rfl
theorem s_rBytes (c_rUint : a_rUint → Option g_rUint) (h_rUint : ∀ x z, c_rUint x = some z → SC E9 30 (A_rUint x).1 (A_rUint x).2 (R_rUint z)) (q : Nat) (x : a_rBytes) (z : g_rBytes) (h : t_rBytes c_rUint x some = some z) : SC E9 28 (A_rBytes x).1 (A_rBytes x).2 (R_rBytes z) := by
  refine SC.of hW9 hX9 (ftab_cons h_rUint xe_rUint ca0_sound) lo0_sound ((r_rBytes c_rUint x).trans ?_)
  rw [via_eq i_rUint c_rUint, n_rBytes, h]; rfl
noncomputable def rBytes (q : Nat) (x : a_rBytes) : Option g_rBytes := t_rBytes (rUint q) x some
theorem sc_rBytes (q : Nat) : ∀ (x : a_rBytes) (z : g_rBytes), rBytes q x = some z → SC E9 28 (A_rBytes x).1 (A_rBytes x).2 (R_rBytes z) := fun x z h => s_rBytes (rUint q) (sc_rUint q) q x z h
abbrev a_rEncode : Type := ByteArray × Int × Int × Nat × (Nat → Int) × (Nat → Int)
abbrev g_rEncode : Type := Nat × (Nat → Int)
def A_rEncode : a_rEncode → List V × List (Option Chunk) := (fun x => (fun (nm : ByteArray) (ps : Int) (vs : Int) (n : Nat) (op : Nat → Int) (ar : Nat → Int) => (([.agg [st nm, i64 ps, i64 vs, .ro 2 n (fun j => [i64 (op j), i64 (ar j)])]] : List V), ([] : List (Option Chunk)))) x.1 x.2.1 x.2.2.1 x.2.2.2.1 x.2.2.2.2.1 x.2.2.2.2.2)
def d_rEncode (t : List V × List (Option Chunk)) : a_rEncode := ((vS ((vAg (t.1.getD 0 .junk)).getD 0 .junk)), (vI ((vAg (t.1.getD 0 .junk)).getD 1 .junk)), (vI ((vAg (t.1.getD 0 .junk)).getD 2 .junk)), (vRoN ((vAg (t.1.getD 0 .junk)).getD 3 .junk)), (fun j => (vI (((vRoF ((vAg (t.1.getD 0 .junk)).getD 3 .junk)) j).getD 0 .junk))), (fun j => (vI (((vRoF ((vAg (t.1.getD 0 .junk)).getD 3 .junk)) j).getD 1 .junk))))
theorem i_rEncode : ∀ x y, A_rEncode x = A_rEncode y → x = y := fun x y h => (congrArg d_rEncode h :)
def R_rEncode : g_rEncode → CRes := (fun z => CRes.ret (V.sl 0 1 0 (z.1)) [some (Chunk.row 5 1 (z.1) fun (j : Nat) => [V.sc (Value.int IntKind.u8 (z.2 j))])] : (Nat × (Nat → Int)) → CRes)
def x_rEncode (z : g_rEncode) (k : CRes → Option Ans) : Option Ans := k (R_rEncode z)
theorem xe_rEncode : ∀ z k, x_rEncode z k = k (R_rEncode z) := fun z k => rfl
abbrev rEncode_l0_a : Type := Nat × (Nat → Int) × Int
abbrev rEncode_l0_g : Type := Nat × (Nat → Int)
def rEncode_l0_S (x : a_rEncode) (y : rEncode_l0_a) : St := { fr := [V.junk, V.ptr 0 0, V.junk, V.sl 1 1 0 (y.1), i64 (y.2.2)] ++ jk 47, H := hp [some (Chunk.blk [st (x.1), i64 (x.2.1), i64 (x.2.2.1), V.ro 2 (x.2.2.2.1) fun (j : Nat) => [i64 (x.2.2.2.2.1 j), i64 (x.2.2.2.2.2 j)]]), some (Chunk.row 5 1 (y.1) fun (j : Nat) => [V.sc (Value.int IntKind.u8 (y.2.1 j))])], nx := 2, rt := 0, me := 13 }
def rEncode_l0_d (s : St) : rEncode_l0_a := ((vSlN (s.fr.getD 3 .junk)), (fun j => (vI (((chF (s.H 1)) j).getD 0 .junk))), (vI (s.fr.getD 4 .junk)))
theorem rEncode_l0_i (x : a_rEncode) : ∀ y y', rEncode_l0_S x y = rEncode_l0_S x y' → y = y' := fun y y' h => (congrArg rEncode_l0_d h :)
def rEncode_l0_T (x : a_rEncode) : rEncode_l0_g → Ex × St := (fun z => (Ex.exit 0, { fr := [V.junk, V.junk, V.junk, V.sl 0 1 0 (z.1)] ++ jk 48, H := hp [some (Chunk.row 5 1 (z.1) fun (j : Nat) => [V.sc (Value.int IntKind.u8 (z.2 j))])], nx := 1, rt := 0, me := 13 }))
def rEncode_l0_x (x : a_rEncode) (z : rEncode_l0_g) (k : KX) : Option Ans := k (rEncode_l0_T x z).1 (rEncode_l0_T x z).2
theorem rEncode_l0_xe (x : a_rEncode) : ∀ z k, rEncode_l0_x x z k = k (rEncode_l0_T x z).1 (rEncode_l0_T x z).2 := fun z k => rfl
theorem rEncode_l0_k0 (x : a_rEncode) (z : Nat × (Nat → Int)) : KCM [(0, 8)] 4 (rEncode_l0_T x z).1 (rEncode_l0_T x z).2 = some (.l (rEncode_l0_T x z).1 (rEncode_l0_T x z).2) := by kernel_rfl
def rEncode_l0_t {β : Type} (c_rBytes : a_rBytes → Option g_rBytes) (c_rInt : a_rInt → Option g_rInt) (c_rUint : a_rUint → Option g_rUint) (x : a_rEncode) (y : rEncode_l0_a) (nx : rEncode_l0_a → Option β) (dn : rEncode_l0_g → Option β) : Option β :=
 if decide (y.2.2 < ((x.2.2.2.1 : Nat) : Int)) = true then
  if (0 : Int) ≤ y.2.2 ∧ y.2.2 < ((x.2.2.2.1 : Nat) : Int) then
   (c_rInt (x.2.2.2.2.1 (Int.toNat (y.2.2)))).bind fun z41 =>
    if 0 + z41.1 ≤ z41.1 ∧ 1 = 1 then
     if (y.1 + z41.1) * 1 ≤ roomBound ∧ y.1 + z41.1 ≤ maxLen ∧ y.1 ≤ y.1 then
      if (0 : Int) ≤ y.2.2 ∧ y.2.2 < ((x.2.2.2.1 : Nat) : Int) then
       (c_rInt (x.2.2.2.2.2 (Int.toNat (y.2.2)))).bind fun z43 =>
        if 0 + z43.1 ≤ z43.1 ∧ 1 = 1 then
         if (y.1 + z41.1 + z43.1) * 1 ≤ roomBound ∧ y.1 + z41.1 + z43.1 ≤ maxLen ∧ y.1 + z41.1 ≤ y.1 + z41.1 then
          nx ((y.1 + z41.1 + z43.1, fun (j : Nat) => if j < y.1 + z41.1 then if j < y.1 then y.2.1 j else z41.2 (0 + (j - y.1)) else z43.2 (0 + (j - (y.1 + z41.1))), w (y.2.2 + (1 : Int))))
         else
          none
        else
         none
      else
       none
     else
      none
    else
     none
  else
   none
 else
  dn ((y.1, y.2.1))
theorem rEncode_l0_n {β : Type} (c_rBytes : a_rBytes → Option g_rBytes) (c_rInt : a_rInt → Option g_rInt) (c_rUint : a_rUint → Option g_rUint) (x : a_rEncode) (y : rEncode_l0_a) (nx : rEncode_l0_a → Option β) (dn : rEncode_l0_g → Option β) : rEncode_l0_t c_rBytes c_rInt c_rUint x y nx dn = (rEncode_l0_t c_rBytes c_rInt c_rUint x y (fun y => some (.inl y)) (fun z => some (.inr z))).bind fun r => Sum.elim nx dn r := by
  unfold rEncode_l0_t
  repeat' first | exact free_none | refine free_bind (fun z => ?_) | refine free_ite ?_ ?_ | refine free_sum (fun z => ?_) (fun z => ?_) | rfl
theorem rEncode_l0_r (c_rBytes : a_rBytes → Option g_rBytes) (c_rInt : a_rInt → Option g_rInt) (c_rUint : a_rUint → Option g_rUint) (x : a_rEncode) (y : rEncode_l0_a) (lo : LoopT) : loopK E9 (ftab 28 (fun _ _ => true) A_rBytes x_rBytes c_rBytes (ftab 29 (fun _ _ => true) A_rInt x_rInt c_rInt (ftab 30 (fun _ _ => true) A_rUint x_rUint c_rUint ca0))) lo 0 26 (bodyOf E9 13 0) (rEncode_l0_S x y) (KCM [(0, 8)] 4) = rEncode_l0_t (fun x => viaF A_rBytes c_rBytes (A_rBytes x)) (fun x => viaF A_rInt c_rInt (A_rInt x)) (fun x => viaF A_rUint c_rUint (A_rUint x)) x y (fun y => lo 0 26 (bodyOf E9 13 0) (rEncode_l0_S x y) (KCM [(0, 8)] 4)) (fun z => some (.l (rEncode_l0_T x z).1 (rEncode_l0_T x z).2)) := by kernel_rfl
noncomputable def rEncode_l0 (c_rBytes : a_rBytes → Option g_rBytes) (c_rInt : a_rInt → Option g_rInt) (c_rUint : a_rUint → Option g_rUint) (q : Nat) (x : a_rEncode) : rEncode_l0_a → Option rEncode_l0_g := lpG (fun y => rEncode_l0_t c_rBytes c_rInt c_rUint x y (fun y => some (.inl y)) (fun z => some (.inr z))) q
theorem rEncode_l0_s (c_rBytes : a_rBytes → Option g_rBytes) (h_rBytes : ∀ x z, c_rBytes x = some z → SC E9 28 (A_rBytes x).1 (A_rBytes x).2 (R_rBytes z)) (c_rInt : a_rInt → Option g_rInt) (h_rInt : ∀ x z, c_rInt x = some z → SC E9 29 (A_rInt x).1 (A_rInt x).2 (R_rInt z)) (c_rUint : a_rUint → Option g_rUint) (h_rUint : ∀ x z, c_rUint x = some z → SC E9 30 (A_rUint x).1 (A_rUint x).2 (R_rUint z)) (q : Nat) (x : a_rEncode) : ∀ y z, rEncode_l0 c_rBytes c_rInt c_rUint q x y = some z → SL E9 (bodyOf E9 13 0) (rEncode_l0_S x y) (rEncode_l0_T x z).1 (rEncode_l0_T x z).2 :=
  SL.lp (LT := fun lo => lo) (T := rEncode_l0_T x) (S := rEncode_l0_S x) (ftab_cons h_rBytes xe_rBytes (ftab_cons h_rInt xe_rInt (ftab_cons h_rUint xe_rUint ca0_sound))) hX9 (fun lo h => h) (fun lo y => (rEncode_l0_r c_rBytes c_rInt c_rUint x y lo).trans (by rw [via_eq i_rBytes c_rBytes, via_eq i_rInt c_rInt, via_eq i_rUint c_rUint]; exact rEncode_l0_n _ _ _ _ _ _ _)) (rEncode_l0_k0 x) q
def t_rEncode {β : Type} (c_rBytes : a_rBytes → Option g_rBytes) (c_rInt : a_rInt → Option g_rInt) (c_rUint : a_rUint → Option g_rUint) (l_rEncode_l0 : rEncode_l0_a → Option rEncode_l0_g) (x : a_rEncode) (dn : g_rEncode → Option β) : Option β :=
 if ByteArray.size (x.1) ≤ maxLen then
  (c_rBytes ((ByteArray.size (x.1), fun (j : Nat) => ((UInt8.toNat (List.getD (Array.toList (ByteArray.data (x.1))) j (0 : UInt8)) : Nat) : Int)))).bind fun z2 =>
   (c_rInt (x.2.1)).bind fun z4 =>
    if 0 + z4.1 ≤ z4.1 ∧ 1 = 1 then
     if (z2.1 + z4.1) * 1 ≤ roomBound ∧ z2.1 + z4.1 ≤ maxLen ∧ z2.1 ≤ z2.1 then
      (c_rInt (x.2.2.1)).bind fun z6 =>
       if 0 + z6.1 ≤ z6.1 ∧ 1 = 1 then
        if (z2.1 + z4.1 + z6.1) * 1 ≤ roomBound ∧ z2.1 + z4.1 + z6.1 ≤ maxLen ∧ z2.1 + z4.1 ≤ z2.1 + z4.1 then
         (c_rUint (IntKind.wrap IntKind.u64 ((x.2.2.2.1 : Nat) : Int))).bind fun z8 =>
          if 0 + z8.2 ≤ z8.2 ∧ 1 = 1 then
           if (z2.1 + z4.1 + z6.1 + z8.2) * 1 ≤ roomBound ∧ z2.1 + z4.1 + z6.1 + z8.2 ≤ maxLen ∧ z2.1 + z4.1 + z6.1 ≤ z2.1 + z4.1 + z6.1 then
            (l_rEncode_l0 ((z2.1 + z4.1 + z6.1 + z8.2, fun (j : Nat) => if j < z2.1 + z4.1 + z6.1 then if j < z2.1 + z4.1 then if j < z2.1 then z2.2 j else z4.2 (0 + (j - z2.1)) else z6.2 (0 + (j - (z2.1 + z4.1))) else z8.1 (0 + (j - (z2.1 + z4.1 + z6.1))), (0 : Int)))).bind fun z30 =>
             dn z30
           else
            none
          else
           none
        else
         none
       else
        none
     else
      none
    else
     none
 else
  none
theorem n_rEncode {β : Type} (c_rBytes : a_rBytes → Option g_rBytes) (c_rInt : a_rInt → Option g_rInt) (c_rUint : a_rUint → Option g_rUint) (l_rEncode_l0 : rEncode_l0_a → Option rEncode_l0_g) (x : a_rEncode) (dn : g_rEncode → Option β) : t_rEncode c_rBytes c_rInt c_rUint l_rEncode_l0 x dn = (t_rEncode c_rBytes c_rInt c_rUint l_rEncode_l0 x some).bind dn := by
  unfold t_rEncode
  repeat' first | exact free_none | refine free_bind (fun z => ?_) | refine free_ite ?_ ?_ | refine free_sum (fun z => ?_) (fun z => ?_) | rfl
theorem r_rEncode (c_rBytes : a_rBytes → Option g_rBytes) (c_rInt : a_rInt → Option g_rInt) (c_rUint : a_rUint → Option g_rUint) (l_rEncode_l0 : rEncode_l0_a → Option rEncode_l0_g) (x : a_rEncode) : callK E9 (ftab 28 (fun _ _ => true) A_rBytes x_rBytes c_rBytes (ftab 29 (fun _ _ => true) A_rInt x_rInt c_rInt (ftab 30 (fun _ _ => true) A_rUint x_rUint c_rUint ca0))) (ltabF 0 (fun _ => true) (bodyOf E9 13 0) (rEncode_l0_S x) (rEncode_l0_x x) l_rEncode_l0 lo0) 13 (A_rEncode x).1 (A_rEncode x).2 K = t_rEncode (fun x => viaF A_rBytes c_rBytes (A_rBytes x)) (fun x => viaF A_rInt c_rInt (A_rInt x)) (fun x => viaF A_rUint c_rUint (A_rUint x)) (fun y => viaF (fun y => (bodyOf E9 13 0, rEncode_l0_S x y)) l_rEncode_l0 (bodyOf E9 13 0, rEncode_l0_S x y)) x (fun z => some (.c (R_rEncode z))) := by kernel_rfl
theorem s_rEncode (c_rBytes : a_rBytes → Option g_rBytes) (h_rBytes : ∀ x z, c_rBytes x = some z → SC E9 28 (A_rBytes x).1 (A_rBytes x).2 (R_rBytes z)) (c_rInt : a_rInt → Option g_rInt) (h_rInt : ∀ x z, c_rInt x = some z → SC E9 29 (A_rInt x).1 (A_rInt x).2 (R_rInt z)) (c_rUint : a_rUint → Option g_rUint) (h_rUint : ∀ x z, c_rUint x = some z → SC E9 30 (A_rUint x).1 (A_rUint x).2 (R_rUint z)) (q : Nat) (x : a_rEncode) (z : g_rEncode) (h : t_rEncode c_rBytes c_rInt c_rUint (rEncode_l0 c_rBytes c_rInt c_rUint q x) x some = some z) : SC E9 13 (A_rEncode x).1 (A_rEncode x).2 (R_rEncode z) := by
  refine SC.of hW9 hX9 (ftab_cons h_rBytes xe_rBytes (ftab_cons h_rInt xe_rInt (ftab_cons h_rUint xe_rUint ca0_sound))) (ltabF_cons (rEncode_l0_s c_rBytes h_rBytes c_rInt h_rInt c_rUint h_rUint q x) (rEncode_l0_xe x) lo0_sound) ((r_rEncode c_rBytes c_rInt c_rUint (rEncode_l0 c_rBytes c_rInt c_rUint q x) x).trans ?_)
  rw [via_eq i_rBytes c_rBytes, via_eq i_rInt c_rInt, via_eq i_rUint c_rUint, via_eq (pair_inj (bodyOf E9 13 0) (rEncode_l0_i x)) (rEncode_l0 c_rBytes c_rInt c_rUint q x), n_rEncode, h]; rfl
noncomputable def rEncode (q : Nat) (x : a_rEncode) : Option g_rEncode := t_rEncode (rBytes q) (rInt q) (rUint q) (rEncode_l0 (rBytes q) (rInt q) (rUint q) q x) x some
theorem sc_rEncode (q : Nat) : ∀ (x : a_rEncode) (z : g_rEncode), rEncode q x = some z → SC E9 13 (A_rEncode x).1 (A_rEncode x).2 (R_rEncode z) := fun x z h => s_rEncode (rBytes q) (sc_rBytes q) (rInt q) (sc_rInt q) (rUint q) (sc_rUint q) q x z h
abbrev a_SameB : Type := Nat × (Nat → Int) × Nat × (Nat → Int)
abbrev g_SameB : Type := Bool
def A_SameB : a_SameB → List V × List (Option Chunk) := (fun x => (fun (n : Nat) (f : Nat → Int) (m : Nat) (g : Nat → Int) => (([.ro 1 n (fun j => [u8 (f j)]), .ro 1 m (fun j => [u8 (g j)])] : List V), ([] : List (Option Chunk)))) x.1 x.2.1 x.2.2.1 x.2.2.2)
def d_SameB (t : List V × List (Option Chunk)) : a_SameB := ((vRoN (t.1.getD 0 .junk)), (fun j => (vI (((vRoF (t.1.getD 0 .junk)) j).getD 0 .junk))), (vRoN (t.1.getD 1 .junk)), (fun j => (vI (((vRoF (t.1.getD 1 .junk)) j).getD 0 .junk))))
theorem i_SameB : ∀ x y, A_SameB x = A_SameB y → x = y := fun x y h => (congrArg d_SameB h :)
def R_SameB : g_SameB → CRes := (fun z => CRes.ret (bo z) [] : (Bool) → CRes)
def x_SameB (z : g_SameB) (k : CRes → Option Ans) : Option Ans := k (R_SameB z)
theorem xe_SameB : ∀ z k, x_SameB z k = k (R_SameB z) := fun z k => rfl
def t_SameB {β : Type} (x : a_SameB) (dn : g_SameB → Option β) : Option β :=
 if (List.all (List.range (x.1)) fun (j : Nat) => u8c [u8 (x.2.1 j)]) = true then
  if (List.all (List.range (x.2.2.1)) fun (j : Nat) => u8c [u8 (x.2.2.2 j)]) = true then
   dn (ByteArray.toList (strOfV (x.1) fun (j : Nat) => [u8 (x.2.1 j)]) == ByteArray.toList (strOfV (x.2.2.1) fun (j : Nat) => [u8 (x.2.2.2 j)]))
  else
   none
 else
  none
theorem n_SameB {β : Type} (x : a_SameB) (dn : g_SameB → Option β) : t_SameB x dn = (t_SameB x some).bind dn := by
  unfold t_SameB
  repeat' first | exact free_none | refine free_bind (fun z => ?_) | refine free_ite ?_ ?_ | refine free_sum (fun z => ?_) (fun z => ?_) | rfl
theorem r_SameB (x : a_SameB) : callK E9 ca0 lo0 12 (A_SameB x).1 (A_SameB x).2 K = t_SameB x (fun z => some (.c (R_SameB z))) := by kernel_rfl
theorem s_SameB (q : Nat) (x : a_SameB) (z : g_SameB) (h : t_SameB x some = some z) : SC E9 12 (A_SameB x).1 (A_SameB x).2 (R_SameB z) := by
  refine SC.of hW9 hX9 ca0_sound lo0_sound ((r_SameB x).trans ?_)
  rw [n_SameB, h]; rfl
noncomputable def SameB (q : Nat) (x : a_SameB) : Option g_SameB := t_SameB x some
theorem sc_SameB (q : Nat) : ∀ (x : a_SameB) (z : g_SameB), SameB q x = some z → SC E9 12 (A_SameB x).1 (A_SameB x).2 (R_SameB z) := fun x z h => s_SameB q x z h
abbrev a_NewReader : Type := Nat × (Nat → Int)
abbrev g_NewReader : Type := Nat × (Nat → Int)
def A_NewReader : a_NewReader → List V × List (Option Chunk) := (fun x => (fun (n : Nat) (f : Nat → Int) => (([.ro 1 n (fun j => [u8 (f j)])] : List V), ([] : List (Option Chunk)))) x.1 x.2)
def d_NewReader (t : List V × List (Option Chunk)) : a_NewReader := ((vRoN (t.1.getD 0 .junk)), (fun j => (vI (((vRoF (t.1.getD 0 .junk)) j).getD 0 .junk))))
theorem i_NewReader : ∀ x y, A_NewReader x = A_NewReader y → x = y := fun x y h => (congrArg d_NewReader h :)
def R_NewReader : g_NewReader → CRes := (fun z => CRes.ret (V.ptr 0 0) [some (Chunk.blk [V.sl 1 1 0 (z.1), i64 (0 : Int), i64 (0 : Int)]), some (Chunk.row 5 1 (z.1) fun (j : Nat) => [V.sc (Value.int IntKind.u8 (z.2 j))])] : (Nat × (Nat → Int)) → CRes)
def x_NewReader (z : g_NewReader) (k : CRes → Option Ans) : Option Ans := k (R_NewReader z)
theorem xe_NewReader : ∀ z k, x_NewReader z k = k (R_NewReader z) := fun z k => rfl
def t_NewReader {β : Type} (c_cloneR : a_cloneR → Option g_cloneR) (x : a_NewReader) (dn : g_NewReader → Option β) : Option β :=
 (c_cloneR x).bind fun z2 =>
  dn z2
theorem n_NewReader {β : Type} (c_cloneR : a_cloneR → Option g_cloneR) (x : a_NewReader) (dn : g_NewReader → Option β) : t_NewReader c_cloneR x dn = (t_NewReader c_cloneR x some).bind dn := by
  unfold t_NewReader
  repeat' first | exact free_none | refine free_bind (fun z => ?_) | refine free_ite ?_ ?_ | refine free_sum (fun z => ?_) (fun z => ?_) | rfl
theorem r_NewReader (c_cloneR : a_cloneR → Option g_cloneR) (x : a_NewReader) : callK E9 (ftab 52 (fun _ L => L.length == 0) A_cloneR x_cloneR c_cloneR ca0) lo0 31 (A_NewReader x).1 (A_NewReader x).2 K = t_NewReader (fun x => viaF A_cloneR c_cloneR (A_cloneR x)) x (fun z => some (.c (R_NewReader z))) := by kernel_rfl
theorem s_NewReader (c_cloneR : a_cloneR → Option g_cloneR) (h_cloneR : ∀ x z, c_cloneR x = some z → SC E9 52 (A_cloneR x).1 (A_cloneR x).2 (R_cloneR z)) (q : Nat) (x : a_NewReader) (z : g_NewReader) (h : t_NewReader c_cloneR x some = some z) : SC E9 31 (A_NewReader x).1 (A_NewReader x).2 (R_NewReader z) := by
  refine SC.of hW9 hX9 (ftab_cons h_cloneR xe_cloneR ca0_sound) lo0_sound ((r_NewReader c_cloneR x).trans ?_)
  rw [via_eq i_cloneR c_cloneR, n_NewReader, h]; rfl
noncomputable def NewReader (q : Nat) (x : a_NewReader) : Option g_NewReader := t_NewReader (cloneR q) x some
theorem sc_NewReader (q : Nat) : ∀ (x : a_NewReader) (z : g_NewReader), NewReader q x = some z → SC E9 31 (A_NewReader x).1 (A_NewReader x).2 (R_NewReader z) := fun x z h => s_NewReader (cloneR q) (sc_cloneR q) q x z h
abbrev a_RUint : Type := Int × Int × Nat × (Nat → Int)
abbrev g_RUint : Type := Nat × Int × Int × (Nat → Int) × Int
def A_RUint : a_RUint → List V × List (Option Chunk) := (fun x => (fun (p : Int) (e : Int) (n : Nat) (f : Nat → Int) => (([.ptr 0 0] : List V), ([some (.blk [.sl 1 1 0 n, i64 p, i64 e]), some (.row 5 1 n (fun j => [u8 (f j)]))] : List (Option Chunk)))) x.1 x.2.1 x.2.2.1 x.2.2.2)
def d_RUint (t : List V × List (Option Chunk)) : a_RUint := ((vI ((chB (t.2.getD 0 none)).getD 1 .junk)), (vI ((chB (t.2.getD 0 none)).getD 2 .junk)), (vSlN ((chB (t.2.getD 0 none)).getD 0 .junk)), (fun j => (vI (((chF (t.2.getD 1 none)) j).getD 0 .junk))))
theorem i_RUint : ∀ x y, A_RUint x = A_RUint y → x = y := fun x y h => (congrArg d_RUint h :)
def R_RUint : g_RUint → CRes := (fun z => CRes.ret (V.sc (Value.int IntKind.u64 (z.2.2.2.2))) [some (Chunk.blk [V.sl 1 1 0 (z.1), i64 (z.2.1), i64 (z.2.2.1)]), some (Chunk.row 5 1 (z.1) fun (j : Nat) => [V.sc (Value.int IntKind.u8 (z.2.2.2.1 j))])] : (Nat × Int × Int × (Nat → Int) × Int) → CRes)
def x_RUint (z : g_RUint) (k : CRes → Option Ans) : Option Ans := k (R_RUint z)
theorem xe_RUint : ∀ z k, x_RUint z k = k (R_RUint z) := fun z k => rfl
abbrev RUint_l0_a : Type := Int × Int × Int
abbrev RUint_l0_g : Type := (Int × Int) ⊕ (Int × Int)
def RUint_l0_S (x : a_RUint) (y : RUint_l0_a) : St := { fr := [V.ptr 0 0, V.junk, V.junk, V.sc (Value.int IntKind.u64 (y.1)), i64 (y.2.1)] ++ jk 65, H := hp [some (Chunk.blk [V.sl 1 1 0 (x.2.2.1), i64 (y.2.2), i64 (x.2.1)]), some (Chunk.row 5 1 (x.2.2.1) fun (j : Nat) => [V.sc (Value.int IntKind.u8 (x.2.2.2 j))])], nx := 2, rt := 1, me := 34 }
def RUint_l0_d (s : St) : RUint_l0_a := ((vI (s.fr.getD 3 .junk)), (vI (s.fr.getD 4 .junk)), (vI ((chB (s.H 0)).getD 1 .junk)))
theorem RUint_l0_i (x : a_RUint) : ∀ y y', RUint_l0_S x y = RUint_l0_S x y' → y = y' := fun y y' h => (congrArg RUint_l0_d h :)
def RUint_l0_T (x : a_RUint) : RUint_l0_g → Ex × St := (Sum.elim (fun z => (Ex.exit 0, { fr := [V.junk] ++ jk 69, H := hp [some (Chunk.blk [V.sl 1 1 0 (x.2.2.1), i64 (z.1), i64 (z.2)]), some (Chunk.row 5 1 (x.2.2.1) fun (j : Nat) => [V.sc (Value.int IntKind.u8 (x.2.2.2 j))])], nx := 2, rt := 1, me := 34 })) (fun z => (Ex.ret, { fr := [V.junk, V.junk, V.sc (Value.int IntKind.u64 (z.1))] ++ jk 67, H := hp [some (Chunk.blk [V.sl 1 1 0 (x.2.2.1), i64 (z.2), i64 (x.2.1)]), some (Chunk.row 5 1 (x.2.2.1) fun (j : Nat) => [V.sc (Value.int IntKind.u8 (x.2.2.2 j))])], nx := 2, rt := 1, me := 34 })))
def RUint_l0_x (x : a_RUint) (z : RUint_l0_g) (k : KX) : Option Ans := Sum.elim (fun za => k (RUint_l0_T x (.inl za)).1 (RUint_l0_T x (.inl za)).2) (fun zb => k (RUint_l0_T x (.inr zb)).1 (RUint_l0_T x (.inr zb)).2) z
theorem RUint_l0_xe (x : a_RUint) : ∀ z k, RUint_l0_x x z k = k (RUint_l0_T x z).1 (RUint_l0_T x z).2 := fun z k => by
  rcases z with z | z <;> rfl
theorem RUint_l0_k0 (x : a_RUint) (z : Int × Int) : KCM [(0, 0)] 4 (RUint_l0_T x (.inl z)).1 (RUint_l0_T x (.inl z)).2 = some (.l (RUint_l0_T x (.inl z)).1 (RUint_l0_T x (.inl z)).2) := by kernel_rfl
theorem RUint_l0_k1 (x : a_RUint) (z : Int × Int) : KCM [(0, 0)] 4 (RUint_l0_T x (.inr z)).1 (RUint_l0_T x (.inr z)).2 = some (.l (RUint_l0_T x (.inr z)).1 (RUint_l0_T x (.inr z)).2) := by kernel_rfl
def RUint_l0_t {β : Type} (x : a_RUint) (y : RUint_l0_a) (nx : RUint_l0_a → Option β) (dn : RUint_l0_g → Option β) : Option β :=
 if (y.2.2 == ((x.2.2.1 : Nat) : Int)) = true then
  dn (.inl ((y.2.2, (6 : Int))))
 else
  if (0 : Int) ≤ y.2.2 ∧ y.2.2 < ((x.2.2.1 : Nat) : Int) then
   if 0 + Int.toNat (y.2.2) < x.2.2.1 ∧ 1 = 1 then
    if (y.2.1 == (9 : Int)) = true then
     if (x.2.2.2 (0 + Int.toNat (y.2.2)) != (1 : Int)) = true then
      dn (.inl ((y.2.2, (7 : Int))))
     else
      if decide (y.2.1 > (0 : Int)) = true then
       if (x.2.2.2 (0 + Int.toNat (y.2.2)) == (0 : Int)) = true then
        dn (.inl ((y.2.2, (7 : Int))))
       else
        if w ((7 : Int) * y.2.1) < (0 : Int) then
         none
        else
         if decide (x.2.2.2 (0 + Int.toNat (y.2.2)) < (128 : Int)) = true then
          dn (.inr ((orI IntKind.u64 (y.1) (shlI IntKind.u64 (IntKind.wrap IntKind.u64 (andI IntKind.u8 (x.2.2.2 (0 + Int.toNat (y.2.2))) (127 : Int))) (w ((7 : Int) * y.2.1))), w (y.2.2 + (1 : Int)))))
         else
          nx ((orI IntKind.u64 (y.1) (shlI IntKind.u64 (IntKind.wrap IntKind.u64 (andI IntKind.u8 (x.2.2.2 (0 + Int.toNat (y.2.2))) (127 : Int))) (w ((7 : Int) * y.2.1))), w (y.2.1 + (1 : Int)), w (y.2.2 + (1 : Int))))
      else
       if w ((7 : Int) * y.2.1) < (0 : Int) then
        none
       else
        if decide (x.2.2.2 (0 + Int.toNat (y.2.2)) < (128 : Int)) = true then
         dn (.inr ((orI IntKind.u64 (y.1) (shlI IntKind.u64 (IntKind.wrap IntKind.u64 (andI IntKind.u8 (x.2.2.2 (0 + Int.toNat (y.2.2))) (127 : Int))) (w ((7 : Int) * y.2.1))), w (y.2.2 + (1 : Int)))))
        else
         nx ((orI IntKind.u64 (y.1) (shlI IntKind.u64 (IntKind.wrap IntKind.u64 (andI IntKind.u8 (x.2.2.2 (0 + Int.toNat (y.2.2))) (127 : Int))) (w ((7 : Int) * y.2.1))), w (y.2.1 + (1 : Int)), w (y.2.2 + (1 : Int))))
    else
     if decide (y.2.1 > (0 : Int)) = true then
      if (x.2.2.2 (0 + Int.toNat (y.2.2)) == (0 : Int)) = true then
       dn (.inl ((y.2.2, (7 : Int))))
      else
       if w ((7 : Int) * y.2.1) < (0 : Int) then
        none
       else
        if decide (x.2.2.2 (0 + Int.toNat (y.2.2)) < (128 : Int)) = true then
         dn (.inr ((orI IntKind.u64 (y.1) (shlI IntKind.u64 (IntKind.wrap IntKind.u64 (andI IntKind.u8 (x.2.2.2 (0 + Int.toNat (y.2.2))) (127 : Int))) (w ((7 : Int) * y.2.1))), w (y.2.2 + (1 : Int)))))
        else
         nx ((orI IntKind.u64 (y.1) (shlI IntKind.u64 (IntKind.wrap IntKind.u64 (andI IntKind.u8 (x.2.2.2 (0 + Int.toNat (y.2.2))) (127 : Int))) (w ((7 : Int) * y.2.1))), w (y.2.1 + (1 : Int)), w (y.2.2 + (1 : Int))))
     else
      if w ((7 : Int) * y.2.1) < (0 : Int) then
       none
      else
       if decide (x.2.2.2 (0 + Int.toNat (y.2.2)) < (128 : Int)) = true then
        dn (.inr ((orI IntKind.u64 (y.1) (shlI IntKind.u64 (IntKind.wrap IntKind.u64 (andI IntKind.u8 (x.2.2.2 (0 + Int.toNat (y.2.2))) (127 : Int))) (w ((7 : Int) * y.2.1))), w (y.2.2 + (1 : Int)))))
       else
        nx ((orI IntKind.u64 (y.1) (shlI IntKind.u64 (IntKind.wrap IntKind.u64 (andI IntKind.u8 (x.2.2.2 (0 + Int.toNat (y.2.2))) (127 : Int))) (w ((7 : Int) * y.2.1))), w (y.2.1 + (1 : Int)), w (y.2.2 + (1 : Int))))
   else
    none
  else
   none
theorem RUint_l0_n {β : Type} (x : a_RUint) (y : RUint_l0_a) (nx : RUint_l0_a → Option β) (dn : RUint_l0_g → Option β) : RUint_l0_t x y nx dn = (RUint_l0_t x y (fun y => some (.inl y)) (fun z => some (.inr z))).bind fun r => Sum.elim nx dn r := by
  unfold RUint_l0_t
  repeat' first | exact free_none | refine free_bind (fun z => ?_) | refine free_ite ?_ ?_ | refine free_sum (fun z => ?_) (fun z => ?_) | rfl
theorem RUint_l0_r (x : a_RUint) (y : RUint_l0_a) (lo : LoopT) : loopK E9 ca0 lo 0 25 (bodyOf E9 34 0) (RUint_l0_S x y) (KCM [(0, 0)] 4) = RUint_l0_t x y (fun y => lo 0 25 (bodyOf E9 34 0) (RUint_l0_S x y) (KCM [(0, 0)] 4)) (fun z => some (.l (RUint_l0_T x z).1 (RUint_l0_T x z).2)) := by kernel_rfl
noncomputable def RUint_l0 (q : Nat) (x : a_RUint) : RUint_l0_a → Option RUint_l0_g := lpG (fun y => RUint_l0_t x y (fun y => some (.inl y)) (fun z => some (.inr z))) q
theorem RUint_l0_s (q : Nat) (x : a_RUint) : ∀ y z, RUint_l0 q x y = some z → SL E9 (bodyOf E9 34 0) (RUint_l0_S x y) (RUint_l0_T x z).1 (RUint_l0_T x z).2 :=
  SL.lp (LT := fun lo => lo) (T := RUint_l0_T x) (S := RUint_l0_S x) ca0_sound hX9 (fun lo h => h) (fun lo y => (RUint_l0_r x y lo).trans (by exact RUint_l0_n  _ _ _ _)) (fun z => by rcases z with z | z <;> first | exact RUint_l0_k0 x z | exact RUint_l0_k1 x z) q
def t_RUint {β : Type} (l_RUint_l0 : RUint_l0_a → Option RUint_l0_g) (x : a_RUint) (dn : g_RUint → Option β) : Option β :=
 if (x.2.1 != (0 : Int)) = true then
  dn ((x.2.2.1, x.1, x.2.1, x.2.2.2, (0 : Int)))
 else
  (l_RUint_l0 (((0 : Int), (0 : Int), x.1))).bind fun z31 =>
   Sum.elim (fun z31a =>
   dn ((x.2.2.1, z31a.1, z31a.2, x.2.2.2, (0 : Int)))) (fun z31b =>
   dn ((x.2.2.1, z31b.2, x.2.1, x.2.2.2, z31b.1))) z31
theorem n_RUint {β : Type} (l_RUint_l0 : RUint_l0_a → Option RUint_l0_g) (x : a_RUint) (dn : g_RUint → Option β) : t_RUint l_RUint_l0 x dn = (t_RUint l_RUint_l0 x some).bind dn := by
  unfold t_RUint
  repeat' first | exact free_none | refine free_bind (fun z => ?_) | refine free_ite ?_ ?_ | refine free_sum (fun z => ?_) (fun z => ?_) | rfl
theorem r_RUint (l_RUint_l0 : RUint_l0_a → Option RUint_l0_g) (x : a_RUint) : callK E9 ca0 (ltabF 0 (fun _ => true) (bodyOf E9 34 0) (RUint_l0_S x) (RUint_l0_x x) l_RUint_l0 lo0) 34 (A_RUint x).1 (A_RUint x).2 K = t_RUint (fun y => viaF (fun y => (bodyOf E9 34 0, RUint_l0_S x y)) l_RUint_l0 (bodyOf E9 34 0, RUint_l0_S x y)) x (fun z => some (.c (R_RUint z))) := by kernel_rfl
theorem s_RUint (q : Nat) (x : a_RUint) (z : g_RUint) (h : t_RUint (RUint_l0 q x) x some = some z) : SC E9 34 (A_RUint x).1 (A_RUint x).2 (R_RUint z) := by
  refine SC.of hW9 hX9 ca0_sound (ltabF_cons (RUint_l0_s q x) (RUint_l0_xe x) lo0_sound) ((r_RUint (RUint_l0 q x) x).trans ?_)
  rw [via_eq (pair_inj (bodyOf E9 34 0) (RUint_l0_i x)) (RUint_l0 q x), n_RUint, h]; rfl
noncomputable def RUint (q : Nat) (x : a_RUint) : Option g_RUint := t_RUint (RUint_l0 q x) x some
theorem sc_RUint (q : Nat) : ∀ (x : a_RUint) (z : g_RUint), RUint q x = some z → SC E9 34 (A_RUint x).1 (A_RUint x).2 (R_RUint z) := fun x z h => s_RUint q x z h
abbrev a_RInt : Type := Int × Int × Nat × (Nat → Int)
abbrev g_RInt : Type := Int × Nat × Int × Int × (Nat → Int)
def A_RInt : a_RInt → List V × List (Option Chunk) := (fun x => (fun (p : Int) (e : Int) (n : Nat) (f : Nat → Int) => (([.ptr 0 0] : List V), ([some (.blk [.sl 1 1 0 n, i64 p, i64 e]), some (.row 5 1 n (fun j => [u8 (f j)]))] : List (Option Chunk)))) x.1 x.2.1 x.2.2.1 x.2.2.2)
def d_RInt (t : List V × List (Option Chunk)) : a_RInt := ((vI ((chB (t.2.getD 0 none)).getD 1 .junk)), (vI ((chB (t.2.getD 0 none)).getD 2 .junk)), (vSlN ((chB (t.2.getD 0 none)).getD 0 .junk)), (fun j => (vI (((chF (t.2.getD 1 none)) j).getD 0 .junk))))
theorem i_RInt : ∀ x y, A_RInt x = A_RInt y → x = y := fun x y h => (congrArg d_RInt h :)
def R_RInt : g_RInt → CRes := (fun z => CRes.ret (i64 (z.1)) [some (Chunk.blk [V.sl 1 1 0 (z.2.1), i64 (z.2.2.1), i64 (z.2.2.2.1)]), some (Chunk.row 5 1 (z.2.1) fun (j : Nat) => [V.sc (Value.int IntKind.u8 (z.2.2.2.2 j))])] : (Int × Nat × Int × Int × (Nat → Int)) → CRes)
def x_RInt (z : g_RInt) (k : CRes → Option Ans) : Option Ans := k (R_RInt z)
theorem xe_RInt : ∀ z k, x_RInt z k = k (R_RInt z) := fun z k => rfl
def t_RInt {β : Type} (c_RUint : a_RUint → Option g_RUint) (x : a_RInt) (dn : g_RInt → Option β) : Option β :=
 (c_RUint x).bind fun z4 =>
  dn ((xorI IntKind.i64 (w (shrI IntKind.u64 (z4.2.2.2.2) (1 : Int))) (w ((0 : Int) - w (andI IntKind.u64 (z4.2.2.2.2) (1 : Int)))), z4.1, z4.2.1, z4.2.2.1, z4.2.2.2.1))
theorem n_RInt {β : Type} (c_RUint : a_RUint → Option g_RUint) (x : a_RInt) (dn : g_RInt → Option β) : t_RInt c_RUint x dn = (t_RInt c_RUint x some).bind dn := by
  unfold t_RInt
  repeat' first | exact free_none | refine free_bind (fun z => ?_) | refine free_ite ?_ ?_ | refine free_sum (fun z => ?_) (fun z => ?_) | rfl
theorem r_RInt (c_RUint : a_RUint → Option g_RUint) (x : a_RInt) : callK E9 (ftab 34 (fun _ _ => true) A_RUint x_RUint c_RUint ca0) lo0 33 (A_RInt x).1 (A_RInt x).2 K = t_RInt (fun x => viaF A_RUint c_RUint (A_RUint x)) x (fun z => some (.c (R_RInt z))) := by kernel_rfl
theorem s_RInt (c_RUint : a_RUint → Option g_RUint) (h_RUint : ∀ x z, c_RUint x = some z → SC E9 34 (A_RUint x).1 (A_RUint x).2 (R_RUint z)) (q : Nat) (x : a_RInt) (z : g_RInt) (h : t_RInt c_RUint x some = some z) : SC E9 33 (A_RInt x).1 (A_RInt x).2 (R_RInt z) := by
  refine SC.of hW9 hX9 (ftab_cons h_RUint xe_RUint ca0_sound) lo0_sound ((r_RInt c_RUint x).trans ?_)
  rw [via_eq i_RUint c_RUint, n_RInt, h]; rfl
noncomputable def RInt (q : Nat) (x : a_RInt) : Option g_RInt := t_RInt (RUint q) x some
theorem sc_RInt (q : Nat) : ∀ (x : a_RInt) (z : g_RInt), RInt q x = some z → SC E9 33 (A_RInt x).1 (A_RInt x).2 (R_RInt z) := fun x z h => s_RInt (RUint q) (sc_RUint q) q x z h
abbrev a_RSize : Type := Int × Int × Int × Nat × (Nat → Int)
abbrev g_RSize : Type := Int × Nat × Int × (Nat → Int) × Bool × Int
def A_RSize : a_RSize → List V × List (Option Chunk) := (fun x => (fun (mo : Int) (p : Int) (e : Int) (n : Nat) (f : Nat → Int) => (([.ptr 0 0, i64 mo] : List V), ([some (.blk [.sl 1 1 0 n, i64 p, i64 e]), some (.row 5 1 n (fun j => [u8 (f j)]))] : List (Option Chunk)))) x.1 x.2.1 x.2.2.1 x.2.2.2.1 x.2.2.2.2)
def d_RSize (t : List V × List (Option Chunk)) : a_RSize := ((vI (t.1.getD 1 .junk)), (vI ((chB (t.2.getD 0 none)).getD 1 .junk)), (vI ((chB (t.2.getD 0 none)).getD 2 .junk)), (vSlN ((chB (t.2.getD 0 none)).getD 0 .junk)), (fun j => (vI (((chF (t.2.getD 1 none)) j).getD 0 .junk))))
theorem i_RSize : ∀ x y, A_RSize x = A_RSize y → x = y := fun x y h => (congrArg d_RSize h :)
def R_RSize : g_RSize → CRes := (fun z => CRes.ret (V.tup [i64 (z.1), bo (z.2.2.2.2.1)]) [some (Chunk.blk [V.sl 1 1 0 (z.2.1), i64 (z.2.2.1), i64 (z.2.2.2.2.2)]), some (Chunk.row 5 1 (z.2.1) fun (j : Nat) => [V.sc (Value.int IntKind.u8 (z.2.2.2.1 j))])] : (Int × Nat × Int × (Nat → Int) × Bool × Int) → CRes)
def x_RSize (z : g_RSize) (k : CRes → Option Ans) : Option Ans := k (R_RSize z)
theorem xe_RSize : ∀ z k, x_RSize z k = k (R_RSize z) := fun z k => rfl
def t_RSize {β : Type} (c_RUint : a_RUint → Option g_RUint) (x : a_RSize) (dn : g_RSize → Option β) : Option β :=
 (c_RUint (x.2)).bind fun z4 =>
  if (z4.2.2.1 == (0 : Int)) = true then
   if decide (x.1 < (0 : Int)) = true then
    dn ((w (z4.2.2.2.2), z4.1, z4.2.1, z4.2.2.2.1, false, (2 : Int)))
   else
    if decide (z4.2.2.2.2 > IntKind.wrap IntKind.u64 (x.1)) = true then
     dn ((w (z4.2.2.2.2), z4.1, z4.2.1, z4.2.2.2.1, false, (2 : Int)))
    else
     dn ((w (z4.2.2.2.2), z4.1, z4.2.1, z4.2.2.2.1, z4.2.2.1 == (0 : Int), z4.2.2.1))
  else
   dn ((w (z4.2.2.2.2), z4.1, z4.2.1, z4.2.2.2.1, z4.2.2.1 == (0 : Int), z4.2.2.1))
theorem n_RSize {β : Type} (c_RUint : a_RUint → Option g_RUint) (x : a_RSize) (dn : g_RSize → Option β) : t_RSize c_RUint x dn = (t_RSize c_RUint x some).bind dn := by
  unfold t_RSize
  repeat' first | exact free_none | refine free_bind (fun z => ?_) | refine free_ite ?_ ?_ | refine free_sum (fun z => ?_) (fun z => ?_) | rfl
theorem r_RSize (c_RUint : a_RUint → Option g_RUint) (x : a_RSize) : callK E9 (ftab 34 (fun _ _ => true) A_RUint x_RUint c_RUint ca0) lo0 54 (A_RSize x).1 (A_RSize x).2 K = t_RSize (fun x => viaF A_RUint c_RUint (A_RUint x)) x (fun z => some (.c (R_RSize z))) := by kernel_rfl
theorem s_RSize (c_RUint : a_RUint → Option g_RUint) (h_RUint : ∀ x z, c_RUint x = some z → SC E9 34 (A_RUint x).1 (A_RUint x).2 (R_RUint z)) (q : Nat) (x : a_RSize) (z : g_RSize) (h : t_RSize c_RUint x some = some z) : SC E9 54 (A_RSize x).1 (A_RSize x).2 (R_RSize z) := by
  refine SC.of hW9 hX9 (ftab_cons h_RUint xe_RUint ca0_sound) lo0_sound ((r_RSize c_RUint x).trans ?_)
  rw [via_eq i_RUint c_RUint, n_RSize, h]; rfl
noncomputable def RSize (q : Nat) (x : a_RSize) : Option g_RSize := t_RSize (RUint q) x some
theorem sc_RSize (q : Nat) : ∀ (x : a_RSize) (z : g_RSize), RSize q x = some z → SC E9 54 (A_RSize x).1 (A_RSize x).2 (R_RSize z) := fun x z h => s_RSize (RUint q) (sc_RUint q) q x z h
abbrev a_RBytes : Type := Int × Int × Int × Nat × (Nat → Int)
abbrev g_RBytes : Type := (Nat × Int × (Nat → Int) × Int) ⊕ (Nat × Nat × Int × Int × Nat × (Nat → Int) × (Nat → Int))
def A_RBytes : a_RBytes → List V × List (Option Chunk) := (fun x => (fun (mo : Int) (p : Int) (e : Int) (n : Nat) (f : Nat → Int) => (([.ptr 0 0, i64 mo] : List V), ([some (.blk [.sl 1 1 0 n, i64 p, i64 e]), some (.row 5 1 n (fun j => [u8 (f j)]))] : List (Option Chunk)))) x.1 x.2.1 x.2.2.1 x.2.2.2.1 x.2.2.2.2)
def R_RBytes : g_RBytes → CRes := Sum.elim ((fun z => CRes.ret (nilS) [some (Chunk.blk [V.sl 1 1 0 (z.1), i64 (z.2.1), i64 (z.2.2.2)]), some (Chunk.row 5 1 (z.1) fun (j : Nat) => [V.sc (Value.int IntKind.u8 (z.2.2.1 j))])] : (Nat × Int × (Nat → Int) × Int) → CRes)) ((fun z => CRes.ret (V.sl 2 1 0 (z.1)) [some (Chunk.blk [V.sl 1 1 0 (z.2.1), i64 (z.2.2.1), i64 (z.2.2.2.1)]), some (Chunk.row 5 1 (z.2.2.2.2.1) fun (j : Nat) => [V.sc (Value.int IntKind.u8 (z.2.2.2.2.2.1 j))]), some (Chunk.row 5 1 (z.1) fun (j : Nat) => [V.sc (Value.int IntKind.u8 (z.2.2.2.2.2.2 j))])] : (Nat × Nat × Int × Int × Nat × (Nat → Int) × (Nat → Int)) → CRes))
def t_RBytes {β : Type} (c_RSize : a_RSize → Option g_RSize) (c_cloneO : a_cloneO → Option g_cloneO) (x : a_RBytes) (dn : g_RBytes → Option β) : Option β :=
 (c_RSize x).bind fun z5 =>
  if z5.2.2.2.2.1 = true then
   if decide (z5.1 > w (((z5.2.1 : Nat) : Int) - z5.2.2.1)) = true then
    dn (.inl ((z5.2.1, z5.2.2.1, z5.2.2.2.1, (6 : Int))))
   else
    if (z5.2.2.2.2.2 != (0 : Int)) = true then
     dn (.inl ((z5.2.1, z5.2.2.1, z5.2.2.2.1, z5.2.2.2.2.2)))
    else
     if (0 : Int) ≤ w (w (z5.2.2.1 + z5.1) - z5.1) ∧ w (w (z5.2.2.1 + z5.1) - z5.1) ≤ w (z5.2.2.1 + z5.1) ∧ w (z5.2.2.1 + z5.1) ≤ ((z5.2.1 : Nat) : Int) then
      (c_cloneO ((0 + Int.toNat (w (w (z5.2.2.1 + z5.1) - z5.1)), Int.toNat (w (z5.2.2.1 + z5.1)) - Int.toNat (w (w (z5.2.2.1 + z5.1) - z5.1)), z5.2.1, z5.2.2.2.1))).bind fun z10 =>
       dn (.inr ((z10.2.2.1, z5.2.1, w (z5.2.2.1 + z5.1), z5.2.2.2.2.2, z10.1, z10.2.1, z10.2.2.2)))
     else
      none
  else
   if (z5.2.2.2.2.2 != (0 : Int)) = true then
    dn (.inl ((z5.2.1, z5.2.2.1, z5.2.2.2.1, z5.2.2.2.2.2)))
   else
    if (0 : Int) ≤ w (w (z5.2.2.1 + z5.1) - z5.1) ∧ w (w (z5.2.2.1 + z5.1) - z5.1) ≤ w (z5.2.2.1 + z5.1) ∧ w (z5.2.2.1 + z5.1) ≤ ((z5.2.1 : Nat) : Int) then
     (c_cloneO ((0 + Int.toNat (w (w (z5.2.2.1 + z5.1) - z5.1)), Int.toNat (w (z5.2.2.1 + z5.1)) - Int.toNat (w (w (z5.2.2.1 + z5.1) - z5.1)), z5.2.1, z5.2.2.2.1))).bind fun z15 =>
      dn (.inr ((z15.2.2.1, z5.2.1, w (z5.2.2.1 + z5.1), z5.2.2.2.2.2, z15.1, z15.2.1, z15.2.2.2)))
    else
     none
theorem n_RBytes {β : Type} (c_RSize : a_RSize → Option g_RSize) (c_cloneO : a_cloneO → Option g_cloneO) (x : a_RBytes) (dn : g_RBytes → Option β) : t_RBytes c_RSize c_cloneO x dn = (t_RBytes c_RSize c_cloneO x some).bind dn := by
  unfold t_RBytes
  repeat' first | exact free_none | refine free_bind (fun z => ?_) | refine free_ite ?_ ?_ | refine free_sum (fun z => ?_) (fun z => ?_) | rfl
theorem r_RBytes (c_RSize : a_RSize → Option g_RSize) (c_cloneO : a_cloneO → Option g_cloneO) (x : a_RBytes) : callK E9 (ftab 54 (fun _ _ => true) A_RSize x_RSize c_RSize (ftab 52 (fun _ L => L.length == 1) A_cloneO x_cloneO c_cloneO ca0)) lo0 32 (A_RBytes x).1 (A_RBytes x).2 K = t_RBytes (fun x => viaF A_RSize c_RSize (A_RSize x)) (fun x => viaF A_cloneO c_cloneO (A_cloneO x)) x (fun z => some (.c (R_RBytes z))) := by kernel_rfl
theorem s_RBytes (c_RSize : a_RSize → Option g_RSize) (h_RSize : ∀ x z, c_RSize x = some z → SC E9 54 (A_RSize x).1 (A_RSize x).2 (R_RSize z)) (c_cloneO : a_cloneO → Option g_cloneO) (h_cloneO : ∀ x z, c_cloneO x = some z → SC E9 52 (A_cloneO x).1 (A_cloneO x).2 (R_cloneO z)) (q : Nat) (x : a_RBytes) (z : g_RBytes) (h : t_RBytes c_RSize c_cloneO x some = some z) : SC E9 32 (A_RBytes x).1 (A_RBytes x).2 (R_RBytes z) := by
  refine SC.of hW9 hX9 (ftab_cons h_RSize xe_RSize (ftab_cons h_cloneO xe_cloneO ca0_sound)) lo0_sound ((r_RBytes c_RSize c_cloneO x).trans ?_)
  rw [via_eq i_RSize c_RSize, via_eq i_cloneO c_cloneO, n_RBytes, h]; rfl
noncomputable def RBytes (q : Nat) (x : a_RBytes) : Option g_RBytes := t_RBytes (RSize q) (cloneO q) x some
theorem sc_RBytes (q : Nat) : ∀ (x : a_RBytes) (z : g_RBytes), RBytes q x = some z → SC E9 32 (A_RBytes x).1 (A_RBytes x).2 (R_RBytes z) := fun x z h => s_RBytes (RSize q) (sc_RSize q) (cloneO q) (sc_cloneO q) q x z h
abbrev a_RBytes1 : Type := Int × Int × Int × Nat × (Nat → Int)
abbrev g_RBytes1 : Type := Int × Int × Nat × (Nat → Int) × Nat × (Nat → Int)
def A_RBytes1 : a_RBytes1 → List V × List (Option Chunk) := (fun x => (fun (mo : Int) (p : Int) (e : Int) (n : Nat) (f : Nat → Int) => (([.ptr 0 0, i64 mo] : List V), ([some (.blk [.sl 1 1 0 n, i64 p, i64 e]), some (.row 5 1 n (fun j => [u8 (f j)]))] : List (Option Chunk)))) x.1 x.2.1 x.2.2.1 x.2.2.2.1 x.2.2.2.2)
def d_RBytes1 (t : List V × List (Option Chunk)) : a_RBytes1 := (vI (t.1.getD 1 .junk), vI ((chB (t.2.getD 0 none)).getD 1 .junk), vI ((chB (t.2.getD 0 none)).getD 2 .junk), (chN (t.2.getD 1 none)), (fun j => (vI ((chF (t.2.getD 1 none) j).getD 0 .junk))))
theorem i_RBytes1 : ∀ x y, A_RBytes1 x = A_RBytes1 y → x = y := fun x y h => (congrArg d_RBytes1 h :)
def R_RBytes1 : g_RBytes1 → CRes := (fun z => (fun (p : Int) (e : Int) (n : Nat) (f : Nat → Int) (l : Nat) (g : Nat → Int) => .ret (.sl 2 1 0 l) [some (.blk [.sl 1 1 0 n, i64 p, i64 e]), some (.row 5 1 n (fun j => [u8 (f j)])), some (.row 5 1 l (fun j => [u8 (g j)]))]) z.1 z.2.1 z.2.2.1 z.2.2.2.1 z.2.2.2.2.1 z.2.2.2.2.2 : (Int × Int × Nat × (Nat → Int) × Nat × (Nat → Int)) → CRes)
def x_RBytes1 (z : g_RBytes1) (k : CRes → Option Ans) : Option Ans := k (R_RBytes1 z)
theorem xe_RBytes1 : ∀ z k, x_RBytes1 z k = k (R_RBytes1 z) := fun z k => rfl
noncomputable def RBytes1 (q : Nat) (x : a_RBytes1) : Option g_RBytes1 := (RBytes q x).bind (Sum.elim (fun z => some (z.2.1, z.2.2.2, z.1, z.2.2.1, 0, fun _ => 0)) (fun z => if z.2.1 = z.2.2.2.2.1 then some (z.2.2.1, z.2.2.2.1, z.2.1, z.2.2.2.2.2.1, z.1, z.2.2.2.2.2.2) else none))
theorem sc_RBytes1 (q : Nat) : ∀ (x : a_RBytes1) (z : g_RBytes1), RBytes1 q x = some z → SC E9 32 (A_RBytes1 x).1 (A_RBytes1 x).2 (R_RBytes1 z) := by
  intro x z h
  unfold RBytes1 at h
  obtain ⟨y, hy, h⟩ := Option.bind_eq_some_iff.1 h
  have hs := sc_RBytes q x y hy
  rcases y with y | y
  · cases h
    refine SC.virt 5 1 (fun _ => [u8 0]) (by decide) hs (fun β S w u b hb hd => nil_sl (by show 2 < 3; decide) hb hd) (by show 1 ≤ 2; decide)
  · simp only [Sum.elim_inr] at h
    split at h
    · rename_i hn
      cases h
      obtain ⟨l, n, p, e, n', f, g⟩ := y
      simp only at hn
      subst hn
      exact hs
    · cases h
abbrev a_RFail : Type := Int × Int × Int × Nat × (Nat → Int)
abbrev g_RFail : Type := Nat × Int × Int × (Nat → Int)
def A_RFail : a_RFail → List V × List (Option Chunk) := (fun x => (fun (c : Int) (p : Int) (e : Int) (n : Nat) (f : Nat → Int) => (([.ptr 0 0, i64 c] : List V), ([some (.blk [.sl 1 1 0 n, i64 p, i64 e]), some (.row 5 1 n (fun j => [u8 (f j)]))] : List (Option Chunk)))) x.1 x.2.1 x.2.2.1 x.2.2.2.1 x.2.2.2.2)
def d_RFail (t : List V × List (Option Chunk)) : a_RFail := ((vI (t.1.getD 1 .junk)), (vI ((chB (t.2.getD 0 none)).getD 1 .junk)), (vI ((chB (t.2.getD 0 none)).getD 2 .junk)), (vSlN ((chB (t.2.getD 0 none)).getD 0 .junk)), (fun j => (vI (((chF (t.2.getD 1 none)) j).getD 0 .junk))))
theorem i_RFail : ∀ x y, A_RFail x = A_RFail y → x = y := fun x y h => (congrArg d_RFail h :)
def R_RFail : g_RFail → CRes := (fun z => CRes.ret (V.tup []) [some (Chunk.blk [V.sl 1 1 0 (z.1), i64 (z.2.1), i64 (z.2.2.1)]), some (Chunk.row 5 1 (z.1) fun (j : Nat) => [V.sc (Value.int IntKind.u8 (z.2.2.2 j))])] : (Nat × Int × Int × (Nat → Int)) → CRes)
def x_RFail (z : g_RFail) (k : CRes → Option Ans) : Option Ans := k (R_RFail z)
theorem xe_RFail : ∀ z k, x_RFail z k = k (R_RFail z) := fun z k => rfl
def t_RFail {β : Type} (x : a_RFail) (dn : g_RFail → Option β) : Option β :=
 if (x.2.2.1 == (0 : Int)) = true then
  dn ((x.2.2.2.1, x.2.1, x.1, x.2.2.2.2))
 else
  dn ((x.2.2.2.1, x.2.1, x.2.2.1, x.2.2.2.2))
theorem n_RFail {β : Type} (x : a_RFail) (dn : g_RFail → Option β) : t_RFail x dn = (t_RFail x some).bind dn := by
  unfold t_RFail
  repeat' first | exact free_none | refine free_bind (fun z => ?_) | refine free_ite ?_ ?_ | refine free_sum (fun z => ?_) (fun z => ?_) | rfl
theorem r_RFail (x : a_RFail) : callK E9 ca0 lo0 35 (A_RFail x).1 (A_RFail x).2 K = t_RFail x (fun z => some (.c (R_RFail z))) := by kernel_rfl
theorem s_RFail (q : Nat) (x : a_RFail) (z : g_RFail) (h : t_RFail x some = some z) : SC E9 35 (A_RFail x).1 (A_RFail x).2 (R_RFail z) := by
  refine SC.of hW9 hX9 ca0_sound lo0_sound ((r_RFail x).trans ?_)
  rw [n_RFail, h]; rfl
noncomputable def RFail (q : Nat) (x : a_RFail) : Option g_RFail := t_RFail x some
theorem sc_RFail (q : Nat) : ∀ (x : a_RFail) (z : g_RFail), RFail q x = some z → SC E9 35 (A_RFail x).1 (A_RFail x).2 (R_RFail z) := fun x z h => s_RFail q x z h
abbrev a_RErr : Type := Int × Int × Nat × (Nat → Int)
abbrev g_RErr : Type := Int × Nat × Int × (Nat → Int)
def A_RErr : a_RErr → List V × List (Option Chunk) := (fun x => (fun (p : Int) (e : Int) (n : Nat) (f : Nat → Int) => (([.ptr 0 0] : List V), ([some (.blk [.sl 1 1 0 n, i64 p, i64 e]), some (.row 5 1 n (fun j => [u8 (f j)]))] : List (Option Chunk)))) x.1 x.2.1 x.2.2.1 x.2.2.2)
def d_RErr (t : List V × List (Option Chunk)) : a_RErr := ((vI ((chB (t.2.getD 0 none)).getD 1 .junk)), (vI ((chB (t.2.getD 0 none)).getD 2 .junk)), (vSlN ((chB (t.2.getD 0 none)).getD 0 .junk)), (fun j => (vI (((chF (t.2.getD 1 none)) j).getD 0 .junk))))
theorem i_RErr : ∀ x y, A_RErr x = A_RErr y → x = y := fun x y h => (congrArg d_RErr h :)
def R_RErr : g_RErr → CRes := (fun z => CRes.ret (i64 (z.1)) [some (Chunk.blk [V.sl 1 1 0 (z.2.1), i64 (z.2.2.1), i64 (z.1)]), some (Chunk.row 5 1 (z.2.1) fun (j : Nat) => [V.sc (Value.int IntKind.u8 (z.2.2.2 j))])] : (Int × Nat × Int × (Nat → Int)) → CRes)
def x_RErr (z : g_RErr) (k : CRes → Option Ans) : Option Ans := k (R_RErr z)
theorem xe_RErr : ∀ z k, x_RErr z k = k (R_RErr z) := fun z k => rfl
def t_RErr {β : Type} (x : a_RErr) (dn : g_RErr → Option β) : Option β :=
 dn ((x.2.1, x.2.2.1, x.1, x.2.2.2))
theorem n_RErr {β : Type} (x : a_RErr) (dn : g_RErr → Option β) : t_RErr x dn = (t_RErr x some).bind dn := by
  unfold t_RErr
  repeat' first | exact free_none | refine free_bind (fun z => ?_) | refine free_ite ?_ ?_ | refine free_sum (fun z => ?_) (fun z => ?_) | rfl
theorem r_RErr (x : a_RErr) : callK E9 ca0 lo0 36 (A_RErr x).1 (A_RErr x).2 K = t_RErr x (fun z => some (.c (R_RErr z))) := by kernel_rfl
theorem s_RErr (q : Nat) (x : a_RErr) (z : g_RErr) (h : t_RErr x some = some z) : SC E9 36 (A_RErr x).1 (A_RErr x).2 (R_RErr z) := by
  refine SC.of hW9 hX9 ca0_sound lo0_sound ((r_RErr x).trans ?_)
  rw [n_RErr, h]; rfl
noncomputable def RErr (q : Nat) (x : a_RErr) : Option g_RErr := t_RErr x some
theorem sc_RErr (q : Nat) : ∀ (x : a_RErr) (z : g_RErr), RErr q x = some z → SC E9 36 (A_RErr x).1 (A_RErr x).2 (R_RErr z) := fun x z h => s_RErr q x z h
abbrev a_REnd : Type := Int × Int × Nat × (Nat → Int)
abbrev g_REnd : Type := Nat × Int × Int × (Nat → Int) × Int
def A_REnd : a_REnd → List V × List (Option Chunk) := (fun x => (fun (p : Int) (e : Int) (n : Nat) (f : Nat → Int) => (([.ptr 0 0] : List V), ([some (.blk [.sl 1 1 0 n, i64 p, i64 e]), some (.row 5 1 n (fun j => [u8 (f j)]))] : List (Option Chunk)))) x.1 x.2.1 x.2.2.1 x.2.2.2)
def d_REnd (t : List V × List (Option Chunk)) : a_REnd := ((vI ((chB (t.2.getD 0 none)).getD 1 .junk)), (vI ((chB (t.2.getD 0 none)).getD 2 .junk)), (vSlN ((chB (t.2.getD 0 none)).getD 0 .junk)), (fun j => (vI (((chF (t.2.getD 1 none)) j).getD 0 .junk))))
theorem i_REnd : ∀ x y, A_REnd x = A_REnd y → x = y := fun x y h => (congrArg d_REnd h :)
def R_REnd : g_REnd → CRes := (fun z => CRes.ret (i64 (z.2.2.2.2)) [some (Chunk.blk [V.sl 1 1 0 (z.1), i64 (z.2.1), i64 (z.2.2.1)]), some (Chunk.row 5 1 (z.1) fun (j : Nat) => [V.sc (Value.int IntKind.u8 (z.2.2.2.1 j))])] : (Nat × Int × Int × (Nat → Int) × Int) → CRes)
def x_REnd (z : g_REnd) (k : CRes → Option Ans) : Option Ans := k (R_REnd z)
theorem xe_REnd : ∀ z k, x_REnd z k = k (R_REnd z) := fun z k => rfl
def t_REnd {β : Type} (x : a_REnd) (dn : g_REnd → Option β) : Option β :=
 if (x.2.1 == (0 : Int)) = true then
  if decide (x.1 < ((x.2.2.1 : Nat) : Int)) = true then
   dn ((x.2.2.1, x.1, x.2.1, x.2.2.2, (7 : Int)))
  else
   dn ((x.2.2.1, x.1, x.2.1, x.2.2.2, x.2.1))
 else
  dn ((x.2.2.1, x.1, x.2.1, x.2.2.2, x.2.1))
theorem n_REnd {β : Type} (x : a_REnd) (dn : g_REnd → Option β) : t_REnd x dn = (t_REnd x some).bind dn := by
  unfold t_REnd
  repeat' first | exact free_none | refine free_bind (fun z => ?_) | refine free_ite ?_ ?_ | refine free_sum (fun z => ?_) (fun z => ?_) | rfl
theorem r_REnd (x : a_REnd) : callK E9 ca0 lo0 37 (A_REnd x).1 (A_REnd x).2 K = t_REnd x (fun z => some (.c (R_REnd z))) := by kernel_rfl
theorem s_REnd (q : Nat) (x : a_REnd) (z : g_REnd) (h : t_REnd x some = some z) : SC E9 37 (A_REnd x).1 (A_REnd x).2 (R_REnd z) := by
  refine SC.of hW9 hX9 ca0_sound lo0_sound ((r_REnd x).trans ?_)
  rw [n_REnd, h]; rfl
noncomputable def REnd (q : Nat) (x : a_REnd) : Option g_REnd := t_REnd x some
theorem sc_REnd (q : Nat) : ∀ (x : a_REnd) (z : g_REnd), REnd q x = some z → SC E9 37 (A_REnd x).1 (A_REnd x).2 (R_REnd z) := fun x z h => s_REnd q x z h
abbrev a_Decode : Type := Nat × (Nat → Int)
abbrev g_Decode : Type := (Int × ByteArray × Int × Int) ⊕ (ByteArray × Int × Int × Nat × (Nat → Int) × (Nat → Int))
def A_Decode : a_Decode → List V × List (Option Chunk) := (fun x => (fun (n : Nat) (f : Nat → Int) => (([.ro 1 n (fun j => [u8 (f j)])] : List V), ([] : List (Option Chunk)))) x.1 x.2)
def R_Decode : g_Decode → CRes := Sum.elim ((fun z => CRes.ret (V.tup [V.agg [st (z.2.1), i64 (z.2.2.1), i64 (z.2.2.2), nilS], i64 (z.1)]) [] : (Int × ByteArray × Int × Int) → CRes)) ((fun z => CRes.ret (V.tup [V.agg [st (z.1), i64 (z.2.1), i64 (z.2.2.1), V.sl 0 2 0 (z.2.2.2.1)], i64 (0 : Int)]) [some (Chunk.row 34 2 (z.2.2.2.1) fun (j : Nat) => [i64 (z.2.2.2.2.1 j), i64 (z.2.2.2.2.2 j)])] : (ByteArray × Int × Int × Nat × (Nat → Int) × (Nat → Int)) → CRes))
abbrev Decode_l0_a : Type := (Int × Nat × Int × Int × (Nat → Int) × ByteArray × Int × Int) ⊕ (Int × Nat × Int × Int × (Nat → Int) × ByteArray × Int × Int × (Nat → Int) × (Nat → Int) × Nat)
abbrev Decode_l0_g : Type := (Nat × Int × Int × (Nat → Int) × ByteArray × Int × Int) ⊕ (Nat × Int × Int × (Nat → Int) × ByteArray × Int × Int × Nat × (Nat → Int) × (Nat → Int))
def Decode_l0_S0 (x : a_Decode) (y : Int × Nat × Int × Int × (Nat → Int) × ByteArray × Int × Int) : St := { fr := [V.junk, V.junk, V.ptr 0 0, V.junk, V.ptr 1 0, V.ptr 3 0, V.sc (Value.int IntKind.u64 (y.1))] ++ jk 49, H := hp [some (Chunk.blk [st { data := #[] }, i64 (0 : Int), i64 (0 : Int), nilS]), some (Chunk.blk [V.sl 2 1 0 (y.2.1), i64 (y.2.2.1), i64 (y.2.2.2.1)]), some (Chunk.row 5 1 (y.2.1) fun (j : Nat) => [V.sc (Value.int IntKind.u8 (y.2.2.2.2.1 j))]), some (Chunk.blk [st (y.2.2.2.2.2.1), i64 (y.2.2.2.2.2.2.1), i64 (y.2.2.2.2.2.2.2), nilS])], nx := 4, rt := 0, me := 14 }
def Decode_l0_d0 (s : St) : Int × Nat × Int × Int × (Nat → Int) × ByteArray × Int × Int := ((vI (s.fr.getD 6 .junk)), (vSlN ((chB (s.H 1)).getD 0 .junk)), (vI ((chB (s.H 1)).getD 1 .junk)), (vI ((chB (s.H 1)).getD 2 .junk)), (fun j => (vI (((chF (s.H 2)) j).getD 0 .junk))), (vS ((chB (s.H 3)).getD 0 .junk)), (vI ((chB (s.H 3)).getD 1 .junk)), (vI ((chB (s.H 3)).getD 2 .junk)))
def Decode_l0_S1 (x : a_Decode) (y : Int × Nat × Int × Int × (Nat → Int) × ByteArray × Int × Int × (Nat → Int) × (Nat → Int) × Nat) : St := { fr := [V.junk, V.junk, V.ptr 0 0, V.junk, V.ptr 1 0, V.ptr 3 0, V.sc (Value.int IntKind.u64 (y.1))] ++ jk 49, H := hp [some (Chunk.blk [st { data := #[] }, i64 (0 : Int), i64 (0 : Int), nilS]), some (Chunk.blk [V.sl 2 1 0 (y.2.1), i64 (y.2.2.1), i64 (y.2.2.2.1)]), some (Chunk.row 5 1 (y.2.1) fun (j : Nat) => [V.sc (Value.int IntKind.u8 (y.2.2.2.2.1 j))]), some (Chunk.blk [st (y.2.2.2.2.2.1), i64 (y.2.2.2.2.2.2.1), i64 (y.2.2.2.2.2.2.2.1), V.sl 4 2 0 (y.2.2.2.2.2.2.2.2.2.2)]), some (Chunk.row 34 2 (y.2.2.2.2.2.2.2.2.2.2) fun (j : Nat) => [i64 (y.2.2.2.2.2.2.2.2.1 j), i64 (y.2.2.2.2.2.2.2.2.2.1 j)])], nx := 5, rt := 0, me := 14 }
def Decode_l0_d1 (s : St) : Int × Nat × Int × Int × (Nat → Int) × ByteArray × Int × Int × (Nat → Int) × (Nat → Int) × Nat := ((vI (s.fr.getD 6 .junk)), (vSlN ((chB (s.H 1)).getD 0 .junk)), (vI ((chB (s.H 1)).getD 1 .junk)), (vI ((chB (s.H 1)).getD 2 .junk)), (fun j => (vI (((chF (s.H 2)) j).getD 0 .junk))), (vS ((chB (s.H 3)).getD 0 .junk)), (vI ((chB (s.H 3)).getD 1 .junk)), (vI ((chB (s.H 3)).getD 2 .junk)), (fun j => (vI (((chF (s.H 4)) j).getD 0 .junk))), (fun j => (vI (((chF (s.H 4)) j).getD 1 .junk))), (vSlN ((chB (s.H 3)).getD 3 .junk)))
def Decode_l0_S (x : a_Decode) : Decode_l0_a → St := (Sum.elim (Decode_l0_S0 x) (Decode_l0_S1 x))
def Decode_l0_d (s : St) : Decode_l0_a := (match s.nx == 4 with | true => (.inl (Decode_l0_d0 s)) | false => (.inr (Decode_l0_d1 s)))
theorem Decode_l0_i (x : a_Decode) : ∀ y y', Decode_l0_S x y = Decode_l0_S x y' → y = y' := fun y y' h => by rcases y with y | y <;> rcases y' with y | y <;> exact (congrArg Decode_l0_d h :)
def Decode_l0_T (x : a_Decode) : Decode_l0_g → Ex × St := (Sum.elim (fun z => (Ex.exit 0, { fr := [V.junk, V.junk, V.ptr 0 0, V.junk, V.ptr 1 0, V.ptr 3 0] ++ jk 50, H := hp [some (Chunk.blk [st { data := #[] }, i64 (0 : Int), i64 (0 : Int), nilS]), some (Chunk.blk [V.sl 2 1 0 (z.1), i64 (z.2.1), i64 (z.2.2.1)]), some (Chunk.row 5 1 (z.1) fun (j : Nat) => [V.sc (Value.int IntKind.u8 (z.2.2.2.1 j))]), some (Chunk.blk [st (z.2.2.2.2.1), i64 (z.2.2.2.2.2.1), i64 (z.2.2.2.2.2.2), nilS])], nx := 4, rt := 0, me := 14 })) (fun z => (Ex.exit 0, { fr := [V.junk, V.junk, V.ptr 0 0, V.junk, V.ptr 1 0, V.ptr 3 0] ++ jk 50, H := hp [some (Chunk.blk [st { data := #[] }, i64 (0 : Int), i64 (0 : Int), nilS]), some (Chunk.blk [V.sl 2 1 0 (z.1), i64 (z.2.1), i64 (z.2.2.1)]), some (Chunk.row 5 1 (z.1) fun (j : Nat) => [V.sc (Value.int IntKind.u8 (z.2.2.2.1 j))]), some (Chunk.blk [st (z.2.2.2.2.1), i64 (z.2.2.2.2.2.1), i64 (z.2.2.2.2.2.2.1), V.sl 4 2 0 (z.2.2.2.2.2.2.2.1)]), some (Chunk.row 34 2 (z.2.2.2.2.2.2.2.1) fun (j : Nat) => [i64 (z.2.2.2.2.2.2.2.2.1 j), i64 (z.2.2.2.2.2.2.2.2.2 j)])], nx := 5, rt := 0, me := 14 })))
def Decode_l0_x (x : a_Decode) (z : Decode_l0_g) (k : KX) : Option Ans := Sum.elim (fun za => k (Decode_l0_T x (.inl za)).1 (Decode_l0_T x (.inl za)).2) (fun zb => k (Decode_l0_T x (.inr zb)).1 (Decode_l0_T x (.inr zb)).2) z
theorem Decode_l0_xe (x : a_Decode) : ∀ z k, Decode_l0_x x z k = k (Decode_l0_T x z).1 (Decode_l0_T x z).2 := fun z k => by
  rcases z with z | z <;> rfl
theorem Decode_l0_k0 (x : a_Decode) (z : Nat × Int × Int × (Nat → Int) × ByteArray × Int × Int) : KCM [(0, 52)] 12 (Decode_l0_T x (.inl z)).1 (Decode_l0_T x (.inl z)).2 = some (.l (Decode_l0_T x (.inl z)).1 (Decode_l0_T x (.inl z)).2) := by kernel_rfl
theorem Decode_l0_k1 (x : a_Decode) (z : Nat × Int × Int × (Nat → Int) × ByteArray × Int × Int × Nat × (Nat → Int) × (Nat → Int)) : KCM [(0, 52)] 12 (Decode_l0_T x (.inr z)).1 (Decode_l0_T x (.inr z)).2 = some (.l (Decode_l0_T x (.inr z)).1 (Decode_l0_T x (.inr z)).2) := by kernel_rfl
def Decode_l0_t0 {β : Type} (c_NewReader : a_NewReader → Option g_NewReader) (c_RBytes1 : a_RBytes1 → Option g_RBytes1) (c_RInt : a_RInt → Option g_RInt) (c_RUint : a_RUint → Option g_RUint) (c_RFail : a_RFail → Option g_RFail) (c_RErr : a_RErr → Option g_RErr) (c_REnd : a_REnd → Option g_REnd) (x : a_Decode) (y : Int × Nat × Int × Int × (Nat → Int) × ByteArray × Int × Int) (nx : Decode_l0_a → Option β) (dn : Decode_l0_g → Option β) : Option β :=
 (c_RErr ((y.2.2.1, y.2.2.2.1, y.2.1, y.2.2.2.2.1))).bind fun z353 =>
  if (z353.1 == (0 : Int)) = true then
   if decide ((0 : Int) < y.1) = true then
    (c_RInt ((z353.2.2.1, z353.1, z353.2.1, z353.2.2.2))).bind fun z358 =>
     (c_RInt ((z358.2.2.1, z358.2.2.2.1, z358.2.1, z358.2.2.2.2))).bind fun z363 =>
      nx (.inr ((y.1, z363.2.1, z363.2.2.1, z363.2.2.2.1, z363.2.2.2.2, y.2.2.2.2.2.1, y.2.2.2.2.2.2.1, y.2.2.2.2.2.2.2, fun (j : Nat) => z358.1, fun (j : Nat) => z363.1, 1)))
   else
    dn (.inl ((z353.2.1, z353.2.2.1, z353.1, z353.2.2.2, y.2.2.2.2.2)))
  else
   dn (.inl ((z353.2.1, z353.2.2.1, z353.1, z353.2.2.2, y.2.2.2.2.2)))
theorem Decode_l0_n0 {β : Type} (c_NewReader : a_NewReader → Option g_NewReader) (c_RBytes1 : a_RBytes1 → Option g_RBytes1) (c_RInt : a_RInt → Option g_RInt) (c_RUint : a_RUint → Option g_RUint) (c_RFail : a_RFail → Option g_RFail) (c_RErr : a_RErr → Option g_RErr) (c_REnd : a_REnd → Option g_REnd) (x : a_Decode) (y : Int × Nat × Int × Int × (Nat → Int) × ByteArray × Int × Int) (nx : Decode_l0_a → Option β) (dn : Decode_l0_g → Option β) : Decode_l0_t0 c_NewReader c_RBytes1 c_RInt c_RUint c_RFail c_RErr c_REnd x y nx dn = (Decode_l0_t0 c_NewReader c_RBytes1 c_RInt c_RUint c_RFail c_RErr c_REnd x y (fun y => some (.inl y)) (fun z => some (.inr z))).bind fun r => Sum.elim nx dn r := by
  unfold Decode_l0_t0
  repeat' first | exact free_none | refine free_bind (fun z => ?_) | refine free_ite ?_ ?_ | refine free_sum (fun z => ?_) (fun z => ?_) | rfl
theorem Decode_l0_r0 (c_NewReader : a_NewReader → Option g_NewReader) (c_RBytes1 : a_RBytes1 → Option g_RBytes1) (c_RInt : a_RInt → Option g_RInt) (c_RUint : a_RUint → Option g_RUint) (c_RFail : a_RFail → Option g_RFail) (c_RErr : a_RErr → Option g_RErr) (c_REnd : a_REnd → Option g_REnd) (x : a_Decode) (y : Int × Nat × Int × Int × (Nat → Int) × ByteArray × Int × Int) (lo : LoopT) : loopK E9 (ftab 31 (fun _ _ => true) A_NewReader x_NewReader c_NewReader (ftab 32 (fun _ _ => true) A_RBytes1 x_RBytes1 c_RBytes1 (ftab 33 (fun _ _ => true) A_RInt x_RInt c_RInt (ftab 34 (fun _ _ => true) A_RUint x_RUint c_RUint (ftab 35 (fun _ _ => true) A_RFail x_RFail c_RFail (ftab 36 (fun _ _ => true) A_RErr x_RErr c_RErr (ftab 37 (fun _ _ => true) A_REnd x_REnd c_REnd ca0))))))) lo 0 116 (bodyOf E9 14 0) (Decode_l0_S x (.inl y)) (KCM [(0, 52)] 12) = Decode_l0_t0 (fun x => viaF A_NewReader c_NewReader (A_NewReader x)) (fun x => viaF A_RBytes1 c_RBytes1 (A_RBytes1 x)) (fun x => viaF A_RInt c_RInt (A_RInt x)) (fun x => viaF A_RUint c_RUint (A_RUint x)) (fun x => viaF A_RFail c_RFail (A_RFail x)) (fun x => viaF A_RErr c_RErr (A_RErr x)) (fun x => viaF A_REnd c_REnd (A_REnd x)) x y (fun y => lo 0 116 (bodyOf E9 14 0) (Decode_l0_S x y) (KCM [(0, 52)] 12)) (fun z => some (.l (Decode_l0_T x z).1 (Decode_l0_T x z).2)) := by kernel_rfl
def Decode_l0_t1 {β : Type} (c_NewReader : a_NewReader → Option g_NewReader) (c_RBytes1 : a_RBytes1 → Option g_RBytes1) (c_RInt : a_RInt → Option g_RInt) (c_RUint : a_RUint → Option g_RUint) (c_RFail : a_RFail → Option g_RFail) (c_RErr : a_RErr → Option g_RErr) (c_REnd : a_REnd → Option g_REnd) (x : a_Decode) (y : Int × Nat × Int × Int × (Nat → Int) × ByteArray × Int × Int × (Nat → Int) × (Nat → Int) × Nat) (nx : Decode_l0_a → Option β) (dn : Decode_l0_g → Option β) : Option β :=
 (c_RErr ((y.2.2.1, y.2.2.2.1, y.2.1, y.2.2.2.2.1))).bind fun z369 =>
  if (z369.1 == (0 : Int)) = true then
   if decide (IntKind.wrap IntKind.u64 ((y.2.2.2.2.2.2.2.2.2.2 : Nat) : Int) < y.1) = true then
    (c_RInt ((z369.2.2.1, z369.1, z369.2.1, z369.2.2.2))).bind fun z374 =>
     (c_RInt ((z374.2.2.1, z374.2.2.2.1, z374.2.1, z374.2.2.2.2))).bind fun z379 =>
      if (y.2.2.2.2.2.2.2.2.2.2 + 1) * 16 ≤ roomBound ∧ y.2.2.2.2.2.2.2.2.2.2 + 1 ≤ maxLen ∧ y.2.2.2.2.2.2.2.2.2.2 ≤ y.2.2.2.2.2.2.2.2.2.2 then
       nx (.inr ((y.1, z379.2.1, z379.2.2.1, z379.2.2.2.1, z379.2.2.2.2, y.2.2.2.2.2.1, y.2.2.2.2.2.2.1, y.2.2.2.2.2.2.2.1, fun (j : Nat) => if j < y.2.2.2.2.2.2.2.2.2.2 then y.2.2.2.2.2.2.2.2.1 j else z374.1, fun (j : Nat) => if j < y.2.2.2.2.2.2.2.2.2.2 then y.2.2.2.2.2.2.2.2.2.1 j else z379.1, y.2.2.2.2.2.2.2.2.2.2 + 1)))
      else
       none
   else
    dn (.inr ((z369.2.1, z369.2.2.1, z369.1, z369.2.2.2, y.2.2.2.2.2.1, y.2.2.2.2.2.2.1, y.2.2.2.2.2.2.2.1, y.2.2.2.2.2.2.2.2.2.2, y.2.2.2.2.2.2.2.2.1, y.2.2.2.2.2.2.2.2.2.1)))
  else
   dn (.inr ((z369.2.1, z369.2.2.1, z369.1, z369.2.2.2, y.2.2.2.2.2.1, y.2.2.2.2.2.2.1, y.2.2.2.2.2.2.2.1, y.2.2.2.2.2.2.2.2.2.2, y.2.2.2.2.2.2.2.2.1, y.2.2.2.2.2.2.2.2.2.1)))
theorem Decode_l0_n1 {β : Type} (c_NewReader : a_NewReader → Option g_NewReader) (c_RBytes1 : a_RBytes1 → Option g_RBytes1) (c_RInt : a_RInt → Option g_RInt) (c_RUint : a_RUint → Option g_RUint) (c_RFail : a_RFail → Option g_RFail) (c_RErr : a_RErr → Option g_RErr) (c_REnd : a_REnd → Option g_REnd) (x : a_Decode) (y : Int × Nat × Int × Int × (Nat → Int) × ByteArray × Int × Int × (Nat → Int) × (Nat → Int) × Nat) (nx : Decode_l0_a → Option β) (dn : Decode_l0_g → Option β) : Decode_l0_t1 c_NewReader c_RBytes1 c_RInt c_RUint c_RFail c_RErr c_REnd x y nx dn = (Decode_l0_t1 c_NewReader c_RBytes1 c_RInt c_RUint c_RFail c_RErr c_REnd x y (fun y => some (.inl y)) (fun z => some (.inr z))).bind fun r => Sum.elim nx dn r := by
  unfold Decode_l0_t1
  repeat' first | exact free_none | refine free_bind (fun z => ?_) | refine free_ite ?_ ?_ | refine free_sum (fun z => ?_) (fun z => ?_) | rfl
theorem Decode_l0_r1 (c_NewReader : a_NewReader → Option g_NewReader) (c_RBytes1 : a_RBytes1 → Option g_RBytes1) (c_RInt : a_RInt → Option g_RInt) (c_RUint : a_RUint → Option g_RUint) (c_RFail : a_RFail → Option g_RFail) (c_RErr : a_RErr → Option g_RErr) (c_REnd : a_REnd → Option g_REnd) (x : a_Decode) (y : Int × Nat × Int × Int × (Nat → Int) × ByteArray × Int × Int × (Nat → Int) × (Nat → Int) × Nat) (lo : LoopT) : loopK E9 (ftab 31 (fun _ _ => true) A_NewReader x_NewReader c_NewReader (ftab 32 (fun _ _ => true) A_RBytes1 x_RBytes1 c_RBytes1 (ftab 33 (fun _ _ => true) A_RInt x_RInt c_RInt (ftab 34 (fun _ _ => true) A_RUint x_RUint c_RUint (ftab 35 (fun _ _ => true) A_RFail x_RFail c_RFail (ftab 36 (fun _ _ => true) A_RErr x_RErr c_RErr (ftab 37 (fun _ _ => true) A_REnd x_REnd c_REnd ca0))))))) lo 0 116 (bodyOf E9 14 0) (Decode_l0_S x (.inr y)) (KCM [(0, 52)] 12) = Decode_l0_t1 (fun x => viaF A_NewReader c_NewReader (A_NewReader x)) (fun x => viaF A_RBytes1 c_RBytes1 (A_RBytes1 x)) (fun x => viaF A_RInt c_RInt (A_RInt x)) (fun x => viaF A_RUint c_RUint (A_RUint x)) (fun x => viaF A_RFail c_RFail (A_RFail x)) (fun x => viaF A_RErr c_RErr (A_RErr x)) (fun x => viaF A_REnd c_REnd (A_REnd x)) x y (fun y => lo 0 116 (bodyOf E9 14 0) (Decode_l0_S x y) (KCM [(0, 52)] 12)) (fun z => some (.l (Decode_l0_T x z).1 (Decode_l0_T x z).2)) := by kernel_rfl
noncomputable def Decode_l0 (c_NewReader : a_NewReader → Option g_NewReader) (c_RBytes1 : a_RBytes1 → Option g_RBytes1) (c_RInt : a_RInt → Option g_RInt) (c_RUint : a_RUint → Option g_RUint) (c_RFail : a_RFail → Option g_RFail) (c_RErr : a_RErr → Option g_RErr) (c_REnd : a_REnd → Option g_REnd) (q : Nat) (x : a_Decode) : Decode_l0_a → Option Decode_l0_g := lpG (Sum.elim (fun y => Decode_l0_t0 c_NewReader c_RBytes1 c_RInt c_RUint c_RFail c_RErr c_REnd x y (fun y => some (.inl y)) (fun z => some (.inr z))) (fun y => Decode_l0_t1 c_NewReader c_RBytes1 c_RInt c_RUint c_RFail c_RErr c_REnd x y (fun y => some (.inl y)) (fun z => some (.inr z)))) q
theorem Decode_l0_s (c_NewReader : a_NewReader → Option g_NewReader) (h_NewReader : ∀ x z, c_NewReader x = some z → SC E9 31 (A_NewReader x).1 (A_NewReader x).2 (R_NewReader z)) (c_RBytes1 : a_RBytes1 → Option g_RBytes1) (h_RBytes1 : ∀ x z, c_RBytes1 x = some z → SC E9 32 (A_RBytes1 x).1 (A_RBytes1 x).2 (R_RBytes1 z)) (c_RInt : a_RInt → Option g_RInt) (h_RInt : ∀ x z, c_RInt x = some z → SC E9 33 (A_RInt x).1 (A_RInt x).2 (R_RInt z)) (c_RUint : a_RUint → Option g_RUint) (h_RUint : ∀ x z, c_RUint x = some z → SC E9 34 (A_RUint x).1 (A_RUint x).2 (R_RUint z)) (c_RFail : a_RFail → Option g_RFail) (h_RFail : ∀ x z, c_RFail x = some z → SC E9 35 (A_RFail x).1 (A_RFail x).2 (R_RFail z)) (c_RErr : a_RErr → Option g_RErr) (h_RErr : ∀ x z, c_RErr x = some z → SC E9 36 (A_RErr x).1 (A_RErr x).2 (R_RErr z)) (c_REnd : a_REnd → Option g_REnd) (h_REnd : ∀ x z, c_REnd x = some z → SC E9 37 (A_REnd x).1 (A_REnd x).2 (R_REnd z)) (q : Nat) (x : a_Decode) : ∀ y z, Decode_l0 c_NewReader c_RBytes1 c_RInt c_RUint c_RFail c_RErr c_REnd q x y = some z → SL E9 (bodyOf E9 14 0) (Decode_l0_S x y) (Decode_l0_T x z).1 (Decode_l0_T x z).2 :=
  SL.lp (LT := fun lo => lo) (T := Decode_l0_T x) (S := Decode_l0_S x) (ftab_cons h_NewReader xe_NewReader (ftab_cons h_RBytes1 xe_RBytes1 (ftab_cons h_RInt xe_RInt (ftab_cons h_RUint xe_RUint (ftab_cons h_RFail xe_RFail (ftab_cons h_RErr xe_RErr (ftab_cons h_REnd xe_REnd ca0_sound))))))) hX9 (fun lo h => h) (fun lo y => by
      rcases y with y | y
      · exact (Decode_l0_r0 c_NewReader c_RBytes1 c_RInt c_RUint c_RFail c_RErr c_REnd x y lo).trans (by rw [via_eq i_NewReader c_NewReader, via_eq i_RBytes1 c_RBytes1, via_eq i_RInt c_RInt, via_eq i_RUint c_RUint, via_eq i_RFail c_RFail, via_eq i_RErr c_RErr, via_eq i_REnd c_REnd]; exact Decode_l0_n0 _ _ _ _ _ _ _ _ _ _ _)
      · exact (Decode_l0_r1 c_NewReader c_RBytes1 c_RInt c_RUint c_RFail c_RErr c_REnd x y lo).trans (by rw [via_eq i_NewReader c_NewReader, via_eq i_RBytes1 c_RBytes1, via_eq i_RInt c_RInt, via_eq i_RUint c_RUint, via_eq i_RFail c_RFail, via_eq i_RErr c_RErr, via_eq i_REnd c_REnd]; exact Decode_l0_n1 _ _ _ _ _ _ _ _ _ _ _)) (fun z => by rcases z with z | z <;> first | exact Decode_l0_k0 x z | exact Decode_l0_k1 x z) q
def t_Decode {β : Type} (c_NewReader : a_NewReader → Option g_NewReader) (c_RBytes1 : a_RBytes1 → Option g_RBytes1) (c_RInt : a_RInt → Option g_RInt) (c_RUint : a_RUint → Option g_RUint) (c_RFail : a_RFail → Option g_RFail) (c_RErr : a_RErr → Option g_RErr) (c_REnd : a_REnd → Option g_REnd) (l_Decode_l0 : Decode_l0_a → Option Decode_l0_g) (x : a_Decode) (dn : g_Decode → Option β) : Option β :=
 (c_NewReader x).bind fun z2 =>
  (c_RBytes1 (((64 : Int), (0 : Int), (0 : Int), z2))).bind fun z8 =>
   if true = true ∧ true = true ∧ 1 = 1 ∧ 1 = 1 ∧ 0 + z8.2.2.2.2.1 ≤ z8.2.2.2.2.1 then
    if (List.all (List.range (z8.2.2.2.2.1)) fun (j : Nat) => u8c [u8 (z8.2.2.2.2.2 (0 + j))]) = true then
     (c_RInt ((z8.1, z8.2.1, z8.2.2.1, z8.2.2.2.1))).bind fun z13 =>
      (c_RInt ((z13.2.2.1, z13.2.2.2.1, z13.2.1, z13.2.2.2.2))).bind fun z18 =>
       (c_RUint ((z18.2.2.1, z18.2.2.2.1, z18.2.1, z18.2.2.2.2))).bind fun z23 =>
        if decide (z23.2.2.2.2 > (300 : Int)) = true then
         (c_RFail (((2 : Int), z23.2.1, z23.2.2.1, z23.1, z23.2.2.2.1))).bind fun z29 =>
          (l_Decode_l0 (.inl ((z23.2.2.2.2, z29.1, z29.2.1, z29.2.2.1, z29.2.2.2, strOfV (z8.2.2.2.2.1) fun (j : Nat) => [u8 (z8.2.2.2.2.2 (0 + j))], z13.1, z18.1)))).bind fun z297 =>
           Sum.elim (fun z297a =>
           (c_REnd ((z297a.2.1, z297a.2.2.1, z297a.1, z297a.2.2.2.1))).bind fun z302 =>
            if (z302.2.2.2.2 != (0 : Int)) = true then
             dn (.inl ((z302.2.2.2.2, { data := #[] }, (0 : Int), (0 : Int))))
            else
             dn (.inl (((0 : Int), z297a.2.2.2.2)))) (fun z297b =>
           (c_REnd ((z297b.2.1, z297b.2.2.1, z297b.1, z297b.2.2.2.1))).bind fun z308 =>
            if (z308.2.2.2.2 != (0 : Int)) = true then
             dn (.inl ((z308.2.2.2.2, { data := #[] }, (0 : Int), (0 : Int))))
            else
             dn (.inr (z297b.2.2.2.2))) z297
        else
         (l_Decode_l0 (.inl ((z23.2.2.2.2, z23.1, z23.2.1, z23.2.2.1, z23.2.2.2.1, strOfV (z8.2.2.2.2.1) fun (j : Nat) => [u8 (z8.2.2.2.2.2 (0 + j))], z13.1, z18.1)))).bind fun z309 =>
          Sum.elim (fun z309a =>
          (c_REnd ((z309a.2.1, z309a.2.2.1, z309a.1, z309a.2.2.2.1))).bind fun z314 =>
           if (z314.2.2.2.2 != (0 : Int)) = true then
            dn (.inl ((z314.2.2.2.2, { data := #[] }, (0 : Int), (0 : Int))))
           else
            dn (.inl (((0 : Int), z309a.2.2.2.2)))) (fun z309b =>
          (c_REnd ((z309b.2.1, z309b.2.2.1, z309b.1, z309b.2.2.2.1))).bind fun z320 =>
           if (z320.2.2.2.2 != (0 : Int)) = true then
            dn (.inl ((z320.2.2.2.2, { data := #[] }, (0 : Int), (0 : Int))))
           else
            dn (.inr (z309b.2.2.2.2))) z309
    else
     none
   else
    none
theorem n_Decode {β : Type} (c_NewReader : a_NewReader → Option g_NewReader) (c_RBytes1 : a_RBytes1 → Option g_RBytes1) (c_RInt : a_RInt → Option g_RInt) (c_RUint : a_RUint → Option g_RUint) (c_RFail : a_RFail → Option g_RFail) (c_RErr : a_RErr → Option g_RErr) (c_REnd : a_REnd → Option g_REnd) (l_Decode_l0 : Decode_l0_a → Option Decode_l0_g) (x : a_Decode) (dn : g_Decode → Option β) : t_Decode c_NewReader c_RBytes1 c_RInt c_RUint c_RFail c_RErr c_REnd l_Decode_l0 x dn = (t_Decode c_NewReader c_RBytes1 c_RInt c_RUint c_RFail c_RErr c_REnd l_Decode_l0 x some).bind dn := by
  unfold t_Decode
  repeat' first | exact free_none | refine free_bind (fun z => ?_) | refine free_ite ?_ ?_ | refine free_sum (fun z => ?_) (fun z => ?_) | rfl
theorem r_Decode (c_NewReader : a_NewReader → Option g_NewReader) (c_RBytes1 : a_RBytes1 → Option g_RBytes1) (c_RInt : a_RInt → Option g_RInt) (c_RUint : a_RUint → Option g_RUint) (c_RFail : a_RFail → Option g_RFail) (c_RErr : a_RErr → Option g_RErr) (c_REnd : a_REnd → Option g_REnd) (l_Decode_l0 : Decode_l0_a → Option Decode_l0_g) (x : a_Decode) : callK E9 (ftab 31 (fun _ _ => true) A_NewReader x_NewReader c_NewReader (ftab 32 (fun _ _ => true) A_RBytes1 x_RBytes1 c_RBytes1 (ftab 33 (fun _ _ => true) A_RInt x_RInt c_RInt (ftab 34 (fun _ _ => true) A_RUint x_RUint c_RUint (ftab 35 (fun _ _ => true) A_RFail x_RFail c_RFail (ftab 36 (fun _ _ => true) A_RErr x_RErr c_RErr (ftab 37 (fun _ _ => true) A_REnd x_REnd c_REnd ca0))))))) (ltabF 0 (fun _ => true) (bodyOf E9 14 0) (Decode_l0_S x) (Decode_l0_x x) l_Decode_l0 lo0) 14 (A_Decode x).1 (A_Decode x).2 K = t_Decode (fun x => viaF A_NewReader c_NewReader (A_NewReader x)) (fun x => viaF A_RBytes1 c_RBytes1 (A_RBytes1 x)) (fun x => viaF A_RInt c_RInt (A_RInt x)) (fun x => viaF A_RUint c_RUint (A_RUint x)) (fun x => viaF A_RFail c_RFail (A_RFail x)) (fun x => viaF A_RErr c_RErr (A_RErr x)) (fun x => viaF A_REnd c_REnd (A_REnd x)) (fun y => viaF (fun y => (bodyOf E9 14 0, Decode_l0_S x y)) l_Decode_l0 (bodyOf E9 14 0, Decode_l0_S x y)) x (fun z => some (.c (R_Decode z))) := by kernel_rfl
theorem s_Decode (c_NewReader : a_NewReader → Option g_NewReader) (h_NewReader : ∀ x z, c_NewReader x = some z → SC E9 31 (A_NewReader x).1 (A_NewReader x).2 (R_NewReader z)) (c_RBytes1 : a_RBytes1 → Option g_RBytes1) (h_RBytes1 : ∀ x z, c_RBytes1 x = some z → SC E9 32 (A_RBytes1 x).1 (A_RBytes1 x).2 (R_RBytes1 z)) (c_RInt : a_RInt → Option g_RInt) (h_RInt : ∀ x z, c_RInt x = some z → SC E9 33 (A_RInt x).1 (A_RInt x).2 (R_RInt z)) (c_RUint : a_RUint → Option g_RUint) (h_RUint : ∀ x z, c_RUint x = some z → SC E9 34 (A_RUint x).1 (A_RUint x).2 (R_RUint z)) (c_RFail : a_RFail → Option g_RFail) (h_RFail : ∀ x z, c_RFail x = some z → SC E9 35 (A_RFail x).1 (A_RFail x).2 (R_RFail z)) (c_RErr : a_RErr → Option g_RErr) (h_RErr : ∀ x z, c_RErr x = some z → SC E9 36 (A_RErr x).1 (A_RErr x).2 (R_RErr z)) (c_REnd : a_REnd → Option g_REnd) (h_REnd : ∀ x z, c_REnd x = some z → SC E9 37 (A_REnd x).1 (A_REnd x).2 (R_REnd z)) (q : Nat) (x : a_Decode) (z : g_Decode) (h : t_Decode c_NewReader c_RBytes1 c_RInt c_RUint c_RFail c_RErr c_REnd (Decode_l0 c_NewReader c_RBytes1 c_RInt c_RUint c_RFail c_RErr c_REnd q x) x some = some z) : SC E9 14 (A_Decode x).1 (A_Decode x).2 (R_Decode z) := by
  refine SC.of hW9 hX9 (ftab_cons h_NewReader xe_NewReader (ftab_cons h_RBytes1 xe_RBytes1 (ftab_cons h_RInt xe_RInt (ftab_cons h_RUint xe_RUint (ftab_cons h_RFail xe_RFail (ftab_cons h_RErr xe_RErr (ftab_cons h_REnd xe_REnd ca0_sound))))))) (ltabF_cons (Decode_l0_s c_NewReader h_NewReader c_RBytes1 h_RBytes1 c_RInt h_RInt c_RUint h_RUint c_RFail h_RFail c_RErr h_RErr c_REnd h_REnd q x) (Decode_l0_xe x) lo0_sound) ((r_Decode c_NewReader c_RBytes1 c_RInt c_RUint c_RFail c_RErr c_REnd (Decode_l0 c_NewReader c_RBytes1 c_RInt c_RUint c_RFail c_RErr c_REnd q x) x).trans ?_)
  rw [via_eq i_NewReader c_NewReader, via_eq i_RBytes1 c_RBytes1, via_eq i_RInt c_RInt, via_eq i_RUint c_RUint, via_eq i_RFail c_RFail, via_eq i_RErr c_RErr, via_eq i_REnd c_REnd, via_eq (pair_inj (bodyOf E9 14 0) (Decode_l0_i x)) (Decode_l0 c_NewReader c_RBytes1 c_RInt c_RUint c_RFail c_RErr c_REnd q x), n_Decode, h]; rfl
noncomputable def Decode (q : Nat) (x : a_Decode) : Option g_Decode := t_Decode (NewReader q) (RBytes1 q) (RInt q) (RUint q) (RFail q) (RErr q) (REnd q) (Decode_l0 (NewReader q) (RBytes1 q) (RInt q) (RUint q) (RFail q) (RErr q) (REnd q) q x) x some
theorem sc_Decode (q : Nat) : ∀ (x : a_Decode) (z : g_Decode), Decode q x = some z → SC E9 14 (A_Decode x).1 (A_Decode x).2 (R_Decode z) := fun x z h => s_Decode (NewReader q) (sc_NewReader q) (RBytes1 q) (sc_RBytes1 q) (RInt q) (sc_RInt q) (RUint q) (sc_RUint q) (RFail q) (sc_RFail q) (RErr q) (sc_RErr q) (REnd q) (sc_REnd q) q x z h
abbrev a_Decode1 : Type := Nat × (Nat → Int)
abbrev g_Decode1 : Type := ByteArray × Int × Int × Int × Nat × (Nat → Int) × (Nat → Int)
def A_Decode1 : a_Decode1 → List V × List (Option Chunk) := (fun x => (fun (n : Nat) (f : Nat → Int) => (([.ro 1 n (fun j => [u8 (f j)])] : List V), ([] : List (Option Chunk)))) x.1 x.2)
def d_Decode1 (t : List V × List (Option Chunk)) : a_Decode1 := ((vRoN (t.1.getD 0 .junk)), (fun j => (vI ((vRoF (t.1.getD 0 .junk) j).getD 0 .junk))))
theorem i_Decode1 : ∀ x y, A_Decode1 x = A_Decode1 y → x = y := fun x y h => (congrArg d_Decode1 h :)
def R_Decode1 : g_Decode1 → CRes := (fun z => (fun (nm : ByteArray) (p : Int) (v : Int) (e : Int) (n : Nat) (op : Nat → Int) (ar : Nat → Int) => .ret (.tup [.agg [st nm, i64 p, i64 v, .sl 0 2 0 n], i64 e]) [some (.row 34 2 n (fun j => [i64 (op j), i64 (ar j)]))]) z.1 z.2.1 z.2.2.1 z.2.2.2.1 z.2.2.2.2.1 z.2.2.2.2.2.1 z.2.2.2.2.2.2 : (ByteArray × Int × Int × Int × Nat × (Nat → Int) × (Nat → Int)) → CRes)
def x_Decode1 (z : g_Decode1) (k : CRes → Option Ans) : Option Ans := k (R_Decode1 z)
theorem xe_Decode1 : ∀ z k, x_Decode1 z k = k (R_Decode1 z) := fun z k => rfl
noncomputable def Decode1 (q : Nat) (x : a_Decode1) : Option g_Decode1 := (Decode q x).map (Sum.elim (fun z => (z.2.1, z.2.2.1, z.2.2.2, z.1, 0, fun _ => 0, fun _ => 0)) (fun z => (z.1, z.2.1, z.2.2.1, 0, z.2.2.2.1, z.2.2.2.2.1, z.2.2.2.2.2)))
theorem sc_Decode1 (q : Nat) : ∀ (x : a_Decode1) (z : g_Decode1), Decode1 q x = some z → SC E9 14 (A_Decode1 x).1 (A_Decode1 x).2 (R_Decode1 z) := by
  intro x z h
  unfold Decode1 at h
  obtain ⟨y, hy, rfl⟩ := Option.map_eq_some_iff.1 h
  have hs := sc_Decode q x y hy
  rcases y with y | y
  · show SC E9 14 _ _ (.ret (.tup [.agg [st y.2.1, i64 y.2.2.1, i64 y.2.2.2, .sl 0 2 0 0], i64 y.1]) [some (.row 34 2 0 (fun _ => [i64 0, i64 0]))])
    refine SC.virt 34 2 (fun _ => [i64 0, i64 0]) (by decide) hs (fun β S w u b hb hd => ?_) (Nat.zero_le _)
    have hb : β 0 = some (b, 0) := hb
    simp only [den, denL] at hd ⊢
    obtain ⟨us, rfl, _, _, rfl, ⟨ws, rfl, ⟨_, _, rfl, rfl, _, _, rfl, rfl, _, _, rfl, rfl, _, _, rfl, rfl, rfl⟩, hone⟩, _, _, rfl, rfl, rfl⟩ := hd
    exact ⟨_, rfl, _, _, rfl, ⟨_, rfl, ⟨_, _, rfl, rfl, _, _, rfl, rfl, _, _, rfl, rfl, _, _, rfl, by simpa only [den] using nil_sl (n := 0) (k := 2) (S := S) (w := w) (D := (· < ([] : List (Option Chunk)).length + 1)) (by show 0 < 1; decide) hb (by simp only [den]), rfl⟩, hone⟩, _, _, rfl, rfl, rfl⟩
  · exact hs
abbrev a_rRfail : Type := Int × Int × Nat × (Nat → Int)
abbrev g_rRfail : Type := Nat × (Nat → Int) × Int
def A_rRfail : a_rRfail → List V × List (Option Chunk) := (fun x => (fun (c : Int) (e : Int) (n : Nat) (f : Nat → Int) => (([.agg [.ro 1 n (fun j => [u8 (f j)]), i64 e], i64 c] : List V), ([] : List (Option Chunk)))) x.1 x.2.1 x.2.2.1 x.2.2.2)
def d_rRfail (t : List V × List (Option Chunk)) : a_rRfail := ((vI (t.1.getD 1 .junk)), (vI ((vAg (t.1.getD 0 .junk)).getD 1 .junk)), (vRoN ((vAg (t.1.getD 0 .junk)).getD 0 .junk)), (fun j => (vI (((vRoF ((vAg (t.1.getD 0 .junk)).getD 0 .junk)) j).getD 0 .junk))))
theorem i_rRfail : ∀ x y, A_rRfail x = A_rRfail y → x = y := fun x y h => (congrArg d_rRfail h :)
def R_rRfail : g_rRfail → CRes := (fun z => CRes.ret (V.agg [V.ro 1 (z.1) fun (j : Nat) => [V.sc (Value.int IntKind.u8 (z.2.1 j))], i64 (z.2.2)]) [] : (Nat × (Nat → Int) × Int) → CRes)
def x_rRfail (z : g_rRfail) (k : CRes → Option Ans) : Option Ans := k (R_rRfail z)
theorem xe_rRfail : ∀ z k, x_rRfail z k = k (R_rRfail z) := fun z k => rfl
def t_rRfail {β : Type} (x : a_rRfail) (dn : g_rRfail → Option β) : Option β :=
 if (x.2.1 == (0 : Int)) = true then
  dn ((x.2.2.1, x.2.2.2, x.1))
 else
  dn ((x.2.2.1, x.2.2.2, x.2.1))
theorem n_rRfail {β : Type} (x : a_rRfail) (dn : g_rRfail → Option β) : t_rRfail x dn = (t_rRfail x some).bind dn := by
  unfold t_rRfail
  repeat' first | exact free_none | refine free_bind (fun z => ?_) | refine free_ite ?_ ?_ | refine free_sum (fun z => ?_) (fun z => ?_) | rfl
theorem r_rRfail (x : a_rRfail) : callK E9 ca0 lo0 56 (A_rRfail x).1 (A_rRfail x).2 K = t_rRfail x (fun z => some (.c (R_rRfail z))) := by kernel_rfl
theorem s_rRfail (q : Nat) (x : a_rRfail) (z : g_rRfail) (h : t_rRfail x some = some z) : SC E9 56 (A_rRfail x).1 (A_rRfail x).2 (R_rRfail z) := by
  refine SC.of hW9 hX9 ca0_sound lo0_sound ((r_rRfail x).trans ?_)
  rw [n_rRfail, h]; rfl
noncomputable def rRfail (q : Nat) (x : a_rRfail) : Option g_rRfail := t_rRfail x some
theorem sc_rRfail (q : Nat) : ∀ (x : a_rRfail) (z : g_rRfail), rRfail q x = some z → SC E9 56 (A_rRfail x).1 (A_rRfail x).2 (R_rRfail z) := fun x z h => s_rRfail q x z h
abbrev a_rRFail : Type := Int × Int × Nat × (Nat → Int)
abbrev g_rRFail : Type := Nat × (Nat → Int) × Int
def A_rRFail : a_rRFail → List V × List (Option Chunk) := (fun x => (fun (c : Int) (e : Int) (n : Nat) (f : Nat → Int) => (([.agg [.ro 1 n (fun j => [u8 (f j)]), i64 e], i64 c] : List V), ([] : List (Option Chunk)))) x.1 x.2.1 x.2.2.1 x.2.2.2)
def d_rRFail (t : List V × List (Option Chunk)) : a_rRFail := ((vI (t.1.getD 1 .junk)), (vI ((vAg (t.1.getD 0 .junk)).getD 1 .junk)), (vRoN ((vAg (t.1.getD 0 .junk)).getD 0 .junk)), (fun j => (vI (((vRoF ((vAg (t.1.getD 0 .junk)).getD 0 .junk)) j).getD 0 .junk))))
theorem i_rRFail : ∀ x y, A_rRFail x = A_rRFail y → x = y := fun x y h => (congrArg d_rRFail h :)
def R_rRFail : g_rRFail → CRes := (fun z => CRes.ret (V.agg [V.ro 1 (z.1) fun (j : Nat) => [V.sc (Value.int IntKind.u8 (z.2.1 j))], i64 (z.2.2)]) [] : (Nat × (Nat → Int) × Int) → CRes)
def x_rRFail (z : g_rRFail) (k : CRes → Option Ans) : Option Ans := k (R_rRFail z)
theorem xe_rRFail : ∀ z k, x_rRFail z k = k (R_rRFail z) := fun z k => rfl
def t_rRFail {β : Type} (c_rRfail : a_rRfail → Option g_rRfail) (x : a_rRFail) (dn : g_rRFail → Option β) : Option β :=
 (c_rRfail x).bind fun z4 =>
  dn z4
theorem n_rRFail {β : Type} (c_rRfail : a_rRfail → Option g_rRfail) (x : a_rRFail) (dn : g_rRFail → Option β) : t_rRFail c_rRfail x dn = (t_rRFail c_rRfail x some).bind dn := by
  unfold t_rRFail
  repeat' first | exact free_none | refine free_bind (fun z => ?_) | refine free_ite ?_ ?_ | refine free_sum (fun z => ?_) (fun z => ?_) | rfl
theorem r_rRFail (c_rRfail : a_rRfail → Option g_rRfail) (x : a_rRFail) : callK E9 (ftab 56 (fun _ _ => true) A_rRfail x_rRfail c_rRfail ca0) lo0 41 (A_rRFail x).1 (A_rRFail x).2 K = t_rRFail (fun x => viaF A_rRfail c_rRfail (A_rRfail x)) x (fun z => some (.c (R_rRFail z))) := by kernel_rfl
theorem s_rRFail (c_rRfail : a_rRfail → Option g_rRfail) (h_rRfail : ∀ x z, c_rRfail x = some z → SC E9 56 (A_rRfail x).1 (A_rRfail x).2 (R_rRfail z)) (q : Nat) (x : a_rRFail) (z : g_rRFail) (h : t_rRFail c_rRfail x some = some z) : SC E9 41 (A_rRFail x).1 (A_rRFail x).2 (R_rRFail z) := by
  refine SC.of hW9 hX9 (ftab_cons h_rRfail xe_rRfail ca0_sound) lo0_sound ((r_rRFail c_rRfail x).trans ?_)
  rw [via_eq i_rRfail c_rRfail, n_rRFail, h]; rfl
noncomputable def rRFail (q : Nat) (x : a_rRFail) : Option g_rRFail := t_rRFail (rRfail q) x some
theorem sc_rRFail (q : Nat) : ∀ (x : a_rRFail) (z : g_rRFail), rRFail q x = some z → SC E9 41 (A_rRFail x).1 (A_rRFail x).2 (R_rRFail z) := fun x z h => s_rRFail (rRfail q) (sc_rRfail q) q x z h
abbrev a_rREnd : Type := Int × Nat × (Nat → Int)
abbrev g_rREnd : Type := Int
def A_rREnd : a_rREnd → List V × List (Option Chunk) := (fun x => (fun (e : Int) (n : Nat) (f : Nat → Int) => (([.agg [.ro 1 n (fun j => [u8 (f j)]), i64 e]] : List V), ([] : List (Option Chunk)))) x.1 x.2.1 x.2.2)
def d_rREnd (t : List V × List (Option Chunk)) : a_rREnd := ((vI ((vAg (t.1.getD 0 .junk)).getD 1 .junk)), (vRoN ((vAg (t.1.getD 0 .junk)).getD 0 .junk)), (fun j => (vI (((vRoF ((vAg (t.1.getD 0 .junk)).getD 0 .junk)) j).getD 0 .junk))))
theorem i_rREnd : ∀ x y, A_rREnd x = A_rREnd y → x = y := fun x y h => (congrArg d_rREnd h :)
def R_rREnd : g_rREnd → CRes := (fun z => CRes.ret (i64 z) [] : (Int) → CRes)
def x_rREnd (z : g_rREnd) (k : CRes → Option Ans) : Option Ans := k (R_rREnd z)
theorem xe_rREnd : ∀ z k, x_rREnd z k = k (R_rREnd z) := fun z k => rfl
def t_rREnd {β : Type} (x : a_rREnd) (dn : g_rREnd → Option β) : Option β :=
 if (x.1 == (0 : Int)) = true then
  if decide (((x.2.1 : Nat) : Int) > (0 : Int)) = true then
   dn ((7 : Int))
  else
   dn (x.1)
 else
  dn (x.1)
theorem n_rREnd {β : Type} (x : a_rREnd) (dn : g_rREnd → Option β) : t_rREnd x dn = (t_rREnd x some).bind dn := by
  unfold t_rREnd
  repeat' first | exact free_none | refine free_bind (fun z => ?_) | refine free_ite ?_ ?_ | refine free_sum (fun z => ?_) (fun z => ?_) | rfl
theorem r_rREnd (x : a_rREnd) : callK E9 ca0 lo0 42 (A_rREnd x).1 (A_rREnd x).2 K = t_rREnd x (fun z => some (.c (R_rREnd z))) := by kernel_rfl
theorem s_rREnd (q : Nat) (x : a_rREnd) (z : g_rREnd) (h : t_rREnd x some = some z) : SC E9 42 (A_rREnd x).1 (A_rREnd x).2 (R_rREnd z) := by
  refine SC.of hW9 hX9 ca0_sound lo0_sound ((r_rREnd x).trans ?_)
  rw [n_rREnd, h]; rfl
noncomputable def rREnd (q : Nat) (x : a_rREnd) : Option g_rREnd := t_rREnd x some
theorem sc_rREnd (q : Nat) : ∀ (x : a_rREnd) (z : g_rREnd), rREnd q x = some z → SC E9 42 (A_rREnd x).1 (A_rREnd x).2 (R_rREnd z) := fun x z h => s_rREnd q x z h
abbrev a_rRUint : Type := Int × Nat × (Nat → Int)
abbrev g_rRUint : Type := Nat × (Nat → Int) × Int × Int
def A_rRUint : a_rRUint → List V × List (Option Chunk) := (fun x => (fun (e : Int) (n : Nat) (f : Nat → Int) => (([.agg [.ro 1 n (fun j => [u8 (f j)]), i64 e]] : List V), ([] : List (Option Chunk)))) x.1 x.2.1 x.2.2)
def d_rRUint (t : List V × List (Option Chunk)) : a_rRUint := ((vI ((vAg (t.1.getD 0 .junk)).getD 1 .junk)), (vRoN ((vAg (t.1.getD 0 .junk)).getD 0 .junk)), (fun j => (vI (((vRoF ((vAg (t.1.getD 0 .junk)).getD 0 .junk)) j).getD 0 .junk))))
theorem i_rRUint : ∀ x y, A_rRUint x = A_rRUint y → x = y := fun x y h => (congrArg d_rRUint h :)
def R_rRUint : g_rRUint → CRes := (fun z => CRes.ret (V.tup [V.agg [V.ro 1 (z.1) fun (j : Nat) => [V.sc (Value.int IntKind.u8 (z.2.1 j))], i64 (z.2.2.1)], V.sc (Value.int IntKind.u64 (z.2.2.2))]) [] : (Nat × (Nat → Int) × Int × Int) → CRes)
def x_rRUint (z : g_rRUint) (k : CRes → Option Ans) : Option Ans := k (R_rRUint z)
theorem xe_rRUint : ∀ z k, x_rRUint z k = k (R_rRUint z) := fun z k => rfl
abbrev rRUint_l0_a : Type := Int × Int × Int
abbrev rRUint_l0_g : Type := (Nat × (Nat → Int) × Int × Int) ⊕ (Unit)
def rRUint_l0_S (x : a_rRUint) (y : rRUint_l0_a) : St := { fr := [V.junk, V.ptr 0 0, V.ptr 1 0, V.junk, V.sc (Value.int IntKind.u64 (y.1)), V.sc (Value.int IntKind.u64 (y.2.1)), i64 (y.2.2)] ++ jk 58, H := hp [some (Chunk.blk [V.ro 1 (x.2.1) fun (j : Nat) => [V.sc (Value.int IntKind.u8 (x.2.2 j))], i64 (x.1)]), some (Chunk.blk [nilS, i64 (0 : Int)])], nx := 2, rt := 0, me := 40 }
def rRUint_l0_d (s : St) : rRUint_l0_a := ((vI (s.fr.getD 4 .junk)), (vI (s.fr.getD 5 .junk)), (vI (s.fr.getD 6 .junk)))
theorem rRUint_l0_i (x : a_rRUint) : ∀ y y', rRUint_l0_S x y = rRUint_l0_S x y' → y = y' := fun y y' h => (congrArg rRUint_l0_d h :)
def rRUint_l0_T (x : a_rRUint) : rRUint_l0_g → Ex × St := (Sum.elim (fun z => (Ex.ret, { fr := [V.junk, V.junk, V.ptr 0 0, V.sc (Value.int IntKind.u64 (z.2.2.2))] ++ jk 61, H := hp [some (Chunk.blk [V.ro 1 (z.1) fun (j : Nat) => [V.sc (Value.int IntKind.u8 (z.2.1 j))], i64 (z.2.2.1)])], nx := 1, rt := 0, me := 40 })) (fun z => (Ex.exit 0, { fr := [V.junk, V.ptr 0 0, V.ptr 1 0] ++ jk 62, H := hp [some (Chunk.blk [V.ro 1 (x.2.1) fun (j : Nat) => [V.sc (Value.int IntKind.u8 (x.2.2 j))], i64 (x.1)]), some (Chunk.blk [nilS, i64 (0 : Int)])], nx := 2, rt := 0, me := 40 })))
def rRUint_l0_x (x : a_rRUint) (z : rRUint_l0_g) (k : KX) : Option Ans := Sum.elim (fun za => k (rRUint_l0_T x (.inl za)).1 (rRUint_l0_T x (.inl za)).2) (fun zb => k (rRUint_l0_T x (.inr zb)).1 (rRUint_l0_T x (.inr zb)).2) z
theorem rRUint_l0_xe (x : a_rRUint) : ∀ z k, rRUint_l0_x x z k = k (rRUint_l0_T x z).1 (rRUint_l0_T x z).2 := fun z k => by
  rcases z with z | z <;> rfl
theorem rRUint_l0_k0 (x : a_rRUint) (z : Nat × (Nat → Int) × Int × Int) : KCM [(0, 6)] 12 (rRUint_l0_T x (.inl z)).1 (rRUint_l0_T x (.inl z)).2 = some (.l (rRUint_l0_T x (.inl z)).1 (rRUint_l0_T x (.inl z)).2) := by kernel_rfl
theorem rRUint_l0_k1 (x : a_rRUint) (z : Unit) : KCM [(0, 6)] 12 (rRUint_l0_T x (.inr z)).1 (rRUint_l0_T x (.inr z)).2 = some (.l (rRUint_l0_T x (.inr z)).1 (rRUint_l0_T x (.inr z)).2) := by kernel_rfl
def rRUint_l0_t {β : Type} (c_rRfail : a_rRfail → Option g_rRfail) (x : a_rRUint) (y : rRUint_l0_a) (nx : rRUint_l0_a → Option β) (dn : rRUint_l0_g → Option β) : Option β :=
 if decide (y.2.2 < (10 : Int)) = true then
  if decide (y.2.2 ≥ ((x.2.1 : Nat) : Int)) = true then
   (c_rRfail (((6 : Int), x))).bind fun z98 =>
    dn (.inl ((z98.1, z98.2.1, z98.2.2, (0 : Int))))
  else
   if (0 : Int) ≤ y.2.2 ∧ y.2.2 < ((x.2.1 : Nat) : Int) then
    if (y.2.2 == (9 : Int)) = true then
     if (x.2.2 (Int.toNat (y.2.2)) != (1 : Int)) = true then
      (c_rRfail (((7 : Int), x))).bind fun z103 =>
       dn (.inl ((z103.1, z103.2.1, z103.2.2, (0 : Int))))
     else
      if decide (y.2.2 > (0 : Int)) = true then
       if (x.2.2 (Int.toNat (y.2.2)) == (0 : Int)) = true then
        (c_rRfail (((7 : Int), x))).bind fun z108 =>
         dn (.inl ((z108.1, z108.2.1, z108.2.2, (0 : Int))))
       else
        if decide (x.2.2 (Int.toNat (y.2.2)) < (128 : Int)) = true then
         if (0 : Int) ≤ w (y.2.2 + (1 : Int)) ∧ w (y.2.2 + (1 : Int)) ≤ ((x.2.1 : Nat) : Int) ∧ ((x.2.1 : Nat) : Int) ≤ ((x.2.1 : Nat) : Int) then
          dn (.inl ((Int.toNat ((x.2.1 : Nat) : Int) - Int.toNat (w (y.2.2 + (1 : Int))), fun (j : Nat) => x.2.2 (Int.toNat (w (y.2.2 + (1 : Int))) + j), x.1, IntKind.wrap IntKind.u64 (y.1 + IntKind.wrap IntKind.u64 (IntKind.wrap IntKind.u64 (Int.tmod (x.2.2 (Int.toNat (y.2.2))) (128 : Int)) * y.2.1)))))
         else
          none
        else
         nx ((IntKind.wrap IntKind.u64 (y.1 + IntKind.wrap IntKind.u64 (IntKind.wrap IntKind.u64 (Int.tmod (x.2.2 (Int.toNat (y.2.2))) (128 : Int)) * y.2.1)), IntKind.wrap IntKind.u64 (y.2.1 * (128 : Int)), w (y.2.2 + (1 : Int))))
      else
       if decide (x.2.2 (Int.toNat (y.2.2)) < (128 : Int)) = true then
        if (0 : Int) ≤ w (y.2.2 + (1 : Int)) ∧ w (y.2.2 + (1 : Int)) ≤ ((x.2.1 : Nat) : Int) ∧ ((x.2.1 : Nat) : Int) ≤ ((x.2.1 : Nat) : Int) then
         dn (.inl ((Int.toNat ((x.2.1 : Nat) : Int) - Int.toNat (w (y.2.2 + (1 : Int))), fun (j : Nat) => x.2.2 (Int.toNat (w (y.2.2 + (1 : Int))) + j), x.1, IntKind.wrap IntKind.u64 (y.1 + IntKind.wrap IntKind.u64 (IntKind.wrap IntKind.u64 (Int.tmod (x.2.2 (Int.toNat (y.2.2))) (128 : Int)) * y.2.1)))))
        else
         none
       else
        nx ((IntKind.wrap IntKind.u64 (y.1 + IntKind.wrap IntKind.u64 (IntKind.wrap IntKind.u64 (Int.tmod (x.2.2 (Int.toNat (y.2.2))) (128 : Int)) * y.2.1)), IntKind.wrap IntKind.u64 (y.2.1 * (128 : Int)), w (y.2.2 + (1 : Int))))
    else
     if decide (y.2.2 > (0 : Int)) = true then
      if (x.2.2 (Int.toNat (y.2.2)) == (0 : Int)) = true then
       (c_rRfail (((7 : Int), x))).bind fun z113 =>
        dn (.inl ((z113.1, z113.2.1, z113.2.2, (0 : Int))))
      else
       if decide (x.2.2 (Int.toNat (y.2.2)) < (128 : Int)) = true then
        if (0 : Int) ≤ w (y.2.2 + (1 : Int)) ∧ w (y.2.2 + (1 : Int)) ≤ ((x.2.1 : Nat) : Int) ∧ ((x.2.1 : Nat) : Int) ≤ ((x.2.1 : Nat) : Int) then
         dn (.inl ((Int.toNat ((x.2.1 : Nat) : Int) - Int.toNat (w (y.2.2 + (1 : Int))), fun (j : Nat) => x.2.2 (Int.toNat (w (y.2.2 + (1 : Int))) + j), x.1, IntKind.wrap IntKind.u64 (y.1 + IntKind.wrap IntKind.u64 (IntKind.wrap IntKind.u64 (Int.tmod (x.2.2 (Int.toNat (y.2.2))) (128 : Int)) * y.2.1)))))
        else
         none
       else
        nx ((IntKind.wrap IntKind.u64 (y.1 + IntKind.wrap IntKind.u64 (IntKind.wrap IntKind.u64 (Int.tmod (x.2.2 (Int.toNat (y.2.2))) (128 : Int)) * y.2.1)), IntKind.wrap IntKind.u64 (y.2.1 * (128 : Int)), w (y.2.2 + (1 : Int))))
     else
      if decide (x.2.2 (Int.toNat (y.2.2)) < (128 : Int)) = true then
       if (0 : Int) ≤ w (y.2.2 + (1 : Int)) ∧ w (y.2.2 + (1 : Int)) ≤ ((x.2.1 : Nat) : Int) ∧ ((x.2.1 : Nat) : Int) ≤ ((x.2.1 : Nat) : Int) then
        dn (.inl ((Int.toNat ((x.2.1 : Nat) : Int) - Int.toNat (w (y.2.2 + (1 : Int))), fun (j : Nat) => x.2.2 (Int.toNat (w (y.2.2 + (1 : Int))) + j), x.1, IntKind.wrap IntKind.u64 (y.1 + IntKind.wrap IntKind.u64 (IntKind.wrap IntKind.u64 (Int.tmod (x.2.2 (Int.toNat (y.2.2))) (128 : Int)) * y.2.1)))))
       else
        none
      else
       nx ((IntKind.wrap IntKind.u64 (y.1 + IntKind.wrap IntKind.u64 (IntKind.wrap IntKind.u64 (Int.tmod (x.2.2 (Int.toNat (y.2.2))) (128 : Int)) * y.2.1)), IntKind.wrap IntKind.u64 (y.2.1 * (128 : Int)), w (y.2.2 + (1 : Int))))
   else
    none
 else
  dn (.inr ())
theorem rRUint_l0_n {β : Type} (c_rRfail : a_rRfail → Option g_rRfail) (x : a_rRUint) (y : rRUint_l0_a) (nx : rRUint_l0_a → Option β) (dn : rRUint_l0_g → Option β) : rRUint_l0_t c_rRfail x y nx dn = (rRUint_l0_t c_rRfail x y (fun y => some (.inl y)) (fun z => some (.inr z))).bind fun r => Sum.elim nx dn r := by
  unfold rRUint_l0_t
  repeat' first | exact free_none | refine free_bind (fun z => ?_) | refine free_ite ?_ ?_ | refine free_sum (fun z => ?_) (fun z => ?_) | rfl
theorem rRUint_l0_r (c_rRfail : a_rRfail → Option g_rRfail) (x : a_rRUint) (y : rRUint_l0_a) (lo : LoopT) : loopK E9 (ftab 56 (fun _ _ => true) A_rRfail x_rRfail c_rRfail ca0) lo 0 118 (bodyOf E9 40 0) (rRUint_l0_S x y) (KCM [(0, 6)] 12) = rRUint_l0_t (fun x => viaF A_rRfail c_rRfail (A_rRfail x)) x y (fun y => lo 0 118 (bodyOf E9 40 0) (rRUint_l0_S x y) (KCM [(0, 6)] 12)) (fun z => some (.l (rRUint_l0_T x z).1 (rRUint_l0_T x z).2)) := by kernel_rfl
noncomputable def rRUint_l0 (c_rRfail : a_rRfail → Option g_rRfail) (q : Nat) (x : a_rRUint) : rRUint_l0_a → Option rRUint_l0_g := lpG (fun y => rRUint_l0_t c_rRfail x y (fun y => some (.inl y)) (fun z => some (.inr z))) q
theorem rRUint_l0_s (c_rRfail : a_rRfail → Option g_rRfail) (h_rRfail : ∀ x z, c_rRfail x = some z → SC E9 56 (A_rRfail x).1 (A_rRfail x).2 (R_rRfail z)) (q : Nat) (x : a_rRUint) : ∀ y z, rRUint_l0 c_rRfail q x y = some z → SL E9 (bodyOf E9 40 0) (rRUint_l0_S x y) (rRUint_l0_T x z).1 (rRUint_l0_T x z).2 :=
  SL.lp (LT := fun lo => lo) (T := rRUint_l0_T x) (S := rRUint_l0_S x) (ftab_cons h_rRfail xe_rRfail ca0_sound) hX9 (fun lo h => h) (fun lo y => (rRUint_l0_r c_rRfail x y lo).trans (by rw [via_eq i_rRfail c_rRfail]; exact rRUint_l0_n _ _ _ _ _)) (fun z => by rcases z with z | z <;> first | exact rRUint_l0_k0 x z | exact rRUint_l0_k1 x z) q
def t_rRUint {β : Type} (c_rRfail : a_rRfail → Option g_rRfail) (l_rRUint_l0 : rRUint_l0_a → Option rRUint_l0_g) (x : a_rRUint) (dn : g_rRUint → Option β) : Option β :=
 if (x.1 != (0 : Int)) = true then
  dn ((x.2.1, x.2.2, x.1, (0 : Int)))
 else
  (l_rRUint_l0 (((0 : Int), (1 : Int), (0 : Int)))).bind fun z72 =>
   Sum.elim (fun z72a =>
   dn z72a) (fun z72b =>
   (c_rRfail (((7 : Int), x))).bind fun z78 =>
    dn ((z78.1, z78.2.1, z78.2.2, (0 : Int)))) z72
theorem n_rRUint {β : Type} (c_rRfail : a_rRfail → Option g_rRfail) (l_rRUint_l0 : rRUint_l0_a → Option rRUint_l0_g) (x : a_rRUint) (dn : g_rRUint → Option β) : t_rRUint c_rRfail l_rRUint_l0 x dn = (t_rRUint c_rRfail l_rRUint_l0 x some).bind dn := by
  unfold t_rRUint
  repeat' first | exact free_none | refine free_bind (fun z => ?_) | refine free_ite ?_ ?_ | refine free_sum (fun z => ?_) (fun z => ?_) | rfl
theorem r_rRUint (c_rRfail : a_rRfail → Option g_rRfail) (l_rRUint_l0 : rRUint_l0_a → Option rRUint_l0_g) (x : a_rRUint) : callK E9 (ftab 56 (fun _ _ => true) A_rRfail x_rRfail c_rRfail ca0) (ltabF 0 (fun _ => true) (bodyOf E9 40 0) (rRUint_l0_S x) (rRUint_l0_x x) l_rRUint_l0 lo0) 40 (A_rRUint x).1 (A_rRUint x).2 K = t_rRUint (fun x => viaF A_rRfail c_rRfail (A_rRfail x)) (fun y => viaF (fun y => (bodyOf E9 40 0, rRUint_l0_S x y)) l_rRUint_l0 (bodyOf E9 40 0, rRUint_l0_S x y)) x (fun z => some (.c (R_rRUint z))) := by kernel_rfl
theorem s_rRUint (c_rRfail : a_rRfail → Option g_rRfail) (h_rRfail : ∀ x z, c_rRfail x = some z → SC E9 56 (A_rRfail x).1 (A_rRfail x).2 (R_rRfail z)) (q : Nat) (x : a_rRUint) (z : g_rRUint) (h : t_rRUint c_rRfail (rRUint_l0 c_rRfail q x) x some = some z) : SC E9 40 (A_rRUint x).1 (A_rRUint x).2 (R_rRUint z) := by
  refine SC.of hW9 hX9 (ftab_cons h_rRfail xe_rRfail ca0_sound) (ltabF_cons (rRUint_l0_s c_rRfail h_rRfail q x) (rRUint_l0_xe x) lo0_sound) ((r_rRUint c_rRfail (rRUint_l0 c_rRfail q x) x).trans ?_)
  rw [via_eq i_rRfail c_rRfail, via_eq (pair_inj (bodyOf E9 40 0) (rRUint_l0_i x)) (rRUint_l0 c_rRfail q x), n_rRUint, h]; rfl
noncomputable def rRUint (q : Nat) (x : a_rRUint) : Option g_rRUint := t_rRUint (rRfail q) (rRUint_l0 (rRfail q) q x) x some
theorem sc_rRUint (q : Nat) : ∀ (x : a_rRUint) (z : g_rRUint), rRUint q x = some z → SC E9 40 (A_rRUint x).1 (A_rRUint x).2 (R_rRUint z) := fun x z h => s_rRUint (rRfail q) (sc_rRfail q) q x z h
abbrev a_rZag : Type := Int
abbrev g_rZag : Type := Int
def A_rZag : a_rZag → List V × List (Option Chunk) := (fun x => (fun (v : Int) => (([u64 v] : List V), ([] : List (Option Chunk)))) x)
def d_rZag (t : List V × List (Option Chunk)) : a_rZag := ((vI (t.1.getD 0 .junk)))
theorem i_rZag : ∀ x y, A_rZag x = A_rZag y → x = y := fun x y h => (congrArg d_rZag h :)
def R_rZag : g_rZag → CRes := (fun z => CRes.ret (i64 z) [] : (Int) → CRes)
def x_rZag (z : g_rZag) (k : CRes → Option Ans) : Option Ans := k (R_rZag z)
theorem xe_rZag : ∀ z k, x_rZag z k = k (R_rZag z) := fun z k => rfl
def t_rZag {β : Type} (x : a_rZag) (dn : g_rZag → Option β) : Option β :=
 if (Int.tmod x (2 : Int) == (0 : Int)) = true then
  dn (w (IntKind.wrap IntKind.u64 (Int.tdiv x (2 : Int))))
 else
  dn (w (w ((0 : Int) - w (IntKind.wrap IntKind.u64 (Int.tdiv x (2 : Int)))) - (1 : Int)))
theorem n_rZag {β : Type} (x : a_rZag) (dn : g_rZag → Option β) : t_rZag x dn = (t_rZag x some).bind dn := by
  unfold t_rZag
  repeat' first | exact free_none | refine free_bind (fun z => ?_) | refine free_ite ?_ ?_ | refine free_sum (fun z => ?_) (fun z => ?_) | rfl
theorem r_rZag (x : a_rZag) : callK E9 ca0 lo0 57 (A_rZag x).1 (A_rZag x).2 K = t_rZag x (fun z => some (.c (R_rZag z))) := by kernel_rfl
theorem s_rZag (q : Nat) (x : a_rZag) (z : g_rZag) (h : t_rZag x some = some z) : SC E9 57 (A_rZag x).1 (A_rZag x).2 (R_rZag z) := by
  refine SC.of hW9 hX9 ca0_sound lo0_sound ((r_rZag x).trans ?_)
  rw [n_rZag, h]; rfl
noncomputable def rZag (q : Nat) (x : a_rZag) : Option g_rZag := t_rZag x some
theorem sc_rZag (q : Nat) : ∀ (x : a_rZag) (z : g_rZag), rZag q x = some z → SC E9 57 (A_rZag x).1 (A_rZag x).2 (R_rZag z) := fun x z h => s_rZag q x z h
abbrev a_rRInt : Type := Int × Nat × (Nat → Int)
abbrev g_rRInt : Type := Nat × (Nat → Int) × Int × Int
def A_rRInt : a_rRInt → List V × List (Option Chunk) := (fun x => (fun (e : Int) (n : Nat) (f : Nat → Int) => (([.agg [.ro 1 n (fun j => [u8 (f j)]), i64 e]] : List V), ([] : List (Option Chunk)))) x.1 x.2.1 x.2.2)
def d_rRInt (t : List V × List (Option Chunk)) : a_rRInt := ((vI ((vAg (t.1.getD 0 .junk)).getD 1 .junk)), (vRoN ((vAg (t.1.getD 0 .junk)).getD 0 .junk)), (fun j => (vI (((vRoF ((vAg (t.1.getD 0 .junk)).getD 0 .junk)) j).getD 0 .junk))))
theorem i_rRInt : ∀ x y, A_rRInt x = A_rRInt y → x = y := fun x y h => (congrArg d_rRInt h :)
def R_rRInt : g_rRInt → CRes := (fun z => CRes.ret (V.tup [V.agg [V.ro 1 (z.1) fun (j : Nat) => [V.sc (Value.int IntKind.u8 (z.2.1 j))], i64 (z.2.2.1)], i64 (z.2.2.2)]) [] : (Nat × (Nat → Int) × Int × Int) → CRes)
def x_rRInt (z : g_rRInt) (k : CRes → Option Ans) : Option Ans := k (R_rRInt z)
theorem xe_rRInt : ∀ z k, x_rRInt z k = k (R_rRInt z) := fun z k => rfl
def t_rRInt {β : Type} (c_rRUint : a_rRUint → Option g_rRUint) (c_rZag : a_rZag → Option g_rZag) (x : a_rRInt) (dn : g_rRInt → Option β) : Option β :=
 (c_rRUint x).bind fun z3 =>
  (c_rZag (z3.2.2.2)).bind fun z5 =>
   dn ((z3.1, z3.2.1, z3.2.2.1, z5))
theorem n_rRInt {β : Type} (c_rRUint : a_rRUint → Option g_rRUint) (c_rZag : a_rZag → Option g_rZag) (x : a_rRInt) (dn : g_rRInt → Option β) : t_rRInt c_rRUint c_rZag x dn = (t_rRInt c_rRUint c_rZag x some).bind dn := by
  unfold t_rRInt
  repeat' first | exact free_none | refine free_bind (fun z => ?_) | refine free_ite ?_ ?_ | refine free_sum (fun z => ?_) (fun z => ?_) | rfl
theorem r_rRInt (c_rRUint : a_rRUint → Option g_rRUint) (c_rZag : a_rZag → Option g_rZag) (x : a_rRInt) : callK E9 (ftab 40 (fun _ _ => true) A_rRUint x_rRUint c_rRUint (ftab 57 (fun _ _ => true) A_rZag x_rZag c_rZag ca0)) lo0 39 (A_rRInt x).1 (A_rRInt x).2 K = t_rRInt (fun x => viaF A_rRUint c_rRUint (A_rRUint x)) (fun x => viaF A_rZag c_rZag (A_rZag x)) x (fun z => some (.c (R_rRInt z))) := by kernel_rfl
theorem s_rRInt (c_rRUint : a_rRUint → Option g_rRUint) (h_rRUint : ∀ x z, c_rRUint x = some z → SC E9 40 (A_rRUint x).1 (A_rRUint x).2 (R_rRUint z)) (c_rZag : a_rZag → Option g_rZag) (h_rZag : ∀ x z, c_rZag x = some z → SC E9 57 (A_rZag x).1 (A_rZag x).2 (R_rZag z)) (q : Nat) (x : a_rRInt) (z : g_rRInt) (h : t_rRInt c_rRUint c_rZag x some = some z) : SC E9 39 (A_rRInt x).1 (A_rRInt x).2 (R_rRInt z) := by
  refine SC.of hW9 hX9 (ftab_cons h_rRUint xe_rRUint (ftab_cons h_rZag xe_rZag ca0_sound)) lo0_sound ((r_rRInt c_rRUint c_rZag x).trans ?_)
  rw [via_eq i_rRUint c_rRUint, via_eq i_rZag c_rZag, n_rRInt, h]; rfl
noncomputable def rRInt (q : Nat) (x : a_rRInt) : Option g_rRInt := t_rRInt (rRUint q) (rZag q) x some
theorem sc_rRInt (q : Nat) : ∀ (x : a_rRInt) (z : g_rRInt), rRInt q x = some z → SC E9 39 (A_rRInt x).1 (A_rRInt x).2 (R_rRInt z) := fun x z h => s_rRInt (rRUint q) (sc_rRUint q) (rZag q) (sc_rZag q) q x z h
abbrev a_rRSize : Type := Int × Int × Nat × (Nat → Int)
abbrev g_rRSize : Type := Nat × (Nat → Int) × Int × Int
def A_rRSize : a_rRSize → List V × List (Option Chunk) := (fun x => (fun (mo : Int) (e : Int) (n : Nat) (f : Nat → Int) => (([.agg [.ro 1 n (fun j => [u8 (f j)]), i64 e], i64 mo] : List V), ([] : List (Option Chunk)))) x.1 x.2.1 x.2.2.1 x.2.2.2)
def d_rRSize (t : List V × List (Option Chunk)) : a_rRSize := ((vI (t.1.getD 1 .junk)), (vI ((vAg (t.1.getD 0 .junk)).getD 1 .junk)), (vRoN ((vAg (t.1.getD 0 .junk)).getD 0 .junk)), (fun j => (vI (((vRoF ((vAg (t.1.getD 0 .junk)).getD 0 .junk)) j).getD 0 .junk))))
theorem i_rRSize : ∀ x y, A_rRSize x = A_rRSize y → x = y := fun x y h => (congrArg d_rRSize h :)
def R_rRSize : g_rRSize → CRes := (fun z => CRes.ret (V.tup [V.agg [V.ro 1 (z.1) fun (j : Nat) => [V.sc (Value.int IntKind.u8 (z.2.1 j))], i64 (z.2.2.1)], i64 (z.2.2.2)]) [] : (Nat × (Nat → Int) × Int × Int) → CRes)
def x_rRSize (z : g_rRSize) (k : CRes → Option Ans) : Option Ans := k (R_rRSize z)
theorem xe_rRSize : ∀ z k, x_rRSize z k = k (R_rRSize z) := fun z k => rfl
def t_rRSize {β : Type} (c_rRUint : a_rRUint → Option g_rRUint) (c_rRfail : a_rRfail → Option g_rRfail) (x : a_rRSize) (dn : g_rRSize → Option β) : Option β :=
 (c_rRUint (x.2)).bind fun z3 =>
  if (z3.2.2.1 == (0 : Int)) = true then
   if decide (x.1 < (0 : Int)) = true then
    (c_rRfail (((2 : Int), z3.2.2.1, z3.1, z3.2.1))).bind fun z8 =>
     if (z8.2.2 != (0 : Int)) = true then
      dn ((z8.1, z8.2.1, z8.2.2, (0 : Int)))
     else
      dn ((z8.1, z8.2.1, z8.2.2, w (z3.2.2.2)))
   else
    if decide (z3.2.2.2 > IntKind.wrap IntKind.u64 (x.1)) = true then
     (c_rRfail (((2 : Int), z3.2.2.1, z3.1, z3.2.1))).bind fun z13 =>
      if (z13.2.2 != (0 : Int)) = true then
       dn ((z13.1, z13.2.1, z13.2.2, (0 : Int)))
      else
       dn ((z13.1, z13.2.1, z13.2.2, w (z3.2.2.2)))
    else
     if (z3.2.2.1 != (0 : Int)) = true then
      dn ((z3.1, z3.2.1, z3.2.2.1, (0 : Int)))
     else
      dn ((z3.1, z3.2.1, z3.2.2.1, w (z3.2.2.2)))
  else
   if (z3.2.2.1 != (0 : Int)) = true then
    dn ((z3.1, z3.2.1, z3.2.2.1, (0 : Int)))
   else
    dn ((z3.1, z3.2.1, z3.2.2.1, w (z3.2.2.2)))
theorem n_rRSize {β : Type} (c_rRUint : a_rRUint → Option g_rRUint) (c_rRfail : a_rRfail → Option g_rRfail) (x : a_rRSize) (dn : g_rRSize → Option β) : t_rRSize c_rRUint c_rRfail x dn = (t_rRSize c_rRUint c_rRfail x some).bind dn := by
  unfold t_rRSize
  repeat' first | exact free_none | refine free_bind (fun z => ?_) | refine free_ite ?_ ?_ | refine free_sum (fun z => ?_) (fun z => ?_) | rfl
theorem r_rRSize (c_rRUint : a_rRUint → Option g_rRUint) (c_rRfail : a_rRfail → Option g_rRfail) (x : a_rRSize) : callK E9 (ftab 40 (fun _ _ => true) A_rRUint x_rRUint c_rRUint (ftab 56 (fun _ _ => true) A_rRfail x_rRfail c_rRfail ca0)) lo0 55 (A_rRSize x).1 (A_rRSize x).2 K = t_rRSize (fun x => viaF A_rRUint c_rRUint (A_rRUint x)) (fun x => viaF A_rRfail c_rRfail (A_rRfail x)) x (fun z => some (.c (R_rRSize z))) := by kernel_rfl
theorem s_rRSize (c_rRUint : a_rRUint → Option g_rRUint) (h_rRUint : ∀ x z, c_rRUint x = some z → SC E9 40 (A_rRUint x).1 (A_rRUint x).2 (R_rRUint z)) (c_rRfail : a_rRfail → Option g_rRfail) (h_rRfail : ∀ x z, c_rRfail x = some z → SC E9 56 (A_rRfail x).1 (A_rRfail x).2 (R_rRfail z)) (q : Nat) (x : a_rRSize) (z : g_rRSize) (h : t_rRSize c_rRUint c_rRfail x some = some z) : SC E9 55 (A_rRSize x).1 (A_rRSize x).2 (R_rRSize z) := by
  refine SC.of hW9 hX9 (ftab_cons h_rRUint xe_rRUint (ftab_cons h_rRfail xe_rRfail ca0_sound)) lo0_sound ((r_rRSize c_rRUint c_rRfail x).trans ?_)
  rw [via_eq i_rRUint c_rRUint, via_eq i_rRfail c_rRfail, n_rRSize, h]; rfl
noncomputable def rRSize (q : Nat) (x : a_rRSize) : Option g_rRSize := t_rRSize (rRUint q) (rRfail q) x some
theorem sc_rRSize (q : Nat) : ∀ (x : a_rRSize) (z : g_rRSize), rRSize q x = some z → SC E9 55 (A_rRSize x).1 (A_rRSize x).2 (R_rRSize z) := fun x z h => s_rRSize (rRUint q) (sc_rRUint q) (rRfail q) (sc_rRfail q) q x z h
abbrev a_rRBytes : Type := Int × Int × Nat × (Nat → Int)
abbrev g_rRBytes : Type := (Nat × (Nat → Int) × Int) ⊕ (Nat × (Nat → Int) × Int × Nat × (Nat → Int))
def A_rRBytes : a_rRBytes → List V × List (Option Chunk) := (fun x => (fun (mo : Int) (e : Int) (n : Nat) (f : Nat → Int) => (([.agg [.ro 1 n (fun j => [u8 (f j)]), i64 e], i64 mo] : List V), ([] : List (Option Chunk)))) x.1 x.2.1 x.2.2.1 x.2.2.2)
def R_rRBytes : g_rRBytes → CRes := Sum.elim ((fun z => CRes.ret (V.tup [V.agg [V.ro 1 (z.1) fun (j : Nat) => [V.sc (Value.int IntKind.u8 (z.2.1 j))], i64 (z.2.2)], nilS]) [] : (Nat × (Nat → Int) × Int) → CRes)) ((fun z => CRes.ret (V.tup [V.agg [V.ro 1 (z.1) fun (j : Nat) => [V.sc (Value.int IntKind.u8 (z.2.1 j))], i64 (z.2.2.1)], V.sl 0 1 0 (z.2.2.2.1)]) [some (Chunk.row 5 1 (z.2.2.2.1) fun (j : Nat) => [V.sc (Value.int IntKind.u8 (z.2.2.2.2 j))])] : (Nat × (Nat → Int) × Int × Nat × (Nat → Int)) → CRes))
def t_rRBytes {β : Type} (c_rRSize : a_rRSize → Option g_rRSize) (c_rRfail : a_rRfail → Option g_rRfail) (x : a_rRBytes) (dn : g_rRBytes → Option β) : Option β :=
 (c_rRSize x).bind fun z4 =>
  if (z4.2.2.1 == (0 : Int)) = true then
   if decide (z4.2.2.2 > ((z4.1 : Nat) : Int)) = true then
    (c_rRfail (((6 : Int), z4.2.2.1, z4.1, z4.2.1))).bind fun z9 =>
     if (z9.2.2 != (0 : Int)) = true then
      dn (.inl z9)
     else
      if (0 : Int) ≤ (0 : Int) ∧ (0 : Int) ≤ z4.2.2.2 ∧ z4.2.2.2 ≤ ((z9.1 : Nat) : Int) then
       if (0 + (Int.toNat (z4.2.2.2) - 0)) * 1 ≤ roomBound ∧ 0 + (Int.toNat (z4.2.2.2) - 0) ≤ maxLen ∧ 0 ≤ 0 then
        if (0 : Int) ≤ z4.2.2.2 ∧ z4.2.2.2 ≤ ((z9.1 : Nat) : Int) ∧ ((z9.1 : Nat) : Int) ≤ ((z9.1 : Nat) : Int) then
         dn (.inr ((Int.toNat ((z9.1 : Nat) : Int) - Int.toNat (z4.2.2.2), fun (j : Nat) => z9.2.1 (Int.toNat (z4.2.2.2) + j), z9.2.2, 0 + (Int.toNat (z4.2.2.2) - 0), fun (j : Nat) => z9.2.1 (0 + j))))
        else
         none
       else
        none
      else
       none
   else
    if (z4.2.2.1 != (0 : Int)) = true then
     dn (.inl ((z4.1, z4.2.1, z4.2.2.1)))
    else
     if (0 : Int) ≤ (0 : Int) ∧ (0 : Int) ≤ z4.2.2.2 ∧ z4.2.2.2 ≤ ((z4.1 : Nat) : Int) then
      if (0 + (Int.toNat (z4.2.2.2) - 0)) * 1 ≤ roomBound ∧ 0 + (Int.toNat (z4.2.2.2) - 0) ≤ maxLen ∧ 0 ≤ 0 then
       if (0 : Int) ≤ z4.2.2.2 ∧ z4.2.2.2 ≤ ((z4.1 : Nat) : Int) ∧ ((z4.1 : Nat) : Int) ≤ ((z4.1 : Nat) : Int) then
        dn (.inr ((Int.toNat ((z4.1 : Nat) : Int) - Int.toNat (z4.2.2.2), fun (j : Nat) => z4.2.1 (Int.toNat (z4.2.2.2) + j), z4.2.2.1, 0 + (Int.toNat (z4.2.2.2) - 0), fun (j : Nat) => z4.2.1 (0 + j))))
       else
        none
      else
       none
     else
      none
  else
   if (z4.2.2.1 != (0 : Int)) = true then
    dn (.inl ((z4.1, z4.2.1, z4.2.2.1)))
   else
    if (0 : Int) ≤ (0 : Int) ∧ (0 : Int) ≤ z4.2.2.2 ∧ z4.2.2.2 ≤ ((z4.1 : Nat) : Int) then
     if (0 + (Int.toNat (z4.2.2.2) - 0)) * 1 ≤ roomBound ∧ 0 + (Int.toNat (z4.2.2.2) - 0) ≤ maxLen ∧ 0 ≤ 0 then
      if (0 : Int) ≤ z4.2.2.2 ∧ z4.2.2.2 ≤ ((z4.1 : Nat) : Int) ∧ ((z4.1 : Nat) : Int) ≤ ((z4.1 : Nat) : Int) then
       dn (.inr ((Int.toNat ((z4.1 : Nat) : Int) - Int.toNat (z4.2.2.2), fun (j : Nat) => z4.2.1 (Int.toNat (z4.2.2.2) + j), z4.2.2.1, 0 + (Int.toNat (z4.2.2.2) - 0), fun (j : Nat) => z4.2.1 (0 + j))))
      else
       none
     else
      none
    else
     none
theorem n_rRBytes {β : Type} (c_rRSize : a_rRSize → Option g_rRSize) (c_rRfail : a_rRfail → Option g_rRfail) (x : a_rRBytes) (dn : g_rRBytes → Option β) : t_rRBytes c_rRSize c_rRfail x dn = (t_rRBytes c_rRSize c_rRfail x some).bind dn := by
  unfold t_rRBytes
  repeat' first | exact free_none | refine free_bind (fun z => ?_) | refine free_ite ?_ ?_ | refine free_sum (fun z => ?_) (fun z => ?_) | rfl
theorem r_rRBytes (c_rRSize : a_rRSize → Option g_rRSize) (c_rRfail : a_rRfail → Option g_rRfail) (x : a_rRBytes) : callK E9 (ftab 55 (fun _ _ => true) A_rRSize x_rRSize c_rRSize (ftab 56 (fun _ _ => true) A_rRfail x_rRfail c_rRfail ca0)) lo0 38 (A_rRBytes x).1 (A_rRBytes x).2 K = t_rRBytes (fun x => viaF A_rRSize c_rRSize (A_rRSize x)) (fun x => viaF A_rRfail c_rRfail (A_rRfail x)) x (fun z => some (.c (R_rRBytes z))) := by kernel_rfl
theorem s_rRBytes (c_rRSize : a_rRSize → Option g_rRSize) (h_rRSize : ∀ x z, c_rRSize x = some z → SC E9 55 (A_rRSize x).1 (A_rRSize x).2 (R_rRSize z)) (c_rRfail : a_rRfail → Option g_rRfail) (h_rRfail : ∀ x z, c_rRfail x = some z → SC E9 56 (A_rRfail x).1 (A_rRfail x).2 (R_rRfail z)) (q : Nat) (x : a_rRBytes) (z : g_rRBytes) (h : t_rRBytes c_rRSize c_rRfail x some = some z) : SC E9 38 (A_rRBytes x).1 (A_rRBytes x).2 (R_rRBytes z) := by
  refine SC.of hW9 hX9 (ftab_cons h_rRSize xe_rRSize (ftab_cons h_rRfail xe_rRfail ca0_sound)) lo0_sound ((r_rRBytes c_rRSize c_rRfail x).trans ?_)
  rw [via_eq i_rRSize c_rRSize, via_eq i_rRfail c_rRfail, n_rRBytes, h]; rfl
noncomputable def rRBytes (q : Nat) (x : a_rRBytes) : Option g_rRBytes := t_rRBytes (rRSize q) (rRfail q) x some
theorem sc_rRBytes (q : Nat) : ∀ (x : a_rRBytes) (z : g_rRBytes), rRBytes q x = some z → SC E9 38 (A_rRBytes x).1 (A_rRBytes x).2 (R_rRBytes z) := fun x z h => s_rRBytes (rRSize q) (sc_rRSize q) (rRfail q) (sc_rRfail q) q x z h
abbrev a_rRBytes1 : Type := Int × Int × Nat × (Nat → Int)
abbrev g_rRBytes1 : Type := Nat × (Nat → Int) × Int × Nat × (Nat → Int)
def A_rRBytes1 : a_rRBytes1 → List V × List (Option Chunk) := (fun x => (fun (mo : Int) (e : Int) (n : Nat) (f : Nat → Int) => (([.agg [.ro 1 n (fun j => [u8 (f j)]), i64 e], i64 mo] : List V), ([] : List (Option Chunk)))) x.1 x.2.1 x.2.2.1 x.2.2.2)
def d_rRBytes1 (t : List V × List (Option Chunk)) : a_rRBytes1 := (vI (t.1.getD 1 .junk), vI ((vAg (t.1.getD 0 .junk)).getD 1 .junk), (vRoN ((vAg (t.1.getD 0 .junk)).getD 0 .junk)), (fun j => (vI ((vRoF ((vAg (t.1.getD 0 .junk)).getD 0 .junk) j).getD 0 .junk))))
theorem i_rRBytes1 : ∀ x y, A_rRBytes1 x = A_rRBytes1 y → x = y := fun x y h => (congrArg d_rRBytes1 h :)
def R_rRBytes1 : g_rRBytes1 → CRes := (fun z => (fun (n : Nat) (f : Nat → Int) (e : Int) (l : Nat) (g : Nat → Int) => .ret (.tup [.agg [.ro 1 n (fun j => [u8 (f j)]), i64 e], .sl 0 1 0 l]) [some (.row 5 1 l (fun j => [u8 (g j)]))]) z.1 z.2.1 z.2.2.1 z.2.2.2.1 z.2.2.2.2 : (Nat × (Nat → Int) × Int × Nat × (Nat → Int)) → CRes)
def x_rRBytes1 (z : g_rRBytes1) (k : CRes → Option Ans) : Option Ans := k (R_rRBytes1 z)
theorem xe_rRBytes1 : ∀ z k, x_rRBytes1 z k = k (R_rRBytes1 z) := fun z k => rfl
noncomputable def rRBytes1 (q : Nat) (x : a_rRBytes1) : Option g_rRBytes1 := (rRBytes q x).map (Sum.elim (fun z => (z.1, z.2.1, z.2.2, 0, fun _ => 0)) id)
theorem sc_rRBytes1 (q : Nat) : ∀ (x : a_rRBytes1) (z : g_rRBytes1), rRBytes1 q x = some z → SC E9 38 (A_rRBytes1 x).1 (A_rRBytes1 x).2 (R_rRBytes1 z) := by
  intro x z h
  unfold rRBytes1 at h
  obtain ⟨y, hy, rfl⟩ := Option.map_eq_some_iff.1 h
  have hs := sc_rRBytes q x y hy
  rcases y with y | y
  · refine SC.virt 5 1 (fun _ => [u8 0]) (by decide) hs (fun β S w u b hb hd => ?_) (Nat.zero_le _)
    rw [den] at hd ⊢
    obtain ⟨us, h1, h2⟩ := hd
    refine ⟨us, h1, ?_⟩
    simp only [denL] at h2 ⊢
    obtain ⟨x, xs, h3, h4, y2, ys, h5, h6, h7⟩ := h2
    exact ⟨x, xs, h3, h4, y2, ys, h5, nil_sl (by show 0 < 1; decide) hb h6, h7⟩
  · exact hs
abbrev a_rDecode : Type := Nat × (Nat → Int)
abbrev g_rDecode : Type := (Int × ByteArray × Int × Int) ⊕ (ByteArray × Int × Int × Nat × (Nat → Int) × (Nat → Int))
def A_rDecode : a_rDecode → List V × List (Option Chunk) := (fun x => (fun (n : Nat) (f : Nat → Int) => (([.ro 1 n (fun j => [u8 (f j)])] : List V), ([] : List (Option Chunk)))) x.1 x.2)
def R_rDecode : g_rDecode → CRes := Sum.elim ((fun z => CRes.ret (V.tup [V.agg [st (z.2.1), i64 (z.2.2.1), i64 (z.2.2.2), nilS], i64 (z.1)]) [] : (Int × ByteArray × Int × Int) → CRes)) ((fun z => CRes.ret (V.tup [V.agg [st (z.1), i64 (z.2.1), i64 (z.2.2.1), V.sl 0 2 0 (z.2.2.2.1)], i64 (0 : Int)]) [some (Chunk.row 34 2 (z.2.2.2.1) fun (j : Nat) => [i64 (z.2.2.2.2.1 j), i64 (z.2.2.2.2.2 j)])] : (ByteArray × Int × Int × Nat × (Nat → Int) × (Nat → Int)) → CRes))
abbrev rDecode_l0_a : Type := (Int × ByteArray × Int × Int × Nat × (Nat → Int) × Int) ⊕ (Int × ByteArray × Int × Int × (Nat → Int) × (Nat → Int) × Nat × (Nat → Int) × Int × Int × Nat)
abbrev rDecode_l0_g : Type := (ByteArray × Int × Int × Nat × (Nat → Int) × Int) ⊕ (ByteArray × Int × Int × Nat × (Nat → Int) × (Nat → Int) × Nat × (Nat → Int) × Int)
def rDecode_l0_S0 (x : a_rDecode) (y : Int × ByteArray × Int × Int × Nat × (Nat → Int) × Int) : St := { fr := [V.junk, V.junk, V.ptr 0 0, V.junk, V.ptr 1 0, V.ptr 2 0, V.junk, V.sc (Value.int IntKind.u64 (y.1)), i64 (0 : Int)] ++ jk 68, H := hp [some (Chunk.blk [st { data := #[] }, i64 (0 : Int), i64 (0 : Int), nilS]), some (Chunk.blk [st (y.2.1), i64 (y.2.2.1), i64 (y.2.2.2.1), nilS]), some (Chunk.blk [V.ro 1 (y.2.2.2.2.1) fun (j : Nat) => [V.sc (Value.int IntKind.u8 (y.2.2.2.2.2.1 j))], i64 (y.2.2.2.2.2.2)])], nx := 3, rt := 0, me := 16 }
def rDecode_l0_d0 (s : St) : Int × ByteArray × Int × Int × Nat × (Nat → Int) × Int := ((vI (s.fr.getD 7 .junk)), (vS ((chB (s.H 1)).getD 0 .junk)), (vI ((chB (s.H 1)).getD 1 .junk)), (vI ((chB (s.H 1)).getD 2 .junk)), (vRoN ((chB (s.H 2)).getD 0 .junk)), (fun j => (vI (((vRoF ((chB (s.H 2)).getD 0 .junk)) j).getD 0 .junk))), (vI ((chB (s.H 2)).getD 1 .junk)))
def rDecode_l0_S1 (x : a_rDecode) (y : Int × ByteArray × Int × Int × (Nat → Int) × (Nat → Int) × Nat × (Nat → Int) × Int × Int × Nat) : St := { fr := [V.junk, V.junk, V.ptr 0 0, V.junk, V.ptr 1 0, V.ptr 3 0, V.junk, V.sc (Value.int IntKind.u64 (y.1)), i64 (y.2.2.2.2.2.2.2.2.2.1)] ++ jk 68, H := hp [some (Chunk.blk [st { data := #[] }, i64 (0 : Int), i64 (0 : Int), nilS]), some (Chunk.blk [st (y.2.1), i64 (y.2.2.1), i64 (y.2.2.2.1), V.sl 2 2 0 (y.2.2.2.2.2.2.2.2.2.2)]), some (Chunk.row 34 2 (y.2.2.2.2.2.2.2.2.2.2) fun (j : Nat) => [i64 (y.2.2.2.2.1 j), i64 (y.2.2.2.2.2.1 j)]), some (Chunk.blk [V.ro 1 (y.2.2.2.2.2.2.1) fun (j : Nat) => [V.sc (Value.int IntKind.u8 (y.2.2.2.2.2.2.2.1 j))], i64 (y.2.2.2.2.2.2.2.2.1)])], nx := 4, rt := 0, me := 16 }
def rDecode_l0_d1 (s : St) : Int × ByteArray × Int × Int × (Nat → Int) × (Nat → Int) × Nat × (Nat → Int) × Int × Int × Nat := ((vI (s.fr.getD 7 .junk)), (vS ((chB (s.H 1)).getD 0 .junk)), (vI ((chB (s.H 1)).getD 1 .junk)), (vI ((chB (s.H 1)).getD 2 .junk)), (fun j => (vI (((chF (s.H 2)) j).getD 0 .junk))), (fun j => (vI (((chF (s.H 2)) j).getD 1 .junk))), (vRoN ((chB (s.H 3)).getD 0 .junk)), (fun j => (vI (((vRoF ((chB (s.H 3)).getD 0 .junk)) j).getD 0 .junk))), (vI ((chB (s.H 3)).getD 1 .junk)), (vI (s.fr.getD 8 .junk)), (vSlN ((chB (s.H 1)).getD 3 .junk)))
def rDecode_l0_S (x : a_rDecode) : rDecode_l0_a → St := (Sum.elim (rDecode_l0_S0 x) (rDecode_l0_S1 x))
def rDecode_l0_d (s : St) : rDecode_l0_a := (match s.nx == 3 with | true => (.inl (rDecode_l0_d0 s)) | false => (.inr (rDecode_l0_d1 s)))
theorem rDecode_l0_i (x : a_rDecode) : ∀ y y', rDecode_l0_S x y = rDecode_l0_S x y' → y = y' := fun y y' h => by rcases y with y | y <;> rcases y' with y | y <;> exact (congrArg rDecode_l0_d h :)
def rDecode_l0_T (x : a_rDecode) : rDecode_l0_g → Ex × St := (Sum.elim (fun z => (Ex.exit 0, { fr := [V.junk, V.junk, V.ptr 0 0, V.junk, V.ptr 1 0, V.ptr 2 0] ++ jk 71, H := hp [some (Chunk.blk [st { data := #[] }, i64 (0 : Int), i64 (0 : Int), nilS]), some (Chunk.blk [st (z.1), i64 (z.2.1), i64 (z.2.2.1), nilS]), some (Chunk.blk [V.ro 1 (z.2.2.2.1) fun (j : Nat) => [V.sc (Value.int IntKind.u8 (z.2.2.2.2.1 j))], i64 (z.2.2.2.2.2)])], nx := 3, rt := 0, me := 16 })) (fun z => (Ex.exit 0, { fr := [V.junk, V.junk, V.ptr 0 0, V.junk, V.ptr 1 0, V.ptr 3 0] ++ jk 71, H := hp [some (Chunk.blk [st { data := #[] }, i64 (0 : Int), i64 (0 : Int), nilS]), some (Chunk.blk [st (z.1), i64 (z.2.1), i64 (z.2.2.1), V.sl 2 2 0 (z.2.2.2.1)]), some (Chunk.row 34 2 (z.2.2.2.1) fun (j : Nat) => [i64 (z.2.2.2.2.1 j), i64 (z.2.2.2.2.2.1 j)]), some (Chunk.blk [V.ro 1 (z.2.2.2.2.2.2.1) fun (j : Nat) => [V.sc (Value.int IntKind.u8 (z.2.2.2.2.2.2.2.1 j))], i64 (z.2.2.2.2.2.2.2.2)])], nx := 4, rt := 0, me := 16 })))
def rDecode_l0_x (x : a_rDecode) (z : rDecode_l0_g) (k : KX) : Option Ans := Sum.elim (fun za => k (rDecode_l0_T x (.inl za)).1 (rDecode_l0_T x (.inl za)).2) (fun zb => k (rDecode_l0_T x (.inr zb)).1 (rDecode_l0_T x (.inr zb)).2) z
theorem rDecode_l0_xe (x : a_rDecode) : ∀ z k, rDecode_l0_x x z k = k (rDecode_l0_T x z).1 (rDecode_l0_T x z).2 := fun z k => by
  rcases z with z | z <;> rfl
theorem rDecode_l0_k0 (x : a_rDecode) (z : ByteArray × Int × Int × Nat × (Nat → Int) × Int) : KCM [(0, 52)] 12 (rDecode_l0_T x (.inl z)).1 (rDecode_l0_T x (.inl z)).2 = some (.l (rDecode_l0_T x (.inl z)).1 (rDecode_l0_T x (.inl z)).2) := by kernel_rfl
theorem rDecode_l0_k1 (x : a_rDecode) (z : ByteArray × Int × Int × Nat × (Nat → Int) × (Nat → Int) × Nat × (Nat → Int) × Int) : KCM [(0, 52)] 12 (rDecode_l0_T x (.inr z)).1 (rDecode_l0_T x (.inr z)).2 = some (.l (rDecode_l0_T x (.inr z)).1 (rDecode_l0_T x (.inr z)).2) := by kernel_rfl
def rDecode_l0_t0 {β : Type} (c_rRBytes1 : a_rRBytes1 → Option g_rRBytes1) (c_rRInt : a_rRInt → Option g_rRInt) (c_rRUint : a_rRUint → Option g_rRUint) (c_rRFail : a_rRFail → Option g_rRFail) (c_rREnd : a_rREnd → Option g_rREnd) (x : a_rDecode) (y : Int × ByteArray × Int × Int × Nat × (Nat → Int) × Int) (nx : rDecode_l0_a → Option β) (dn : rDecode_l0_g → Option β) : Option β :=
 if decide ((0 : Int) < w (y.1)) = true then
  if (y.2.2.2.2.2.2 == (0 : Int)) = true then
   (c_rRInt ((y.2.2.2.2.2.2, y.2.2.2.2.1, y.2.2.2.2.2.1))).bind fun z288 =>
    (c_rRInt ((z288.2.2.1, z288.1, z288.2.1))).bind fun z292 =>
     nx (.inr ((y.1, y.2.1, y.2.2.1, y.2.2.2.1, fun (j : Nat) => z288.2.2.2, fun (j : Nat) => z292.2.2.2, z292.1, z292.2.1, z292.2.2.1, (1 : Int), 1)))
  else
   dn (.inl (y.2))
 else
  dn (.inl (y.2))
theorem rDecode_l0_n0 {β : Type} (c_rRBytes1 : a_rRBytes1 → Option g_rRBytes1) (c_rRInt : a_rRInt → Option g_rRInt) (c_rRUint : a_rRUint → Option g_rRUint) (c_rRFail : a_rRFail → Option g_rRFail) (c_rREnd : a_rREnd → Option g_rREnd) (x : a_rDecode) (y : Int × ByteArray × Int × Int × Nat × (Nat → Int) × Int) (nx : rDecode_l0_a → Option β) (dn : rDecode_l0_g → Option β) : rDecode_l0_t0 c_rRBytes1 c_rRInt c_rRUint c_rRFail c_rREnd x y nx dn = (rDecode_l0_t0 c_rRBytes1 c_rRInt c_rRUint c_rRFail c_rREnd x y (fun y => some (.inl y)) (fun z => some (.inr z))).bind fun r => Sum.elim nx dn r := by
  unfold rDecode_l0_t0
  repeat' first | exact free_none | refine free_bind (fun z => ?_) | refine free_ite ?_ ?_ | refine free_sum (fun z => ?_) (fun z => ?_) | rfl
theorem rDecode_l0_r0 (c_rRBytes1 : a_rRBytes1 → Option g_rRBytes1) (c_rRInt : a_rRInt → Option g_rRInt) (c_rRUint : a_rRUint → Option g_rRUint) (c_rRFail : a_rRFail → Option g_rRFail) (c_rREnd : a_rREnd → Option g_rREnd) (x : a_rDecode) (y : Int × ByteArray × Int × Int × Nat × (Nat → Int) × Int) (lo : LoopT) : loopK E9 (ftab 38 (fun _ _ => true) A_rRBytes1 x_rRBytes1 c_rRBytes1 (ftab 39 (fun _ _ => true) A_rRInt x_rRInt c_rRInt (ftab 40 (fun _ _ => true) A_rRUint x_rRUint c_rRUint (ftab 41 (fun _ _ => true) A_rRFail x_rRFail c_rRFail (ftab 42 (fun _ _ => true) A_rREnd x_rREnd c_rREnd ca0))))) lo 0 436 (bodyOf E9 16 0) (rDecode_l0_S x (.inl y)) (KCM [(0, 52)] 12) = rDecode_l0_t0 (fun x => viaF A_rRBytes1 c_rRBytes1 (A_rRBytes1 x)) (fun x => viaF A_rRInt c_rRInt (A_rRInt x)) (fun x => viaF A_rRUint c_rRUint (A_rRUint x)) (fun x => viaF A_rRFail c_rRFail (A_rRFail x)) (fun x => viaF A_rREnd c_rREnd (A_rREnd x)) x y (fun y => lo 0 436 (bodyOf E9 16 0) (rDecode_l0_S x y) (KCM [(0, 52)] 12)) (fun z => some (.l (rDecode_l0_T x z).1 (rDecode_l0_T x z).2)) := by kernel_rfl
def rDecode_l0_t1 {β : Type} (c_rRBytes1 : a_rRBytes1 → Option g_rRBytes1) (c_rRInt : a_rRInt → Option g_rRInt) (c_rRUint : a_rRUint → Option g_rRUint) (c_rRFail : a_rRFail → Option g_rRFail) (c_rREnd : a_rREnd → Option g_rREnd) (x : a_rDecode) (y : Int × ByteArray × Int × Int × (Nat → Int) × (Nat → Int) × Nat × (Nat → Int) × Int × Int × Nat) (nx : rDecode_l0_a → Option β) (dn : rDecode_l0_g → Option β) : Option β :=
 if decide (y.2.2.2.2.2.2.2.2.2.1 < w (y.1)) = true then
  if (y.2.2.2.2.2.2.2.2.1 == (0 : Int)) = true then
   (c_rRInt ((y.2.2.2.2.2.2.2.2.1, y.2.2.2.2.2.2.1, y.2.2.2.2.2.2.2.1))).bind fun z297 =>
    (c_rRInt ((z297.2.2.1, z297.1, z297.2.1))).bind fun z301 =>
     if (y.2.2.2.2.2.2.2.2.2.2 + 1) * 16 ≤ roomBound ∧ y.2.2.2.2.2.2.2.2.2.2 + 1 ≤ maxLen ∧ y.2.2.2.2.2.2.2.2.2.2 ≤ y.2.2.2.2.2.2.2.2.2.2 then
      nx (.inr ((y.1, y.2.1, y.2.2.1, y.2.2.2.1, fun (j : Nat) => if j < y.2.2.2.2.2.2.2.2.2.2 then y.2.2.2.2.1 j else z297.2.2.2, fun (j : Nat) => if j < y.2.2.2.2.2.2.2.2.2.2 then y.2.2.2.2.2.1 j else z301.2.2.2, z301.1, z301.2.1, z301.2.2.1, w (y.2.2.2.2.2.2.2.2.2.1 + (1 : Int)), y.2.2.2.2.2.2.2.2.2.2 + 1)))
     else
      none
  else
   dn (.inr ((y.2.1, y.2.2.1, y.2.2.2.1, y.2.2.2.2.2.2.2.2.2.2, y.2.2.2.2.1, y.2.2.2.2.2.1, y.2.2.2.2.2.2.1, y.2.2.2.2.2.2.2.1, y.2.2.2.2.2.2.2.2.1)))
 else
  dn (.inr ((y.2.1, y.2.2.1, y.2.2.2.1, y.2.2.2.2.2.2.2.2.2.2, y.2.2.2.2.1, y.2.2.2.2.2.1, y.2.2.2.2.2.2.1, y.2.2.2.2.2.2.2.1, y.2.2.2.2.2.2.2.2.1)))
theorem rDecode_l0_n1 {β : Type} (c_rRBytes1 : a_rRBytes1 → Option g_rRBytes1) (c_rRInt : a_rRInt → Option g_rRInt) (c_rRUint : a_rRUint → Option g_rRUint) (c_rRFail : a_rRFail → Option g_rRFail) (c_rREnd : a_rREnd → Option g_rREnd) (x : a_rDecode) (y : Int × ByteArray × Int × Int × (Nat → Int) × (Nat → Int) × Nat × (Nat → Int) × Int × Int × Nat) (nx : rDecode_l0_a → Option β) (dn : rDecode_l0_g → Option β) : rDecode_l0_t1 c_rRBytes1 c_rRInt c_rRUint c_rRFail c_rREnd x y nx dn = (rDecode_l0_t1 c_rRBytes1 c_rRInt c_rRUint c_rRFail c_rREnd x y (fun y => some (.inl y)) (fun z => some (.inr z))).bind fun r => Sum.elim nx dn r := by
  unfold rDecode_l0_t1
  repeat' first | exact free_none | refine free_bind (fun z => ?_) | refine free_ite ?_ ?_ | refine free_sum (fun z => ?_) (fun z => ?_) | rfl
theorem rDecode_l0_r1 (c_rRBytes1 : a_rRBytes1 → Option g_rRBytes1) (c_rRInt : a_rRInt → Option g_rRInt) (c_rRUint : a_rRUint → Option g_rRUint) (c_rRFail : a_rRFail → Option g_rRFail) (c_rREnd : a_rREnd → Option g_rREnd) (x : a_rDecode) (y : Int × ByteArray × Int × Int × (Nat → Int) × (Nat → Int) × Nat × (Nat → Int) × Int × Int × Nat) (lo : LoopT) : loopK E9 (ftab 38 (fun _ _ => true) A_rRBytes1 x_rRBytes1 c_rRBytes1 (ftab 39 (fun _ _ => true) A_rRInt x_rRInt c_rRInt (ftab 40 (fun _ _ => true) A_rRUint x_rRUint c_rRUint (ftab 41 (fun _ _ => true) A_rRFail x_rRFail c_rRFail (ftab 42 (fun _ _ => true) A_rREnd x_rREnd c_rREnd ca0))))) lo 0 436 (bodyOf E9 16 0) (rDecode_l0_S x (.inr y)) (KCM [(0, 52)] 12) = rDecode_l0_t1 (fun x => viaF A_rRBytes1 c_rRBytes1 (A_rRBytes1 x)) (fun x => viaF A_rRInt c_rRInt (A_rRInt x)) (fun x => viaF A_rRUint c_rRUint (A_rRUint x)) (fun x => viaF A_rRFail c_rRFail (A_rRFail x)) (fun x => viaF A_rREnd c_rREnd (A_rREnd x)) x y (fun y => lo 0 436 (bodyOf E9 16 0) (rDecode_l0_S x y) (KCM [(0, 52)] 12)) (fun z => some (.l (rDecode_l0_T x z).1 (rDecode_l0_T x z).2)) := by kernel_rfl
noncomputable def rDecode_l0 (c_rRBytes1 : a_rRBytes1 → Option g_rRBytes1) (c_rRInt : a_rRInt → Option g_rRInt) (c_rRUint : a_rRUint → Option g_rRUint) (c_rRFail : a_rRFail → Option g_rRFail) (c_rREnd : a_rREnd → Option g_rREnd) (q : Nat) (x : a_rDecode) : rDecode_l0_a → Option rDecode_l0_g := lpG (Sum.elim (fun y => rDecode_l0_t0 c_rRBytes1 c_rRInt c_rRUint c_rRFail c_rREnd x y (fun y => some (.inl y)) (fun z => some (.inr z))) (fun y => rDecode_l0_t1 c_rRBytes1 c_rRInt c_rRUint c_rRFail c_rREnd x y (fun y => some (.inl y)) (fun z => some (.inr z)))) q
theorem rDecode_l0_s (c_rRBytes1 : a_rRBytes1 → Option g_rRBytes1) (h_rRBytes1 : ∀ x z, c_rRBytes1 x = some z → SC E9 38 (A_rRBytes1 x).1 (A_rRBytes1 x).2 (R_rRBytes1 z)) (c_rRInt : a_rRInt → Option g_rRInt) (h_rRInt : ∀ x z, c_rRInt x = some z → SC E9 39 (A_rRInt x).1 (A_rRInt x).2 (R_rRInt z)) (c_rRUint : a_rRUint → Option g_rRUint) (h_rRUint : ∀ x z, c_rRUint x = some z → SC E9 40 (A_rRUint x).1 (A_rRUint x).2 (R_rRUint z)) (c_rRFail : a_rRFail → Option g_rRFail) (h_rRFail : ∀ x z, c_rRFail x = some z → SC E9 41 (A_rRFail x).1 (A_rRFail x).2 (R_rRFail z)) (c_rREnd : a_rREnd → Option g_rREnd) (h_rREnd : ∀ x z, c_rREnd x = some z → SC E9 42 (A_rREnd x).1 (A_rREnd x).2 (R_rREnd z)) (q : Nat) (x : a_rDecode) : ∀ y z, rDecode_l0 c_rRBytes1 c_rRInt c_rRUint c_rRFail c_rREnd q x y = some z → SL E9 (bodyOf E9 16 0) (rDecode_l0_S x y) (rDecode_l0_T x z).1 (rDecode_l0_T x z).2 :=
  SL.lp (LT := fun lo => lo) (T := rDecode_l0_T x) (S := rDecode_l0_S x) (ftab_cons h_rRBytes1 xe_rRBytes1 (ftab_cons h_rRInt xe_rRInt (ftab_cons h_rRUint xe_rRUint (ftab_cons h_rRFail xe_rRFail (ftab_cons h_rREnd xe_rREnd ca0_sound))))) hX9 (fun lo h => h) (fun lo y => by
      rcases y with y | y
      · exact (rDecode_l0_r0 c_rRBytes1 c_rRInt c_rRUint c_rRFail c_rREnd x y lo).trans (by rw [via_eq i_rRBytes1 c_rRBytes1, via_eq i_rRInt c_rRInt, via_eq i_rRUint c_rRUint, via_eq i_rRFail c_rRFail, via_eq i_rREnd c_rREnd]; exact rDecode_l0_n0 _ _ _ _ _ _ _ _ _)
      · exact (rDecode_l0_r1 c_rRBytes1 c_rRInt c_rRUint c_rRFail c_rREnd x y lo).trans (by rw [via_eq i_rRBytes1 c_rRBytes1, via_eq i_rRInt c_rRInt, via_eq i_rRUint c_rRUint, via_eq i_rRFail c_rRFail, via_eq i_rREnd c_rREnd]; exact rDecode_l0_n1 _ _ _ _ _ _ _ _ _)) (fun z => by rcases z with z | z <;> first | exact rDecode_l0_k0 x z | exact rDecode_l0_k1 x z) q
def t_rDecode {β : Type} (c_rRBytes1 : a_rRBytes1 → Option g_rRBytes1) (c_rRInt : a_rRInt → Option g_rRInt) (c_rRUint : a_rRUint → Option g_rRUint) (c_rRFail : a_rRFail → Option g_rRFail) (c_rREnd : a_rREnd → Option g_rREnd) (l_rDecode_l0 : rDecode_l0_a → Option rDecode_l0_g) (x : a_rDecode) (dn : g_rDecode → Option β) : Option β :=
 (c_rRBytes1 (((64 : Int), (0 : Int), x))).bind fun z4 =>
  if true = true ∧ true = true ∧ 1 = 1 ∧ 1 = 1 ∧ 0 + z4.2.2.2.1 ≤ z4.2.2.2.1 then
   if (List.all (List.range (z4.2.2.2.1)) fun (j : Nat) => u8c [u8 (z4.2.2.2.2 (0 + j))]) = true then
    (c_rRInt ((z4.2.2.1, z4.1, z4.2.1))).bind fun z8 =>
     (c_rRInt ((z8.2.2.1, z8.1, z8.2.1))).bind fun z12 =>
      (c_rRUint ((z12.2.2.1, z12.1, z12.2.1))).bind fun z16 =>
       if decide (z16.2.2.2 > (300 : Int)) = true then
        (c_rRFail (((2 : Int), z16.2.2.1, z16.1, z16.2.1))).bind fun z21 =>
         (l_rDecode_l0 (.inl ((z16.2.2.2, strOfV (z4.2.2.2.1) fun (j : Nat) => [u8 (z4.2.2.2.2 (0 + j))], z8.2.2.2, z12.2.2.2, z21)))).bind fun z237 =>
          Sum.elim (fun z237a =>
          (c_rREnd ((z237a.2.2.2.2.2, z237a.2.2.2.1, z237a.2.2.2.2.1))).bind fun z241 =>
           if (z241 != (0 : Int)) = true then
            dn (.inl ((z241, { data := #[] }, (0 : Int), (0 : Int))))
           else
            dn (.inl (((0 : Int), z237a.1, z237a.2.1, z237a.2.2.1)))) (fun z237b =>
          (c_rREnd ((z237b.2.2.2.2.2.2.2.2, z237b.2.2.2.2.2.2.1, z237b.2.2.2.2.2.2.2.1))).bind fun z246 =>
           if (z246 != (0 : Int)) = true then
            dn (.inl ((z246, { data := #[] }, (0 : Int), (0 : Int))))
           else
            dn (.inr ((z237b.1, z237b.2.1, z237b.2.2.1, z237b.2.2.2.1, z237b.2.2.2.2.1, z237b.2.2.2.2.2.1)))) z237
       else
        (l_rDecode_l0 (.inl ((z16.2.2.2, strOfV (z4.2.2.2.1) fun (j : Nat) => [u8 (z4.2.2.2.2 (0 + j))], z8.2.2.2, z12.2.2.2, z16.1, z16.2.1, z16.2.2.1)))).bind fun z247 =>
         Sum.elim (fun z247a =>
         (c_rREnd ((z247a.2.2.2.2.2, z247a.2.2.2.1, z247a.2.2.2.2.1))).bind fun z251 =>
          if (z251 != (0 : Int)) = true then
           dn (.inl ((z251, { data := #[] }, (0 : Int), (0 : Int))))
          else
           dn (.inl (((0 : Int), z247a.1, z247a.2.1, z247a.2.2.1)))) (fun z247b =>
         (c_rREnd ((z247b.2.2.2.2.2.2.2.2, z247b.2.2.2.2.2.2.1, z247b.2.2.2.2.2.2.2.1))).bind fun z256 =>
          if (z256 != (0 : Int)) = true then
           dn (.inl ((z256, { data := #[] }, (0 : Int), (0 : Int))))
          else
           dn (.inr ((z247b.1, z247b.2.1, z247b.2.2.1, z247b.2.2.2.1, z247b.2.2.2.2.1, z247b.2.2.2.2.2.1)))) z247
   else
    none
  else
   none
theorem n_rDecode {β : Type} (c_rRBytes1 : a_rRBytes1 → Option g_rRBytes1) (c_rRInt : a_rRInt → Option g_rRInt) (c_rRUint : a_rRUint → Option g_rRUint) (c_rRFail : a_rRFail → Option g_rRFail) (c_rREnd : a_rREnd → Option g_rREnd) (l_rDecode_l0 : rDecode_l0_a → Option rDecode_l0_g) (x : a_rDecode) (dn : g_rDecode → Option β) : t_rDecode c_rRBytes1 c_rRInt c_rRUint c_rRFail c_rREnd l_rDecode_l0 x dn = (t_rDecode c_rRBytes1 c_rRInt c_rRUint c_rRFail c_rREnd l_rDecode_l0 x some).bind dn := by
  unfold t_rDecode
  repeat' first | exact free_none | refine free_bind (fun z => ?_) | refine free_ite ?_ ?_ | refine free_sum (fun z => ?_) (fun z => ?_) | rfl
theorem r_rDecode (c_rRBytes1 : a_rRBytes1 → Option g_rRBytes1) (c_rRInt : a_rRInt → Option g_rRInt) (c_rRUint : a_rRUint → Option g_rRUint) (c_rRFail : a_rRFail → Option g_rRFail) (c_rREnd : a_rREnd → Option g_rREnd) (l_rDecode_l0 : rDecode_l0_a → Option rDecode_l0_g) (x : a_rDecode) : callK E9 (ftab 38 (fun _ _ => true) A_rRBytes1 x_rRBytes1 c_rRBytes1 (ftab 39 (fun _ _ => true) A_rRInt x_rRInt c_rRInt (ftab 40 (fun _ _ => true) A_rRUint x_rRUint c_rRUint (ftab 41 (fun _ _ => true) A_rRFail x_rRFail c_rRFail (ftab 42 (fun _ _ => true) A_rREnd x_rREnd c_rREnd ca0))))) (ltabF 0 (fun _ => true) (bodyOf E9 16 0) (rDecode_l0_S x) (rDecode_l0_x x) l_rDecode_l0 lo0) 16 (A_rDecode x).1 (A_rDecode x).2 K = t_rDecode (fun x => viaF A_rRBytes1 c_rRBytes1 (A_rRBytes1 x)) (fun x => viaF A_rRInt c_rRInt (A_rRInt x)) (fun x => viaF A_rRUint c_rRUint (A_rRUint x)) (fun x => viaF A_rRFail c_rRFail (A_rRFail x)) (fun x => viaF A_rREnd c_rREnd (A_rREnd x)) (fun y => viaF (fun y => (bodyOf E9 16 0, rDecode_l0_S x y)) l_rDecode_l0 (bodyOf E9 16 0, rDecode_l0_S x y)) x (fun z => some (.c (R_rDecode z))) := by kernel_rfl
theorem s_rDecode (c_rRBytes1 : a_rRBytes1 → Option g_rRBytes1) (h_rRBytes1 : ∀ x z, c_rRBytes1 x = some z → SC E9 38 (A_rRBytes1 x).1 (A_rRBytes1 x).2 (R_rRBytes1 z)) (c_rRInt : a_rRInt → Option g_rRInt) (h_rRInt : ∀ x z, c_rRInt x = some z → SC E9 39 (A_rRInt x).1 (A_rRInt x).2 (R_rRInt z)) (c_rRUint : a_rRUint → Option g_rRUint) (h_rRUint : ∀ x z, c_rRUint x = some z → SC E9 40 (A_rRUint x).1 (A_rRUint x).2 (R_rRUint z)) (c_rRFail : a_rRFail → Option g_rRFail) (h_rRFail : ∀ x z, c_rRFail x = some z → SC E9 41 (A_rRFail x).1 (A_rRFail x).2 (R_rRFail z)) (c_rREnd : a_rREnd → Option g_rREnd) (h_rREnd : ∀ x z, c_rREnd x = some z → SC E9 42 (A_rREnd x).1 (A_rREnd x).2 (R_rREnd z)) (q : Nat) (x : a_rDecode) (z : g_rDecode) (h : t_rDecode c_rRBytes1 c_rRInt c_rRUint c_rRFail c_rREnd (rDecode_l0 c_rRBytes1 c_rRInt c_rRUint c_rRFail c_rREnd q x) x some = some z) : SC E9 16 (A_rDecode x).1 (A_rDecode x).2 (R_rDecode z) := by
  refine SC.of hW9 hX9 (ftab_cons h_rRBytes1 xe_rRBytes1 (ftab_cons h_rRInt xe_rRInt (ftab_cons h_rRUint xe_rRUint (ftab_cons h_rRFail xe_rRFail (ftab_cons h_rREnd xe_rREnd ca0_sound))))) (ltabF_cons (rDecode_l0_s c_rRBytes1 h_rRBytes1 c_rRInt h_rRInt c_rRUint h_rRUint c_rRFail h_rRFail c_rREnd h_rREnd q x) (rDecode_l0_xe x) lo0_sound) ((r_rDecode c_rRBytes1 c_rRInt c_rRUint c_rRFail c_rREnd (rDecode_l0 c_rRBytes1 c_rRInt c_rRUint c_rRFail c_rREnd q x) x).trans ?_)
  rw [via_eq i_rRBytes1 c_rRBytes1, via_eq i_rRInt c_rRInt, via_eq i_rRUint c_rRUint, via_eq i_rRFail c_rRFail, via_eq i_rREnd c_rREnd, via_eq (pair_inj (bodyOf E9 16 0) (rDecode_l0_i x)) (rDecode_l0 c_rRBytes1 c_rRInt c_rRUint c_rRFail c_rREnd q x), n_rDecode, h]; rfl
noncomputable def rDecode (q : Nat) (x : a_rDecode) : Option g_rDecode := t_rDecode (rRBytes1 q) (rRInt q) (rRUint q) (rRFail q) (rREnd q) (rDecode_l0 (rRBytes1 q) (rRInt q) (rRUint q) (rRFail q) (rREnd q) q x) x some
theorem sc_rDecode (q : Nat) : ∀ (x : a_rDecode) (z : g_rDecode), rDecode q x = some z → SC E9 16 (A_rDecode x).1 (A_rDecode x).2 (R_rDecode z) := fun x z h => s_rDecode (rRBytes1 q) (sc_rRBytes1 q) (rRInt q) (sc_rRInt q) (rRUint q) (sc_rRUint q) (rRFail q) (sc_rRFail q) (rREnd q) (sc_rREnd q) q x z h
abbrev a_rDecode1 : Type := Nat × (Nat → Int)
abbrev g_rDecode1 : Type := ByteArray × Int × Int × Int × Nat × (Nat → Int) × (Nat → Int)
def A_rDecode1 : a_rDecode1 → List V × List (Option Chunk) := (fun x => (fun (n : Nat) (f : Nat → Int) => (([.ro 1 n (fun j => [u8 (f j)])] : List V), ([] : List (Option Chunk)))) x.1 x.2)
def d_rDecode1 (t : List V × List (Option Chunk)) : a_rDecode1 := ((vRoN (t.1.getD 0 .junk)), (fun j => (vI ((vRoF (t.1.getD 0 .junk) j).getD 0 .junk))))
theorem i_rDecode1 : ∀ x y, A_rDecode1 x = A_rDecode1 y → x = y := fun x y h => (congrArg d_rDecode1 h :)
def R_rDecode1 : g_rDecode1 → CRes := (fun z => (fun (nm : ByteArray) (p : Int) (v : Int) (e : Int) (n : Nat) (op : Nat → Int) (ar : Nat → Int) => .ret (.tup [.agg [st nm, i64 p, i64 v, .sl 0 2 0 n], i64 e]) [some (.row 34 2 n (fun j => [i64 (op j), i64 (ar j)]))]) z.1 z.2.1 z.2.2.1 z.2.2.2.1 z.2.2.2.2.1 z.2.2.2.2.2.1 z.2.2.2.2.2.2 : (ByteArray × Int × Int × Int × Nat × (Nat → Int) × (Nat → Int)) → CRes)
def x_rDecode1 (z : g_rDecode1) (k : CRes → Option Ans) : Option Ans := k (R_rDecode1 z)
theorem xe_rDecode1 : ∀ z k, x_rDecode1 z k = k (R_rDecode1 z) := fun z k => rfl
noncomputable def rDecode1 (q : Nat) (x : a_rDecode1) : Option g_rDecode1 := (rDecode q x).map (Sum.elim (fun z => (z.2.1, z.2.2.1, z.2.2.2, z.1, 0, fun _ => 0, fun _ => 0)) (fun z => (z.1, z.2.1, z.2.2.1, 0, z.2.2.2.1, z.2.2.2.2.1, z.2.2.2.2.2)))
theorem sc_rDecode1 (q : Nat) : ∀ (x : a_rDecode1) (z : g_rDecode1), rDecode1 q x = some z → SC E9 16 (A_rDecode1 x).1 (A_rDecode1 x).2 (R_rDecode1 z) := by
  intro x z h
  unfold rDecode1 at h
  obtain ⟨y, hy, rfl⟩ := Option.map_eq_some_iff.1 h
  have hs := sc_rDecode q x y hy
  rcases y with y | y
  · show SC E9 16 _ _ (.ret (.tup [.agg [st y.2.1, i64 y.2.2.1, i64 y.2.2.2, .sl 0 2 0 0], i64 y.1]) [some (.row 34 2 0 (fun _ => [i64 0, i64 0]))])
    refine SC.virt 34 2 (fun _ => [i64 0, i64 0]) (by decide) hs (fun β S w u b hb hd => ?_) (Nat.zero_le _)
    have hb : β 0 = some (b, 0) := hb
    simp only [den, denL] at hd ⊢
    obtain ⟨us, rfl, _, _, rfl, ⟨ws, rfl, ⟨_, _, rfl, rfl, _, _, rfl, rfl, _, _, rfl, rfl, _, _, rfl, rfl, rfl⟩, hone⟩, _, _, rfl, rfl, rfl⟩ := hd
    exact ⟨_, rfl, _, _, rfl, ⟨_, rfl, ⟨_, _, rfl, rfl, _, _, rfl, rfl, _, _, rfl, rfl, _, _, rfl, by simpa only [den] using nil_sl (n := 0) (k := 2) (S := S) (w := w) (D := (· < ([] : List (Option Chunk)).length + 1)) (by show 0 < 1; decide) hb (by simp only [den]), rfl⟩, hone⟩, _, _, rfl, rfl, rfl⟩
  · exact hs
abbrev a_Same : Type := ByteArray × Int × Int × Nat × (Nat → Int) × (Nat → Int) × ByteArray × Int × Int × Nat × (Nat → Int) × (Nat → Int)
abbrev g_Same : Type := Bool
def A_Same : a_Same → List V × List (Option Chunk) := (fun x => (fun (nm : ByteArray) (ps : Int) (vs : Int) (n : Nat) (op : Nat → Int) (ar : Nat → Int) (nm2 : ByteArray) (ps2 : Int) (vs2 : Int) (n2 : Nat) (op2 : Nat → Int) (ar2 : Nat → Int) => (([.agg [st nm, i64 ps, i64 vs, .ro 2 n (fun j => [i64 (op j), i64 (ar j)])], .agg [st nm2, i64 ps2, i64 vs2, .ro 2 n2 (fun j => [i64 (op2 j), i64 (ar2 j)])]] : List V), ([] : List (Option Chunk)))) x.1 x.2.1 x.2.2.1 x.2.2.2.1 x.2.2.2.2.1 x.2.2.2.2.2.1 x.2.2.2.2.2.2.1 x.2.2.2.2.2.2.2.1 x.2.2.2.2.2.2.2.2.1 x.2.2.2.2.2.2.2.2.2.1 x.2.2.2.2.2.2.2.2.2.2.1 x.2.2.2.2.2.2.2.2.2.2.2)
def d_Same (t : List V × List (Option Chunk)) : a_Same := ((vS ((vAg (t.1.getD 0 .junk)).getD 0 .junk)), (vI ((vAg (t.1.getD 0 .junk)).getD 1 .junk)), (vI ((vAg (t.1.getD 0 .junk)).getD 2 .junk)), (vRoN ((vAg (t.1.getD 0 .junk)).getD 3 .junk)), (fun j => (vI (((vRoF ((vAg (t.1.getD 0 .junk)).getD 3 .junk)) j).getD 0 .junk))), (fun j => (vI (((vRoF ((vAg (t.1.getD 0 .junk)).getD 3 .junk)) j).getD 1 .junk))), (vS ((vAg (t.1.getD 1 .junk)).getD 0 .junk)), (vI ((vAg (t.1.getD 1 .junk)).getD 1 .junk)), (vI ((vAg (t.1.getD 1 .junk)).getD 2 .junk)), (vRoN ((vAg (t.1.getD 1 .junk)).getD 3 .junk)), (fun j => (vI (((vRoF ((vAg (t.1.getD 1 .junk)).getD 3 .junk)) j).getD 0 .junk))), (fun j => (vI (((vRoF ((vAg (t.1.getD 1 .junk)).getD 3 .junk)) j).getD 1 .junk))))
theorem i_Same : ∀ x y, A_Same x = A_Same y → x = y := fun x y h => (congrArg d_Same h :)
def R_Same : g_Same → CRes := (fun z => CRes.ret (bo z) [] : (Bool) → CRes)
def x_Same (z : g_Same) (k : CRes → Option Ans) : Option Ans := k (R_Same z)
theorem xe_Same : ∀ z k, x_Same z k = k (R_Same z) := fun z k => rfl
abbrev Same_l0_a : Type := Int
abbrev Same_l0_g : Type := (Unit) ⊕ (Unit)
def Same_l0_S (x : a_Same) (y : Same_l0_a) : St := { fr := [V.junk, V.junk, V.ptr 0 0, V.ptr 1 0, V.junk, i64 y] ++ jk 46, H := hp [some (Chunk.blk [st (x.1), i64 (x.2.1), i64 (x.2.2.1), V.ro 2 (x.2.2.2.1) fun (j : Nat) => [i64 (x.2.2.2.2.1 j), i64 (x.2.2.2.2.2.1 j)]]), some (Chunk.blk [st (x.2.2.2.2.2.2.1), i64 (x.2.2.2.2.2.2.2.1), i64 (x.2.2.2.2.2.2.2.2.1), V.ro 2 (x.2.2.2.2.2.2.2.2.2.1) fun (j : Nat) => [i64 (x.2.2.2.2.2.2.2.2.2.2.1 j), i64 (x.2.2.2.2.2.2.2.2.2.2.2 j)]])], nx := 2, rt := 0, me := 15 }
def Same_l0_d (s : St) : Same_l0_a := ((vI (s.fr.getD 5 .junk)))
theorem Same_l0_i (x : a_Same) : ∀ y y', Same_l0_S x y = Same_l0_S x y' → y = y' := fun y y' h => (congrArg Same_l0_d h :)
def Same_l0_T (x : a_Same) : Same_l0_g → Ex × St := (Sum.elim (fun z => (Ex.ret, { fr := jk 4 ++ [bo false] ++ jk 47, H := hp [], nx := 0, rt := 0, me := 15 })) (fun z => (Ex.exit 0, { fr := [V.junk] ++ jk 51, H := hp [], nx := 0, rt := 0, me := 15 })))
def Same_l0_x (x : a_Same) (z : Same_l0_g) (k : KX) : Option Ans := Sum.elim (fun za => k (Same_l0_T x (.inl za)).1 (Same_l0_T x (.inl za)).2) (fun zb => k (Same_l0_T x (.inr zb)).1 (Same_l0_T x (.inr zb)).2) z
theorem Same_l0_xe (x : a_Same) : ∀ z k, Same_l0_x x z k = k (Same_l0_T x z).1 (Same_l0_T x z).2 := fun z k => by
  rcases z with z | z <;> rfl
theorem Same_l0_k0 (x : a_Same) (z : Unit) : KCM [(0, 0)] 16 (Same_l0_T x (.inl z)).1 (Same_l0_T x (.inl z)).2 = some (.l (Same_l0_T x (.inl z)).1 (Same_l0_T x (.inl z)).2) := by kernel_rfl
theorem Same_l0_k1 (x : a_Same) (z : Unit) : KCM [(0, 0)] 16 (Same_l0_T x (.inr z)).1 (Same_l0_T x (.inr z)).2 = some (.l (Same_l0_T x (.inr z)).1 (Same_l0_T x (.inr z)).2) := by kernel_rfl
def Same_l0_t {β : Type} (x : a_Same) (y : Same_l0_a) (nx : Same_l0_a → Option β) (dn : Same_l0_g → Option β) : Option β :=
 if decide (y < ((x.2.2.2.1 : Nat) : Int)) = true then
  if (0 : Int) ≤ y ∧ y < ((x.2.2.2.1 : Nat) : Int) then
   if (0 : Int) ≤ y ∧ y < ((x.2.2.2.2.2.2.2.2.2.1 : Nat) : Int) then
    if (if true = true then !(x.2.2.2.2.1 (Int.toNat y) == x.2.2.2.2.2.2.2.2.2.2.1 (Int.toNat y) && (x.2.2.2.2.2.1 (Int.toNat y) == x.2.2.2.2.2.2.2.2.2.2.2 (Int.toNat y) && true)) else x.2.2.2.2.1 (Int.toNat y) == x.2.2.2.2.2.2.2.2.2.2.1 (Int.toNat y) && (x.2.2.2.2.2.1 (Int.toNat y) == x.2.2.2.2.2.2.2.2.2.2.2 (Int.toNat y) && true)) = true then
     dn (.inl ())
    else
     nx (w (y + (1 : Int)))
   else
    none
  else
   none
 else
  dn (.inr ())
theorem Same_l0_n {β : Type} (x : a_Same) (y : Same_l0_a) (nx : Same_l0_a → Option β) (dn : Same_l0_g → Option β) : Same_l0_t x y nx dn = (Same_l0_t x y (fun y => some (.inl y)) (fun z => some (.inr z))).bind fun r => Sum.elim nx dn r := by
  unfold Same_l0_t
  repeat' first | exact free_none | refine free_bind (fun z => ?_) | refine free_ite ?_ ?_ | refine free_sum (fun z => ?_) (fun z => ?_) | rfl
theorem Same_l0_r (x : a_Same) (y : Same_l0_a) (lo : LoopT) : loopK E9 ca0 lo 0 44 (bodyOf E9 15 0) (Same_l0_S x y) (KCM [(0, 0)] 16) = Same_l0_t x y (fun y => lo 0 44 (bodyOf E9 15 0) (Same_l0_S x y) (KCM [(0, 0)] 16)) (fun z => some (.l (Same_l0_T x z).1 (Same_l0_T x z).2)) := by kernel_rfl
noncomputable def Same_l0 (q : Nat) (x : a_Same) : Same_l0_a → Option Same_l0_g := lpG (fun y => Same_l0_t x y (fun y => some (.inl y)) (fun z => some (.inr z))) q
theorem Same_l0_s (q : Nat) (x : a_Same) : ∀ y z, Same_l0 q x y = some z → SL E9 (bodyOf E9 15 0) (Same_l0_S x y) (Same_l0_T x z).1 (Same_l0_T x z).2 :=
  SL.lp (LT := fun lo => lo) (T := Same_l0_T x) (S := Same_l0_S x) ca0_sound hX9 (fun lo h => h) (fun lo y => (Same_l0_r x y lo).trans (by exact Same_l0_n  _ _ _ _)) (fun z => by rcases z with z | z <;> first | exact Same_l0_k0 x z | exact Same_l0_k1 x z) q
def t_Same {β : Type} (l_Same_l0 : Same_l0_a → Option Same_l0_g) (x : a_Same) (dn : g_Same → Option β) : Option β :=
 if (!ByteArray.toList (x.1) == ByteArray.toList (x.2.2.2.2.2.2.1)) = true then
  dn false
 else
  if (x.2.1 != x.2.2.2.2.2.2.2.1) = true then
   dn false
  else
   if (x.2.2.1 != x.2.2.2.2.2.2.2.2.1) = true then
    dn false
   else
    if (((x.2.2.2.1 : Nat) : Int) != ((x.2.2.2.2.2.2.2.2.2.1 : Nat) : Int)) = true then
     dn false
    else
     (l_Same_l0 ((0 : Int))).bind fun z3 =>
      Sum.elim (fun z3a =>
      dn false) (fun z3b =>
      dn true) z3
theorem n_Same {β : Type} (l_Same_l0 : Same_l0_a → Option Same_l0_g) (x : a_Same) (dn : g_Same → Option β) : t_Same l_Same_l0 x dn = (t_Same l_Same_l0 x some).bind dn := by
  unfold t_Same
  repeat' first | exact free_none | refine free_bind (fun z => ?_) | refine free_ite ?_ ?_ | refine free_sum (fun z => ?_) (fun z => ?_) | rfl
theorem r_Same (l_Same_l0 : Same_l0_a → Option Same_l0_g) (x : a_Same) : callK E9 ca0 (ltabF 0 (fun _ => true) (bodyOf E9 15 0) (Same_l0_S x) (Same_l0_x x) l_Same_l0 lo0) 15 (A_Same x).1 (A_Same x).2 K = t_Same (fun y => viaF (fun y => (bodyOf E9 15 0, Same_l0_S x y)) l_Same_l0 (bodyOf E9 15 0, Same_l0_S x y)) x (fun z => some (.c (R_Same z))) := by kernel_rfl
theorem s_Same (q : Nat) (x : a_Same) (z : g_Same) (h : t_Same (Same_l0 q x) x some = some z) : SC E9 15 (A_Same x).1 (A_Same x).2 (R_Same z) := by
  refine SC.of hW9 hX9 ca0_sound (ltabF_cons (Same_l0_s q x) (Same_l0_xe x) lo0_sound) ((r_Same (Same_l0 q x) x).trans ?_)
  rw [via_eq (pair_inj (bodyOf E9 15 0) (Same_l0_i x)) (Same_l0 q x), n_Same, h]; rfl
noncomputable def Same (q : Nat) (x : a_Same) : Option g_Same := t_Same (Same_l0 q x) x some
theorem sc_Same (q : Nat) : ∀ (x : a_Same) (z : g_Same), Same q x = some z → SC E9 15 (A_Same x).1 (A_Same x).2 (R_Same z) := fun x z h => s_Same q x z h
abbrev a_lawE : Type := ByteArray × Int × Int × Nat × (Nat → Int) × (Nat → Int)
abbrev g_lawE : Type := Bool
def A_lawE : a_lawE → List V × List (Option Chunk) := (fun x => (fun (nm : ByteArray) (ps : Int) (vs : Int) (n : Nat) (op : Nat → Int) (ar : Nat → Int) => (([.agg [st nm, i64 ps, i64 vs, .ro 2 n (fun j => [i64 (op j), i64 (ar j)])]] : List V), ([] : List (Option Chunk)))) x.1 x.2.1 x.2.2.1 x.2.2.2.1 x.2.2.2.2.1 x.2.2.2.2.2)
def R_lawE : g_lawE → CRes := (fun z => CRes.ret (bo z) [] : (Bool) → CRes)
def t_lawE {β : Type} (c_Encode : a_Encode → Option g_Encode) (c_rEncode : a_rEncode → Option g_rEncode) (c_SameB : a_SameB → Option g_SameB) (c_Decode1 : a_Decode1 → Option g_Decode1) (c_Same : a_Same → Option g_Same) (c_lives : a_lives → Option g_lives) (x : a_lawE) (dn : g_lawE → Option β) : Option β :=
 (c_Encode x).bind fun z6 =>
  if 0 + z6.1 ≤ z6.1 ∧ 1 = 1 then
   (c_rEncode x).bind fun z13 =>
    if 0 + z13.1 ≤ z13.1 ∧ 1 = 1 then
     (c_SameB ((z6.1, fun (j : Nat) => z6.2 (0 + j), z13.1, fun (j : Nat) => z13.2 (0 + j)))).bind fun z18 =>
      if (!z18) = true then
       dn false
      else
       if decide (((ByteArray.size (x.1) : Nat) : Int) > (64 : Int)) = true then
        (c_lives ()).bind fun z19 =>
         dn z19
       else
        if decide (((x.2.2.2.1 : Nat) : Int) > (300 : Int)) = true then
         (c_lives ()).bind fun z20 =>
          dn z20
        else
         (c_Decode1 ((z6.1, fun (j : Nat) => z6.2 (0 + j)))).bind fun z23 =>
          if 0 + z23.2.2.2.2.1 ≤ z23.2.2.2.2.1 ∧ 2 = 2 then
           if (z23.2.2.2.1 == (0 : Int)) = true then
            (c_Same ((x.1, x.2.1, x.2.2.1, x.2.2.2.1, x.2.2.2.2.1, x.2.2.2.2.2, z23.1, z23.2.1, z23.2.2.1, z23.2.2.2.2.1, fun (j : Nat) => z23.2.2.2.2.2.1 (0 + j), fun (j : Nat) => z23.2.2.2.2.2.2 (0 + j)))).bind fun z36 =>
             if z36 = true then
              (c_lives ()).bind fun z37 =>
               dn z37
             else
              dn false
           else
            dn false
          else
           none
    else
     none
  else
   none
theorem n_lawE {β : Type} (c_Encode : a_Encode → Option g_Encode) (c_rEncode : a_rEncode → Option g_rEncode) (c_SameB : a_SameB → Option g_SameB) (c_Decode1 : a_Decode1 → Option g_Decode1) (c_Same : a_Same → Option g_Same) (c_lives : a_lives → Option g_lives) (x : a_lawE) (dn : g_lawE → Option β) : t_lawE c_Encode c_rEncode c_SameB c_Decode1 c_Same c_lives x dn = (t_lawE c_Encode c_rEncode c_SameB c_Decode1 c_Same c_lives x some).bind dn := by
  unfold t_lawE
  repeat' first | exact free_none | refine free_bind (fun z => ?_) | refine free_ite ?_ ?_ | refine free_sum (fun z => ?_) (fun z => ?_) | rfl
theorem r_lawE (c_Encode : a_Encode → Option g_Encode) (c_rEncode : a_rEncode → Option g_rEncode) (c_SameB : a_SameB → Option g_SameB) (c_Decode1 : a_Decode1 → Option g_Decode1) (c_Same : a_Same → Option g_Same) (c_lives : a_lives → Option g_lives) (x : a_lawE) : callK E9 (ftab 11 (fun _ _ => true) A_Encode x_Encode c_Encode (ftab 13 (fun _ _ => true) A_rEncode x_rEncode c_rEncode (ftab 12 (fun _ _ => true) A_SameB x_SameB c_SameB (ftab 14 (fun _ _ => true) A_Decode1 x_Decode1 c_Decode1 (ftab 15 (fun _ _ => true) A_Same x_Same c_Same (ftab 9 (fun _ _ => true) A_lives x_lives c_lives ca0)))))) lo0 5 (A_lawE x).1 (A_lawE x).2 K = t_lawE (fun x => viaF A_Encode c_Encode (A_Encode x)) (fun x => viaF A_rEncode c_rEncode (A_rEncode x)) (fun x => viaF A_SameB c_SameB (A_SameB x)) (fun x => viaF A_Decode1 c_Decode1 (A_Decode1 x)) (fun x => viaF A_Same c_Same (A_Same x)) (fun x => viaF A_lives c_lives (A_lives x)) x (fun z => some (.c (R_lawE z))) := by kernel_rfl
theorem s_lawE (c_Encode : a_Encode → Option g_Encode) (h_Encode : ∀ x z, c_Encode x = some z → SC E9 11 (A_Encode x).1 (A_Encode x).2 (R_Encode z)) (c_rEncode : a_rEncode → Option g_rEncode) (h_rEncode : ∀ x z, c_rEncode x = some z → SC E9 13 (A_rEncode x).1 (A_rEncode x).2 (R_rEncode z)) (c_SameB : a_SameB → Option g_SameB) (h_SameB : ∀ x z, c_SameB x = some z → SC E9 12 (A_SameB x).1 (A_SameB x).2 (R_SameB z)) (c_Decode1 : a_Decode1 → Option g_Decode1) (h_Decode1 : ∀ x z, c_Decode1 x = some z → SC E9 14 (A_Decode1 x).1 (A_Decode1 x).2 (R_Decode1 z)) (c_Same : a_Same → Option g_Same) (h_Same : ∀ x z, c_Same x = some z → SC E9 15 (A_Same x).1 (A_Same x).2 (R_Same z)) (c_lives : a_lives → Option g_lives) (h_lives : ∀ x z, c_lives x = some z → SC E9 9 (A_lives x).1 (A_lives x).2 (R_lives z)) (q : Nat) (x : a_lawE) (z : g_lawE) (h : t_lawE c_Encode c_rEncode c_SameB c_Decode1 c_Same c_lives x some = some z) : SC E9 5 (A_lawE x).1 (A_lawE x).2 (R_lawE z) := by
  refine SC.of hW9 hX9 (ftab_cons h_Encode xe_Encode (ftab_cons h_rEncode xe_rEncode (ftab_cons h_SameB xe_SameB (ftab_cons h_Decode1 xe_Decode1 (ftab_cons h_Same xe_Same (ftab_cons h_lives xe_lives ca0_sound)))))) lo0_sound ((r_lawE c_Encode c_rEncode c_SameB c_Decode1 c_Same c_lives x).trans ?_)
  rw [via_eq i_Encode c_Encode, via_eq i_rEncode c_rEncode, via_eq i_SameB c_SameB, via_eq i_Decode1 c_Decode1, via_eq i_Same c_Same, via_eq i_lives c_lives, n_lawE, h]; rfl
noncomputable def lawE (q : Nat) (x : a_lawE) : Option g_lawE := t_lawE (Encode q) (rEncode q) (SameB q) (Decode1 q) (Same q) (lives q) x some
theorem sc_lawE (q : Nat) : ∀ (x : a_lawE) (z : g_lawE), lawE q x = some z → SC E9 5 (A_lawE x).1 (A_lawE x).2 (R_lawE z) := fun x z h => s_lawE (Encode q) (sc_Encode q) (rEncode q) (sc_rEncode q) (SameB q) (sc_SameB q) (Decode1 q) (sc_Decode1 q) (Same q) (sc_Same q) (lives q) (sc_lives q) q x z h
abbrev a_lawD : Type := Nat × (Nat → Int)
abbrev g_lawD : Type := Bool
def A_lawD : a_lawD → List V × List (Option Chunk) := (fun x => (fun (n : Nat) (f : Nat → Int) => (([.ro 1 n (fun j => [u8 (f j)])] : List V), ([] : List (Option Chunk)))) x.1 x.2)
def R_lawD : g_lawD → CRes := (fun z => CRes.ret (bo z) [] : (Bool) → CRes)
def t_lawD {β : Type} (c_Decode1 : a_Decode1 → Option g_Decode1) (c_rDecode1 : a_rDecode1 → Option g_rDecode1) (c_Same : a_Same → Option g_Same) (c_Encode : a_Encode → Option g_Encode) (c_SameB : a_SameB → Option g_SameB) (c_lives : a_lives → Option g_lives) (x : a_lawD) (dn : g_lawD → Option β) : Option β :=
 (c_Decode1 x).bind fun z2 =>
  if 0 + z2.2.2.2.2.1 ≤ z2.2.2.2.2.1 ∧ 2 = 2 then
   (c_rDecode1 x).bind fun z5 =>
    if 0 + z5.2.2.2.2.1 ≤ z5.2.2.2.2.1 ∧ 2 = 2 then
     if (z2.2.2.2.1 != z5.2.2.2.1) = true then
      dn false
     else
      (c_Same ((z2.1, z2.2.1, z2.2.2.1, z2.2.2.2.2.1, fun (j : Nat) => z2.2.2.2.2.2.1 (0 + j), fun (j : Nat) => z2.2.2.2.2.2.2 (0 + j), z5.1, z5.2.1, z5.2.2.1, z5.2.2.2.2.1, fun (j : Nat) => z5.2.2.2.2.2.1 (0 + j), fun (j : Nat) => z5.2.2.2.2.2.2 (0 + j)))).bind fun z18 =>
       if (!z18) = true then
        dn false
       else
        if (z2.2.2.2.1 == (0 : Int)) = true then
         (c_Encode ((z2.1, z2.2.1, z2.2.2.1, z2.2.2.2.2.1, fun (j : Nat) => z2.2.2.2.2.2.1 (0 + j), fun (j : Nat) => z2.2.2.2.2.2.2 (0 + j)))).bind fun z25 =>
          if 0 + z25.1 ≤ z25.1 ∧ 1 = 1 then
           (c_SameB ((z25.1, fun (j : Nat) => z25.2 (0 + j), x))).bind fun z30 =>
            if (!z30) = true then
             dn false
            else
             (c_lives ()).bind fun z31 =>
              dn z31
          else
           none
        else
         (c_lives ()).bind fun z32 =>
          dn z32
    else
     none
  else
   none
theorem n_lawD {β : Type} (c_Decode1 : a_Decode1 → Option g_Decode1) (c_rDecode1 : a_rDecode1 → Option g_rDecode1) (c_Same : a_Same → Option g_Same) (c_Encode : a_Encode → Option g_Encode) (c_SameB : a_SameB → Option g_SameB) (c_lives : a_lives → Option g_lives) (x : a_lawD) (dn : g_lawD → Option β) : t_lawD c_Decode1 c_rDecode1 c_Same c_Encode c_SameB c_lives x dn = (t_lawD c_Decode1 c_rDecode1 c_Same c_Encode c_SameB c_lives x some).bind dn := by
  unfold t_lawD
  repeat' first | exact free_none | refine free_bind (fun z => ?_) | refine free_ite ?_ ?_ | refine free_sum (fun z => ?_) (fun z => ?_) | rfl
theorem r_lawD (c_Decode1 : a_Decode1 → Option g_Decode1) (c_rDecode1 : a_rDecode1 → Option g_rDecode1) (c_Same : a_Same → Option g_Same) (c_Encode : a_Encode → Option g_Encode) (c_SameB : a_SameB → Option g_SameB) (c_lives : a_lives → Option g_lives) (x : a_lawD) : callK E9 (ftab 14 (fun _ _ => true) A_Decode1 x_Decode1 c_Decode1 (ftab 16 (fun _ _ => true) A_rDecode1 x_rDecode1 c_rDecode1 (ftab 15 (fun _ _ => true) A_Same x_Same c_Same (ftab 11 (fun _ _ => true) A_Encode x_Encode c_Encode (ftab 12 (fun _ _ => true) A_SameB x_SameB c_SameB (ftab 9 (fun _ _ => true) A_lives x_lives c_lives ca0)))))) lo0 6 (A_lawD x).1 (A_lawD x).2 K = t_lawD (fun x => viaF A_Decode1 c_Decode1 (A_Decode1 x)) (fun x => viaF A_rDecode1 c_rDecode1 (A_rDecode1 x)) (fun x => viaF A_Same c_Same (A_Same x)) (fun x => viaF A_Encode c_Encode (A_Encode x)) (fun x => viaF A_SameB c_SameB (A_SameB x)) (fun x => viaF A_lives c_lives (A_lives x)) x (fun z => some (.c (R_lawD z))) := by kernel_rfl
theorem s_lawD (c_Decode1 : a_Decode1 → Option g_Decode1) (h_Decode1 : ∀ x z, c_Decode1 x = some z → SC E9 14 (A_Decode1 x).1 (A_Decode1 x).2 (R_Decode1 z)) (c_rDecode1 : a_rDecode1 → Option g_rDecode1) (h_rDecode1 : ∀ x z, c_rDecode1 x = some z → SC E9 16 (A_rDecode1 x).1 (A_rDecode1 x).2 (R_rDecode1 z)) (c_Same : a_Same → Option g_Same) (h_Same : ∀ x z, c_Same x = some z → SC E9 15 (A_Same x).1 (A_Same x).2 (R_Same z)) (c_Encode : a_Encode → Option g_Encode) (h_Encode : ∀ x z, c_Encode x = some z → SC E9 11 (A_Encode x).1 (A_Encode x).2 (R_Encode z)) (c_SameB : a_SameB → Option g_SameB) (h_SameB : ∀ x z, c_SameB x = some z → SC E9 12 (A_SameB x).1 (A_SameB x).2 (R_SameB z)) (c_lives : a_lives → Option g_lives) (h_lives : ∀ x z, c_lives x = some z → SC E9 9 (A_lives x).1 (A_lives x).2 (R_lives z)) (q : Nat) (x : a_lawD) (z : g_lawD) (h : t_lawD c_Decode1 c_rDecode1 c_Same c_Encode c_SameB c_lives x some = some z) : SC E9 6 (A_lawD x).1 (A_lawD x).2 (R_lawD z) := by
  refine SC.of hW9 hX9 (ftab_cons h_Decode1 xe_Decode1 (ftab_cons h_rDecode1 xe_rDecode1 (ftab_cons h_Same xe_Same (ftab_cons h_Encode xe_Encode (ftab_cons h_SameB xe_SameB (ftab_cons h_lives xe_lives ca0_sound)))))) lo0_sound ((r_lawD c_Decode1 c_rDecode1 c_Same c_Encode c_SameB c_lives x).trans ?_)
  rw [via_eq i_Decode1 c_Decode1, via_eq i_rDecode1 c_rDecode1, via_eq i_Same c_Same, via_eq i_Encode c_Encode, via_eq i_SameB c_SameB, via_eq i_lives c_lives, n_lawD, h]; rfl
noncomputable def lawD (q : Nat) (x : a_lawD) : Option g_lawD := t_lawD (Decode1 q) (rDecode1 q) (Same q) (Encode q) (SameB q) (lives q) x some
theorem sc_lawD (q : Nat) : ∀ (x : a_lawD) (z : g_lawD), lawD q x = some z → SC E9 6 (A_lawD x).1 (A_lawD x).2 (R_lawD z) := fun x z h => s_lawD (Decode1 q) (sc_Decode1 q) (rDecode1 q) (sc_rDecode1 q) (Same q) (sc_Same q) (Encode q) (sc_Encode q) (SameB q) (sc_SameB q) (lives q) (sc_lives q) q x z h
end Go.Proofs.YtcljccpddodckaaGreatDoor
