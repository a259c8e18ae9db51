/- The environment of this seat: variables of the packages, library functions by contract. -/
import Derived.Test.YtniogljhkjbcgaaDoorAmY
import Derived.Test.YtniogljhkjbcgaaDoorAmFb
import Derived.Test.YtniogljhkjbcgaaDoorProg
import Derived.Test.YtniogljhkjbcgaaDoorRows
import Derived.Lib.Strings
import Derived.Lib.IndexMore
import Derived.Recover
set_option linter.unusedSimpArgs false
set_option linter.unusedVariables false
namespace Go.Proofs.YtniogljhkjbcgaaDoor
open Go Go.Am
abbrev i64 (n : Int) : V := .sc (.int .i64 n)
abbrev bo (b : Bool) : V := .sc (.bool b)
abbrev st (s : ByteArray) : V := .sc (.string s)
def tabL : List (List V) := [
  [.sc (.string ⟨#[74]⟩), i64 1, i64 1, i64 0, i64 0, i64 0, i64 0],
  [.sc (.string ⟨#[107, 74]⟩), i64 1000, i64 1, i64 0, i64 0, i64 0, i64 0],
  [.sc (.string ⟨#[87, 104]⟩), i64 3600, i64 1, i64 0, i64 0, i64 0, i64 0],
  [.sc (.string ⟨#[66]⟩), i64 1, i64 0, i64 1, i64 0, i64 0, i64 0],
  [.sc (.string ⟨#[107, 66]⟩), i64 1000, i64 0, i64 1, i64 0, i64 0, i64 0],
  [.sc (.string ⟨#[115]⟩), i64 1, i64 0, i64 0, i64 1, i64 0, i64 0],
  [.sc (.string ⟨#[109, 105, 110]⟩), i64 60, i64 0, i64 0, i64 1, i64 0, i64 0],
  [.sc (.string ⟨#[104]⟩), i64 3600, i64 0, i64 0, i64 1, i64 0, i64 0],
  [.sc (.string ⟨#[100, 101, 103]⟩), i64 1, i64 0, i64 0, i64 0, i64 1, i64 0],
  [.sc (.string ⟨#[75]⟩), i64 1, i64 0, i64 0, i64 0, i64 0, i64 1],
  [.sc (.string ⟨#[87]⟩), i64 1, i64 1, i64 0, i64 (-1), i64 0, i64 0],
  [.sc (.string ⟨#[107, 87]⟩), i64 1000, i64 1, i64 0, i64 (-1), i64 0, i64 0],
  [.sc (.string ⟨#[66, 112, 115]⟩), i64 1, i64 0, i64 1, i64 (-1), i64 0, i64 0]]
def tabV : V := .ro 7 13 (fun j => tabL.getD j [])
def opsL : List V := [.sc (.string ⟨#[124, 124]⟩), i64 1, .sc (.string ⟨#[38, 38]⟩), i64 1, .sc (.string ⟨#[43]⟩), i64 2, .sc (.string ⟨#[45]⟩), i64 2, .sc (.string ⟨#[42]⟩), i64 3, .sc (.string ⟨#[47]⟩), i64 3, .sc (.string ⟨#[60]⟩), i64 4, .sc (.string ⟨#[60, 61]⟩), i64 4, .sc (.string ⟨#[62]⟩), i64 4, .sc (.string ⟨#[62, 61]⟩), i64 4, .sc (.string ⟨#[61, 61]⟩), i64 4, .sc (.string ⟨#[33, 61]⟩), i64 4]
def globF : Nat → Option (List V)
  | 0 => some [tabV]
  | 1 => some opsL
  | _ => none
/-- Library functions by contract: Contains, IndexByte. -/
def extF (f : FuncId) (args : List V) : Option V :=
  if f = 95 then match args with
    | [.sc (.string s), .sc (.string sub)] => if s.size < 4294967281 then some (bo (Lib.contains s.data.toList sub.data.toList)) else none
    | _ => none
  else if f = 87 then match args with
    | [.sc (.string s), .sc (.int .u8 c)] => some (i64 (Lib.indexByte s.data.toList (UInt8.ofNat c.toNat)))
    | _ => none
  else none
def way (a b : Nat) : Am.Way := if b ∈ [67, 84, 85, 92, 96, 97, 98, 99, 100, 101, 102, 103, 106, 110, 111] then .giveM else if b ∈ [11, 18, 19, 23, 42, 64] then .give else if b ∈ [25, 28] then .lend else .plain
def dfnF (f : FuncId) : Bool := f == 42
def idleF (f : FuncId) : Option Nat := if f = 65 then some 3 else none
open Go.RowKit
set_option linter.unusedVariables false
noncomputable def E : Env := { P := Tryd.prog, glob := globF, ext := extF, way := way, lit := fun _ => false, code := fun f => (Tryd.prog.funcs[f]?).bind annF, inv := [(2, intCell .i64)], dfn := dfnF, idle := idleF }
/-- Code that needs nothing: run alone. -/
noncomputable def E0 : Env := { P := Tryd.prog, glob := fun _ => none, ext := fun _ _ => none, way := fun _ _ => .plain, lit := fun _ => false, code := fun f => (Tryd.prog.funcs[f]?).bind annF }
noncomputable def rest65 : ACode := match E0.code 65 with | some (.seq _ b) => b | _ => .skip
def fr65 : List V := [.junk, .junk, .junk, .sc .nilIface] ++ List.replicate 2 (.sc undef) ++ [.sc .nilIface] ++ List.replicate 13 (.sc undef)
noncomputable def ends65 : St := { fr := [.junk, .junk, .junk, .sc .nilIface], H := fun _ => none, nx := 0, rt := 0, me := 65 }
def T0 : CallT := fun _ _ _ _ => none
def L0 : LoopT := fun _ _ _ _ _ => none
def isNormal : Ex → Bool | .normal => true | _ => false
theorem run65 : execK E0 T0 L0 rest65 { fr := fr65, H := hp [], nx := 0, rt := 0, me := 65 } (fun e _ => if isNormal e then some (.c (.pan .junk)) else none) = some (.c (.pan .junk)) := by kernel_rfl
theorem body65 (a : Act) (w : World) (hd : a.defers = []) (ht : denL (fun _ => none) (fun _ => False) w (fun _ => False) fr65 a.tmps.toList) : Code.wp Tryd.prog rest65.erase (fun e a' w' => e = .normal ∧ a'.defers = [] ∧ Below w.heap.size w w') a w := by
  obtain ⟨e, s', h1, h2⟩ := exec_sound (E := E0) (ca := T0) (lo := L0) (fun _ _ _ _ _ h => by cases h) (SoundX.none fun _ _ => rfl) (fun _ _ _ _ _ _ h => by cases h) rest65 _ _ _ run65
  split at h1
  case isFalse => cases h1
  rename_i he
  have he : e = .normal := by cases e <;> simp_all [isNormal]
  subst he
  refine wp_mono (h2 (fun _ => none) (fun _ => False) (fun _ => False) a w ⟨ht, ⟨fun i c hc => (by simp [hp] at hc), fun _ _ => rfl, fun i b m h => (by cases h), fun i b m h => (by cases h), fun i j b m m' h => (by cases h), fun b hb => hb.elim⟩, ⟨fun _ => hd, fun d h => (by rw [hd] at h; cases h)⟩, fun i hi => hi.elim, ⟨fun g cs h => (by cases h), fun p hp => (by cases hp)⟩, fun i hi => absurd hi (Nat.not_lt_zero i)⟩) fun e' a' w' hp => ?_
  obtain ⟨β', S', D', q1, q2, q3, q4, q5, q6⟩ := hp.ex
  cases e' <;> simp only [ExR] at q1
  exact ⟨rfl, q2.df.1 rfl, below_of_evo q3⟩
theorem idle65 : Idle Tryd.prog 65 3 := by
  intro us w hus
  refine ⟨?_, ?_⟩
  · have hb : ∃ fn, Tryd.prog.funcs[65]? = some fn ∧ fn.body.isSome = true ∧ fn.name ≠ "runtime.NumGoroutine" := ⟨_, Tryd.func65, by kernel_rfl, by intro e; exact absurd e (by decide +kernel)⟩
    obtain ⟨fn, h1, h2, h3⟩ := hb
    have hb : ¬ fn.body = none := by intro hb; rw [hb] at h2; cases h2
    simp [callFunc, Sem.run_bind, h1, h3, hb, program, Sem.run]
  · match us, hus with
    | ⟨[x, y, z]⟩, _ =>
      refine callsD_of_wpS Tryd.func65 rfl fun c₀ cs hu => ?_
      apply wpS_seq
      apply wpS_region
      simp [wpOpsS, go_sem, recoverD, hu, Tryd.ntmps65, Exit.thenS]
      refine wpS_of_wp ?_
      refine (congrArg (fun c => Code.wp Tryd.prog c _ _ _) (?_ : rest65.erase = _)).mp (wp_mono (body65 _ w rfl ?_) ?_)
      · kernel_rfl
      · simp [fr65, denL, den]
        exact ⟨_, _, ⟨rfl, rfl⟩, _, _, rfl, _, rfl⟩
      · rintro e a' w' ⟨rfl, hd, hb⟩
        refine ⟨hd, _, ?_, _, by simp [results, Tryd.results65, go_sem]; rfl, ⟨_, rfl⟩, rfl, hb⟩
        cases c₀; simp_all
set_option maxRecDepth 100000 in
theorem hW : WF E := WF.of E (fun _ => rfl) (by kernel_rfl) (fun g n h => by
  have h' : idleF g = some n := h
  unfold idleF at h'
  split at h'
  · rename_i hg; subst hg; cases h'; exact idle65
  · cases h')
end Go.Proofs.YtniogljhkjbcgaaDoor
