/- Tables; closed runs; laws. -/
import Derived.Test.YtniogljhkjbcgaaDoorAmO
namespace Go.Am
open Go Go.RowKit
set_option linter.unusedSimpArgs false
set_option linter.unusedVariables false

theorem sound_none (E : Env) : SoundC E (fun _ _ _ _ => none) := fun f args L k r h => by cases h
theorem soundL_none (E : Env) : SoundL E (fun _ _ _ _ _ => none) := fun id live c s k r h => by cases h
theorem sound_F {E : Env} (hW : WF E) (hX : SoundX E) : ∀ n, SoundC E (callF E n) ∧ SoundL E (loopF E n)
  | 0 => ⟨fun f args L k r h => by simp [callF] at h, fun id live c s k r h => by simp [loopF] at h⟩
  | n + 1 => by
    obtain ⟨h1, h2⟩ := sound_F hW hX n
    constructor
    · intro f args L k r h
      simp only [callF] at h
      split at h
      · rename_i cr hc
        obtain ⟨cr', e1, e2⟩ := call_rule hW h1 hX h2 hc
        simp only [Option.some.injEq, Ans.c.injEq] at e1
        subst e1
        exact ⟨_, h, e2⟩
      · cases h
    · intro id live c s k r h
      simp only [loopF] at h
      split at h
      · rename_i e s' hc
        obtain ⟨e', s'', e1, e2⟩ := loop_sound h1 hX h2 hc
        simp only [Option.some.injEq, Ans.l.injEq] at e1
        obtain ⟨rfl, rfl⟩ := e1
        exact ⟨_, _, h, e2⟩
      · cases h
/-- A closed run, by the kernel. -/
theorem SC.closed {E : Env} (hW : WF E) (hX : SoundX E) (n : Nat) {f : FuncId} {args : List V} {L : List (Option Chunk)} {cr : CRes} (h : callF E n f args L (fun r => some (.c r)) = some (.c cr)) : SC E f args L cr := by
  obtain ⟨cr', e1, e2⟩ := (sound_F hW hX n).1 _ _ _ _ _ h
  simp only [Option.some.injEq, Ans.c.injEq] at e1
  rwa [e1] at e2
/-- A function, by tables for what it calls and for its loops. -/
theorem SC.of {E : Env} (hW : WF E) (hX : SoundX E) {ca : CallT} {lo : LoopT} (hC : SoundC E ca) (hL : SoundL E lo) {f : FuncId} {args : List V} {L : List (Option Chunk)} {cr : CRes} (h : callK E ca lo f args L (fun r => some (.c r)) = some (.c cr)) : SC E f args L cr := by
  obtain ⟨cr', e1, e2⟩ := call_rule hW hC hX hL h
  simp only [Option.some.injEq, Ans.c.injEq] at e1
  rwa [e1] at e2
theorem SL.of {E : Env} (hX : SoundX E) {ca : CallT} {lo : LoopT} (hC : SoundC E ca) (hL : SoundL E lo) {id live : Nat} {c : ACode} {s s' : St} {e : Ex} (h : loopK E ca lo id live c s (fun e s => some (.l e s)) = some (.l e s')) : SL E c s e s' := by
  obtain ⟨e1, s1, h1, h2⟩ := loop_sound hC hX hL h
  simp only [Option.some.injEq, Ans.l.injEq] at h1
  obtain ⟨rfl, rfl⟩ := h1
  exact h2
theorem Glob.none {E : Env} (hG : ∀ g, E.glob g = Option.none) (hI : E.inv = []) (S : Pr) (w : World) : Glob E S w :=
  ⟨fun g cs hg => (by rw [hG g] at hg; cases hg), fun p hp => (by rw [hI] at hp; cases hp)⟩
/-- A law that holds. -/
theorem SC.law {E : Env} {f : FuncId} {args : List V} (h : SC E f args [] (.ret (.sc (.bool true)) [])) {w : World} (hG : Glob E (· < w.heap.size) w) {us : List Value} (hd : denL (fun _ => Option.none) (· < w.heap.size) w (fun _ => False) args us) :
    Calls E.P f us.toArray w fun e w' => e = .returned (.bool true) ∧ Below w.heap.size w w' := by
  have hmem : Mem (fun _ => Option.none) (· < w.heap.size) (fun i => i < ([] : List (Option Chunk)).length) (hp []) w :=
    ⟨fun i c hc => (by simp [hp] at hc), fun _ _ => rfl, fun i b m h => (by cases h), fun i b m h => (by cases h), fun i j b m m' h => (by cases h), fun b hb => hb⟩
  refine (h.2 (fun _ => Option.none) (· < w.heap.size) w us ?_ hmem hG).mono ?_
  · have : (fun i : Nat => i < ([] : List (Option Chunk)).length) = fun _ => False := by funext i; simp
    rw [this]; exact hd
  · rintro e w' ⟨u, β', S', rfl, g1, g2, g3, g4⟩
    simp only [den] at g2
    subst g2
    exact ⟨rfl, below_of_evo g3⟩
end Go.Am
