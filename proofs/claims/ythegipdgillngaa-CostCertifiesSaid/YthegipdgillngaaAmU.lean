/- The annotated code is the code; environments without own knowledge. -/
import Derived.Test.YthegipdgillngaaAmT
namespace Go.Am
open Go
theorem erase_ann (res : Nat) : ∀ (c : Code) (b0 l : Nat) (env : List (Nat × Nat)), (ann res c b0 l env).erase = c
  | .skip, _, _, _ => by simp [ann, ACode.erase]
  | .region _ ops _, _, _, _ => by simp [ann, ACode.erase]
  | .seq a b, b0, l, env => by simp [ann, ACode.erase, erase_ann res a, erase_ann res b]
  | .cond c x y, b0, l, env => by simp [ann, ACode.erase, erase_ann res x, erase_ann res y]
  | .block id c, _, l, env => by simp [ann, ACode.erase, erase_ann res c]
  | .loop c, b0, l, env => by simp [ann, ACode.erase, erase_ann res c]
  | .exit _, _, _, _ => by simp [ann, ACode.erase]
  | .ret, _, _, _ => by simp [ann, ACode.erase]
  | .rangeFunc .., _, _, _ => by simp [ann, ACode.erase]
  | .scope _, _, _, _ => by simp [ann, ACode.erase]
  | .label _, _, _, _ => by simp [ann, ACode.erase]
  | .goto _, _, _, _ => by simp [ann, ACode.erase]
  | .refuse _, _, _, _ => by simp [ann, ACode.erase]
/-- The environment that knows nothing but the program. -/
theorem WF.of (E : Env) (hc : ∀ f, E.code f = (E.P.funcs[f]?).bind annF) (hn : E.P.funcs.toList.all (fun fn => fn.name != "runtime.NumGoroutine") = true) : WF E := by
  intro f c h
  rw [hc] at h
  cases hf : E.P.funcs[f]? with
  | none => rw [hf] at h; cases h
  | some fn =>
    rw [hf] at h
    simp only [Option.bind_some, annF] at h
    cases hb : fn.body with
    | none => rw [hb] at h; cases h
    | some b =>
      rw [hb] at h
      simp only [Option.map_some, Option.some.injEq] at h
      refine ⟨fn, rfl, ?_, ?_⟩
      · rw [hb, ← h, erase_ann]
      · have := List.all_eq_true.1 hn fn (by rw [← Array.getElem?_toList] at hf; exact List.mem_of_getElem? hf)
        simpa using this
theorem SoundX.none {E : Env} (h : ∀ f args, E.ext f args = Option.none) : SoundX E := by
  intro f args v hv
  rw [h] at hv
  cases hv

/-! ### Runs of so many rounds, in continuation style -/
mutual
def callG (E : Env) : Nat → CallT
  | 0 => fun _ _ _ _ => Option.none
  | n + 1 => callK E (callG E n) (loopG E n)
def loopG (E : Env) : Nat → LoopT
  | 0 => fun _ _ _ _ _ => Option.none
  | n + 1 => loopK E (callG E n) (loopG E n)
end
theorem sound_G {E : Env} (hW : WF E) (hX : SoundX E) : ∀ n, SoundC E (callG E n) ∧ SoundL E (loopG E n)
  | 0 => ⟨fun f args L k r h => by simp [callG] at h, fun id live c s k r h => by simp [loopG] at h⟩
  | n + 1 => by
    obtain ⟨h1, h2⟩ := sound_G hW hX n
    constructor
    · intro f args L k r h
      rw [callG] at h
      exact call_rule hW h1 hX h2 h
    · intro id live c s k r h
      rw [loopG] at h
      exact loop_sound h1 hX h2 h
/-! ### Tables of functions -/
abbrev Tab1 := List V → List (Option Chunk) → (CRes → Option Ans) → Option Ans
def OkT (E : Env) (f : FuncId) (t : Tab1) : Prop := ∀ args L k r, t args L k = some r → ∃ cr, k cr = some r ∧ SC E f args L cr
def tab : List (FuncId × Tab1) → CallT
  | [] => fun _ _ _ _ => Option.none
  | (g, t) :: l => fun f args L k => if f == g then t args L k else tab l f args L k
theorem tab_nil {E : Env} : SoundC E (tab []) := sound_none E
theorem tab_cons {E : Env} {g : FuncId} {t : Tab1} {l : List (FuncId × Tab1)} (h : OkT E g t) (hl : SoundC E (tab l)) : SoundC E (tab ((g, t) :: l)) := by
  intro f args L k r hr
  simp only [tab] at hr
  split at hr
  · rename_i e
    have := beq_iff_eq.1 e
    subst this
    exact h _ _ _ _ hr
  · exact hl _ _ _ _ _ hr
end Go.Am
