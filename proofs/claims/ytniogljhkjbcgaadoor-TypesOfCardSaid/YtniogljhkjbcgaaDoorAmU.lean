/- The annotated code is the code; environments without own knowledge. -/
import Derived.Test.YtniogljhkjbcgaaDoorAmT
set_option linter.unusedSimpArgs false
set_option linter.unusedVariables false
namespace Go.Am
open Go
theorem erase_ann (res : Nat) : ∀ (c : Code) (b0 l : Nat) (env : List (Nat × Nat)), (ann res c b0 l env).erase = c
  | .skip, _, _, _ => by simp [ann, ACode.erase]
  | .region _ ops _, _, _, _ => by simp [ann, ACode.erase]
  | .seq a b, b0, l, env => by simp [ann, forceN_eq, ACode.erase, erase_ann res a, erase_ann res b]
  | .cond c x y, b0, l, env => by simp [ann, forceN_eq, ACode.erase, erase_ann res x, erase_ann res y]
  | .block id c, _, l, env => by simp [ann, forceN_eq, ACode.erase, erase_ann res c]
  | .loop c, b0, l, env => by simp [ann, forceN_eq, ACode.erase, erase_ann res c]
  | .exit _, _, _, _ => by simp [ann, ACode.erase]
  | .ret, _, _, _ => by simp [ann, ACode.erase]
  | .rangeFunc .., _, _, _ => by simp [ann, ACode.erase]
  | .scope _, _, _, _ => by simp [ann, ACode.erase]
  | .label _, _, _, _ => by simp [ann, ACode.erase]
  | .goto _, _, _, _ => by simp [ann, ACode.erase]
  | .refuse _, _, _, _ => by simp [ann, ACode.erase]
/-- The environment that knows nothing but the program. -/
theorem WF.of (E : Env) (hc : ∀ f, E.code f = (E.P.funcs[f]?).bind annF) (hn : E.P.funcs.toList.all (fun fn => fn.name != "runtime.NumGoroutine") = true) (hd : ∀ g n, E.idle g = some n → Idle E.P g n := by intro g n h; cases h) : WF E := by
  refine ⟨hd, ?_⟩
  intro f c h
  rw [hc] at h
  cases hf : E.P.funcs[f]? with
  | none => rw [hf] at h; cases h
  | some fn =>
    rw [hf] at h
    simp only [Option.bind_some, annF] at h
    cases hb : fn.body with
    | none => rw [hb] at h; cases h
    | some b =>
      rw [hb] at h
      simp only [Option.map_some, Option.some.injEq] at h
      refine ⟨fn, rfl, ?_, ?_⟩
      · rw [hb, ← h, erase_ann]
      · have := List.all_eq_true.1 hn fn (by rw [← Array.getElem?_toList] at hf; exact List.mem_of_getElem? hf)
        simpa using this
/-! ### The same, masks worked out when they are wanted: for closed runs -/
def opLive0 (o : Oper) (ops : List Oper) (l : Nat) : Nat :=
  let l := match o.dst with | some t => if l.testBit t then l ^^^ (1 <<< t) else l | none => l
  let add (l : Nat) : Operand → Nat | .tmp t => l ||| (1 <<< t) | _ => l
  let l := o.op.operands.toList.foldl add l
  match o.guard with
  | some (j, _) => match ops[j]? with | some o' => (match o'.dst with | some t => l ||| (1 <<< t) | none => l) | none => l
  | none => l
def lv0 (res : Nat) : Code → Nat → List (Nat × Nat) → Nat
  | .skip, l, _ => l
  | .region _ ops _, l, _ => ops.toList.reverse.foldl (fun l o => opLive0 o ops.toList l) l
  | .seq a b, l, env => lv0 res a (lv0 res b l env) env
  | .cond c x y, l, env => liveOf c ||| lv0 res x l env ||| lv0 res y l env
  | .block id c, l, env => lv0 res c l ((id, l) :: env)
  | .loop c, _, env => let l0 := lv0 res c 0 env; lv0 res c l0 env
  | .exit id, _, env => look env id
  | .ret, _, _ => res
  | _, l, _ => l
def ann0 (res : Nat) : Code → Nat → Nat → List (Nat × Nat) → ACode
  | .skip, _, _, _ => .skip
  | .region id ops d, _, _, _ => .region id ops.toList d
  | .seq a b, b0, l, env => .seq (ann0 res a b0 (lv0 res b l env) env) (ann0 res b b0 l env)
  | .cond c x y, b0, l, env => .cond c (ann0 res x b0 l env) (ann0 res y b0 l env)
  | .block id c, _, l, env => .block id (ann0 res c id l ((id, l) :: env))
  | .loop c, b0, l, env => let h := lv0 res (.loop c) l env; .loop b0 h (ann0 res c b0 h env)
  | .exit id, _, _, _ => .exit id
  | .ret, _, _, _ => .ret
  | c, _, _, _ => .no c
def annF0 (fn : Func) : Option ACode :=
  let res := fn.results.toList.foldl (fun l r => match r with | .tmp t => l ||| (1 <<< t) | .cell t _ => l ||| (1 <<< t)) 0
  fn.body.map fun c => ann0 res c 0 res []
theorem erase_ann0 (res : Nat) : ∀ (c : Code) (b0 l : Nat) (env : List (Nat × Nat)), (ann0 res c b0 l env).erase = c
  | .skip, _, _, _ => by simp [ann0, ACode.erase]
  | .region _ ops _, _, _, _ => by simp [ann0, ACode.erase]
  | .seq a b, b0, l, env => by simp [ann0, ACode.erase, erase_ann0 res a, erase_ann0 res b]
  | .cond c x y, b0, l, env => by simp [ann0, ACode.erase, erase_ann0 res x, erase_ann0 res y]
  | .block id c, _, l, env => by simp [ann0, ACode.erase, erase_ann0 res c]
  | .loop c, b0, l, env => by simp [ann0, ACode.erase, erase_ann0 res c]
  | .exit _, _, _, _ => by simp [ann0, ACode.erase]
  | .ret, _, _, _ => by simp [ann0, ACode.erase]
  | .rangeFunc .., _, _, _ => by simp [ann0, ACode.erase]
  | .scope _, _, _, _ => by simp [ann0, ACode.erase]
  | .label _, _, _, _ => by simp [ann0, ACode.erase]
  | .goto _, _, _, _ => by simp [ann0, ACode.erase]
  | .refuse _, _, _, _ => by simp [ann0, ACode.erase]
theorem WF.of0 (E : Env) (hc : ∀ f, E.code f = (E.P.funcs[f]?).bind annF0) (hn : E.P.funcs.toList.all (fun fn => fn.name != "runtime.NumGoroutine") = true) (hd : ∀ g n, E.idle g = some n → Idle E.P g n := by intro g n h; cases h) : WF E := by
  refine ⟨hd, ?_⟩
  intro f c h
  rw [hc] at h
  cases hf : E.P.funcs[f]? with
  | none => rw [hf] at h; cases h
  | some fn =>
    rw [hf] at h
    simp only [Option.bind_some, annF0] at h
    cases hb : fn.body with
    | none => rw [hb] at h; cases h
    | some b =>
      rw [hb] at h
      simp only [Option.map_some, Option.some.injEq] at h
      refine ⟨fn, rfl, ?_, ?_⟩
      · rw [hb, ← h, erase_ann0]
      · have := List.all_eq_true.1 hn fn (by rw [← Array.getElem?_toList] at hf; exact List.mem_of_getElem? hf)
        simpa using this
/-! ### The same, masks given -/
def annL (m : Nat → Nat) : Code → Nat → ACode
  | .skip, _ => .skip
  | .region id ops d, _ => .region id ops.toList d
  | .seq a b, b0 => .seq (annL m a b0) (annL m b b0)
  | .cond c x y, b0 => .cond c (annL m x b0) (annL m y b0)
  | .block id c, _ => .block id (annL m c id)
  | .loop c, b0 => forceN (m b0) fun h => .loop b0 h (annL m c b0)
  | .exit id, _ => .exit id
  | .ret, _ => .ret
  | c, _ => .no c
theorem erase_annL (m : Nat → Nat) : ∀ (c : Code) (b0 : Nat), (annL m c b0).erase = c
  | .skip, _ => by simp [annL, ACode.erase]
  | .region _ ops _, _ => by simp [annL, ACode.erase]
  | .seq a b, b0 => by simp [annL, ACode.erase, erase_annL m a, erase_annL m b]
  | .cond c x y, b0 => by simp [annL, ACode.erase, erase_annL m x, erase_annL m y]
  | .block id c, _ => by simp [annL, ACode.erase, erase_annL m c]
  | .loop c, b0 => by simp [annL, forceN_eq, ACode.erase, erase_annL m c]
  | .exit _, _ => by simp [annL, ACode.erase]
  | .ret, _ => by simp [annL, ACode.erase]
  | .rangeFunc .., _ => by simp [annL, ACode.erase]
  | .scope _, _ => by simp [annL, ACode.erase]
  | .label _, _ => by simp [annL, ACode.erase]
  | .goto _, _ => by simp [annL, ACode.erase]
  | .refuse _, _ => by simp [annL, ACode.erase]
/-- A table of masks: function, loop, mask. -/
def maskT : List (Nat × List (Nat × Nat)) → Nat → Nat → Nat
  | [], _, _ => 0
  | (g, l) :: t, f, i => match Nat.beq g f with | true => look l i | false => maskT t f i
def annFL (T : List (Nat × List (Nat × Nat))) (P : Program) (f : Nat) : Option ACode := match P.funcs[f]? with | some fn => (match fn.body with | some c => some (annL (maskT T f) c 0) | none => none) | none => none
theorem WF.ofL (E : Env) (T : List (Nat × List (Nat × Nat))) (hc : E.code = annFL T E.P) (hn : E.P.funcs.toList.all (fun fn => fn.name != "runtime.NumGoroutine") = true) (hd : ∀ g n, E.idle g = some n → Idle E.P g n := by intro g n h; cases h) : WF E := by
  refine ⟨hd, ?_⟩
  intro f c h
  rw [hc] at h
  unfold annFL at h
  split at h
  · rename_i fn hf
    split at h
    · rename_i b hb
      cases h
      refine ⟨fn, hf, ?_, ?_⟩
      · rw [hb, erase_annL]
      · have := List.all_eq_true.1 hn fn (by rw [← Array.getElem?_toList] at hf; exact List.mem_of_getElem? hf)
        simpa using this
    · cases h
  · cases h
theorem SoundX.none {E : Env} (h : ∀ f args, E.ext f args = Option.none) : SoundX E := by
  intro f args v hv
  rw [h] at hv
  cases hv

/-! ### Runs of so many rounds, in continuation style -/
mutual
def callG (E : Env) : Nat → CallT
  | 0 => fun _ _ _ _ => Option.none
  | n + 1 => callK E (callG E n) (loopG E n)
def loopG (E : Env) : Nat → LoopT
  | 0 => fun _ _ _ _ _ => Option.none
  | n + 1 => loopK E (callG E n) (loopG E n)
end
theorem sound_G {E : Env} (hW : WF E) (hX : SoundX E) : ∀ n, SoundC E (callG E n) ∧ SoundL E (loopG E n)
  | 0 => ⟨fun f args L k r h => by simp [callG] at h, fun id live c s k r h => by simp [loopG] at h⟩
  | n + 1 => by
    obtain ⟨h1, h2⟩ := sound_G hW hX n
    constructor
    · intro f args L k r h
      rw [callG] at h
      exact call_rule hW h1 hX h2 h
    · intro id live c s k r h
      rw [loopG] at h
      exact loop_sound h1 hX h2 h
/-! ### Tables of functions -/
abbrev Tab1 := List V → List (Option Chunk) → (CRes → Option Ans) → Option Ans
def OkT (E : Env) (f : FuncId) (t : Tab1) : Prop := ∀ args L k r, t args L k = some r → ∃ cr, k cr = some r ∧ SC E f args L cr
def tab : List (FuncId × Tab1) → CallT
  | [] => fun _ _ _ _ => Option.none
  | (g, t) :: l => fun f args L k => if f == g then t args L k else tab l f args L k
theorem tab_nil {E : Env} : SoundC E (tab []) := sound_none E
theorem tab_cons {E : Env} {g : FuncId} {t : Tab1} {l : List (FuncId × Tab1)} (h : OkT E g t) (hl : SoundC E (tab l)) : SoundC E (tab ((g, t) :: l)) := by
  intro f args L k r hr
  simp only [tab] at hr
  split at hr
  · rename_i e
    have := beq_iff_eq.1 e
    subst this
    exact h _ _ _ _ hr
  · exact hl _ _ _ _ _ hr
end Go.Am
