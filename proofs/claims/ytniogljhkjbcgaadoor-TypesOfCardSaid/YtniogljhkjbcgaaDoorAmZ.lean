/- Loops that end in one of two ways, by a condition. -/
import Derived.Test.YtniogljhkjbcgaaDoorAmV
namespace Go.Am
open Go Go.RowKit
set_option linter.unusedSimpArgs false
set_option linter.unusedVariables false
/-- A loop's end: of its frame, what is wanted; another set where the function ends in it. -/
def KC2 (live res : Nat) : Ex → St → Option Ans := fun e s => match e with
  | .ret => canonK res s fun s => some (.l .ret s)
  | e => canonK live s fun s => some (.l e s)
theorem SL.by2 {E : Env} {ca : CallT} {lo : LoopT} (hC : SoundC E ca) (hX : SoundX E) (hL : SoundL E lo) {id live m r : Nat} {c : ACode} {s t : St} {e : Ex} (h : loopK E ca lo id live c s (KC2 m r) = some (.l e t)) : SL E c s e t := by
  obtain ⟨e1, s1, h1, h2⟩ := loop_sound hC hX hL h
  cases e1 <;> simp only [KC2, canonK_eq, Option.some.injEq, Ans.l.injEq] at h1 <;> (obtain ⟨rfl, rfl⟩ := h1; exact h2.canon _)
/-- A loop (by its number) ends in one way, if P is so, and in the other, if not. -/
structure LFact2 where
  id : Nat
  c : ACode
  s : St
  P : Prop
  e1 : Ex
  t1 : St
  e2 : Ex
  t2 : St
noncomputable def ltab2 : List LFact2 → LoopT
  | [] => fun _ _ _ _ _ => none
  | x :: l => fun id live c s k => if id == x.id then cl (c = x.c ∧ LeSt s x.s) (cl x.P (k x.e1 x.t1) (k x.e2 x.t2)) none else ltab2 l id live c s k
theorem ltab2_nil {E : Env} : SoundL E (ltab2 []) := fun id live c s k r h => by cases h
theorem ltab2_cons {E : Env} {x : LFact2} {l : List LFact2} (h : (x.P → SL E x.c x.s x.e1 x.t1) ∧ (¬ x.P → SL E x.c x.s x.e2 x.t2)) (hl : SoundL E (ltab2 l)) : SoundL E (ltab2 (x :: l)) := by
  intro id live c s k r hr
  simp only [ltab2] at hr
  split at hr
  · rcases cl_some hr with ⟨⟨rfl, hle⟩, h1⟩ | ⟨_, h1⟩
    · rcases cl_some h1 with ⟨hp, h2⟩ | ⟨hp, h2⟩
      · exact ⟨_, _, h2, (h.1 hp).le hle⟩
      · exact ⟨_, _, h2, (h.2 hp).le hle⟩
    · cases h1
  · exact hl _ _ _ _ _ _ hr
theorem ltab2_hit {id live : Nat} {c : ACode} {s S1 : St} {P : Prop} {e1 e2 : Ex} {t1 t2 : St} {l : List LFact2} {k : Ex → St → Option Ans} (h : LeSt s S1) :
    ltab2 (⟨id, c, S1, P, e1, t1, e2, t2⟩ :: l) id live c s k = cl P (k e1 t1) (k e2 t2) := by
  show (if (id == id) = true then _ else _) = _
  rw [if_pos (beq_self_eq_true id)]
  exact cl_pos ⟨rfl, h⟩
theorem cl_neg {p : Prop} {x y : Option Ans} (h : ¬ p) : cl p x y = y := by unfold cl; exact if_neg h
/-- A function under a condition on its arguments and on what is handed over with them. -/
noncomputable def ptabL (g : FuncId) (Q : List V → List (Option Chunk) → Prop) (v : List V → List (Option Chunk) → CRes) (ca : CallT) : CallT := fun f args L k =>
  if f == g then cl (Q args L) (k (v args L)) none else ca f args L k
theorem ptabL_cons {E : Env} {g : FuncId} {Q : List V → List (Option Chunk) → Prop} {v : List V → List (Option Chunk) → CRes} {ca : CallT} (h : ∀ args L, Q args L → SC E g args L (v args L)) (hl : SoundC E ca) : SoundC E (ptabL g Q v ca) := by
  intro f args L k r hr
  simp only [ptabL] at hr
  split at hr
  · rename_i e
    have := beq_iff_eq.1 e
    subst this
    rcases cl_some hr with ⟨h1, h3⟩ | ⟨_, h3⟩
    · exact ⟨_, h3, h _ _ h1⟩
    · cases h3
  · exact hl _ _ _ _ _ hr
end Go.Am
