/- The examples of the chapter hold. -/
import Derived.Test.YtniogljhkjbcgaaDoorT1
import Derived.Test.YtniogljhkjbcgaaDoorT2
import Derived.Test.YtniogljhkjbcgaaDoorT3
import Derived.Test.YtniogljhkjbcgaaDoorT4
set_option linter.unusedSimpArgs false
set_option linter.unusedVariables false
namespace Go.Proofs.YtniogljhkjbcgaaDoor
open Go Go.Am Go.RowKit
theorem sc_toX {E : Env} {f : FuncId} {args : List V} {v : V} (h : SC E f args [] (.ret v [])) (hp' : v.pure = true) (ha : pureL args = true) (β : Bt) (S D : Pr) (w : World) (us : List Value) (hd : denL β S w D args us) (hG : Glob E S w) (hS : ∀ b, S b → b < w.heap.size) :
    Calls E.P f us.toArray w fun e w' => ∃ u S', e = .returned u ∧ Below w.heap.size w w' ∧ den (fun _ => none) S' w' (fun _ => False) v u ∧ (∀ b, S b → S' b) ∧ ∀ b, S' b → S b ∨ (w.heap.size ≤ b ∧ b < w'.heap.size) := by
  refine (h.2 (fun _ => none) S w us (denL_pure (fun _ h => h) (fun _ _ => rfl) _ _ ha hd) ⟨fun i c hc => (by simp [hp] at hc), fun _ _ => rfl, fun i b m h => (by cases h), fun i b m h => (by cases h), fun i j b m m' h => (by cases h), hS⟩ hG).mono ?_
  rintro e w' ⟨u, β', S', rfl, g1, g2, g3, g4⟩
  refine ⟨u, S', rfl, below_of_evo g3, den_pure (fun _ h => h) (fun _ _ => rfl) _ _ hp' g2, g3.sub, fun b hb => ?_⟩
  rcases g3.newS b hb with h | h | ⟨i, m, h⟩
  · exact .inl h
  · exact .inr ⟨h, g1.st b hb⟩
  · cases h
noncomputable def extG (f : FuncId) (args : List V) : Option V :=
  if f = 26 then match args with
    | [.sc (.string s)] => if s = src1 then some (i64 0) else if s = src2 then some (i64 10) else if s = src3 then some (i64 12) else if s = src4 then some (i64 3) else none
    | _ => none
  else extF f args
noncomputable def EM : Env := { P := Tryd.prog, glob := globF, ext := extG, way := way, lit := fun _ => false, code := annFL maskTab Tryd.prog, inv := [(2, intCell .i64)], dfn := dfnF, idle := idleF, push := false }
theorem hXM : SoundX EM := fun f args v h => by
  have h' : extG f args = some v := h
  unfold extG at h'
  split at h'
  · rename_i hf; subst hf
    have hcal : callable EM.P 26 := ⟨_, Tryd.func26, by kernel_rfl, by intro e; exact absurd e (by decide +kernel)⟩
    have key : ∀ (s : ByteArray) (n : Int), SC E 26 [st s] [] (.ret (i64 n) []) → some (i64 n) = some v → args = [.sc (.string s)] → callable EM.P 26 ∧ v.pure = true ∧ ∀ (β : Bt) (S D : Pr) (w : World) (us : List Value), denL β S w D args us → Glob EM S w → (∀ b, S b → b < w.heap.size) →
        Calls EM.P 26 us.toArray w fun e w' => ∃ u S', e = .returned u ∧ Below w.heap.size w w' ∧ den (fun _ => none) S' w' (fun _ => False) v u ∧ (∀ b, S b → S' b) ∧ ∀ b, S' b → S b ∨ (w.heap.size ≤ b ∧ b < w'.heap.size) := by
      rintro s n hs hv rfl
      cases hv
      exact ⟨hcal, rfl, fun β S D w us hd hG hS => sc_toX hs rfl rfl β S D w us hd ⟨hG.rd, hG.inv⟩ hS⟩
    split at h'
    · rename_i s
      split at h'
      · rename_i e; subst e; exact key _ _ chk1 h' rfl
      split at h'
      · rename_i e; subst e; exact key _ _ chk2 h' rfl
      split at h'
      · rename_i e; subst e; exact key _ _ chk3 h' rfl
      split at h'
      · rename_i e; subst e; exact key _ _ chk4 h' rfl
      · cases h'
    · cases h'
  · obtain ⟨g1, g2, g3⟩ := hX f args v h'
    exact ⟨g1, g2, fun β S D w us a b c => g3 β S D w us a ⟨b.rd, b.inv⟩ c⟩
set_option maxRecDepth 100000 in
theorem hWM : WF EM := hWL
theorem scM {f : FuncId} {args : List V} {L : List (Option Chunk)} {cr : CRes} (h : SC EM f args L cr) : SC E f args L cr :=
  ⟨h.1, fun β S w us h1 h2 h3 => h.2 β S w us h1 h2 ⟨h3.rd, h3.inv⟩⟩
theorem lives_true : SC E 10 [] [] (.ret (bo true) []) := scM (SC.closedQ hWM hXM 80 (by kernel_rfl))
end Go.Proofs.YtniogljhkjbcgaaDoor
