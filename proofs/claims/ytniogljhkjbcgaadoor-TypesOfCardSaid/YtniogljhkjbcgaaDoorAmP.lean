/- Regions that draw their order. -/
import Derived.Test.YtniogljhkjbcgaaDoorAmM
import Derived.Still
namespace Go.Am
open Go Go.RowKit
set_option linter.unusedSimpArgs false
set_option linter.unusedVariables false

/-! ### What an operation looks at -/
section
variable {P : Program} {o : Oper} {ev ev' : Operand → V} {get get' : Hp} {new : Nat}
theorem fall_congr (hs : ∀ cs b, o.op ≠ .select cs b) (h : ∀ x ∈ o.op.operands, ev x = ev' x) : effFall P o ev = effFall P o ev' := by
  funext k
  unfold effFall
  have e1 : o.op.operands.toList.all (fun x => ((ev x).toVal).isSome) = o.op.operands.toList.all (fun x => ((ev' x).toVal).isSome) := by
    rw [Bool.eq_iff_iff, List.all_eq_true, List.all_eq_true]
    exact ⟨fun g x hx => by rw [← h x (by simpa using hx)]; exact g x hx, fun g x hx => by rw [h x (by simpa using hx)]; exact g x hx⟩
  have e2 : execOp (fun x => ((ev x).toVal).getD undef) o = execOp (fun x => ((ev' x).toVal).getD undef) o := execOp_congr o hs fun x hx => by rw [h x hx]
  rw [e1, e2]
theorem fillA_congr {place : Nat → Option (Nat × Nat)} : ∀ (ps : List (Nat × Operand)) (z : List V), (∀ p ∈ ps, ev p.2 = ev' p.2) → fillA P z place ev ps = fillA P z place ev' ps
  | [], z, _ => rfl
  | (i, x) :: ps, z, h => by
    simp only [fillA]
    have hx : ev x = ev' x := h (i, x) (.head _)
    rw [hx]
    cases place i with
    | none => rfl
    | some q =>
      obtain ⟨o, n⟩ := q
      simp only
      split
      · exact fillA_congr ps _ fun p hp => h p (.tail _ hp)
      · rfl
theorem op_congr {pb pr : Bool} (h : ∀ x ∈ o.op.operands, ev x = ev' x) : opK P pb pr o ev get new = opK P pb pr o ev' get new := by
  funext k
  unfold opK
  have hf := fun hs => fall_congr (P := P) (o := o) (ev := ev) (ev' := ev') hs h
  cases ho : o.op <;> rw [ho] at h <;> simp only [Op.operands] at h <;> try simp only
  case move x => rw [h x (by simp)]
  case assign x => rw [h x (by simp)]
  case pick c x y => rw [h c (by simp), h x (by simp), h y (by simp)]
  case box t x => rw [h x (by simp)]
  case build t ps =>
    have hp : ∀ p ∈ ps.toList, ev p.2 = ev' p.2 := fun p hp => h p.2 (by simp only [List.mem_toArray, List.mem_map]; exact ⟨p, hp, rfl⟩)
    simp only [effBuild, fillA_congr _ _ hp]
  case buildSlice t n ps =>
    have hp : ∀ p ∈ ps.toList, ev p.2 = ev' p.2 := fun p hp => h p.2 (by simp only [List.mem_toArray, List.mem_map]; exact ⟨p, hp, rfl⟩)
    have e1 : ∀ i, partAt ev ps.toList i = partAt ev' ps.toList i := fun i => by
      unfold partAt
      split
      · rename_i p hi; rw [hp p (List.mem_of_getElem? hi)]
      · rfl
    have e2 : (ps.toList.flatMap fun p => (ev p.2).cells) = ps.toList.flatMap fun p => (ev' p.2).cells := by
      rw [List.flatMap_def, List.flatMap_def]
      congr 1
      exact List.map_congr_left fun p hq => by rw [hp p hq]
    have e3 : ps.toList.all (fun p => (ev p.2).cells.all V.one) = ps.toList.all (fun p => (ev' p.2).cells.all V.one) := by
      rw [Bool.eq_iff_iff, List.all_eq_true, List.all_eq_true]
      exact ⟨fun g x hx => by rw [← hp x hx]; exact g x hx, fun g x hx => by rw [hp x hx]; exact g x hx⟩
    simp only [effBuildSlice, e1, e2, e3]
  case load t x => rw [h x (by simp)]
  case store t x y => rw [h x (by simp), h y (by simp)]
  case nilCheck x => rw [h x (by simp)]; simp only [effNil, hf (by rw [ho]; intros; simp)]
  case binOp b t x y u => rw [h x (by simp), h y (by simp)]; unfold effBin; rw [hf (by rw [ho]; intros; simp)]
  case unOp p t x => rw [hf (by rw [ho]; intros; simp)]
  case convert s d x => rw [hf (by rw [ho]; intros; simp)]
  case makeFunc fn fi cs =>
    cases fn <;> simp only
    have : cs.toList.map ev = cs.toList.map ev' := List.map_congr_left fun x hx => h x (by simp only [Array.mem_append]; exact .inr (by simpa using hx))
    have h' : fi.toList.map ev = fi.toList.map ev' := List.map_congr_left fun x hx => h x (by simp only [Array.mem_append]; exact .inl (by simpa using hx))
    rw [this, h']
  case makeMap t rs => cases rs <;> rfl
  case lookup t x y ok => rw [h x (by simp), h y (by simp)]
  case mapUpdate t x y v => rw [h x (by simp), h y (by simp), h v (by simp)]
  case insert t x y v => rw [h x (by simp), h y (by simp), h v (by simp)]
  case makeInterface t x => rw [h x (by simp)]
  case typeAssert x u t ok => rw [h x (by simp)]
  case panic x => rw [h x (by simp)]
  case makeSlice t x y => rw [h x (by simp), h y (by simp)]
  case slice t x lo hi mx =>
    rw [h x (by simp)]
    cases lo <;> cases hi <;> simp only
    · rename_i y; rw [h y (by simp)]
    · rename_i y; rw [h y (by simp)]
    · rename_i y z; rw [h y (by simp), h z (by simp)]
  case fieldAddr t x f => rw [h x (by simp)]
  case field t x f => rw [h x (by simp)]; simp only [effField, hf (by rw [ho]; intros; simp)]
  case indexAddr t x y => rw [h x (by simp), h y (by simp)]
  case index t x y => rw [h x (by simp), h y (by simp)]; simp only [effIndex, hf (by rw [ho]; intros; simp)]
  case range t x => rw [h x (by simp)]
  case next x b => rw [h x (by simp)]
  case extract x n => rw [h x (by simp)]; simp only [effExtract, hf (by rw [ho]; intros; simp)]
  case defer c =>
    unfold effDefer
    cases hc : c.callee with
    | value f =>
      have hff : ev f = ev' f := h f (by simp [Call.operands, hc])
      simp only [hff]
    | invoke r m => rfl
    | builtin b => rfl
  case call c =>
    have hargs : ∀ x ∈ c.args, ev x = ev' x := fun x hx => h x (by simp [Call.operands, hx])
    have hm : c.args.toList.map ev = c.args.toList.map ev' := List.map_congr_left fun x hx => hargs x (by simpa using hx)
    unfold effCall
    cases hc : c.callee with
    | value f =>
      have hff : ev f = ev' f := h f (by simp [Call.operands, hc])
      simp only [hff, hm]
    | invoke r m => rfl
    | builtin b =>
      simp only
      have hfl := hf (by rw [ho]; intros; simp)
      unfold effBuiltin
      split
      · split
        · rename_i x hx
          rw [hargs x (by have : x ∈ c.args.toList := by rw [hx]; simp
                          simpa using this), hfl]
        · rfl
      · split
        · rename_i x y t t' hx _
          rw [hargs x (by have : x ∈ c.args.toList := by rw [hx]; simp
                          simpa using this), hargs y (by have : y ∈ c.args.toList := by rw [hx]; simp
                                                         simpa using this)]
        · rfl
      · rw [hfl]
theorem op_get {pb pr : Bool} (h : readsOp o.op = false) : opK P pb pr o ev get new = opK P pb pr o ev get' new := by
  funext k
  unfold opK
  cases ho : o.op <;> rw [ho] at h <;> simp only [readsOp] at h <;> first | rfl | (cases h; done) | (clear h; rename_i _ rs _; cases rs <;> rfl) | (clear h; rename_i rs; cases rs <;> rfl)
end
end Go.Am
