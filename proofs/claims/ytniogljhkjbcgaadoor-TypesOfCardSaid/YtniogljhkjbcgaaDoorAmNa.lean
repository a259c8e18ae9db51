/- An operation does the same whatever stands behind it; guards, operands. -/
import Derived.Test.YtniogljhkjbcgaaDoorAmM
namespace Go.Am
open Go Go.RowKit
set_option linter.unusedSimpArgs false
set_option linter.unusedVariables false

/-! ### Whatever stands behind an operation, it does the same -/
def Nat1 (f : KR → Option Ans) : Prop := ∃ R : Option Res, ∀ k, f k = R.bind k
theorem nat_none : Nat1 fun _ => none := ⟨none, fun _ => rfl⟩
theorem nat_some (x : Res) : Nat1 fun k => k x := ⟨some x, fun _ => rfl⟩
theorem nat_ite {c : Prop} [Decidable c] {f g : KR → Option Ans} (hf : Nat1 f) (hg : Nat1 g) : Nat1 fun k => if c then f k else g k := by
  by_cases h : c
  · obtain ⟨R, hR⟩ := hf; exact ⟨R, fun k => by simp only [if_pos h]; exact hR k⟩
  · obtain ⟨R, hR⟩ := hg; exact ⟨R, fun k => by simp only [if_neg h]; exact hR k⟩
theorem nat_bw1 {get : Hp} {y : V} {F : KR → V → Option Ans} (h : ∀ y, Nat1 fun k => F k y) : Nat1 fun k => bw1K get y (F k) := by
  unfold bw1K
  repeat' split
  all_goals first | exact nat_none | exact h _
theorem nat_lives (get : Hp) (i : Nat) (x : Res) : Nat1 fun k => lives get i (k x) := by
  unfold lives
  split
  · exact nat_some x
  · exact nat_none
section
variable {P : Program} {o : Oper} {ev : Operand → V} {get : Hp} {new : Nat}
theorem nat_fall : Nat1 (effFall P o ev) := by
  unfold effFall
  split
  · split
    · exact nat_some _
    · exact nat_some _
    · exact nat_none
  · exact nat_none
theorem nat_found {ok b : Bool} {v : V} : Nat1 (foundK ok b v) := by
  unfold foundK
  cases ok
  · exact nat_some _
  · exact nat_some _
theorem nat_lookI {ok : Bool} {z : V} {n : Int} : ∀ l : List (Int × V), Nat1 fun k => lookI ok z n k l
  | [] => nat_found
  | (m, v) :: l => by
    simp only [lookI]
    exact nat_ite nat_found (nat_lookI l)
theorem nat_op {pb pr : Bool} : Nat1 (opK P pb pr o ev get new) := by
  unfold opK
  split
  · exact nat_some _
  · exact nat_some _
  · unfold effPick; split
    · exact nat_ite (nat_some _) (nat_some _)
    · exact nat_none
  · unfold effAlloc; split
    · exact nat_ite (nat_some _) nat_none
    · exact nat_none
  · exact nat_ite (nat_some _) nat_none
  · unfold effLoad
    repeat' split
    all_goals first | exact nat_none | exact nat_some _ | exact nat_ite (nat_some _) nat_none
  · unfold effStore
    simp only [fL_eq]
    repeat' split
    all_goals first | exact nat_none | exact nat_some _
  · unfold effFieldAddr
    repeat' split
    all_goals first | exact nat_none | exact nat_some _ | exact nat_lives _ _ _
  · unfold effField
    repeat' split
    all_goals first | exact nat_none | exact nat_some _ | exact nat_fall
  · unfold effIndexAddr
    repeat' split
    all_goals first | exact nat_none | exact nat_some _ | exact nat_lives _ _ _
  · unfold effIndex
    repeat' split
    all_goals first | exact nat_none | exact nat_some _ | exact nat_fall
  · split
    · unfold effSlice
      repeat' split
      all_goals first | exact nat_none | exact nat_some _ | exact nat_lives _ _ _
    · exact nat_none
  · unfold effExtract
    repeat' split
    all_goals first | exact nat_none | exact nat_some _ | exact nat_fall
  · unfold effBuild
    repeat' split
    all_goals first | exact nat_none | exact nat_some _
  · unfold effBuildSlice
    simp only [fLL_eq]
    repeat' split
    all_goals first | exact nat_none | exact nat_some _
  · unfold effMakeSlice
    repeat' split
    all_goals first | exact nat_none | exact nat_some _
  · repeat' split
    all_goals first | exact nat_none | exact nat_some _
  · repeat' split
    all_goals first | exact nat_none | exact nat_some _
  · unfold effNext
    repeat' split
    all_goals first | exact nat_none | exact nat_some _
  · unfold effNil
    repeat' split
    all_goals first | exact nat_none | exact nat_some _ | exact nat_lives _ _ _ | exact nat_fall
  · unfold effCall
    split
    · unfold effBuiltin
      split
      · repeat' split
        all_goals first | exact nat_none | exact nat_some _ | exact nat_lives _ _ _ | exact nat_fall
      · split
        · split
          · unfold effAppend
            split
            · split
              · refine nat_bw1 fun y => ?_
                unfold appK
                repeat' split
                all_goals first | exact nat_none | exact nat_some _
              · exact nat_none
            · exact nat_none
          · exact nat_none
        · exact nat_none
      · exact nat_fall
    · repeat' split
      all_goals first | exact nat_none | exact nat_some _
    · exact nat_none
  · unfold effBin
    split
    · repeat' split
      all_goals first | exact nat_none | skip
      unfold effDiv
      repeat' split
      all_goals first | exact nat_none | exact nat_some _
    · unfold effEq
      repeat' split
      all_goals first | exact nat_none | exact nat_some _ | exact nat_fall
  · exact nat_fall
  · exact nat_fall
  · unfold effMakeMap
    repeat' split
    all_goals first | exact nat_none | exact nat_some _
  · unfold effLookup
    repeat' split
    all_goals first | exact nat_none | exact nat_found | exact nat_lookI _
  · unfold effMapSet
    repeat' split
    all_goals first | exact nat_none | exact nat_some _
  · unfold effMapSet
    repeat' split
    all_goals first | exact nat_none | exact nat_some _
  · unfold effMakeIface
    repeat' split
    all_goals first | exact nat_none | exact nat_some _
  · unfold effAssert
    repeat' split
    all_goals first | exact nat_none | exact nat_found
  · unfold effPanic
    repeat' split
    all_goals first | exact nat_none | exact nat_some _
  · unfold effDefer
    repeat' split
    all_goals first | exact nat_none | exact nat_some _
  · exact nat_none
end
theorem opK_unif {pb pr : Bool} {P : Program} {o : Oper} {ev : Operand → V} {H : Hp} {new : Nat} {k : KR} {r : Ans} (h : opK P pb pr o ev H new k = some r) :
    ∃ res, k res = some r ∧ ∀ (β : Bt) (S D : Pr) (a : Act) (w : World), Mem β S D H w → ¬ D new → (∀ x, den β S w D (ev x) (a.eval x)) → GoodR P β S D H new o a w res := by
  obtain ⟨R, hR⟩ := nat_op (pb := pb) (pr := pr) (P := P) (o := o) (ev := ev) (get := H) (new := new)
  rw [hR] at h
  cases hres : R with
  | none => rw [hres] at h; cases h
  | some res =>
    rw [hres] at h
    refine ⟨res, h, fun β S D a w hM hn hev => ?_⟩
    classical
    have hk : opK P pb pr o ev H new (fun x => if x = res then some r else none) = some r := by rw [hR, hres]; simp
    obtain ⟨res', h1, h2⟩ := opK_sound hM hn hev hk
    simp only at h1
    split at h1
    · rename_i he; rw [← he]; exact h2
    · cases h1

/-! ### Regions -/
theorem yieldA_sound {β : Bt} {S D : Pr} {w : World} {ops : List Oper} {fr : List V} {a : Act} {j : Nat} {v : Value} (hf : denL β S w D fr a.tmps.toList) (h : yieldA ops fr j = .sc v) :
    yielded ops.toArray a.tmps j = match v with | .bool b => some b | _ => none := by
  unfold yieldA at h
  split at h
  · rename_i o ho
    split at h
    · rename_i t ht
      have hg : fr[t]? = some (.sc v) := by
        cases hq : fr[t]? with
        | none => simp [List.getD, hq] at h
        | some q => simp only [List.getD, hq, Option.getD_some] at h; rw [h]
      obtain ⟨u, hu, hd⟩ := denL_get hf t _ hg
      simp only [den] at hd
      subst hd
      have hu' : a.tmps[t]? = some u := by simpa using hu
      simp only [yielded, List.getElem?_toArray, ho, Option.bind_some, ht, hu']
      cases u <;> rfl
    · cases h
  · cases h
theorem guardR_some {g : Option (Nat × Bool)} {ops : List Oper} {fr : List V} {k : Bool → List V → Option Ans} {r : Ans} (h : guardR g ops fr k = some r) : guardK g (yieldA ops fr) (fun b => k b fr) = some r := by
  unfold guardR at h
  unfold guardK
  split at h
  · exact h
  · rename_i j b
    split at h
    · rename_i o ho
      split at h
      · rename_i t ht
        have hy : yieldA ops fr j = fr.getD t .junk := by simp only [yieldA, ho, ht]
        split at h
        · rename_i v hv
          rw [hv] at hy
          simp only [hy]
          have hg : ∀ c, fr[t]? = some (.sc (.bool c)) → fr.set t (.sc (.bool c)) = fr := by
            intro c hc
            apply List.ext_getElem?
            intro n
            by_cases hn : n = t
            · subst hn
              have hl : n < fr.length := (List.getElem?_eq_some_iff.1 hc).1
              rw [List.getElem?_set_self hl, hc]
            · rw [List.getElem?_set_ne (fun e => hn e.symm)]
          have hq : fr[t]? = some (.sc v) := by
            cases hq : fr[t]? with
            | none => simp [List.getD, hq] at hv
            | some q => simp only [List.getD, hq, Option.getD_some] at hv; rw [hv]
          split at h
          · rename_i c
            split at h
            · rename_i hc
              subst hc
              simp only [setK_eq] at h
              rw [hg true hq] at h
              cases b <;> simpa using h
            · rename_i hc
              have hc' : c = false := by simpa using hc
              subst hc'
              simp only [setK_eq] at h
              rw [hg false hq] at h
              cases b <;> simpa using h
          · rename_i hnb
            cases v <;> first | exact h | exact absurd rfl (hnb _)
        · cases h
      · cases h
    · cases h
theorem guard_sound {ops : List Oper} {o : Oper} {fr : List V} {k : Bool → Option Ans} {r : Ans} (h : guardK o.guard (yieldA ops fr) k = some r) :
    ∃ b, k b = some r ∧ ∀ (β : Bt) (S D : Pr) (w : World) (a : Act), denL β S w D fr a.tmps.toList → Region.wanted o (yielded ops.toArray a.tmps) = b := by
  unfold guardK at h
  split at h
  · rename_i hg
    exact ⟨true, h, fun β S D w a _ => by simp [Region.wanted, hg]⟩
  · rename_i j b hg
    split at h
    · rename_i v hv
      split at h
      · rename_i c
        split at h
        · rename_i hcb
          subst hcb
          exact ⟨true, h, fun β S D w a hf => by simp [Region.wanted, hg, yieldA_sound hf hv]⟩
        · rename_i hcb
          exact ⟨false, h, fun β S D w a hf => by simp [Region.wanted, hg, yieldA_sound hf hv, hcb]⟩
      · rename_i hnb
        refine ⟨false, h, fun β S D w a hf => ?_⟩
        have := yieldA_sound hf hv
        simp only [Region.wanted, hg, this]
        cases v <;> first | rfl | (exact absurd rfl (hnb _))
    · cases h
theorem evA_sound {E : Env} {β : Bt} {S D : Pr} {w : World} {fr : List V} {a : Act} (hf : denL β S w D fr a.tmps.toList) (hG : Glob E S w) (x : Operand) : den β S w D (evA E fr x) (a.eval x) := by
  cases x with
  | tmp t => simpa [evA, Act.eval] using denL_getD hf t
  | const v => exact den_ofVal1 v
  | global g =>
    simp only [evA, Act.eval]
    split
    · rename_i cs hg; exact den_pure (fun _ h => h) (fun _ _ => rfl) _ _ rfl (hG.rd g cs hg)
    · simp [den]
  | func f => simp only [evA, Act.eval, den]; exact ⟨[], rfl, by simp [denL]⟩
end Go.Am
