/- The reference's factor (67); factors are the same. -/
import Derived.Test.YtnjpgkaignfcaaaDoorVa
namespace Go.Proofs.YtnjpgkaignfcaaaDoor
open Go Go.Am
set_option linter.unusedSimpArgs false
set_option linter.unusedVariables false
theorem sCH : SoundC E1 CH := ptab_cons (fun args h => by obtain ⟨s, c, rfl, hs⟩ := h; exact spl66_sc hs) (ptab_cons (fun args h => by obtain ⟨s, rfl, hs⟩ := h; exact num65_sc hs) (ptab_cons (fun args h => by obtain ⟨s, rfl, hs⟩ := h; exact let_sc hs) tab_nil))
def gO (s : ByteArray) : Bool := if 2 < ptN 94 s then false else if lB (pt 94 s 0) then (if ptN 94 s = 1 then true else nB (pt 94 s 1)) else false
def gU (s : ByteArray) : ByteArray := if 2 < ptN 94 s then ⟨#[]⟩ else if lB (pt 94 s 0) then pt 94 s 0 else ⟨#[]⟩
def gE (s : ByteArray) : Int := if 2 < ptN 94 s then 0 else if lB (pt 94 s 0) then (if ptN 94 s = 1 then 1 else nV (pt 94 s 1)) else 0
def gG (s : ByteArray) : Bool := if 2 < ptN 94 s then false else if lB (pt 94 s 0) then (if ptN 94 s = 1 then false else true) else false
def vFacR : List V → V
  | [.sc (.string s)] => .tup [.agg [st (gU s), i64 (gE s), bo (gG s)], bo (gO s)]
  | _ => .junk
theorem ptN_pos (c : UInt8) (s : ByteArray) : 0 < ptN c s := by
  unfold ptN; rw [pts_len]; omega
theorem facR_sc {s : ByteArray} (hs : s.size ≤ 1000) : SC E1 67 [st s] [] (.ret (vFacR [st s]) []) := by
  have h0 := ptN_pos 94 s
  have z0 := pt_size 94 s 0
  have z1 := pt_size 94 s 1
  refine SC.of hW1 hX1 sCH (soundL_none E1) ((f67 s).trans ?_)
  rw [show UInt8.ofNat 94 = (94 : UInt8) from rfl, cl_pos ⟨⟨s, 94, rfl, hs⟩, rfl⟩]
  simp only [vFacR, gO, gU, gE, gG]
  by_cases h2 : 2 < ptN 94 s
  · rw [if_pos (by simp; omega)]
    simp only [if_pos h2]
  · rw [if_neg (by simp; omega), if_pos (by omega), cl_pos ⟨⟨_, rfl, by omega⟩, trivial⟩]
    simp only [if_neg h2]
    cases hl : lB (pt 94 s 0) with
    | false => rfl
    | true =>
      rw [if_neg (by decide)]
      by_cases h1 : ptN 94 s = 1
      · rw [if_pos (by rw [h1]; rfl), if_pos (by omega)]
        simp only [if_pos h1, if_true]
      · rw [if_neg (by simp; omega), if_pos (by omega), cl_pos ⟨⟨_, rfl, by omega⟩, trivial⟩, if_pos (by omega)]
        simp only [if_neg h1, if_true]
        rfl
/-! ### The same factors -/
theorem dg_mem : ∀ {l : List UInt8} {v r : Int}, dg l v = some r → ∀ x ∈ l, 48 ≤ x.toNat ∧ x.toNat ≤ 57
  | [], _, _, _, x, hx => by cases hx
  | c :: l, v, r, h, x, hx => by
    unfold dg at h
    split at h
    · cases h
    · rcases List.mem_cons.1 hx with rfl | hx
      · omega
      · exact dg_mem h x hx
theorem numB_mem {s : ByteArray} (h : nB s = true) : ∀ x ∈ s.data.toList, x = 45 ∨ (48 ≤ x.toNat ∧ x.toNat ≤ 57) := by
  intro x hx
  unfold nB numS at h
  have hd : ∃ r, dg (nbody s).data.toList 0 = some r := by
    cases hB : (nbody s).data.toList with
    | nil => exact ⟨0, rfl⟩
    | cons c t =>
      rw [hB] at h
      cases hd : dg (c :: t) 0 with
      | some r => exact ⟨r, rfl⟩
      | none =>
        simp only [hd] at h
        split at h <;> cases h
  obtain ⟨r, hr⟩ := hd
  have hm := dg_mem hr
  cases hs : s.data.toList with
  | nil => rw [hs] at hx; cases hx
  | cons c t =>
    rw [hs] at hx
    by_cases hc : c = 45
    · subst hc
      rw [(body_neg hs).1] at hm
      rcases List.mem_cons.1 hx with rfl | hx
      · exact .inl rfl
      · exact .inr (hm x hx)
    · rw [(body_pos hs hc).1] at hm
      exact .inr (hm x hx)
theorem pts_cut (c : UInt8) (s : ByteArray) : pts c s = if cF c s = true then cA c s :: pts c (cB c s) else [cA c s] := by
  unfold pts
  rw [splL_cut]
  by_cases h : cF c s = true
  · rw [if_pos h, if_pos (show (cutA c s.data.toList).2.2 = true from h)]; simp [cA, cB]
  · rw [if_neg h, if_neg (show ¬ (cutA c s.data.toList).2.2 = true from h)]; rfl
theorem cutA_mem (c : UInt8) : ∀ l, (cutA c l).2.2 = true → c ∈ l
  | [], h => by cases h
  | x :: l, h => by
    unfold cutA at h
    by_cases hx : x = c
    · simp [hx]
    · simp only [hx, if_false] at h
      exact List.mem_cons_of_mem _ (cutA_mem c l h)
theorem cA_no {c : UInt8} {s : ByteArray} (h : cF c s = false) : cA c s = s := by
  unfold cA
  rw [cutA_no c _ h, mk_toList]
theorem lB_eq (s : ByteArray) : lB s = (allL s && ne s) := rfl
theorem fac_same (s : ByteArray) : gO s = fO s ∧ (fO s = true → gU s = fU s ∧ gE s = fE s ∧ gG s = fG s) := by
  have hp := pts_cut 94 s
  cases hF : cF 94 s with
  | false =>
    rw [hF, if_neg (by decide)] at hp
    have hn : ptN 94 s = 1 := by unfold ptN; rw [hp]; rfl
    have h0 : pt 94 s 0 = cA 94 s := by unfold pt; rw [hp]; rfl
    simp only [gO, fO, gU, fU, gE, fE, gG, fG, hn, h0, hF, lB_eq]
    cases allL (cA 94 s) <;> cases ne (cA 94 s) <;> simp
  | true =>
    rw [hF, if_pos rfl] at hp
    have hq := pts_cut 94 (cB 94 s)
    have h0 : pt 94 s 0 = cA 94 s := by unfold pt; rw [hp]; rfl
    cases hF2 : cF 94 (cB 94 s) with
    | false =>
      rw [hF2, if_neg (by decide), cA_no hF2] at hq
      have hn : ptN 94 s = 2 := by unfold ptN; rw [hp, hq]; rfl
      have h1 : pt 94 s 1 = cB 94 s := by unfold pt; rw [hp, hq]; rfl
      simp only [gO, fO, gU, fU, gE, fE, gG, fG, hn, h0, h1, hF, lB_eq]
      cases allL (cA 94 s) <;> cases ne (cA 94 s) <;> cases nB (cB 94 s) <;> simp
    | true =>
      rw [hF2, if_pos rfl] at hq
      have hn : 2 < ptN 94 s := by
        unfold ptN; rw [hp, hq]
        have := ptN_pos 94 (cB 94 (cB 94 s))
        unfold ptN at this
        simp only [List.length_cons]; omega
      have hb : nB (cB 94 s) = false := by
        cases hb : nB (cB 94 s) with
        | false => rfl
        | true =>
          have := numB_mem hb 94 (cutA_mem 94 _ hF2)
          rcases this with h | h
          · exact absurd h (by decide)
          · exact absurd h (by decide)
      have hf : fO s = false := by
        simp only [fO, hF, hb]
        cases allL (cA 94 s) <;> rfl
      refine ⟨?_, fun h => by rw [hf] at h; cases h⟩
      rw [hf]
      simp only [gO, if_pos hn]
end Go.Proofs.YtnjpgkaignfcaaaDoor
