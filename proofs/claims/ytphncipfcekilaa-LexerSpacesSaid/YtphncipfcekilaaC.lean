/- word, number, symbol. -/
import Derived.Test.YtphncipfcekilaaB
namespace Go.Proofs
open Go.RowKit Lx Go.Sx
set_option linter.unusedSimpArgs false
set_option linter.unusedVariables false
set_option linter.unusedSimpArgs false
set_option linter.unusedVariables false
theorem word_any (r : ByteArray) (w : World) (hs : r.size ≤ maxLen) : Calls Try.prog 19 #[.string r] w fun e w' => e = .returned (resV (wordP r)) ∧ Below w.heap.size w w' := by
  have hl := span_le wordI r.data.toList
  have hl' : spanL wordI r.data.toList ≤ r.size := by simpa using hl
  clear hl
  unfold maxLen at hs
  obtain ⟨n, hn⟩ : ∃ n, n = spanL wordI r.data.toList := ⟨_, rfl⟩
  rw [← hn] at hl'
  have HN := Lib.hid hn; clear hn
  obtain ⟨w0, hw0, hst⟩ := St.start' w
  have HW := Lib.hid hw0; clear hw0
  have HR : Hid (wordP r = if 12 < n then (noTok, 2) else (⟨1, 0, r.extract 0 n, 0⟩, 0)) := Lib.hid (by rw [wordP, ← HN.out])
  by_cases h12 : 12 < n
  all_goals
    go_enter Try.func19, Try.ntmps19
    go_wp2_with (first | ((with_reducible refine isList ?_); first | (refine wpList_alloc_st rfl hst rfl ?_; clear hst; intro ga w hst; try simp only [Act.put, List.setIfInBounds_toArray, List.set_cons_zero, List.set_cons_succ]) | (refine wpList_store_st rfl hst rfl (by rfl) ?_; clear hst; intro w hst; try simp only [Act.put, List.setIfInBounds_toArray, List.set_cons_zero, List.set_cons_succ]) | (refine wpList_load_one_st rfl hst rfl ?_; try simp only [Act.put, List.setIfInBounds_toArray, List.set_cons_zero, List.set_cons_succ]) | (refine wpList_load_agg_st rfl hst rfl ?_; try simp only [Act.put, List.setIfInBounds_toArray, List.set_cons_zero, List.set_cons_succ]) | (refine wpList_fieldAddr_blk rfl rfl ?_; simp only [Nat.zero_add]; try simp only [Act.put, List.setIfInBounds_toArray, List.set_cons_zero, List.set_cons_succ]) | (refine wpList_slice_str_hi rfl rfl ⟨by omega, by omega⟩ ?_; intro t ht; try simp only [Act.put, List.setIfInBounds_toArray, List.set_cons_zero, List.set_cons_succ]) | (refine wpList_slice_str_lo rfl rfl ⟨by omega, by omega⟩ ?_; intro t ht; try simp only [Act.put, List.setIfInBounds_toArray, List.set_cons_zero, List.set_cons_succ]) | (refine wpList_slice_str rfl rfl ⟨by omega, by omega, by omega⟩ ?_; intro t ht; try simp only [Act.put, List.setIfInBounds_toArray, List.set_cons_zero, List.set_cons_succ]) | (refine wpList_range_str rfl hst rfl ?_; clear hst; intro gi w hst; try simp only [Act.put, List.setIfInBounds_toArray, List.set_cons_zero, List.set_cons_succ]) | (refine wpList_next_some rfl hst rfl hlt ?_; clear hst; intro w hst; try simp only [Act.put, List.setIfInBounds_toArray, List.set_cons_zero, List.set_cons_succ]) | (refine wpList_next_end rfl hst rfl hlt ?_; try simp only [Act.put, List.setIfInBounds_toArray, List.set_cons_zero, List.set_cons_succ]) | (refine wpList_build1_st rfl hst rfl (by rfl) (by decide) ?_; clear hst; intro gb w hst hrd; try simp only [Act.put, List.setIfInBounds_toArray, List.set_cons_zero, List.set_cons_succ]) | (refine wpList_buildN_st rfl hst rfl (by rfl) (by decide) (by decide) ?_; clear hst; intro gb w hst hrd; (try simp only [List.cons_append, List.nil_append] at hst hrd); try simp only [Act.put, List.setIfInBounds_toArray, List.set_cons_zero, List.set_cons_succ]) | (refine wpList_append_rd rfl hst rfl hrd (by decide) (by unfold maxLen; omega) (by omega) ?_; clear hst hrd; intro v w hst; (try dsimp only at hst); try simp only [Act.put, List.setIfInBounds_toArray, List.set_cons_zero, List.set_cons_succ]) | (refine stk_store rfl ?_) | (refine stk_load rfl ?_) | (refine stk_alloc rfl ?_) | (refine stk_box rfl ?_) | (refine stk_build rfl ?_) | (refine stk_append rfl ?_) | (refine stk_index rfl ?_) | (refine stk_slice rfl ?_)) | (go_at_call 16; refine (span_any r wordI 25 _ hs flat_word (fun x w => by kernel_rfl) (fun c w => word1_any c w)).mono ?_; rintro e w1 ⟨rfl, hb⟩; have hst := hst.call hb; rw [← HN.out]))
    refine bodyPost_ret (results_cell2 rfl hst rfl) rfl ?_
    refine ⟨?_, HW.out ▸ hst.below⟩
    rw [HR.out]
    first
    | (rw [if_pos h12]; rfl)
    | (rw [if_neg h12, show t = r.extract 0 n from ht.out]; rfl)
end Go.Proofs
