/- symbol. -/
import Derived.Test.YtphncipfcekilaaD
import Derived.Test.YtphncipfcekilaaS
namespace Go.Proofs
open Go.RowKit Lx Go.Sx
set_option linter.unusedSimpArgs false
set_option linter.unusedVariables false
theorem symbolP_one {r : ByteArray} (h : symN r.data.toList = 1) : symbolP r = (⟨3, 0, r.extract 0 1, 0⟩, 0) := by rw [symbolP, h]; rfl
theorem symbolP_none {r : ByteArray} (h : symN r.data.toList = 0) : symbolP r = (noTok, 11) := by rw [symbolP, h]; rfl
theorem symbolP_two {r t : ByteArray} (h1 : 1 < r.size) (ht : t = r.extract 0 2) (hm : t.data.toList ∈ sym2) : symbolP r = (⟨3, 0, r.extract 0 2, 0⟩, 0) := by
  rw [symbolP, symN_two h1 ht hm]; rfl
set_option maxHeartbeats 4000000 in
theorem symbol_any (r : ByteArray) (w : World) (hs : r.size ≤ maxLen) (hn : 0 < r.size) : Calls Try.prog 22 #[.string r] w fun e w' => e = .returned (resV (symbolP r)) ∧ Below w.heap.size w w' := by
  unfold maxLen at hs
  obtain ⟨w0, hw0, hst⟩ := St.start' w
  have HW := Lib.hid hw0; clear hw0
  go_enter Try.func22, Try.ntmps22
  go_wp2_with (first | ((with_reducible refine isList ?_); first | (refine wpList_alloc_st rfl hst rfl ?_; clear hst; intro ga w hst; try simp only [Act.put, List.setIfInBounds_toArray, List.set_cons_zero, List.set_cons_succ]) | (refine wpList_store_st rfl hst rfl (by rfl) ?_; clear hst; intro w hst; try simp only [Act.put, List.setIfInBounds_toArray, List.set_cons_zero, List.set_cons_succ]) | (refine wpList_load_one_st rfl hst rfl ?_; try simp only [Act.put, List.setIfInBounds_toArray, List.set_cons_zero, List.set_cons_succ]) | (refine wpList_load_agg_st rfl hst rfl ?_; try simp only [Act.put, List.setIfInBounds_toArray, List.set_cons_zero, List.set_cons_succ]) | (refine wpList_fieldAddr_blk rfl rfl ?_; simp only [Nat.zero_add]; try simp only [Act.put, List.setIfInBounds_toArray, List.set_cons_zero, List.set_cons_succ]) | (refine wpList_build1_st rfl hst rfl (by rfl) (by decide) ?_; clear hst; intro gb w hst hrd; try simp only [Act.put, List.setIfInBounds_toArray, List.set_cons_zero, List.set_cons_succ]) | (refine wpList_buildN_st rfl hst rfl (by rfl) (by decide) (by decide) ?_; clear hst; intro gb w hst hrd; (try simp only [List.cons_append, List.nil_append] at hst hrd); try simp only [Act.put, List.setIfInBounds_toArray, List.set_cons_zero, List.set_cons_succ]) | (refine wpList_append_rd rfl hst rfl hrd (by decide) (by unfold maxLen; omega) (by omega) ?_; clear hst hrd; intro v w hst; (try dsimp only at hst); try simp only [Act.put, List.setIfInBounds_toArray, List.set_cons_zero, List.set_cons_succ]) | (refine wpList_eql_str rfl rfl (fun hs1 => ?_) (fun hs1 => ?_) <;> try simp only [Act.put, List.setIfInBounds_toArray, List.set_cons_zero, List.set_cons_succ]) | (refine wpList_neq_str rfl rfl (fun hs1 => ?_) (fun hs1 => ?_) <;> try simp only [Act.put, List.setIfInBounds_toArray, List.set_cons_zero, List.set_cons_succ])) | (go_at_call 26; refine (Try.strings_IndexByte _ _ _).mono ?_; rintro e w1 ⟨rfl, rfl⟩))
  all_goals
    refine bodyPost_ret (results_cell2 rfl hst rfl) rfl ?_
    refine ⟨?_, HW.out ▸ hst.below⟩
    first
    | (have hm : (r.extract 0 2).data.toList ∈ sym2 := by rw [hs1.out]; decide
       rw [symbolP_two (by omega) rfl hm]
       rfl)
    | (have n1 : Hid (r.extract 0 2 ≠ ⟨#[124, 124]⟩) := by assumption
       have n2 : Hid (r.extract 0 2 ≠ ⟨#[38, 38]⟩) := by assumption
       have n3 : Hid (r.extract 0 2 ≠ ⟨#[60, 61]⟩) := by assumption
       have n4 : Hid (r.extract 0 2 ≠ ⟨#[62, 61]⟩) := by assumption
       have n5 : Hid (r.extract 0 2 ≠ ⟨#[61, 61]⟩) := by assumption
       have hno := sym2_not (r := r) rfl (by
            intro l hl
            simp only [sym2, List.mem_cons, List.not_mem_nil, or_false] at hl
            rcases hl with rfl | rfl | rfl | rfl | rfl | rfl
            exact n1.out
            exact n2.out
            exact n3.out
            exact n4.out
            exact n5.out
            exact hs1.out)
       have h1 := symN_one hn hno
       first
       | (have hq : (0 : Int) ≤ Lib.indexByte sym1 r[0] := by assumption
          rw [if_pos hq] at h1; rw [symbolP_one h1]; rfl)
       | (have hq : Lib.indexByte sym1 r[0] < (0 : Int) := by assumption
          rw [if_neg (Int.not_le.2 hq)] at h1; rw [symbolP_none h1]; rfl))
    | (have hno : ¬ (1 < r.data.toList.length ∧ r.data.toList.take 2 ∈ sym2) := fun h => by
         have h' := h.1
         simp only [Array.length_toList, ByteArray.size_data] at h'
         omega
       have h1 := symN_one hn hno
       first
       | (have hq : (0 : Int) ≤ Lib.indexByte sym1 r[0] := by assumption
          rw [if_pos hq] at h1; rw [symbolP_one h1]; rfl)
       | (have hq : Lib.indexByte sym1 r[0] < (0 : Int) := by assumption
          rw [if_neg (Int.not_le.2 hq)] at h1; rw [symbolP_none h1]; rfl))
end Go.Proofs
