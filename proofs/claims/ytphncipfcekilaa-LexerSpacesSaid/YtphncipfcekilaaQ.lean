/- The reference's Same. -/
import Derived.Test.YtphncipfcekilaaM
import Derived.Test.YtphncipfcekilaaT
namespace Go.Proofs
open Go.RowKit Lx Go.Sx
set_option linter.unusedSimpArgs false
set_option linter.unusedVariables false
def sameB (by_ : Int) : List Tok → List Tok → Bool
  | [], [] => true
  | x :: l, y :: m => decide (x.k = y.k ∧ x.a + by_ = y.a ∧ x.t = y.t ∧ x.n = y.n) && sameB by_ l m
  | _, _ => false
theorem sameB_len (by_ : Int) : ∀ (l m : List Tok), l.length ≠ m.length → sameB by_ l m = false := by
  intro l
  induction l with
  | nil => intro m h; cases m <;> simp_all [sameB]
  | cons x l ih => intro m h; cases m with
    | nil => rfl
    | cons y m => simp only [sameB, ih m (by simpa using h), Bool.and_false]
abbrev RdT (w : World) (v : Value) (l : List Tok) : Prop := Rd w.heap.size w v 4 l.length (l.flatMap Tok.cells)
theorem tok_len (x : Tok) : x.cells.length = 4 := rfl
theorem retB' {a b : Bool} (h : a = b) : Ending.returned (.bool a) = .returned (.bool b) := by rw [h]

set_option maxHeartbeats 1000000 in
theorem same_any (v1 v2 : Value) (l1 l2 : List Tok) (by_ : Int) (w : World) (hr1 : RdT w v1 l1) (hr2 : RdT w v2 l2) (hby : -1000000 ≤ by_ ∧ by_ ≤ 1000000) (ha : ∀ x ∈ l1, -1000000 ≤ x.a ∧ x.a ≤ 1000000) :
    Calls Try.prog 12 #[v1, v2, .int .i64 by_] w fun e w' => e = .returned (.bool (sameB by_ l1 l2)) ∧ Below w.heap.size w w' := by
  have hm1 := hr1.max
  have hm2 := hr2.max
  unfold maxLen at hm1 hm2
  have HA := Lib.hid ha; clear ha
  obtain ⟨hby1, hby2⟩ := hby
  obtain ⟨w0, hw0, hst⟩ := St.start' w
  subst hw0
  by_cases hlen : l1.length = l2.length
  · have hlen1 : l1.length ≤ l2.length := by omega
    have hlen2 : l2.length ≤ l1.length := by omega
    have HLEN := Lib.hid hlen; clear hlen
    go_enter Try.func12, Try.ntmps12
    go_wp2_with (first | ((with_reducible refine isList ?_); first | (refine wpList_len_rd rfl rfl (hr1.st hst) ?_; try simp only [Act.put, List.setIfInBounds_toArray, List.set_cons_zero, List.set_cons_succ]) | (refine wpList_len_rd rfl rfl (hr2.st hst) ?_; try simp only [Act.put, List.setIfInBounds_toArray, List.set_cons_zero, List.set_cons_succ]) | (refine wpList_alloc_st rfl hst rfl ?_; clear hst; intro ga w hst; try simp only [Act.put, List.setIfInBounds_toArray, List.set_cons_zero, List.set_cons_succ]) | (refine wpList_store_st rfl hst rfl (by rfl) ?_; clear hst; intro w hst; try simp only [Act.put, List.setIfInBounds_toArray, List.set_cons_zero, List.set_cons_succ]) | (refine wpList_load_one_st rfl hst rfl ?_; try simp only [Act.put, List.setIfInBounds_toArray, List.set_cons_zero, List.set_cons_succ]) | (refine wpList_load_agg_st rfl hst rfl ?_; try simp only [Act.put, List.setIfInBounds_toArray, List.set_cons_zero, List.set_cons_succ]) | (refine wpList_fieldAddr_blk rfl rfl ?_; simp only [Nat.zero_add]; try simp only [Act.put, List.setIfInBounds_toArray, List.set_cons_zero, List.set_cons_succ]) | (refine wpList_eql_int rfl rfl (fun he => ?_) (fun he => ?_) <;> first | (exfalso; omega) | (try simp only [Act.put, List.setIfInBounds_toArray, List.set_cons_zero, List.set_cons_succ])) | (refine wpList_neq_int rfl rfl (fun he => ?_) (fun he => ?_) <;> first | (exfalso; omega) | (try simp only [Act.put, List.setIfInBounds_toArray, List.set_cons_zero, List.set_cons_succ]))))
    go_loopw [7] (fun c wr => ∃ i : Nat, i ≤ l1.length ∧ c = .int .i64 i ∧ St w0 wr [] ∧ Hid (sameB by_ l1 l2 = sameB by_ (l1.drop i) (l2.drop i))) (fun c _ => l1.length - (intOf c).toNat)
    case atStart => exact ⟨0, Nat.zero_le _, rfl, hst, Lib.hid rfl⟩
    case round =>
      clear hst
      obtain ⟨i, hi, rfl, hst, hh⟩ := hrel
      by_cases hlt : i < l1.length
      · have hlt2 : i < l2.length := by omega
        obtain ⟨x, hx⟩ : ∃ x, l1[i]? = some x := ⟨_, List.getElem?_eq_getElem hlt⟩
        obtain ⟨y, hy⟩ : ∃ y, l2[i]? = some y := ⟨_, List.getElem?_eq_getElem hlt2⟩
        have hv1 := Lib.hid (flat_get Tok.cells 4 tok_len l1 i x hx)
        have hv2 := Lib.hid (flat_get Tok.cells 4 tok_len l2 i y hy)
        have hxa := HA.out x (List.mem_of_getElem? hx)
        have HD : Hid (sameB by_ (l1.drop i) (l2.drop i) = (decide (x.k = y.k ∧ x.a + by_ = y.a ∧ x.t = y.t ∧ x.n = y.n) && sameB by_ (l1.drop (i + 1)) (l2.drop (i + 1)))) := Lib.hid (by
          rw [List.getElem?_eq_some_iff] at hx hy
          obtain ⟨_, rfl⟩ := hx
          obtain ⟨_, rfl⟩ := hy
          rw [List.drop_eq_getElem_cons hlt, List.drop_eq_getElem_cons hlt2]
          rfl)
        clear hx hy
        obtain ⟨hxa1, hxa2⟩ := hxa
        go_wp2_with (first | ((with_reducible refine isList ?_); first | (refine wpList_len_rd rfl rfl (hr1.st hst) ?_; try simp only [Act.put, List.setIfInBounds_toArray, List.set_cons_zero, List.set_cons_succ]) | (refine wpList_val (g_indexAddr rfl (hr1.st hst) (by omega)) rfl ?_; try simp only [Act.put, List.setIfInBounds_toArray, List.set_cons_zero, List.set_cons_succ]) | (refine wpList_val (g_load_elem rfl (hr1.st hst) hv1.out rfl) rfl ?_; dsimp only [Tok.cells]; try simp only [Act.put, List.setIfInBounds_toArray, List.set_cons_zero, List.set_cons_succ]) | (refine wpList_alloc_st rfl hst rfl ?_; clear hst; intro ga w hst; try simp only [Act.put, List.setIfInBounds_toArray, List.set_cons_zero, List.set_cons_succ]) | (refine wpList_store_st rfl hst rfl (by rfl) ?_; clear hst; intro w hst; try simp only [Act.put, List.setIfInBounds_toArray, List.set_cons_zero, List.set_cons_succ]) | (refine wpList_load_one_st rfl hst rfl ?_; try simp only [Act.put, List.setIfInBounds_toArray, List.set_cons_zero, List.set_cons_succ]) | (refine wpList_load_agg_st rfl hst rfl ?_; try simp only [Act.put, List.setIfInBounds_toArray, List.set_cons_zero, List.set_cons_succ]) | (refine wpList_fieldAddr_blk rfl rfl ?_; simp only [Nat.zero_add]; try simp only [Act.put, List.setIfInBounds_toArray, List.set_cons_zero, List.set_cons_succ]) | (refine stk_store rfl ?_) | (refine stk_load rfl ?_) | (refine stk_alloc rfl ?_) | (refine stk_box rfl ?_) | (refine stk_build rfl ?_) | (refine stk_append rfl ?_) | (refine stk_index rfl ?_) | (refine stk_slice rfl ?_)) | ((with_reducible refine isDraw ?_); refine wp_region_st (by kernel_rfl) hst ?_; clear hst) | ((with_reducible refine isQuiet ?_); first | (refine q_move rfl rfl ?_; try simp only [Act.put, List.setIfInBounds_toArray, List.set_cons_zero, List.set_cons_succ]) | (refine q_load_agg rfl rfl ?_; try simp only [Act.put, List.setIfInBounds_toArray, List.set_cons_zero, List.set_cons_succ]) | (refine q_load_one rfl rfl ?_; try simp only [Act.put, List.setIfInBounds_toArray, List.set_cons_zero, List.set_cons_succ]) | (refine q_eql_agg rfl rfl ?_; try simp only [Act.put, List.setIfInBounds_toArray, List.set_cons_zero, List.set_cons_succ]) | (refine q_neq_agg rfl rfl ?_; try simp only [Act.put, List.setIfInBounds_toArray, List.set_cons_zero, List.set_cons_succ]) | (refine q_assign rfl rfl ?_; try simp only [Act.put, List.setIfInBounds_toArray, List.set_cons_zero, List.set_cons_succ]) | (refine q_fieldAddr_blk rfl rfl ?_; simp only [Nat.zero_add]; try simp only [Act.put, List.setIfInBounds_toArray, List.set_cons_zero, List.set_cons_succ]) | (refine q_indexAddr rfl hr2 (by omega) rfl ?_; try simp only [Act.put, List.setIfInBounds_toArray, List.set_cons_zero, List.set_cons_succ]) | (refine q_load_elem rfl hr2 hv2.out rfl rfl ?_; dsimp only [Tok.cells]; try simp only [Act.put, List.setIfInBounds_toArray, List.set_cons_zero, List.set_cons_succ]) | (refine q_nil ?_; intro w hst)))
        · go_ret
          refine ⟨retB' ?_, hst.below⟩
          have hc : (!decide (x.k = y.k ∧ x.a + by_ = y.a ∧ x.t = y.t ∧ x.n = y.n)) = true := by assumption
          rw [Bool.not_eq_true'] at hc
          rw [hh.out, HD.out, hc, Bool.false_and]
        · go_roundw
          case rel =>
            have hc : (!decide (x.k = y.k ∧ x.a + by_ = y.a ∧ x.t = y.t ∧ x.n = y.n)) = false := by assumption
            rw [Bool.not_eq_false'] at hc
            exact ⟨i + 1, by omega, by go_num, hst.nil, Lib.hid (by rw [hh.out, HD.out, hc, Bool.true_and])⟩
          case measure => simp [intOf]; omega
      · go_wp2_with (first | ((with_reducible refine isList ?_); first | (refine wpList_len_rd rfl rfl (hr1.st hst) ?_; try simp only [Act.put, List.setIfInBounds_toArray, List.set_cons_zero, List.set_cons_succ]) | (refine wpList_alloc_st rfl hst rfl ?_; clear hst; intro ga w hst; try simp only [Act.put, List.setIfInBounds_toArray, List.set_cons_zero, List.set_cons_succ]) | (refine wpList_store_st rfl hst rfl (by rfl) ?_; clear hst; intro w hst; try simp only [Act.put, List.setIfInBounds_toArray, List.set_cons_zero, List.set_cons_succ]) | (refine wpList_load_one_st rfl hst rfl ?_; try simp only [Act.put, List.setIfInBounds_toArray, List.set_cons_zero, List.set_cons_succ]) | (refine wpList_load_agg_st rfl hst rfl ?_; try simp only [Act.put, List.setIfInBounds_toArray, List.set_cons_zero, List.set_cons_succ]) | (refine wpList_fieldAddr_blk rfl rfl ?_; simp only [Nat.zero_add]; try simp only [Act.put, List.setIfInBounds_toArray, List.set_cons_zero, List.set_cons_succ]) | (refine stk_store rfl ?_) | (refine stk_load rfl ?_) | (refine stk_alloc rfl ?_) | (refine stk_box rfl ?_) | (refine stk_build rfl ?_) | (refine stk_append rfl ?_) | (refine stk_index rfl ?_) | (refine stk_slice rfl ?_)))
        go_ret
        refine ⟨retB' ?_, hst.below⟩
        rw [hh.out, List.drop_of_length_le (by omega), List.drop_of_length_le (by omega)]
        rfl
  · have hne : ¬ ((l1.length : Int) = (l2.length : Int)) := by omega
    have HL := Lib.hid (sameB_len by_ l1 l2 hlen); clear hlen
    go_enter Try.func12, Try.ntmps12
    go_wp2_with (first | ((with_reducible refine isList ?_); first | (refine wpList_len_rd rfl rfl (hr1.st hst) ?_; try simp only [Act.put, List.setIfInBounds_toArray, List.set_cons_zero, List.set_cons_succ]) | (refine wpList_len_rd rfl rfl (hr2.st hst) ?_; try simp only [Act.put, List.setIfInBounds_toArray, List.set_cons_zero, List.set_cons_succ]) | (refine wpList_alloc_st rfl hst rfl ?_; clear hst; intro ga w hst; try simp only [Act.put, List.setIfInBounds_toArray, List.set_cons_zero, List.set_cons_succ]) | (refine wpList_store_st rfl hst rfl (by rfl) ?_; clear hst; intro w hst; try simp only [Act.put, List.setIfInBounds_toArray, List.set_cons_zero, List.set_cons_succ]) | (refine wpList_load_one_st rfl hst rfl ?_; try simp only [Act.put, List.setIfInBounds_toArray, List.set_cons_zero, List.set_cons_succ]) | (refine wpList_load_agg_st rfl hst rfl ?_; try simp only [Act.put, List.setIfInBounds_toArray, List.set_cons_zero, List.set_cons_succ]) | (refine wpList_fieldAddr_blk rfl rfl ?_; simp only [Nat.zero_add]; try simp only [Act.put, List.setIfInBounds_toArray, List.set_cons_zero, List.set_cons_succ]) | (refine wpList_eql_int rfl rfl (fun he => ?_) (fun he => ?_) <;> first | (exfalso; omega) | (try simp only [Act.put, List.setIfInBounds_toArray, List.set_cons_zero, List.set_cons_succ])) | (refine wpList_neq_int rfl rfl (fun he => ?_) (fun he => ?_) <;> first | (exfalso; omega) | (try simp only [Act.put, List.setIfInBounds_toArray, List.set_cons_zero, List.set_cons_succ]))))
    go_ret
    exact ⟨retB' HL.out.symm, hst.below⟩
end Go.Proofs
