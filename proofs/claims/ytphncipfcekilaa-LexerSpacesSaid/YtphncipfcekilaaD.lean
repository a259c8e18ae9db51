/- number, symbol. -/
import Derived.Test.YtphncipfcekilaaC
import Derived.Test.YtphncipfcekilaaS
import Derived.Test.YtphncipfcekilaaShelf
namespace Go.Proofs
open Go.RowKit Lx Go.Sx
set_option linter.unusedSimpArgs false
set_option linter.unusedVariables false

def digits (l : List UInt8) : Bool := l.all fun b => digitI b.toNat
theorem valI_ge (l : List UInt8) : ∀ n, 0 ≤ n → digits l = true → n ≤ valI n l := by
  induction l with
  | nil => intro n h _; exact Int.le_refl _
  | cons b l ih =>
    intro n h hd
    simp only [digits, List.all_cons, Bool.and_eq_true] at hd
    have hb : 48 ≤ (b.toNat : Int) ∧ (b.toNat : Int) ≤ 57 := by simpa [digitI] using hd.1
    have := ih (10 * n + ((b.toNat : Int) - 48)) (by omega) hd.2
    simp only [valI, List.foldl_cons] at this ⊢
    omega

theorem valI_append (a b : List UInt8) (n : Int) : valI n (a ++ b) = valI (valI n a) b := by simp [valI, List.foldl_append]
theorem valI_snoc (t : ByteArray) (p : Nat) (h : p < t.size) : valI 0 (t.data.toList.take (p + 1)) = 10 * valI 0 (t.data.toList.take p) + (((t.get! p).toNat : Int) - 48) := by
  have hg := get_list t p h
  rw [List.take_add_one, hg, valI_append]
  simp [valI]
theorem valI_take (t : ByteArray) (hd : digits t.data.toList = true) (p : Nat) : 0 ≤ valI 0 (t.data.toList.take p) ∧ valI 0 (t.data.toList.take p) ≤ valI 0 t.data.toList := by
  have e : t.data.toList = t.data.toList.take p ++ t.data.toList.drop p := (List.take_append_drop p _).symm
  have h1 : digits (t.data.toList.take p) = true := by
    simp only [digits, List.all_eq_true] at hd ⊢
    intro b hb
    exact hd b (List.mem_of_mem_take hb)
  have h2 : digits (t.data.toList.drop p) = true := by
    simp only [digits, List.all_eq_true] at hd ⊢
    intro b hb
    exact hd b (List.mem_of_mem_drop hb)
  have g1 := valI_ge _ 0 (Int.le_refl _) h1
  refine ⟨g1, ?_⟩
  have := valI_ge _ _ g1 h2
  rw [← valI_append, ← e] at this
  exact this
theorem digit_at (t : ByteArray) (hd : digits t.data.toList = true) (p : Nat) (h : p < t.size) : 48 ≤ (t.get! p).toNat ∧ (t.get! p).toNat ≤ 57 := by
  have hg := get_list t p h
  simp only [digits, List.all_eq_true] at hd
  have := hd _ (List.mem_of_getElem? hg)
  simp [digitI] at this
  omega
theorem digits_span (r : ByteArray) : digits (r.extract 0 (spanL digitI r.data.toList)).data.toList = true := by
  rw [extract_list, List.drop_zero, Nat.sub_zero, spanL, takeWhile_take]
  simp [digits]

theorem number_any (r : ByteArray) (w : World) (hs : r.size ≤ maxLen) : Calls Try.prog 21 #[.string r] w fun e w' => e = .returned (resV (numberP (r.extract 0 (spanL digitI r.data.toList)))) ∧ Below w.heap.size w w' := by
  have hl := span_le digitI r.data.toList
  have hl' : spanL digitI r.data.toList ≤ r.size := by simpa using hl
  have HD := Lib.hid (digits_span r)
  clear hl
  unfold maxLen at hs
  obtain ⟨n, hn⟩ : ∃ n, n = spanL digitI r.data.toList := ⟨_, rfl⟩
  rw [← hn] at hl' HD ⊢
  have HN := Lib.hid hn; clear hn
  obtain ⟨R, hR⟩ : ∃ R, R = numberP (r.extract 0 n) := ⟨_, rfl⟩
  rw [← hR]
  have HR := Lib.hid hR; clear hR
  obtain ⟨w0, hw0, hst⟩ := St.start' w
  have HW := Lib.hid hw0; clear hw0
  go_enter Try.func21, Try.ntmps21
  go_wp2_with (first | ((with_reducible refine isList ?_); first | (refine wpList_alloc_st rfl hst rfl ?_; clear hst; intro ga w hst; try simp only [Act.put, List.setIfInBounds_toArray, List.set_cons_zero, List.set_cons_succ]) | (refine wpList_store_st rfl hst rfl (by rfl) ?_; clear hst; intro w hst; try simp only [Act.put, List.setIfInBounds_toArray, List.set_cons_zero, List.set_cons_succ]) | (refine wpList_load_one_st rfl hst rfl ?_; try simp only [Act.put, List.setIfInBounds_toArray, List.set_cons_zero, List.set_cons_succ]) | (refine wpList_load_agg_st rfl hst rfl ?_; try simp only [Act.put, List.setIfInBounds_toArray, List.set_cons_zero, List.set_cons_succ]) | (refine wpList_fieldAddr_blk rfl rfl ?_; simp only [Nat.zero_add]; try simp only [Act.put, List.setIfInBounds_toArray, List.set_cons_zero, List.set_cons_succ]) | (refine wpList_slice_str_hi rfl rfl ⟨by omega, by omega⟩ ?_; intro t ht; try simp only [Act.put, List.setIfInBounds_toArray, List.set_cons_zero, List.set_cons_succ]) | (refine wpList_slice_str_lo rfl rfl ⟨by omega, by omega⟩ ?_; intro t ht; try simp only [Act.put, List.setIfInBounds_toArray, List.set_cons_zero, List.set_cons_succ]) | (refine wpList_slice_str rfl rfl ⟨by omega, by omega, by omega⟩ ?_; intro t ht; try simp only [Act.put, List.setIfInBounds_toArray, List.set_cons_zero, List.set_cons_succ]) | (refine wpList_range_str rfl hst rfl ?_; clear hst; intro gi w hst; try simp only [Act.put, List.setIfInBounds_toArray, List.set_cons_zero, List.set_cons_succ]) | (refine wpList_next_some rfl hst rfl hlt ?_; clear hst; intro w hst; try simp only [Act.put, List.setIfInBounds_toArray, List.set_cons_zero, List.set_cons_succ]) | (refine wpList_next_end rfl hst rfl hlt ?_; try simp only [Act.put, List.setIfInBounds_toArray, List.set_cons_zero, List.set_cons_succ]) | (refine wpList_build1_st rfl hst rfl (by rfl) (by decide) ?_; clear hst; intro gb w hst hrd; try simp only [Act.put, List.setIfInBounds_toArray, List.set_cons_zero, List.set_cons_succ]) | (refine wpList_buildN_st rfl hst rfl (by rfl) (by decide) (by decide) ?_; clear hst; intro gb w hst hrd; (try simp only [List.cons_append, List.nil_append] at hst hrd); try simp only [Act.put, List.setIfInBounds_toArray, List.set_cons_zero, List.set_cons_succ]) | (refine wpList_append_rd rfl hst rfl hrd (by decide) (by unfold maxLen; omega) (by omega) ?_; clear hst hrd; intro v w hst; (try dsimp only at hst); try simp only [Act.put, List.setIfInBounds_toArray, List.set_cons_zero, List.set_cons_succ]) | (refine stk_store rfl ?_) | (refine stk_load rfl ?_) | (refine stk_alloc rfl ?_) | (refine stk_box rfl ?_) | (refine stk_build rfl ?_) | (refine stk_append rfl ?_) | (refine stk_index rfl ?_) | (refine stk_slice rfl ?_)) | (go_at_call 16; refine (span_any r digitI 20 _ hs flat_digit (fun x w => by kernel_rfl) (fun c w => digit_any c w)).mono ?_; rintro e w1 ⟨rfl, hb⟩; have hst := hst.call hb; rw [← HN.out]))
  all_goals
    have hts : t.size = n := by rw [ht.out]; simp; omega
    have hsz : t.size ≤ 2 ^ 63 - 1 := by omega
    rw [Int.toNat_natCast] at ht
    rw [← ht.out] at HR HD
    clear hts ht HN
  · refine bodyPost_ret (results_cell2 rfl hst rfl) rfl ?_
    refine ⟨?_, HW.out ▸ hst.below⟩
    rename_i h1 h2 h3
    have h48 : t.data.toList[0]? = some 48 := by
      have e := get_at t 0 h2
      simp only [Nat.add_zero] at e
      rw [get_list t 0 h2, e]
      simp only [beq_iff_eq] at h3
      exact congrArg some (UInt8.toNat_inj.1 (by simp; omega))
    rw [HR.out, numberP, if_pos ⟨by omega, h48⟩]
    try rfl
  all_goals
    have HF : Hid (¬ (1 < t.size ∧ t.data.toList[0]? = some 48)) := by
      refine Lib.hid ?_
      rintro ⟨h1, h2⟩
      first
      | omega
      | (have h3 : 0 < t.size := by omega
         have hg := get_list t 0 h3
         have e := get_at t 0 h3
         simp only [Nat.add_zero] at e
         rw [hg, e] at h2
         injection h2 with h2
         simp_all)
    go_loopw [5] (fun c wr => ∃ p, p ≤ t.size ∧ c = .int .i64 (valI 0 (t.data.toList.take p)) ∧ valI 0 (t.data.toList.take p) ≤ 2147483647 ∧ St w0 wr [.blk gi (.stringIter t p), .blk ga (.cells #[.int .i64 0, .int .i64 0, .string ⟨#[]⟩, .int .i64 0] 31)]) (fun _ wr => t.size - wr.iterPos gi)
    case atStart => exact ⟨0, Nat.zero_le _, rfl, by simp [valI], hst⟩
    case round =>
      clear hst
      obtain ⟨p, hp, rfl, hmax, hst⟩ := hrel
      have hv0 := (valI_take _ HD.out p).1
      have HP := Lib.hid (hst.iterPos (g := gi))
      by_cases hlt : p < t.size
      · have hb := digit_at _ HD.out p hlt
        have hdec : Utf8.decode t p = ((t.get! p).toNat, 1) := by
          have e := get_at t p hlt
          simp only [Nat.add_zero] at e
          rw [decode_ascii _ p hlt (by rw [← e]; omega), ← e]
        have HS := Lib.hid (valI_snoc _ p hlt)
        have hle := (valI_take _ HD.out (p + 1)).2
        go_wp2_with (first | ((with_reducible refine isList ?_); first | (refine wpList_alloc_st rfl hst rfl ?_; clear hst; intro ga w hst; try simp only [Act.put, List.setIfInBounds_toArray, List.set_cons_zero, List.set_cons_succ]) | (refine wpList_store_st rfl hst rfl (by rfl) ?_; clear hst; intro w hst; try simp only [Act.put, List.setIfInBounds_toArray, List.set_cons_zero, List.set_cons_succ]) | (refine wpList_load_one_st rfl hst rfl ?_; try simp only [Act.put, List.setIfInBounds_toArray, List.set_cons_zero, List.set_cons_succ]) | (refine wpList_load_agg_st rfl hst rfl ?_; try simp only [Act.put, List.setIfInBounds_toArray, List.set_cons_zero, List.set_cons_succ]) | (refine wpList_fieldAddr_blk rfl rfl ?_; simp only [Nat.zero_add]; try simp only [Act.put, List.setIfInBounds_toArray, List.set_cons_zero, List.set_cons_succ]) | (refine wpList_slice_str_hi rfl rfl ⟨by omega, by omega⟩ ?_; intro t ht; try simp only [Act.put, List.setIfInBounds_toArray, List.set_cons_zero, List.set_cons_succ]) | (refine wpList_slice_str_lo rfl rfl ⟨by omega, by omega⟩ ?_; intro t ht; try simp only [Act.put, List.setIfInBounds_toArray, List.set_cons_zero, List.set_cons_succ]) | (refine wpList_slice_str rfl rfl ⟨by omega, by omega, by omega⟩ ?_; intro t ht; try simp only [Act.put, List.setIfInBounds_toArray, List.set_cons_zero, List.set_cons_succ]) | (refine wpList_range_str rfl hst rfl ?_; clear hst; intro gi w hst; try simp only [Act.put, List.setIfInBounds_toArray, List.set_cons_zero, List.set_cons_succ]) | (refine wpList_next_some rfl hst rfl hlt ?_; clear hst; intro w hst; try simp only [Act.put, List.setIfInBounds_toArray, List.set_cons_zero, List.set_cons_succ]) | (refine wpList_next_end rfl hst rfl hlt ?_; try simp only [Act.put, List.setIfInBounds_toArray, List.set_cons_zero, List.set_cons_succ]) | (refine wpList_build1_st rfl hst rfl (by rfl) (by decide) ?_; clear hst; intro gb w hst hrd; try simp only [Act.put, List.setIfInBounds_toArray, List.set_cons_zero, List.set_cons_succ]) | (refine wpList_buildN_st rfl hst rfl (by rfl) (by decide) (by decide) ?_; clear hst; intro gb w hst hrd; (try simp only [List.cons_append, List.nil_append] at hst hrd); try simp only [Act.put, List.setIfInBounds_toArray, List.set_cons_zero, List.set_cons_succ]) | (refine wpList_append_rd rfl hst rfl hrd (by decide) (by unfold maxLen; omega) (by omega) ?_; clear hst hrd; intro v w hst; (try dsimp only at hst); try simp only [Act.put, List.setIfInBounds_toArray, List.set_cons_zero, List.set_cons_succ]) | (refine stk_store rfl ?_) | (refine stk_load rfl ?_) | (refine stk_alloc rfl ?_) | (refine stk_box rfl ?_) | (refine stk_build rfl ?_) | (refine stk_append rfl ?_) | (refine stk_index rfl ?_) | (refine stk_slice rfl ?_)))
        · refine bodyPost_ret (results_cell2 rfl hst rfl) rfl ?_
          refine ⟨?_, HW.out ▸ hst.below⟩
          rw [HS.out] at hle
          rw [HR.out, numberP, if_neg HF.out, if_pos (by omega)]
          rfl
        · go_roundw
          case rel => exact ⟨p + 1, by omega, by rw [HS.out], by rw [HS.out]; omega, by rw [hdec] at hst; exact hst⟩
          case measure =>
            rw [hst.iterPos (g := gi), HP.out, hdec]; omega
      · go_wp2_with (first | ((with_reducible refine isList ?_); first | (refine wpList_alloc_st rfl hst rfl ?_; clear hst; intro ga w hst; try simp only [Act.put, List.setIfInBounds_toArray, List.set_cons_zero, List.set_cons_succ]) | (refine wpList_store_st rfl hst rfl (by rfl) ?_; clear hst; intro w hst; try simp only [Act.put, List.setIfInBounds_toArray, List.set_cons_zero, List.set_cons_succ]) | (refine wpList_load_one_st rfl hst rfl ?_; try simp only [Act.put, List.setIfInBounds_toArray, List.set_cons_zero, List.set_cons_succ]) | (refine wpList_load_agg_st rfl hst rfl ?_; try simp only [Act.put, List.setIfInBounds_toArray, List.set_cons_zero, List.set_cons_succ]) | (refine wpList_fieldAddr_blk rfl rfl ?_; simp only [Nat.zero_add]; try simp only [Act.put, List.setIfInBounds_toArray, List.set_cons_zero, List.set_cons_succ]) | (refine wpList_slice_str_hi rfl rfl ⟨by omega, by omega⟩ ?_; intro t ht; try simp only [Act.put, List.setIfInBounds_toArray, List.set_cons_zero, List.set_cons_succ]) | (refine wpList_slice_str_lo rfl rfl ⟨by omega, by omega⟩ ?_; intro t ht; try simp only [Act.put, List.setIfInBounds_toArray, List.set_cons_zero, List.set_cons_succ]) | (refine wpList_slice_str rfl rfl ⟨by omega, by omega, by omega⟩ ?_; intro t ht; try simp only [Act.put, List.setIfInBounds_toArray, List.set_cons_zero, List.set_cons_succ]) | (refine wpList_range_str rfl hst rfl ?_; clear hst; intro gi w hst; try simp only [Act.put, List.setIfInBounds_toArray, List.set_cons_zero, List.set_cons_succ]) | (refine wpList_next_some rfl hst rfl hlt ?_; clear hst; intro w hst; try simp only [Act.put, List.setIfInBounds_toArray, List.set_cons_zero, List.set_cons_succ]) | (refine wpList_next_end rfl hst rfl hlt ?_; try simp only [Act.put, List.setIfInBounds_toArray, List.set_cons_zero, List.set_cons_succ]) | (refine wpList_build1_st rfl hst rfl (by rfl) (by decide) ?_; clear hst; intro gb w hst hrd; try simp only [Act.put, List.setIfInBounds_toArray, List.set_cons_zero, List.set_cons_succ]) | (refine wpList_buildN_st rfl hst rfl (by rfl) (by decide) (by decide) ?_; clear hst; intro gb w hst hrd; (try simp only [List.cons_append, List.nil_append] at hst hrd); try simp only [Act.put, List.setIfInBounds_toArray, List.set_cons_zero, List.set_cons_succ]) | (refine wpList_append_rd rfl hst rfl hrd (by decide) (by unfold maxLen; omega) (by omega) ?_; clear hst hrd; intro v w hst; (try dsimp only at hst); try simp only [Act.put, List.setIfInBounds_toArray, List.set_cons_zero, List.set_cons_succ]) | (refine stk_store rfl ?_) | (refine stk_load rfl ?_) | (refine stk_alloc rfl ?_) | (refine stk_box rfl ?_) | (refine stk_build rfl ?_) | (refine stk_append rfl ?_) | (refine stk_index rfl ?_) | (refine stk_slice rfl ?_)))
        refine bodyPost_ret (results_cell2 rfl hst rfl) rfl ?_
        refine ⟨?_, HW.out ▸ hst.below⟩
        have hall : t.data.toList.take p = t.data.toList := List.take_of_length_le (by simp; omega)
        rw [hall] at hmax ⊢
        rw [HR.out, numberP, if_neg HF.out, if_neg (by omega)]
        rfl
end Go.Proofs
