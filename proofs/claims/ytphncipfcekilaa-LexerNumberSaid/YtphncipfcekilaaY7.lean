/- LexerNumber, walked. -/
import Derived.Test.YtphncipfcekilaaW
import Derived.Test.YtphncipfcekilaaU
import Derived.Test.YtphncipfcekilaaD1
namespace Go.Proofs
open Go.RowKit Lx Go.Sx
set_option linter.unusedSimpArgs false
set_option linter.unusedVariables false
theorem span_all' (g : Int → Bool) (l : List UInt8) (h : ∀ c ∈ l, g c.toNat = true) : spanL g l = l.length := by
  induction l with
  | nil => rfl
  | cons b l ih =>
    have e2 : spanL g (b :: l) = spanL g l + 1 := by simp [spanL, h b (.head _)]
    rw [e2, ih (fun c hc => h c (.tail _ hc)), List.length_cons]
theorem dec_dig {b : UInt8} (h : 48 ≤ b.toNat ∧ b.toNat ≤ 57) : letterI b.toNat = false ∧ digitI b.toNat = true ∧ whiteI b.toNat = false := by
  refine ⟨?_, ?_, ?_⟩
  · simp only [letterI, Bool.or_eq_false_iff, decide_eq_false_iff_not]; omega
  · simp only [digitI, decide_eq_true_eq]; omega
  · simp only [whiteI, decide_eq_false_iff_not]; omega
theorem tokL_dec {n : Nat} {l : List UInt8} (h : DecP n l) : tokL l = if (n : Int) > 2147483647 then (noTok, 5) else (⟨2, 0, mkB l, n⟩, 0) := by
  obtain ⟨h0, h1, h2, h3, h4⟩ := h
  cases l with
  | nil => exact absurd rfl h0
  | cons b l =>
    have hb := h1 b (.head _)
    have hl : letterI ((b :: l).headD 0).toNat = false := (dec_dig hb).1
    have hd : digitI ((b :: l).headD 0).toNat = true := (dec_dig hb).2.1
    have hs : spanL digitI (b :: l) = (b :: l).length := span_all' _ _ (fun c hc => (dec_dig (h1 c hc)).2.1)
    unfold tokL numL
    rw [hl, hd, hs, List.take_length, h2]
    simp only [Bool.false_eq_true, if_false, if_true]
    rw [if_neg]
    rintro ⟨hx, hy⟩
    exact h3 hx (by simpa using hy)
theorem tokR_dec {n : Nat} {l : List UInt8} (h : DecP n l) : TokensR (⟨#[32]⟩ ++ mkB l) (if (n : Int) > 2147483647 then ([], 1, 5) else ([⟨2, 1, mkB l, n⟩, ⟨0, 1 + (l.length : Int), ⟨#[]⟩, 0⟩], 0, 0)) := by
  have hlen := h.2.2.2.2
  have hpos : 0 < l.length := List.length_pos_iff.2 h.1
  have hz : (⟨#[32]⟩ ++ mkB l : ByteArray).size = 1 + l.length := by rw [ByteArray.size_append, mkB_size]; rfl
  have hdl : (⟨#[32]⟩ ++ mkB l : ByteArray).data.toList = 32 :: l := by simp [mkB]
  have ht : tokP (⟨#[32]⟩ ++ mkB l) 1 = tokL l := by rw [tokP_L (by omega), hdl]; rfl
  have g1 : (⟨#[32]⟩ ++ mkB l : ByteArray).get! 1 = l.headD 0 := by rw [get_hd (by omega), hdl]; rfl
  have hb : 48 ≤ (l.headD 0).toNat ∧ (l.headD 0).toNat ≤ 57 := by
    cases l with
    | nil => simp at hpos
    | cons b l => exact h.2.1 b (.head _)
  have hw : whiteI ((⟨#[32]⟩ ++ mkB l : ByteArray).get! 1).toNat = false := by rw [g1]; exact (dec_dig hb).2.2
  have h35 : ((⟨#[32]⟩ ++ mkB l : ByteArray).get! 1).toNat ≠ 35 := by rw [g1]; omega
  have h0 : whiteI ((⟨#[32]⟩ ++ mkB l : ByteArray).get! 0).toNat = true := by rw [get_hd (by omega), hdl]; rfl
  rw [tokL_dec h] at ht
  refine .inr ⟨by omega, .white (by omega) h0 ?_⟩
  by_cases hn : (n : Int) > 2147483647
  · rw [if_pos hn] at ht ⊢
    exact .err (by omega) hw h35 ht (by decide)
  · rw [if_neg hn] at ht ⊢
    refine .tok (by omega) hw h35 ht ?_
    have h5 := Lex.fin (s := ⟨#[32]⟩ ++ mkB l) (p := 0 + 1 + (mkB l).size) (acc := [⟨2, 1, mkB l, n⟩]) (by rw [hz, mkB_size]; omega)
    rw [hz, Int.natCast_add] at h5
    exact h5

set_option maxRecDepth 100000 in
set_option maxHeartbeats 4000000 in
theorem law_number (a : Int) (w : World) (ha : (Lit.int .i64 a).wf = true) : Calls Try.prog 9 #[.int .i64 a] w fun e w' => e = .returned (.bool true) ∧ Below w.heap.size w w' := by
  have hb : -9223372036854775808 ≤ a ∧ a ≤ 9223372036854775807 := by simp [Lit.wf, IntKind.min, IntKind.max, IntKind.signed, IntKind.bits] at ha; omega
  clear ha
  obtain ⟨hb1, hb2⟩ := hb
  obtain ⟨w0, hw0, hst⟩ := St.start' w
  have HW := Lib.hid hw0; clear hw0
  by_cases hneg : a < 0
  · go_enter Try.func9, Try.ntmps9
    go_wp2_with (first | ((with_reducible refine isList ?_); first | (refine wpList_alloc_st rfl hst rfl ?_; clear hst; intro ga w hst; try simp only [Act.put, List.setIfInBounds_toArray, List.set_cons_zero, List.set_cons_succ]) | (refine wpList_store_st rfl hst rfl (by rfl) ?_; clear hst; intro w hst; try simp only [Act.put, List.setIfInBounds_toArray, List.set_cons_zero, List.set_cons_succ]) | (refine wpList_load_one_st rfl hst rfl ?_; try simp only [Act.put, List.setIfInBounds_toArray, List.set_cons_zero, List.set_cons_succ]) | (refine wpList_load_agg_st rfl hst rfl ?_; try simp only [Act.put, List.setIfInBounds_toArray, List.set_cons_zero, List.set_cons_succ]) | (refine wpList_fieldAddr_blk rfl rfl ?_; simp only [Nat.zero_add]; try simp only [Act.put, List.setIfInBounds_toArray, List.set_cons_zero, List.set_cons_succ]) | (refine wpList_slice_str_hi rfl rfl ⟨by omega, by omega⟩ ?_; intro t ht; try simp only [Act.put, List.setIfInBounds_toArray, List.set_cons_zero, List.set_cons_succ]) | (refine wpList_slice_str_lo rfl rfl ⟨by omega, by omega⟩ ?_; intro t ht; try simp only [Act.put, List.setIfInBounds_toArray, List.set_cons_zero, List.set_cons_succ]) | (refine wpList_slice_str rfl rfl ⟨by omega, by omega, by omega⟩ ?_; intro t ht; try simp only [Act.put, List.setIfInBounds_toArray, List.set_cons_zero, List.set_cons_succ]) | (refine wpList_range_str rfl hst rfl ?_; clear hst; intro gi w hst; try simp only [Act.put, List.setIfInBounds_toArray, List.set_cons_zero, List.set_cons_succ]) | (refine wpList_next_some rfl hst rfl hlt ?_; clear hst; intro w hst; try simp only [Act.put, List.setIfInBounds_toArray, List.set_cons_zero, List.set_cons_succ]) | (refine wpList_next_end rfl hst rfl hlt ?_; try simp only [Act.put, List.setIfInBounds_toArray, List.set_cons_zero, List.set_cons_succ]) | (refine wpList_build1_st rfl hst rfl (by rfl) (by decide) ?_; clear hst; intro gb w hst hrd; try simp only [Act.put, List.setIfInBounds_toArray, List.set_cons_zero, List.set_cons_succ]) | (refine wpList_buildN_st rfl hst rfl (by rfl) (by decide) (by decide) ?_; clear hst; intro gb w hst hrd; (try simp only [List.cons_append, List.nil_append] at hst hrd); try simp only [Act.put, List.setIfInBounds_toArray, List.set_cons_zero, List.set_cons_succ]) | (refine wpList_append_rd rfl hst rfl hrd (by decide) (by unfold maxLen; omega) (by omega) ?_; clear hst hrd; intro v w hst; (try dsimp only at hst); try simp only [Act.put, List.setIfInBounds_toArray, List.set_cons_zero, List.set_cons_succ]) | (refine wpList_eql_int rfl rfl (fun he => ?_) (fun he => ?_) <;> first | (exfalso; omega) | (try simp only [Act.put, List.setIfInBounds_toArray, List.set_cons_zero, List.set_cons_succ])) | (refine wpList_neq_int rfl rfl (fun he => ?_) (fun he => ?_) <;> first | (exfalso; omega) | (try simp only [Act.put, List.setIfInBounds_toArray, List.set_cons_zero, List.set_cons_succ])) | (refine stk_store rfl ?_) | (refine stk_load rfl ?_) | (refine stk_alloc rfl ?_) | (refine stk_box rfl ?_) | (refine stk_build rfl ?_) | (refine stk_append rfl ?_) | (refine stk_index rfl ?_) | (refine stk_slice rfl ?_)) | (go_at_call 13; refine (lives_any _).mono ?_; rintro e w1 ⟨rfl, hb⟩; have hst := hst.call hb; clear hb))
    go_ret; exact ⟨rfl, HW.out ▸ hst.below⟩
  · obtain ⟨n, rfl⟩ : ∃ n : Nat, a = n := ⟨a.toNat, by omega⟩
    go_enter Try.func9, Try.ntmps9
    go_wp2_with (first | ((with_reducible refine isList ?_); first | (refine wpList_alloc_st rfl hst rfl ?_; clear hst; intro ga w hst; try simp only [Act.put, List.setIfInBounds_toArray, List.set_cons_zero, List.set_cons_succ]) | (refine wpList_store_st rfl hst rfl (by rfl) ?_; clear hst; intro w hst; try simp only [Act.put, List.setIfInBounds_toArray, List.set_cons_zero, List.set_cons_succ]) | (refine wpList_load_one_st rfl hst rfl ?_; try simp only [Act.put, List.setIfInBounds_toArray, List.set_cons_zero, List.set_cons_succ]) | (refine wpList_load_agg_st rfl hst rfl ?_; try simp only [Act.put, List.setIfInBounds_toArray, List.set_cons_zero, List.set_cons_succ]) | (refine wpList_fieldAddr_blk rfl rfl ?_; simp only [Nat.zero_add]; try simp only [Act.put, List.setIfInBounds_toArray, List.set_cons_zero, List.set_cons_succ]) | (refine wpList_slice_str_hi rfl rfl ⟨by omega, by omega⟩ ?_; intro t ht; try simp only [Act.put, List.setIfInBounds_toArray, List.set_cons_zero, List.set_cons_succ]) | (refine wpList_slice_str_lo rfl rfl ⟨by omega, by omega⟩ ?_; intro t ht; try simp only [Act.put, List.setIfInBounds_toArray, List.set_cons_zero, List.set_cons_succ]) | (refine wpList_slice_str rfl rfl ⟨by omega, by omega, by omega⟩ ?_; intro t ht; try simp only [Act.put, List.setIfInBounds_toArray, List.set_cons_zero, List.set_cons_succ]) | (refine wpList_range_str rfl hst rfl ?_; clear hst; intro gi w hst; try simp only [Act.put, List.setIfInBounds_toArray, List.set_cons_zero, List.set_cons_succ]) | (refine wpList_next_some rfl hst rfl hlt ?_; clear hst; intro w hst; try simp only [Act.put, List.setIfInBounds_toArray, List.set_cons_zero, List.set_cons_succ]) | (refine wpList_next_end rfl hst rfl hlt ?_; try simp only [Act.put, List.setIfInBounds_toArray, List.set_cons_zero, List.set_cons_succ]) | (refine wpList_build1_st rfl hst rfl (by rfl) (by decide) ?_; clear hst; intro gb w hst hrd; try simp only [Act.put, List.setIfInBounds_toArray, List.set_cons_zero, List.set_cons_succ]) | (refine wpList_buildN_st rfl hst rfl (by rfl) (by decide) (by decide) ?_; clear hst; intro gb w hst hrd; (try simp only [List.cons_append, List.nil_append] at hst hrd); try simp only [Act.put, List.setIfInBounds_toArray, List.set_cons_zero, List.set_cons_succ]) | (refine wpList_append_rd rfl hst rfl hrd (by decide) (by unfold maxLen; omega) (by omega) ?_; clear hst hrd; intro v w hst; (try dsimp only at hst); try simp only [Act.put, List.setIfInBounds_toArray, List.set_cons_zero, List.set_cons_succ]) | (refine wpList_eql_int rfl rfl (fun he => ?_) (fun he => ?_) <;> first | (exfalso; omega) | (try simp only [Act.put, List.setIfInBounds_toArray, List.set_cons_zero, List.set_cons_succ])) | (refine wpList_neq_int rfl rfl (fun he => ?_) (fun he => ?_) <;> first | (exfalso; omega) | (try simp only [Act.put, List.setIfInBounds_toArray, List.set_cons_zero, List.set_cons_succ])) | (refine stk_store rfl ?_) | (refine stk_load rfl ?_) | (refine stk_alloc rfl ?_) | (refine stk_box rfl ?_) | (refine stk_build rfl ?_) | (refine stk_append rfl ?_) | (refine stk_index rfl ?_) | (refine stk_slice rfl ?_)))
    refine (decimal_any n (by omega) _).mono ?_
    rintro e w1 ⟨l, rfl, hD, hbl⟩
    have hst := hst.call hbl
    clear hbl
    have hls : (mkB l).size = l.length := mkB_size l
    have hl20 := hD.2.2.2.2
    have hR := tokR_dec hD
    clear hD
    have hz : (⟨#[32]⟩ ++ mkB l : ByteArray).size ≤ maxLen := by rw [ByteArray.size_append, hls]; simp [maxLen, ByteArray.size]; omega
    by_cases hbig : (n : Int) > 2147483647
    · rw [if_pos hbig] at hR
      have HR := Lib.hid hR
      clear hR
      go_wp2_with (first | ((with_reducible refine isList ?_); first | (refine wpList_alloc_st rfl hst rfl ?_; clear hst; intro ga w hst; try simp only [Act.put, List.setIfInBounds_toArray, List.set_cons_zero, List.set_cons_succ]) | (refine wpList_store_st rfl hst rfl (by rfl) ?_; clear hst; intro w hst; try simp only [Act.put, List.setIfInBounds_toArray, List.set_cons_zero, List.set_cons_succ]) | (refine wpList_load_one_st rfl hst rfl ?_; try simp only [Act.put, List.setIfInBounds_toArray, List.set_cons_zero, List.set_cons_succ]) | (refine wpList_load_agg_st rfl hst rfl ?_; try simp only [Act.put, List.setIfInBounds_toArray, List.set_cons_zero, List.set_cons_succ]) | (refine wpList_fieldAddr_blk rfl rfl ?_; simp only [Nat.zero_add]; try simp only [Act.put, List.setIfInBounds_toArray, List.set_cons_zero, List.set_cons_succ]) | (refine wpList_slice_str_hi rfl rfl ⟨by omega, by omega⟩ ?_; intro t ht; try simp only [Act.put, List.setIfInBounds_toArray, List.set_cons_zero, List.set_cons_succ]) | (refine wpList_slice_str_lo rfl rfl ⟨by omega, by omega⟩ ?_; intro t ht; try simp only [Act.put, List.setIfInBounds_toArray, List.set_cons_zero, List.set_cons_succ]) | (refine wpList_slice_str rfl rfl ⟨by omega, by omega, by omega⟩ ?_; intro t ht; try simp only [Act.put, List.setIfInBounds_toArray, List.set_cons_zero, List.set_cons_succ]) | (refine wpList_range_str rfl hst rfl ?_; clear hst; intro gi w hst; try simp only [Act.put, List.setIfInBounds_toArray, List.set_cons_zero, List.set_cons_succ]) | (refine wpList_next_some rfl hst rfl hlt ?_; clear hst; intro w hst; try simp only [Act.put, List.setIfInBounds_toArray, List.set_cons_zero, List.set_cons_succ]) | (refine wpList_next_end rfl hst rfl hlt ?_; try simp only [Act.put, List.setIfInBounds_toArray, List.set_cons_zero, List.set_cons_succ]) | (refine wpList_len_rd (n := 0) rfl rfl (hst.rd (.head _)) ?_; try simp only [Act.put, List.setIfInBounds_toArray, List.set_cons_zero, List.set_cons_succ]) | (refine wpList_eql_int rfl rfl (fun he => ?_) (fun he => ?_) <;> first | (exfalso; omega) | (try simp only [Act.put, List.setIfInBounds_toArray, List.set_cons_zero, List.set_cons_succ])) | (refine wpList_neq_int rfl rfl (fun he => ?_) (fun he => ?_) <;> first | (exfalso; omega) | (try simp only [Act.put, List.setIfInBounds_toArray, List.set_cons_zero, List.set_cons_succ])) | (refine stk_store rfl ?_) | (refine stk_load rfl ?_) | (refine stk_alloc rfl ?_) | (refine stk_box rfl ?_) | (refine stk_build rfl ?_) | (refine stk_append rfl ?_) | (refine stk_index rfl ?_) | (refine stk_slice rfl ?_)) | (go_at_call 13; refine (lives_any _).mono ?_; rintro e w1 ⟨rfl, hb⟩; have hst := hst.call hb; clear hb) | (go_at_call 10; refine (tokens_any _ _ hz).mono ?_; rintro e w1 ⟨v, toks, at_, err, rfl, hR, hown, hb⟩; cases tokR_det hR HR.out; have hst := hst.add hb (c := .row v tokT 4 _ _) hown; clear hR hown hb))
      all_goals (go_ret; exact ⟨rfl, HW.out ▸ hst.below⟩)
    · rw [if_neg hbig] at hR
      have HR := Lib.hid hR
      clear hR
      have HBD : Hid (∀ x ∈ ([⟨2, 1, mkB l, n⟩, ⟨0, 1 + (l.length : Int), ⟨#[]⟩, 0⟩] : List Tok), -1000000 ≤ x.a ∧ x.a ≤ 1000000) := Lib.hid (by
        intro x hx
        rcases List.mem_cons.1 hx with rfl | hx
        · exact ⟨by dsimp only; omega, by dsimp only; omega⟩
        · rw [List.mem_singleton] at hx
          subst hx
          exact ⟨by dsimp only; omega, by dsimp only; omega⟩)
      have hmx : 2 ≤ maxLen := by decide
      go_wp2_with (first | ((with_reducible refine isList ?_); first | (refine wpList_alloc_st rfl hst rfl ?_; clear hst; intro ga w hst; try simp only [Act.put, List.setIfInBounds_toArray, List.set_cons_zero, List.set_cons_succ]) | (refine wpList_store_st rfl hst rfl (by rfl) ?_; clear hst; intro w hst; try simp only [Act.put, List.setIfInBounds_toArray, List.set_cons_zero, List.set_cons_succ]) | (refine wpList_load_one_st rfl hst rfl ?_; try simp only [Act.put, List.setIfInBounds_toArray, List.set_cons_zero, List.set_cons_succ]) | (refine wpList_load_agg_st rfl hst rfl ?_; try simp only [Act.put, List.setIfInBounds_toArray, List.set_cons_zero, List.set_cons_succ]) | (refine wpList_fieldAddr_blk rfl rfl ?_; simp only [Nat.zero_add]; try simp only [Act.put, List.setIfInBounds_toArray, List.set_cons_zero, List.set_cons_succ]) | (refine wpList_slice_str_hi rfl rfl ⟨by omega, by omega⟩ ?_; intro t ht; try simp only [Act.put, List.setIfInBounds_toArray, List.set_cons_zero, List.set_cons_succ]) | (refine wpList_slice_str_lo rfl rfl ⟨by omega, by omega⟩ ?_; intro t ht; try simp only [Act.put, List.setIfInBounds_toArray, List.set_cons_zero, List.set_cons_succ]) | (refine wpList_slice_str rfl rfl ⟨by omega, by omega, by omega⟩ ?_; intro t ht; try simp only [Act.put, List.setIfInBounds_toArray, List.set_cons_zero, List.set_cons_succ]) | (refine wpList_range_str rfl hst rfl ?_; clear hst; intro gi w hst; try simp only [Act.put, List.setIfInBounds_toArray, List.set_cons_zero, List.set_cons_succ]) | (refine wpList_next_some rfl hst rfl hlt ?_; clear hst; intro w hst; try simp only [Act.put, List.setIfInBounds_toArray, List.set_cons_zero, List.set_cons_succ]) | (refine wpList_next_end rfl hst rfl hlt ?_; try simp only [Act.put, List.setIfInBounds_toArray, List.set_cons_zero, List.set_cons_succ]) | (refine wpList_build1_st rfl hst rfl (by rfl) (by decide) ?_; clear hst; intro gb w hst hrd; try simp only [Act.put, List.setIfInBounds_toArray, List.set_cons_zero, List.set_cons_succ]) | (refine wpList_buildN_st rfl hst rfl (by rfl) (by decide) (by decide) ?_; clear hst; intro gb w hst hrd; (try simp only [List.cons_append, List.nil_append] at hst hrd); try simp only [Act.put, List.setIfInBounds_toArray, List.set_cons_zero, List.set_cons_succ]) | (refine wpList_append_rd rfl hst rfl hrd (by decide) (by unfold maxLen; omega) (by omega) ?_; clear hst hrd; intro v w hst; (try dsimp only at hst); try simp only [Act.put, List.setIfInBounds_toArray, List.set_cons_zero, List.set_cons_succ]) | (refine wpList_eql_int rfl rfl (fun he => ?_) (fun he => ?_) <;> first | (exfalso; omega) | (try simp only [Act.put, List.setIfInBounds_toArray, List.set_cons_zero, List.set_cons_succ])) | (refine wpList_neq_int rfl rfl (fun he => ?_) (fun he => ?_) <;> first | (exfalso; omega) | (try simp only [Act.put, List.setIfInBounds_toArray, List.set_cons_zero, List.set_cons_succ])) | (refine stk_store rfl ?_) | (refine stk_load rfl ?_) | (refine stk_alloc rfl ?_) | (refine stk_box rfl ?_) | (refine stk_build rfl ?_) | (refine stk_append rfl ?_) | (refine stk_index rfl ?_) | (refine stk_slice rfl ?_)) | (go_at_call 13; refine (lives_any _).mono ?_; rintro e w1 ⟨rfl, hb⟩; have hst := hst.call hb; clear hb) | (go_at_call 10; refine (tokens_any _ _ hz).mono ?_; rintro e w1 ⟨v, toks, at_, err, rfl, hR, hown, hb⟩; cases tokR_det hR HR.out; have hst := hst.add hb (c := .row v tokT 4 _ _) hown; clear hR hown hb) | (go_at_call 12; refine (same_any _ _ [⟨2, 1, mkB l, n⟩, ⟨0, 1 + (l.length : Int), ⟨#[]⟩, 0⟩] [⟨2, 1, mkB l, n⟩, ⟨0, 1 + (l.length : Int), ⟨#[]⟩, 0⟩] 0 _ (Rd.of_blk (xs := List.flatMap Tok.cells [⟨2, 1, mkB l, n⟩, ⟨0, 1 + (l.length : Int), ⟨#[]⟩, 0⟩]) (hst.has _ (.head _)).1 rfl hmx (Nat.le_refl 2)) (hst.rd (.tail _ (.head _))) (by decide) HBD.out).mono ?_; rintro e w1 ⟨rfl, hb⟩; rw [same_self]; have hst := hst.call hb))
      all_goals (go_ret; exact ⟨rfl, HW.out ▸ hst.below⟩)
end Go.Proofs
