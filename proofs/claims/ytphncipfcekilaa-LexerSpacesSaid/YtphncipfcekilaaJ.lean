/- The reference's One. -/
import Derived.Test.YtphncipfcekilaaI
import Derived.Test.YtphncipfcekilaaD
namespace Go.Proofs
open Go.RowKit Lx Go.Sx
set_option linter.unusedSimpArgs false
set_option linter.unusedVariables false
def oneP (s : ByteArray) (p : Nat) : Tok × Int := if (tokP s p).2 = 0 then ({ (tokP s p).1 with a := p }, 0) else (noTok, (tokP s p).2)
theorem one_word {s : ByteArray} {p : Nat} (hp : p < s.size) (hl : letterI (s.get! p).toNat = true) (n : Nat) (hn : spanL wordI (s.data.toList.drop p) = n) :
    oneP s p = if 12 < n then (noTok, 2) else (⟨1, p, s.extract p (p + n), 0⟩, 0) := by
  have hle : p + n ≤ s.size := by have := spanL_le wordI (s.data.toList.drop p); simp at this; omega
  have e : tokP s p = if 12 < n then (noTok, 2) else (⟨1, 0, (s.extract p s.size).extract 0 n, 0⟩, 0) := by
    unfold tokP wordP
    rw [if_pos hl, ext_list s p (by omega), hn]
  rw [oneP, e, ext_ext s p n hle]
  by_cases h : 12 < n
  · simp [h]
  · simp [h]
theorem one_number {s : ByteArray} {p : Nat} (hp : p < s.size) (hl : letterI (s.get! p).toNat = false) (hd : digitI (s.get! p).toNat = true) (n : Nat) (hn : spanL digitI (s.data.toList.drop p) = n) :
    oneP s p = if 1 < n ∧ (s.get! p).toNat = 48 then (noTok, 11) else if valI 0 ((s.data.toList.drop p).take n) > 2147483647 then (noTok, 5) else (⟨2, p, s.extract p (p + n), valI 0 ((s.data.toList.drop p).take n)⟩, 0) := by
  have hle : p + n ≤ s.size := by have := spanL_le digitI (s.data.toList.drop p); simp at this; omega
  have e0 := seg_ok digitI digit_lt hp hd
  rw [hn] at e0
  have ht : (s.extract p (p + n)).data.toList = (s.data.toList.drop p).take n := by rw [extract_list, Nat.add_sub_cancel_left]
  have hz : (s.extract p (p + n)).size = n := by simp; omega
  have hg : ((s.data.toList.drop p).take n)[0]? = some (s.get! p) := by
    rw [List.getElem?_take_of_lt (by omega), List.getElem?_drop, Nat.add_zero, get_list s p hp]
  have h48 : ((s.data.toList.drop p).take n)[0]? = some 48 ↔ (s.get! p).toNat = 48 := by
    rw [hg, Option.some.injEq, ← UInt8.toNat_inj]; rfl
  have e : tokP s p = numberP (s.extract p (p + n)) := by
    unfold tokP
    rw [if_neg (by rw [hl]; simp), if_pos hd, ext_list s p (by omega), hn, ext_ext s p n hle]
  rw [oneP, e]
  unfold numberP
  rw [ht, hz]
  by_cases h1 : 1 < n ∧ (s.get! p).toNat = 48
  · rw [if_pos h1, if_pos (show 1 < n ∧ _ from ⟨h1.1, h48.2 h1.2⟩)]; rfl
  · rw [if_neg h1, if_neg (fun h : 1 < n ∧ _ => h1 ⟨h.1, h48.1 h.2⟩)]
    by_cases h2 : valI 0 ((s.data.toList.drop p).take n) > 2147483647
    · simp [h2]
    · simp [h2]
theorem one_symbol {s : ByteArray} {p : Nat} (hp : p < s.size) (hl : letterI (s.get! p).toNat = false) (hd : digitI (s.get! p).toNat = false) :
    oneP s p = if symN (s.data.toList.drop p) = 0 then (noTok, 11) else (⟨3, p, rsymS s p, 0⟩, 0) := by
  have e : tokP s p = if symN (s.data.toList.drop p) = 0 then (noTok, 11) else (⟨3, 0, (s.extract p s.size).extract 0 (symN (s.data.toList.drop p)), 0⟩, 0) := by
    unfold tokP symbolP
    rw [if_neg (by rw [hl]; simp), if_neg (by rw [hd]; simp), ext_list s p (by omega)]
  rw [oneP, e, rsymS]
  by_cases h : symN (s.data.toList.drop p) = 0
  · simp [h]
  · have := sym_ok hp h
    simp only [h, if_false, if_true]
    rw [ext_ext s p _ this.2.1]
theorem span_next {g : Int → Bool} {s : ByteArray} {p : Nat} (hp : p < s.size) (h : g (s.get! p).toNat = true) : spanL g (s.data.toList.drop p) = 1 + spanL g (s.data.toList.drop (p + 1)) := by
  rw [drop_get s p hp]
  simp [spanL, List.takeWhile_cons, h]
  omega
theorem span_zero {g : Int → Bool} {s : ByteArray} {p : Nat} (hp : p < s.size) (h : g (s.get! p).toNat = false) : spanL g (s.data.toList.drop p) = 0 := by
  rw [drop_get s p hp]
  simp [spanL, List.takeWhile_cons, h]
theorem min_cap (V d : Int) (h : 0 ≤ V) (h1 : 0 ≤ d) (h2 : d ≤ 9) : min (10 * min V 2147483648 + d) 2147483648 = min (10 * V + d) 2147483648 := by omega
theorem one_ok_size {s : ByteArray} {p : Nat} {x : Tok} (hp : p < s.size) (h : oneP s p = (x, 0)) : x.a = p ∧ 1 ≤ x.t.size ∧ p + x.t.size ≤ s.size ∧ tokP s p = ({ x with a := 0 }, 0) := by
  unfold oneP at h
  by_cases h0 : (tokP s p).2 = 0
  · rw [if_pos h0] at h
    simp only [Prod.mk.injEq, and_true] at h
    subst h
    have hq : tokP s p = ((tokP s p).1, 0) := Prod.ext rfl h0
    have := tokP_ok hp hq
    refine ⟨rfl, this.2.1, this.2.2.1, ?_⟩
    rw [hq]
    simp only [Prod.mk.injEq, and_true]
    have ha := this.1
    cases hx : (tokP s p).1
    rw [hx] at ha
    simp only at ha
    subst ha
    rfl
  · rw [if_neg h0] at h
    simp only [Prod.mk.injEq] at h
    exact absurd h.2 h0

set_option maxRecDepth 100000 in
set_option maxHeartbeats 2000000 in
theorem rOne_any (s : ByteArray) (p : Nat) (w : World) (hs : s.size ≤ maxLen) (hp : p < s.size) : Calls Try.prog 23 #[.string s, .int .i64 p] w fun e w' => e = .returned (resV (oneP s p)) ∧ Below w.heap.size w w' := by
  unfold maxLen at hs
  have HB := Lib.hid (geti s p hp)
  obtain ⟨w0, hw0, hst⟩ := St.start' w
  have HW := Lib.hid hw0; clear hw0
  cases hl : letterI ((s[p]).toNat : Int)
  · cases hd : digitI ((s[p]).toNat : Int)
    · have HL := Lib.hid hl; clear hl
      have HD := Lib.hid hd; clear hd
      have HR := Lib.hid (one_symbol hp (by rw [← HB.out]; exact HL.out) (by rw [← HB.out]; exact HD.out))
      by_cases hz : symN (s.data.toList.drop p) = 0
      · have hq : Hid (rsymS s p = ⟨#[]⟩) := Lib.hid (by rw [rsymS, if_pos hz])
        have HZ := Lib.hid hz; clear hz
        go_enter Try.func23, Try.ntmps23
        go_wp2_with (first | ((with_reducible refine isList ?_); first | (refine wpList_alloc_st rfl hst rfl ?_; clear hst; intro ga w hst; try simp only [Act.put, List.setIfInBounds_toArray, List.set_cons_zero, List.set_cons_succ]) | (refine wpList_store_st rfl hst rfl (by rfl) ?_; clear hst; intro w hst; try simp only [Act.put, List.setIfInBounds_toArray, List.set_cons_zero, List.set_cons_succ]) | (refine wpList_load_one_st rfl hst rfl ?_; try simp only [Act.put, List.setIfInBounds_toArray, List.set_cons_zero, List.set_cons_succ]) | (refine wpList_load_agg_st rfl hst rfl ?_; try simp only [Act.put, List.setIfInBounds_toArray, List.set_cons_zero, List.set_cons_succ]) | (refine wpList_fieldAddr_blk rfl rfl ?_; simp only [Nat.zero_add]; try simp only [Act.put, List.setIfInBounds_toArray, List.set_cons_zero, List.set_cons_succ]) | (refine wpList_slice_str_hi rfl rfl ⟨by omega, by omega⟩ ?_; intro t ht; try simp only [Act.put, List.setIfInBounds_toArray, List.set_cons_zero, List.set_cons_succ]) | (refine wpList_slice_str_lo rfl rfl ⟨by omega, by omega⟩ ?_; intro t ht; try simp only [Act.put, List.setIfInBounds_toArray, List.set_cons_zero, List.set_cons_succ]) | (refine wpList_slice_str rfl rfl ⟨by omega, by omega, by omega⟩ ?_; intro t ht; try simp only [Act.put, List.setIfInBounds_toArray, List.set_cons_zero, List.set_cons_succ]) | (refine wpList_range_str rfl hst rfl ?_; clear hst; intro gi w hst; try simp only [Act.put, List.setIfInBounds_toArray, List.set_cons_zero, List.set_cons_succ]) | (refine wpList_next_some rfl hst rfl hlt ?_; clear hst; intro w hst; try simp only [Act.put, List.setIfInBounds_toArray, List.set_cons_zero, List.set_cons_succ]) | (refine wpList_next_end rfl hst rfl hlt ?_; try simp only [Act.put, List.setIfInBounds_toArray, List.set_cons_zero, List.set_cons_succ]) | (refine wpList_build1_st rfl hst rfl (by rfl) (by decide) ?_; clear hst; intro gb w hst hrd; try simp only [Act.put, List.setIfInBounds_toArray, List.set_cons_zero, List.set_cons_succ]) | (refine wpList_buildN_st rfl hst rfl (by rfl) (by decide) (by decide) ?_; clear hst; intro gb w hst hrd; (try simp only [List.cons_append, List.nil_append] at hst hrd); try simp only [Act.put, List.setIfInBounds_toArray, List.set_cons_zero, List.set_cons_succ]) | (refine wpList_append_rd rfl hst rfl hrd (by decide) (by unfold maxLen; omega) (by omega) ?_; clear hst hrd; intro v w hst; (try dsimp only at hst); try simp only [Act.put, List.setIfInBounds_toArray, List.set_cons_zero, List.set_cons_succ]) | (refine wpList_eql_str rfl rfl (fun hs1 => ?_) (fun hs1 => ?_) <;> try simp only [Act.put, List.setIfInBounds_toArray, List.set_cons_zero, List.set_cons_succ]) | (refine wpList_neq_str rfl rfl (fun hs1 => ?_) (fun hs1 => ?_) <;> try simp only [Act.put, List.setIfInBounds_toArray, List.set_cons_zero, List.set_cons_succ]) | (refine wpList_eql_int rfl rfl (fun he => ?_) (fun he => ?_) <;> first | (exfalso; omega) | (try simp only [Act.put, List.setIfInBounds_toArray, List.set_cons_zero, List.set_cons_succ])) | (refine wpList_neq_int rfl rfl (fun he => ?_) (fun he => ?_) <;> first | (exfalso; omega) | (try simp only [Act.put, List.setIfInBounds_toArray, List.set_cons_zero, List.set_cons_succ])) | (refine stk_store rfl ?_) | (refine stk_load rfl ?_) | (refine stk_alloc rfl ?_) | (refine stk_box rfl ?_) | (refine stk_build rfl ?_) | (refine stk_append rfl ?_) | (refine stk_index rfl ?_) | (refine stk_slice rfl ?_)) | (go_at_call 27; refine (rLetter_any _ _).mono ?_; rintro e w' ⟨rfl, rfl⟩; rw [HL.out]) | (go_at_call 28; refine (rDigit_any _ _).mono ?_; rintro e w' ⟨rfl, rfl⟩; rw [HD.out]) | (go_at_call 29; refine (rsymbol_any _ _ _ hs hp).mono ?_; rintro e w' ⟨rfl, rfl⟩; rw [hq.out]))
        · refine bodyPost_ret (results_cell2 rfl hst rfl) rfl ?_
          refine ⟨?_, HW.out ▸ hst.below⟩
          rw [HR.out, if_pos HZ.out]; rfl
        · exact absurd rfl hs1.out
      · have hq : Hid (rsymS s p ≠ ⟨#[]⟩) := Lib.hid (by
          rw [rsymS, if_neg hz]
          have := sym_ok hp hz
          intro h
          have h2 : (s.extract p (p + symN (s.data.toList.drop p))).size = 0 := by rw [h]; rfl
          simp at h2
          omega)
        have HZ := Lib.hid hz; clear hz
        go_enter Try.func23, Try.ntmps23
        go_wp2_with (first | ((with_reducible refine isList ?_); first | (refine wpList_alloc_st rfl hst rfl ?_; clear hst; intro ga w hst; try simp only [Act.put, List.setIfInBounds_toArray, List.set_cons_zero, List.set_cons_succ]) | (refine wpList_store_st rfl hst rfl (by rfl) ?_; clear hst; intro w hst; try simp only [Act.put, List.setIfInBounds_toArray, List.set_cons_zero, List.set_cons_succ]) | (refine wpList_load_one_st rfl hst rfl ?_; try simp only [Act.put, List.setIfInBounds_toArray, List.set_cons_zero, List.set_cons_succ]) | (refine wpList_load_agg_st rfl hst rfl ?_; try simp only [Act.put, List.setIfInBounds_toArray, List.set_cons_zero, List.set_cons_succ]) | (refine wpList_fieldAddr_blk rfl rfl ?_; simp only [Nat.zero_add]; try simp only [Act.put, List.setIfInBounds_toArray, List.set_cons_zero, List.set_cons_succ]) | (refine wpList_slice_str_hi rfl rfl ⟨by omega, by omega⟩ ?_; intro t ht; try simp only [Act.put, List.setIfInBounds_toArray, List.set_cons_zero, List.set_cons_succ]) | (refine wpList_slice_str_lo rfl rfl ⟨by omega, by omega⟩ ?_; intro t ht; try simp only [Act.put, List.setIfInBounds_toArray, List.set_cons_zero, List.set_cons_succ]) | (refine wpList_slice_str rfl rfl ⟨by omega, by omega, by omega⟩ ?_; intro t ht; try simp only [Act.put, List.setIfInBounds_toArray, List.set_cons_zero, List.set_cons_succ]) | (refine wpList_range_str rfl hst rfl ?_; clear hst; intro gi w hst; try simp only [Act.put, List.setIfInBounds_toArray, List.set_cons_zero, List.set_cons_succ]) | (refine wpList_next_some rfl hst rfl hlt ?_; clear hst; intro w hst; try simp only [Act.put, List.setIfInBounds_toArray, List.set_cons_zero, List.set_cons_succ]) | (refine wpList_next_end rfl hst rfl hlt ?_; try simp only [Act.put, List.setIfInBounds_toArray, List.set_cons_zero, List.set_cons_succ]) | (refine wpList_build1_st rfl hst rfl (by rfl) (by decide) ?_; clear hst; intro gb w hst hrd; try simp only [Act.put, List.setIfInBounds_toArray, List.set_cons_zero, List.set_cons_succ]) | (refine wpList_buildN_st rfl hst rfl (by rfl) (by decide) (by decide) ?_; clear hst; intro gb w hst hrd; (try simp only [List.cons_append, List.nil_append] at hst hrd); try simp only [Act.put, List.setIfInBounds_toArray, List.set_cons_zero, List.set_cons_succ]) | (refine wpList_append_rd rfl hst rfl hrd (by decide) (by unfold maxLen; omega) (by omega) ?_; clear hst hrd; intro v w hst; (try dsimp only at hst); try simp only [Act.put, List.setIfInBounds_toArray, List.set_cons_zero, List.set_cons_succ]) | (refine wpList_eql_str rfl rfl (fun hs1 => ?_) (fun hs1 => ?_) <;> try simp only [Act.put, List.setIfInBounds_toArray, List.set_cons_zero, List.set_cons_succ]) | (refine wpList_neq_str rfl rfl (fun hs1 => ?_) (fun hs1 => ?_) <;> try simp only [Act.put, List.setIfInBounds_toArray, List.set_cons_zero, List.set_cons_succ]) | (refine wpList_eql_int rfl rfl (fun he => ?_) (fun he => ?_) <;> first | (exfalso; omega) | (try simp only [Act.put, List.setIfInBounds_toArray, List.set_cons_zero, List.set_cons_succ])) | (refine wpList_neq_int rfl rfl (fun he => ?_) (fun he => ?_) <;> first | (exfalso; omega) | (try simp only [Act.put, List.setIfInBounds_toArray, List.set_cons_zero, List.set_cons_succ])) | (refine stk_store rfl ?_) | (refine stk_load rfl ?_) | (refine stk_alloc rfl ?_) | (refine stk_box rfl ?_) | (refine stk_build rfl ?_) | (refine stk_append rfl ?_) | (refine stk_index rfl ?_) | (refine stk_slice rfl ?_)) | (go_at_call 27; refine (rLetter_any _ _).mono ?_; rintro e w' ⟨rfl, rfl⟩; rw [HL.out]) | (go_at_call 28; refine (rDigit_any _ _).mono ?_; rintro e w' ⟨rfl, rfl⟩; rw [HD.out]) | (go_at_call 29; refine (rsymbol_any _ _ _ hs hp).mono ?_; rintro e w' ⟨rfl, rfl⟩))
        · exact absurd hs1.out hq.out
        · refine bodyPost_ret (results_cell2 rfl hst rfl) rfl ?_
          refine ⟨?_, HW.out ▸ hst.below⟩
          rw [HR.out, if_neg HZ.out]; rfl
    · have HL := Lib.hid hl; clear hl
      have HD := Lib.hid hd; clear hd
      obtain ⟨n, hn⟩ : ∃ n, spanL digitI (s.data.toList.drop p) = n := ⟨_, rfl⟩
      have HN := Lib.hid hn
      have HR := Lib.hid (one_number hp (by rw [← HB.out]; exact HL.out) (by rw [← HB.out]; exact HD.out) n hn)
      have HS := Lib.hid (seg_ok digitI digit_lt hp (by rw [← HB.out]; exact HD.out))
      clear hn
      go_enter Try.func23, Try.ntmps23
      go_wp2_with (first | ((with_reducible refine isList ?_); first | (refine wpList_alloc_st rfl hst rfl ?_; clear hst; intro ga w hst; try simp only [Act.put, List.setIfInBounds_toArray, List.set_cons_zero, List.set_cons_succ]) | (refine wpList_store_st rfl hst rfl (by rfl) ?_; clear hst; intro w hst; try simp only [Act.put, List.setIfInBounds_toArray, List.set_cons_zero, List.set_cons_succ]) | (refine wpList_load_one_st rfl hst rfl ?_; try simp only [Act.put, List.setIfInBounds_toArray, List.set_cons_zero, List.set_cons_succ]) | (refine wpList_load_agg_st rfl hst rfl ?_; try simp only [Act.put, List.setIfInBounds_toArray, List.set_cons_zero, List.set_cons_succ]) | (refine wpList_fieldAddr_blk rfl rfl ?_; simp only [Nat.zero_add]; try simp only [Act.put, List.setIfInBounds_toArray, List.set_cons_zero, List.set_cons_succ]) | (refine wpList_slice_str_hi rfl rfl ⟨by omega, by omega⟩ ?_; intro t ht; try simp only [Act.put, List.setIfInBounds_toArray, List.set_cons_zero, List.set_cons_succ]) | (refine wpList_slice_str_lo rfl rfl ⟨by omega, by omega⟩ ?_; intro t ht; try simp only [Act.put, List.setIfInBounds_toArray, List.set_cons_zero, List.set_cons_succ]) | (refine wpList_slice_str rfl rfl ⟨by omega, by omega, by omega⟩ ?_; intro t ht; try simp only [Act.put, List.setIfInBounds_toArray, List.set_cons_zero, List.set_cons_succ]) | (refine wpList_range_str rfl hst rfl ?_; clear hst; intro gi w hst; try simp only [Act.put, List.setIfInBounds_toArray, List.set_cons_zero, List.set_cons_succ]) | (refine wpList_next_some rfl hst rfl hlt ?_; clear hst; intro w hst; try simp only [Act.put, List.setIfInBounds_toArray, List.set_cons_zero, List.set_cons_succ]) | (refine wpList_next_end rfl hst rfl hlt ?_; try simp only [Act.put, List.setIfInBounds_toArray, List.set_cons_zero, List.set_cons_succ]) | (refine wpList_build1_st rfl hst rfl (by rfl) (by decide) ?_; clear hst; intro gb w hst hrd; try simp only [Act.put, List.setIfInBounds_toArray, List.set_cons_zero, List.set_cons_succ]) | (refine wpList_buildN_st rfl hst rfl (by rfl) (by decide) (by decide) ?_; clear hst; intro gb w hst hrd; (try simp only [List.cons_append, List.nil_append] at hst hrd); try simp only [Act.put, List.setIfInBounds_toArray, List.set_cons_zero, List.set_cons_succ]) | (refine wpList_append_rd rfl hst rfl hrd (by decide) (by unfold maxLen; omega) (by omega) ?_; clear hst hrd; intro v w hst; (try dsimp only at hst); try simp only [Act.put, List.setIfInBounds_toArray, List.set_cons_zero, List.set_cons_succ]) | (refine wpList_eql_int rfl rfl (fun he => ?_) (fun he => ?_) <;> first | (exfalso; omega) | (try simp only [Act.put, List.setIfInBounds_toArray, List.set_cons_zero, List.set_cons_succ])) | (refine wpList_neq_int rfl rfl (fun he => ?_) (fun he => ?_) <;> first | (exfalso; omega) | (try simp only [Act.put, List.setIfInBounds_toArray, List.set_cons_zero, List.set_cons_succ])) | (refine stk_store rfl ?_) | (refine stk_load rfl ?_) | (refine stk_alloc rfl ?_) | (refine stk_box rfl ?_) | (refine stk_build rfl ?_) | (refine stk_append rfl ?_) | (refine stk_index rfl ?_) | (refine stk_slice rfl ?_)) | (go_at_call 27; refine (rLetter_any _ _).mono ?_; rintro e w' ⟨rfl, rfl⟩; rw [HL.out]) | (go_at_call 28; refine (rDigit_any _ _).mono ?_; rintro e w' ⟨rfl, rfl⟩; rw [HD.out]))
      go_loop [6, 7] (fun c v => ∃ q V, p ≤ q ∧ q ≤ s.size ∧ c = .int .i64 (q : Nat) ∧ v = .int .i64 (min V 2147483648) ∧ 0 ≤ V ∧ Hid (V = valI 0 ((s.data.toList.drop p).take (q - p))) ∧ Hid (n = (q - p) + spanL digitI (s.data.toList.drop q))) (fun c _ => s.size - (intOf c).toNat)
      case atStart => exact ⟨p, 0, Nat.le_refl _, by omega, rfl, rfl, Int.le_refl _, Lib.hid (by simp [valI]), Lib.hid (by rw [HN.out]; omega)⟩
      case round =>
        obtain ⟨q, V, hq1, hq2, rfl, rfl, hV, hVV, hh⟩ := hrel
        by_cases hlt : q < s.size
        · have HQ := Lib.hid (geti s q hlt)
          cases hd2 : digitI ((s[q]).toNat : Int)
          · have HD2 := Lib.hid hd2; clear hd2
            have hnq : n = q - p := by have := hh.out; rw [span_zero hlt (by rw [← HQ.out]; exact HD2.out)] at this; omega
            go_wp2_with (first | ((with_reducible refine isList ?_); first | (refine wpList_alloc_st rfl hst rfl ?_; clear hst; intro ga w hst; try simp only [Act.put, List.setIfInBounds_toArray, List.set_cons_zero, List.set_cons_succ]) | (refine wpList_store_st rfl hst rfl (by rfl) ?_; clear hst; intro w hst; try simp only [Act.put, List.setIfInBounds_toArray, List.set_cons_zero, List.set_cons_succ]) | (refine wpList_load_one_st rfl hst rfl ?_; try simp only [Act.put, List.setIfInBounds_toArray, List.set_cons_zero, List.set_cons_succ]) | (refine wpList_load_agg_st rfl hst rfl ?_; try simp only [Act.put, List.setIfInBounds_toArray, List.set_cons_zero, List.set_cons_succ]) | (refine wpList_fieldAddr_blk rfl rfl ?_; simp only [Nat.zero_add]; try simp only [Act.put, List.setIfInBounds_toArray, List.set_cons_zero, List.set_cons_succ]) | (refine wpList_slice_str_hi rfl rfl ⟨by omega, by omega⟩ ?_; intro t ht; try simp only [Act.put, List.setIfInBounds_toArray, List.set_cons_zero, List.set_cons_succ]) | (refine wpList_slice_str_lo rfl rfl ⟨by omega, by omega⟩ ?_; intro t ht; try simp only [Act.put, List.setIfInBounds_toArray, List.set_cons_zero, List.set_cons_succ]) | (refine wpList_slice_str rfl rfl ⟨by omega, by omega, by omega⟩ ?_; intro t ht; try simp only [Act.put, List.setIfInBounds_toArray, List.set_cons_zero, List.set_cons_succ]) | (refine wpList_range_str rfl hst rfl ?_; clear hst; intro gi w hst; try simp only [Act.put, List.setIfInBounds_toArray, List.set_cons_zero, List.set_cons_succ]) | (refine wpList_next_some rfl hst rfl hlt ?_; clear hst; intro w hst; try simp only [Act.put, List.setIfInBounds_toArray, List.set_cons_zero, List.set_cons_succ]) | (refine wpList_next_end rfl hst rfl hlt ?_; try simp only [Act.put, List.setIfInBounds_toArray, List.set_cons_zero, List.set_cons_succ]) | (refine wpList_build1_st rfl hst rfl (by rfl) (by decide) ?_; clear hst; intro gb w hst hrd; try simp only [Act.put, List.setIfInBounds_toArray, List.set_cons_zero, List.set_cons_succ]) | (refine wpList_buildN_st rfl hst rfl (by rfl) (by decide) (by decide) ?_; clear hst; intro gb w hst hrd; (try simp only [List.cons_append, List.nil_append] at hst hrd); try simp only [Act.put, List.setIfInBounds_toArray, List.set_cons_zero, List.set_cons_succ]) | (refine wpList_append_rd rfl hst rfl hrd (by decide) (by unfold maxLen; omega) (by omega) ?_; clear hst hrd; intro v w hst; (try dsimp only at hst); try simp only [Act.put, List.setIfInBounds_toArray, List.set_cons_zero, List.set_cons_succ]) | (refine wpList_eql_int rfl rfl (fun he => ?_) (fun he => ?_) <;> first | (exfalso; omega) | (try simp only [Act.put, List.setIfInBounds_toArray, List.set_cons_zero, List.set_cons_succ])) | (refine wpList_neq_int rfl rfl (fun he => ?_) (fun he => ?_) <;> first | (exfalso; omega) | (try simp only [Act.put, List.setIfInBounds_toArray, List.set_cons_zero, List.set_cons_succ])) | (refine stk_store rfl ?_) | (refine stk_load rfl ?_) | (refine stk_alloc rfl ?_) | (refine stk_box rfl ?_) | (refine stk_build rfl ?_) | (refine stk_append rfl ?_) | (refine stk_index rfl ?_) | (refine stk_slice rfl ?_)) | (go_at_call 28; refine (rDigit_any _ _).mono ?_; rintro e w' ⟨rfl, rfl⟩; rw [HD2.out]))
            all_goals
              refine bodyPost_ret (results_cell2 rfl hst rfl) rfl ?_
              refine ⟨?_, HW.out ▸ hst.below⟩
              rw [HR.out]
              first
              | (have h48 : 1 < n ∧ (s.get! p).toNat = 48 := by rw [← HB.out]; omega
                 rw [if_pos h48]; rfl)
              | (have h48 : ¬ (1 < n ∧ (s.get! p).toNat = 48) := by rw [← HB.out]; omega
                 rw [if_neg h48]
                 have hv := hVV.out
                 rw [← hnq] at hv
                 rw [← hv]
                 first
                 | (rw [if_pos (by omega)]; rfl)
                 | (have e : t = s.extract p (p + n) := by rw [ht.out, hnq, Int.toNat_natCast, Int.toNat_natCast]; congr 1; omega
                    have em : min V 2147483648 = V := by omega
                    rw [if_neg (by omega), e, em]; rfl))
          · have hbd : 48 ≤ s[q].toNat ∧ s[q].toNat ≤ 57 := by simp [digitI] at hd2; omega
            have HD2 := Lib.hid hd2; clear hd2
            go_wp2_with (first | ((with_reducible refine isList ?_); first | (refine wpList_alloc_st rfl hst rfl ?_; clear hst; intro ga w hst; try simp only [Act.put, List.setIfInBounds_toArray, List.set_cons_zero, List.set_cons_succ]) | (refine wpList_store_st rfl hst rfl (by rfl) ?_; clear hst; intro w hst; try simp only [Act.put, List.setIfInBounds_toArray, List.set_cons_zero, List.set_cons_succ]) | (refine wpList_load_one_st rfl hst rfl ?_; try simp only [Act.put, List.setIfInBounds_toArray, List.set_cons_zero, List.set_cons_succ]) | (refine wpList_load_agg_st rfl hst rfl ?_; try simp only [Act.put, List.setIfInBounds_toArray, List.set_cons_zero, List.set_cons_succ]) | (refine wpList_fieldAddr_blk rfl rfl ?_; simp only [Nat.zero_add]; try simp only [Act.put, List.setIfInBounds_toArray, List.set_cons_zero, List.set_cons_succ]) | (refine wpList_slice_str_hi rfl rfl ⟨by omega, by omega⟩ ?_; intro t ht; try simp only [Act.put, List.setIfInBounds_toArray, List.set_cons_zero, List.set_cons_succ]) | (refine wpList_slice_str_lo rfl rfl ⟨by omega, by omega⟩ ?_; intro t ht; try simp only [Act.put, List.setIfInBounds_toArray, List.set_cons_zero, List.set_cons_succ]) | (refine wpList_slice_str rfl rfl ⟨by omega, by omega, by omega⟩ ?_; intro t ht; try simp only [Act.put, List.setIfInBounds_toArray, List.set_cons_zero, List.set_cons_succ]) | (refine wpList_range_str rfl hst rfl ?_; clear hst; intro gi w hst; try simp only [Act.put, List.setIfInBounds_toArray, List.set_cons_zero, List.set_cons_succ]) | (refine wpList_next_some rfl hst rfl hlt ?_; clear hst; intro w hst; try simp only [Act.put, List.setIfInBounds_toArray, List.set_cons_zero, List.set_cons_succ]) | (refine wpList_next_end rfl hst rfl hlt ?_; try simp only [Act.put, List.setIfInBounds_toArray, List.set_cons_zero, List.set_cons_succ]) | (refine wpList_build1_st rfl hst rfl (by rfl) (by decide) ?_; clear hst; intro gb w hst hrd; try simp only [Act.put, List.setIfInBounds_toArray, List.set_cons_zero, List.set_cons_succ]) | (refine wpList_buildN_st rfl hst rfl (by rfl) (by decide) (by decide) ?_; clear hst; intro gb w hst hrd; (try simp only [List.cons_append, List.nil_append] at hst hrd); try simp only [Act.put, List.setIfInBounds_toArray, List.set_cons_zero, List.set_cons_succ]) | (refine wpList_append_rd rfl hst rfl hrd (by decide) (by unfold maxLen; omega) (by omega) ?_; clear hst hrd; intro v w hst; (try dsimp only at hst); try simp only [Act.put, List.setIfInBounds_toArray, List.set_cons_zero, List.set_cons_succ]) | (refine wpList_eql_int rfl rfl (fun he => ?_) (fun he => ?_) <;> first | (exfalso; omega) | (try simp only [Act.put, List.setIfInBounds_toArray, List.set_cons_zero, List.set_cons_succ])) | (refine wpList_neq_int rfl rfl (fun he => ?_) (fun he => ?_) <;> first | (exfalso; omega) | (try simp only [Act.put, List.setIfInBounds_toArray, List.set_cons_zero, List.set_cons_succ])) | (refine stk_store rfl ?_) | (refine stk_load rfl ?_) | (refine stk_alloc rfl ?_) | (refine stk_box rfl ?_) | (refine stk_build rfl ?_) | (refine stk_append rfl ?_) | (refine stk_index rfl ?_) | (refine stk_slice rfl ?_)) | (go_at_call 28; refine (rDigit_any _ _).mono ?_; rintro e w' ⟨rfl, rfl⟩; rw [HD2.out]))
            go_round
            case rel =>
              refine ⟨q + 1, 10 * V + ((s[q].toNat : Int) - 48), by omega, by omega, by go_num, ?_, by omega, Lib.hid ?_, Lib.hid (by rw [hh.out, span_next (p := q) hlt (by rw [← HQ.out]; exact HD2.out)]; omega)⟩
              · rw [min_cap V _ hV (by omega) (by omega)]
              · have e1 : (s.data.toList.drop p).take (q + 1 - p) = (s.data.toList.drop p).take (q - p) ++ [s.get! q] := by
                  rw [show q + 1 - p = (q - p) + 1 by omega, List.take_add_one, List.getElem?_drop, show p + (q - p) = q by omega, get_list s q hlt]
                  rfl
                rw [e1, valI_append, ← hVV.out, HQ.out]
                simp [valI]
            case measure => simp [intOf]; omega
        · have hqe : q = s.size := by omega
          have hnq : n = q - p := by have := hh.out; rw [hqe, span_end] at this; omega
          clear hqe
          go_wp2_with (first | ((with_reducible refine isList ?_); first | (refine wpList_alloc_st rfl hst rfl ?_; clear hst; intro ga w hst; try simp only [Act.put, List.setIfInBounds_toArray, List.set_cons_zero, List.set_cons_succ]) | (refine wpList_store_st rfl hst rfl (by rfl) ?_; clear hst; intro w hst; try simp only [Act.put, List.setIfInBounds_toArray, List.set_cons_zero, List.set_cons_succ]) | (refine wpList_load_one_st rfl hst rfl ?_; try simp only [Act.put, List.setIfInBounds_toArray, List.set_cons_zero, List.set_cons_succ]) | (refine wpList_load_agg_st rfl hst rfl ?_; try simp only [Act.put, List.setIfInBounds_toArray, List.set_cons_zero, List.set_cons_succ]) | (refine wpList_fieldAddr_blk rfl rfl ?_; simp only [Nat.zero_add]; try simp only [Act.put, List.setIfInBounds_toArray, List.set_cons_zero, List.set_cons_succ]) | (refine wpList_slice_str_hi rfl rfl ⟨by omega, by omega⟩ ?_; intro t ht; try simp only [Act.put, List.setIfInBounds_toArray, List.set_cons_zero, List.set_cons_succ]) | (refine wpList_slice_str_lo rfl rfl ⟨by omega, by omega⟩ ?_; intro t ht; try simp only [Act.put, List.setIfInBounds_toArray, List.set_cons_zero, List.set_cons_succ]) | (refine wpList_slice_str rfl rfl ⟨by omega, by omega, by omega⟩ ?_; intro t ht; try simp only [Act.put, List.setIfInBounds_toArray, List.set_cons_zero, List.set_cons_succ]) | (refine wpList_range_str rfl hst rfl ?_; clear hst; intro gi w hst; try simp only [Act.put, List.setIfInBounds_toArray, List.set_cons_zero, List.set_cons_succ]) | (refine wpList_next_some rfl hst rfl hlt ?_; clear hst; intro w hst; try simp only [Act.put, List.setIfInBounds_toArray, List.set_cons_zero, List.set_cons_succ]) | (refine wpList_next_end rfl hst rfl hlt ?_; try simp only [Act.put, List.setIfInBounds_toArray, List.set_cons_zero, List.set_cons_succ]) | (refine wpList_build1_st rfl hst rfl (by rfl) (by decide) ?_; clear hst; intro gb w hst hrd; try simp only [Act.put, List.setIfInBounds_toArray, List.set_cons_zero, List.set_cons_succ]) | (refine wpList_buildN_st rfl hst rfl (by rfl) (by decide) (by decide) ?_; clear hst; intro gb w hst hrd; (try simp only [List.cons_append, List.nil_append] at hst hrd); try simp only [Act.put, List.setIfInBounds_toArray, List.set_cons_zero, List.set_cons_succ]) | (refine wpList_append_rd rfl hst rfl hrd (by decide) (by unfold maxLen; omega) (by omega) ?_; clear hst hrd; intro v w hst; (try dsimp only at hst); try simp only [Act.put, List.setIfInBounds_toArray, List.set_cons_zero, List.set_cons_succ]) | (refine wpList_eql_int rfl rfl (fun he => ?_) (fun he => ?_) <;> first | (exfalso; omega) | (try simp only [Act.put, List.setIfInBounds_toArray, List.set_cons_zero, List.set_cons_succ])) | (refine wpList_neq_int rfl rfl (fun he => ?_) (fun he => ?_) <;> first | (exfalso; omega) | (try simp only [Act.put, List.setIfInBounds_toArray, List.set_cons_zero, List.set_cons_succ])) | (refine stk_store rfl ?_) | (refine stk_load rfl ?_) | (refine stk_alloc rfl ?_) | (refine stk_box rfl ?_) | (refine stk_build rfl ?_) | (refine stk_append rfl ?_) | (refine stk_index rfl ?_) | (refine stk_slice rfl ?_)))
          all_goals
            refine bodyPost_ret (results_cell2 rfl hst rfl) rfl ?_
            refine ⟨?_, HW.out ▸ hst.below⟩
            rw [HR.out]
            first
            | (have h48 : 1 < n ∧ (s.get! p).toNat = 48 := by rw [← HB.out]; omega
               rw [if_pos h48]; rfl)
            | (have h48 : ¬ (1 < n ∧ (s.get! p).toNat = 48) := by rw [← HB.out]; omega
               rw [if_neg h48]
               have hv := hVV.out
               rw [← hnq] at hv
               rw [← hv]
               first
               | (rw [if_pos (by omega)]; rfl)
               | (have e : t = s.extract p (p + n) := by rw [ht.out, hnq, Int.toNat_natCast, Int.toNat_natCast]; congr 1; omega
                  have em : min V 2147483648 = V := by omega
                  rw [if_neg (by omega), e, em]; rfl))
  · have HL := Lib.hid hl; clear hl
    obtain ⟨n, hn⟩ : ∃ n, spanL wordI (s.data.toList.drop p) = n := ⟨_, rfl⟩
    have HN := Lib.hid hn
    have HR := Lib.hid (one_word hp (by rw [← HB.out]; exact HL.out) n hn)
    clear hn
    go_enter Try.func23, Try.ntmps23
    go_wp2_with (first | ((with_reducible refine isList ?_); first | (refine wpList_alloc_st rfl hst rfl ?_; clear hst; intro ga w hst; try simp only [Act.put, List.setIfInBounds_toArray, List.set_cons_zero, List.set_cons_succ]) | (refine wpList_store_st rfl hst rfl (by rfl) ?_; clear hst; intro w hst; try simp only [Act.put, List.setIfInBounds_toArray, List.set_cons_zero, List.set_cons_succ]) | (refine wpList_load_one_st rfl hst rfl ?_; try simp only [Act.put, List.setIfInBounds_toArray, List.set_cons_zero, List.set_cons_succ]) | (refine wpList_load_agg_st rfl hst rfl ?_; try simp only [Act.put, List.setIfInBounds_toArray, List.set_cons_zero, List.set_cons_succ]) | (refine wpList_fieldAddr_blk rfl rfl ?_; simp only [Nat.zero_add]; try simp only [Act.put, List.setIfInBounds_toArray, List.set_cons_zero, List.set_cons_succ]) | (refine wpList_slice_str_hi rfl rfl ⟨by omega, by omega⟩ ?_; intro t ht; try simp only [Act.put, List.setIfInBounds_toArray, List.set_cons_zero, List.set_cons_succ]) | (refine wpList_slice_str_lo rfl rfl ⟨by omega, by omega⟩ ?_; intro t ht; try simp only [Act.put, List.setIfInBounds_toArray, List.set_cons_zero, List.set_cons_succ]) | (refine wpList_slice_str rfl rfl ⟨by omega, by omega, by omega⟩ ?_; intro t ht; try simp only [Act.put, List.setIfInBounds_toArray, List.set_cons_zero, List.set_cons_succ]) | (refine wpList_range_str rfl hst rfl ?_; clear hst; intro gi w hst; try simp only [Act.put, List.setIfInBounds_toArray, List.set_cons_zero, List.set_cons_succ]) | (refine wpList_next_some rfl hst rfl hlt ?_; clear hst; intro w hst; try simp only [Act.put, List.setIfInBounds_toArray, List.set_cons_zero, List.set_cons_succ]) | (refine wpList_next_end rfl hst rfl hlt ?_; try simp only [Act.put, List.setIfInBounds_toArray, List.set_cons_zero, List.set_cons_succ]) | (refine wpList_build1_st rfl hst rfl (by rfl) (by decide) ?_; clear hst; intro gb w hst hrd; try simp only [Act.put, List.setIfInBounds_toArray, List.set_cons_zero, List.set_cons_succ]) | (refine wpList_buildN_st rfl hst rfl (by rfl) (by decide) (by decide) ?_; clear hst; intro gb w hst hrd; (try simp only [List.cons_append, List.nil_append] at hst hrd); try simp only [Act.put, List.setIfInBounds_toArray, List.set_cons_zero, List.set_cons_succ]) | (refine wpList_append_rd rfl hst rfl hrd (by decide) (by unfold maxLen; omega) (by omega) ?_; clear hst hrd; intro v w hst; (try dsimp only at hst); try simp only [Act.put, List.setIfInBounds_toArray, List.set_cons_zero, List.set_cons_succ]) | (refine wpList_eql_int rfl rfl (fun he => ?_) (fun he => ?_) <;> first | (exfalso; omega) | (try simp only [Act.put, List.setIfInBounds_toArray, List.set_cons_zero, List.set_cons_succ])) | (refine wpList_neq_int rfl rfl (fun he => ?_) (fun he => ?_) <;> first | (exfalso; omega) | (try simp only [Act.put, List.setIfInBounds_toArray, List.set_cons_zero, List.set_cons_succ])) | (refine stk_store rfl ?_) | (refine stk_load rfl ?_) | (refine stk_alloc rfl ?_) | (refine stk_box rfl ?_) | (refine stk_build rfl ?_) | (refine stk_append rfl ?_) | (refine stk_index rfl ?_) | (refine stk_slice rfl ?_)) | (go_at_call 27; refine (rLetter_any _ _).mono ?_; rintro e w' ⟨rfl, rfl⟩; rw [HL.out]))
    go_loop [6] (fun c => ∃ q, p ≤ q ∧ q ≤ s.size ∧ c = .int .i64 (q : Nat) ∧ Hid (n = (q - p) + spanL wordI (s.data.toList.drop q))) (fun c => s.size - (intOf c).toNat)
    case atStart => exact ⟨p, Nat.le_refl _, by omega, rfl, Lib.hid (by rw [HN.out]; omega)⟩
    case round =>
      obtain ⟨q, hq1, hq2, rfl, hh⟩ := hrel
      by_cases hlt : q < s.size
      · have HQ := Lib.hid (geti s q hlt)
        cases hl2 : letterI ((s[q]).toNat : Int)
        all_goals cases hd2 : digitI ((s[q]).toNat : Int)
        all_goals
          have HL2 := Lib.hid hl2; clear hl2
          have HD2 := Lib.hid hd2; clear hd2
          go_wp2_with (first | ((with_reducible refine isList ?_); first | (refine wpList_alloc_st rfl hst rfl ?_; clear hst; intro ga w hst; try simp only [Act.put, List.setIfInBounds_toArray, List.set_cons_zero, List.set_cons_succ]) | (refine wpList_store_st rfl hst rfl (by rfl) ?_; clear hst; intro w hst; try simp only [Act.put, List.setIfInBounds_toArray, List.set_cons_zero, List.set_cons_succ]) | (refine wpList_load_one_st rfl hst rfl ?_; try simp only [Act.put, List.setIfInBounds_toArray, List.set_cons_zero, List.set_cons_succ]) | (refine wpList_load_agg_st rfl hst rfl ?_; try simp only [Act.put, List.setIfInBounds_toArray, List.set_cons_zero, List.set_cons_succ]) | (refine wpList_fieldAddr_blk rfl rfl ?_; simp only [Nat.zero_add]; try simp only [Act.put, List.setIfInBounds_toArray, List.set_cons_zero, List.set_cons_succ]) | (refine wpList_slice_str_hi rfl rfl ⟨by omega, by omega⟩ ?_; intro t ht; try simp only [Act.put, List.setIfInBounds_toArray, List.set_cons_zero, List.set_cons_succ]) | (refine wpList_slice_str_lo rfl rfl ⟨by omega, by omega⟩ ?_; intro t ht; try simp only [Act.put, List.setIfInBounds_toArray, List.set_cons_zero, List.set_cons_succ]) | (refine wpList_slice_str rfl rfl ⟨by omega, by omega, by omega⟩ ?_; intro t ht; try simp only [Act.put, List.setIfInBounds_toArray, List.set_cons_zero, List.set_cons_succ]) | (refine wpList_range_str rfl hst rfl ?_; clear hst; intro gi w hst; try simp only [Act.put, List.setIfInBounds_toArray, List.set_cons_zero, List.set_cons_succ]) | (refine wpList_next_some rfl hst rfl hlt ?_; clear hst; intro w hst; try simp only [Act.put, List.setIfInBounds_toArray, List.set_cons_zero, List.set_cons_succ]) | (refine wpList_next_end rfl hst rfl hlt ?_; try simp only [Act.put, List.setIfInBounds_toArray, List.set_cons_zero, List.set_cons_succ]) | (refine wpList_build1_st rfl hst rfl (by rfl) (by decide) ?_; clear hst; intro gb w hst hrd; try simp only [Act.put, List.setIfInBounds_toArray, List.set_cons_zero, List.set_cons_succ]) | (refine wpList_buildN_st rfl hst rfl (by rfl) (by decide) (by decide) ?_; clear hst; intro gb w hst hrd; (try simp only [List.cons_append, List.nil_append] at hst hrd); try simp only [Act.put, List.setIfInBounds_toArray, List.set_cons_zero, List.set_cons_succ]) | (refine wpList_append_rd rfl hst rfl hrd (by decide) (by unfold maxLen; omega) (by omega) ?_; clear hst hrd; intro v w hst; (try dsimp only at hst); try simp only [Act.put, List.setIfInBounds_toArray, List.set_cons_zero, List.set_cons_succ]) | (refine wpList_eql_int rfl rfl (fun he => ?_) (fun he => ?_) <;> first | (exfalso; omega) | (try simp only [Act.put, List.setIfInBounds_toArray, List.set_cons_zero, List.set_cons_succ])) | (refine wpList_neq_int rfl rfl (fun he => ?_) (fun he => ?_) <;> first | (exfalso; omega) | (try simp only [Act.put, List.setIfInBounds_toArray, List.set_cons_zero, List.set_cons_succ])) | (refine stk_store rfl ?_) | (refine stk_load rfl ?_) | (refine stk_alloc rfl ?_) | (refine stk_box rfl ?_) | (refine stk_build rfl ?_) | (refine stk_append rfl ?_) | (refine stk_index rfl ?_) | (refine stk_slice rfl ?_)) | (go_at_call 27; refine (rLetter_any _ _).mono ?_; rintro e w' ⟨rfl, rfl⟩; rw [HL2.out]) | (go_at_call 28; refine (rDigit_any _ _).mono ?_; rintro e w' ⟨rfl, rfl⟩; rw [HD2.out]))
        all_goals
          first
          | (refine bodyPost_ret (results_cell2 rfl hst rfl) rfl ?_
             have hnq : n = q - p := by have := hh.out; rw [span_zero hlt (by rw [← HQ.out]; simp [wordI, HL2.out, HD2.out])] at this; omega
             refine ⟨?_, HW.out ▸ hst.below⟩
             rw [HR.out]
             first
             | (rw [if_pos (by omega)]; rfl)
             | (have e : t = s.extract p (p + n) := by rw [ht.out, hnq, Int.toNat_natCast, Int.toNat_natCast]; congr 1; omega
                rw [if_neg (by omega), e]; rfl))
          | (go_round
             case rel => exact ⟨q + 1, by omega, by omega, by go_num, Lib.hid (by rw [hh.out, span_next (p := q) hlt (by rw [← HQ.out]; simp [wordI, HL2.out, HD2.out])]; omega)⟩
             case measure => simp [intOf]; omega)
      · have hqe : q = s.size := by omega
        have hnq : n = q - p := by have := hh.out; rw [hqe, span_end] at this; omega
        clear hqe
        go_wp2_with (first | ((with_reducible refine isList ?_); first | (refine wpList_alloc_st rfl hst rfl ?_; clear hst; intro ga w hst; try simp only [Act.put, List.setIfInBounds_toArray, List.set_cons_zero, List.set_cons_succ]) | (refine wpList_store_st rfl hst rfl (by rfl) ?_; clear hst; intro w hst; try simp only [Act.put, List.setIfInBounds_toArray, List.set_cons_zero, List.set_cons_succ]) | (refine wpList_load_one_st rfl hst rfl ?_; try simp only [Act.put, List.setIfInBounds_toArray, List.set_cons_zero, List.set_cons_succ]) | (refine wpList_load_agg_st rfl hst rfl ?_; try simp only [Act.put, List.setIfInBounds_toArray, List.set_cons_zero, List.set_cons_succ]) | (refine wpList_fieldAddr_blk rfl rfl ?_; simp only [Nat.zero_add]; try simp only [Act.put, List.setIfInBounds_toArray, List.set_cons_zero, List.set_cons_succ]) | (refine wpList_slice_str_hi rfl rfl ⟨by omega, by omega⟩ ?_; intro t ht; try simp only [Act.put, List.setIfInBounds_toArray, List.set_cons_zero, List.set_cons_succ]) | (refine wpList_slice_str_lo rfl rfl ⟨by omega, by omega⟩ ?_; intro t ht; try simp only [Act.put, List.setIfInBounds_toArray, List.set_cons_zero, List.set_cons_succ]) | (refine wpList_slice_str rfl rfl ⟨by omega, by omega, by omega⟩ ?_; intro t ht; try simp only [Act.put, List.setIfInBounds_toArray, List.set_cons_zero, List.set_cons_succ]) | (refine wpList_range_str rfl hst rfl ?_; clear hst; intro gi w hst; try simp only [Act.put, List.setIfInBounds_toArray, List.set_cons_zero, List.set_cons_succ]) | (refine wpList_next_some rfl hst rfl hlt ?_; clear hst; intro w hst; try simp only [Act.put, List.setIfInBounds_toArray, List.set_cons_zero, List.set_cons_succ]) | (refine wpList_next_end rfl hst rfl hlt ?_; try simp only [Act.put, List.setIfInBounds_toArray, List.set_cons_zero, List.set_cons_succ]) | (refine wpList_build1_st rfl hst rfl (by rfl) (by decide) ?_; clear hst; intro gb w hst hrd; try simp only [Act.put, List.setIfInBounds_toArray, List.set_cons_zero, List.set_cons_succ]) | (refine wpList_buildN_st rfl hst rfl (by rfl) (by decide) (by decide) ?_; clear hst; intro gb w hst hrd; (try simp only [List.cons_append, List.nil_append] at hst hrd); try simp only [Act.put, List.setIfInBounds_toArray, List.set_cons_zero, List.set_cons_succ]) | (refine wpList_append_rd rfl hst rfl hrd (by decide) (by unfold maxLen; omega) (by omega) ?_; clear hst hrd; intro v w hst; (try dsimp only at hst); try simp only [Act.put, List.setIfInBounds_toArray, List.set_cons_zero, List.set_cons_succ]) | (refine wpList_eql_int rfl rfl (fun he => ?_) (fun he => ?_) <;> first | (exfalso; omega) | (try simp only [Act.put, List.setIfInBounds_toArray, List.set_cons_zero, List.set_cons_succ])) | (refine wpList_neq_int rfl rfl (fun he => ?_) (fun he => ?_) <;> first | (exfalso; omega) | (try simp only [Act.put, List.setIfInBounds_toArray, List.set_cons_zero, List.set_cons_succ])) | (refine stk_store rfl ?_) | (refine stk_load rfl ?_) | (refine stk_alloc rfl ?_) | (refine stk_box rfl ?_) | (refine stk_build rfl ?_) | (refine stk_append rfl ?_) | (refine stk_index rfl ?_) | (refine stk_slice rfl ?_)))
        all_goals
            refine bodyPost_ret (results_cell2 rfl hst rfl) rfl ?_
            refine ⟨?_, HW.out ▸ hst.below⟩
            rw [HR.out]
            first
            | (rw [if_pos (by omega)]; rfl)
            | (have e : t = s.extract p (p + n) := by rw [ht.out, hnq, Int.toNat_natCast, Int.toNat_natCast]; congr 1; omega
               rw [if_neg (by omega), e]; rfl)
end Go.Proofs
