/- The reference's Decimal, walked. -/
import Derived.Test.YtphncipfcekilaaO
import Derived.Test.YtphncipfcekilaaG
import Derived.Test.YtphncipfcekilaaT
import Derived.Test.YtphncipfcekilaaR2
namespace Go.Proofs
open Go.RowKit Lx Go.Sx
set_option linter.unusedSimpArgs false
set_option linter.unusedVariables false
theorem valI_add (l : List UInt8) (m : Int) : valI m l = m * 10 ^ l.length + valI 0 l := by
  induction l generalizing m with
  | nil => simp [valI]
  | cons b l ih =>
    have e : ∀ m, valI m (b :: l) = valI (10 * m + ((b.toNat : Int) - 48)) l := fun m => rfl
    rw [e, e, ih, ih (10 * 0 + _), List.length_cons, Int.pow_succ, Int.mul_zero, Int.zero_add, Int.add_mul]
    have : 10 * m * 10 ^ l.length = m * (10 ^ l.length * 10) := by rw [Int.mul_comm 10 m, Int.mul_assoc, Int.mul_comm 10]
    omega
def DecP (n : Nat) (l : List UInt8) : Prop := l ≠ [] ∧ (∀ c ∈ l, 48 ≤ c.toNat ∧ c.toNat ≤ 57) ∧ valI 0 l = n ∧ (1 < l.length → l.head? ≠ some 48) ∧ l.length ≤ 20
def DecI (n k : Nat) (l : List UInt8) : Prop := (∀ c ∈ l, 48 ≤ c.toNat ∧ c.toNat ≤ 57) ∧ (k : Int) * 10 ^ l.length + valI 0 l = n ∧ (k = 0 → l ≠ [] ∧ l.head? ≠ some 48) ∧ l.length ≤ 20

theorem dig_ext : ∀ d, d < 10 → (⟨#[48, 49, 50, 51, 52, 53, 54, 55, 56, 57]⟩ : ByteArray).extract d (d + 1) = mkB [UInt8.ofNat (48 + d)] := by
  intro d hd
  refine ba_ext ?_
  rw [extract_list, mkB_list, Nat.add_sub_cancel_left]
  have : ∀ d : Fin 10, (List.drop d.val [48, 49, 50, 51, 52, 53, 54, 55, 56, 57] : List UInt8).take 1 = [UInt8.ofNat (48 + d.val)] := by decide
  exact this ⟨d, hd⟩
theorem mkB_app (c : UInt8) (l : List UInt8) : mkB (c :: l) = mkB [c] ++ mkB l := ba_ext (by rw [mkB_list]; simp [mkB])
theorem valI_pos (l : List UInt8) (h : ∀ c ∈ l, 48 ≤ c.toNat ∧ c.toNat ≤ 57) : ∀ m, 0 ≤ m → 0 ≤ valI m l := by
  induction l with
  | nil => exact fun m h => h
  | cons b l ih =>
    intro m hm
    have := (h b (.head _)).1
    have h2 : 0 ≤ 10 * m + ((b.toNat : Int) - 48) := by omega
    exact ih (fun c hc => h c (.tail _ hc)) _ h2
theorem dec_step {n k : Nat} {l : List UInt8} {dg : UInt8} (h : DecI n k l) (hd : dg.toNat = 48 + k % 10) (hk : ¬ k = 0) (hn : n ≤ 9223372036854775807) : DecI n (k / 10) (dg :: l) ∧ (dg :: l).length ≤ 20 := by
  obtain ⟨h1, h2, h3, h4⟩ := h
  have hp := valI_pos l h1 0 (Int.le_refl _)
  have h18 : l.length ≤ 18 := by
    rcases Nat.lt_or_ge 18 l.length with hlt | hge
    · exfalso
      have h5 : (10 : Nat) ^ 19 ≤ 10 ^ l.length := Nat.pow_le_pow_right (by omega) hlt
      have h6 : 1 * 10 ^ l.length ≤ k * 10 ^ l.length := Nat.mul_le_mul_right _ (by omega)
      have h7 : ((k * 10 ^ l.length : Nat) : Int) ≤ n := by push_cast; omega
      have h8 : k * 10 ^ l.length ≤ n := by exact_mod_cast h7
      omega
    · exact hge
  have hlen : (dg :: l).length ≤ 20 := by rw [List.length_cons]; omega
  refine ⟨⟨?_, ?_, ?_, hlen⟩, hlen⟩
  · intro c hc
    cases hc with
    | head => have := Nat.mod_lt k (show 10 > 0 by omega); omega
    | tail _ hc => exact h1 c hc
  · have e : valI 0 (dg :: l) = valI (10 * 0 + ((dg.toNat : Int) - 48)) l := rfl
    rw [e, valI_add, List.length_cons, Int.pow_succ, ← h2, hd]
    have e2 : ((10 * 0 + (((48 + k % 10 : Nat) : Int) - 48)) : Int) = ((k % 10 : Nat) : Int) := by push_cast; omega
    rw [e2]
    have e3 : (k : Int) = 10 * ((k / 10 : Nat) : Int) + ((k % 10 : Nat) : Int) := by exact_mod_cast (Nat.div_add_mod k 10).symm
    generalize ((k / 10 : Nat) : Int) = q at *
    generalize ((k % 10 : Nat) : Int) = r at *
    generalize (10 : Int) ^ l.length = z at *
    rw [e3, Int.add_mul, ← Int.add_assoc, Int.mul_comm z 10, ← Int.mul_assoc, Int.mul_comm q 10]
  · intro h0
    refine ⟨by simp, ?_⟩
    rw [List.head?_cons]
    intro e
    rw [Option.some.injEq] at e
    rw [e] at hd
    have : (48 : UInt8).toNat = 48 := rfl
    omega

set_option maxHeartbeats 1000000 in
theorem decimal_any (n : Nat) (hn : n ≤ 9223372036854775807) (w : World) : Calls Try.prog 15 #[.int .i64 n] w fun e w' => ∃ l, e = .returned (.string (mkB l)) ∧ DecP n l ∧ Below w.heap.size w w' := by
  obtain ⟨w0, hw0, hst⟩ := St.start' w
  have HW := Lib.hid hw0; clear hw0
  by_cases h0 : n = 0
  · subst h0
    go_enter Try.func15, Try.ntmps15
    go_wp2_with (first | ((with_reducible refine isList ?_); first | (refine wpList_alloc_st rfl hst rfl ?_; clear hst; intro ga w hst; try simp only [Act.put, List.setIfInBounds_toArray, List.set_cons_zero, List.set_cons_succ]) | (refine wpList_store_st rfl hst rfl (by rfl) ?_; clear hst; intro w hst; try simp only [Act.put, List.setIfInBounds_toArray, List.set_cons_zero, List.set_cons_succ]) | (refine wpList_load_one_st rfl hst rfl ?_; try simp only [Act.put, List.setIfInBounds_toArray, List.set_cons_zero, List.set_cons_succ]) | (refine wpList_load_agg_st rfl hst rfl ?_; try simp only [Act.put, List.setIfInBounds_toArray, List.set_cons_zero, List.set_cons_succ]) | (refine wpList_fieldAddr_blk rfl rfl ?_; simp only [Nat.zero_add]; try simp only [Act.put, List.setIfInBounds_toArray, List.set_cons_zero, List.set_cons_succ]) | (refine wpList_slice_str_hi rfl rfl ⟨by omega, by omega⟩ ?_; intro t ht; try simp only [Act.put, List.setIfInBounds_toArray, List.set_cons_zero, List.set_cons_succ]) | (refine wpList_slice_str_lo rfl rfl ⟨by omega, by omega⟩ ?_; intro t ht; try simp only [Act.put, List.setIfInBounds_toArray, List.set_cons_zero, List.set_cons_succ]) | (refine wpList_slice_str rfl rfl ⟨by omega, by omega, by omega⟩ ?_; intro t ht; try simp only [Act.put, List.setIfInBounds_toArray, List.set_cons_zero, List.set_cons_succ]) | (refine wpList_range_str rfl hst rfl ?_; clear hst; intro gi w hst; try simp only [Act.put, List.setIfInBounds_toArray, List.set_cons_zero, List.set_cons_succ]) | (refine wpList_next_some rfl hst rfl hlt ?_; clear hst; intro w hst; try simp only [Act.put, List.setIfInBounds_toArray, List.set_cons_zero, List.set_cons_succ]) | (refine wpList_next_end rfl hst rfl hlt ?_; try simp only [Act.put, List.setIfInBounds_toArray, List.set_cons_zero, List.set_cons_succ]) | (refine wpList_build1_st rfl hst rfl (by rfl) (by decide) ?_; clear hst; intro gb w hst hrd; try simp only [Act.put, List.setIfInBounds_toArray, List.set_cons_zero, List.set_cons_succ]) | (refine wpList_buildN_st rfl hst rfl (by rfl) (by decide) (by decide) ?_; clear hst; intro gb w hst hrd; (try simp only [List.cons_append, List.nil_append] at hst hrd); try simp only [Act.put, List.setIfInBounds_toArray, List.set_cons_zero, List.set_cons_succ]) | (refine wpList_append_rd rfl hst rfl hrd (by decide) (by unfold maxLen; omega) (by omega) ?_; clear hst hrd; intro v w hst; (try dsimp only at hst); try simp only [Act.put, List.setIfInBounds_toArray, List.set_cons_zero, List.set_cons_succ]) | (refine stk_store rfl ?_) | (refine stk_load rfl ?_) | (refine stk_alloc rfl ?_) | (refine stk_box rfl ?_) | (refine stk_build rfl ?_) | (refine stk_append rfl ?_) | (refine stk_index rfl ?_) | (refine stk_slice rfl ?_)))
    go_ret
    exact ⟨[48], rfl, ⟨by simp, by simp, rfl, by simp, by simp⟩, HW.out ▸ hst.below⟩
  · have h0' : ¬ ((n : Int) = 0) := by omega
    go_enter Try.func15, Try.ntmps15
    go_wp2_with (first | ((with_reducible refine isList ?_); first | (refine wpList_alloc_st rfl hst rfl ?_; clear hst; intro ga w hst; try simp only [Act.put, List.setIfInBounds_toArray, List.set_cons_zero, List.set_cons_succ]) | (refine wpList_store_st rfl hst rfl (by rfl) ?_; clear hst; intro w hst; try simp only [Act.put, List.setIfInBounds_toArray, List.set_cons_zero, List.set_cons_succ]) | (refine wpList_load_one_st rfl hst rfl ?_; try simp only [Act.put, List.setIfInBounds_toArray, List.set_cons_zero, List.set_cons_succ]) | (refine wpList_load_agg_st rfl hst rfl ?_; try simp only [Act.put, List.setIfInBounds_toArray, List.set_cons_zero, List.set_cons_succ]) | (refine wpList_fieldAddr_blk rfl rfl ?_; simp only [Nat.zero_add]; try simp only [Act.put, List.setIfInBounds_toArray, List.set_cons_zero, List.set_cons_succ]) | (refine wpList_slice_str_hi rfl rfl ⟨by omega, by omega⟩ ?_; intro t ht; try simp only [Act.put, List.setIfInBounds_toArray, List.set_cons_zero, List.set_cons_succ]) | (refine wpList_slice_str_lo rfl rfl ⟨by omega, by omega⟩ ?_; intro t ht; try simp only [Act.put, List.setIfInBounds_toArray, List.set_cons_zero, List.set_cons_succ]) | (refine wpList_slice_str rfl rfl ⟨by omega, by omega, by omega⟩ ?_; intro t ht; try simp only [Act.put, List.setIfInBounds_toArray, List.set_cons_zero, List.set_cons_succ]) | (refine wpList_range_str rfl hst rfl ?_; clear hst; intro gi w hst; try simp only [Act.put, List.setIfInBounds_toArray, List.set_cons_zero, List.set_cons_succ]) | (refine wpList_next_some rfl hst rfl hlt ?_; clear hst; intro w hst; try simp only [Act.put, List.setIfInBounds_toArray, List.set_cons_zero, List.set_cons_succ]) | (refine wpList_next_end rfl hst rfl hlt ?_; try simp only [Act.put, List.setIfInBounds_toArray, List.set_cons_zero, List.set_cons_succ]) | (refine wpList_build1_st rfl hst rfl (by rfl) (by decide) ?_; clear hst; intro gb w hst hrd; try simp only [Act.put, List.setIfInBounds_toArray, List.set_cons_zero, List.set_cons_succ]) | (refine wpList_buildN_st rfl hst rfl (by rfl) (by decide) (by decide) ?_; clear hst; intro gb w hst hrd; (try simp only [List.cons_append, List.nil_append] at hst hrd); try simp only [Act.put, List.setIfInBounds_toArray, List.set_cons_zero, List.set_cons_succ]) | (refine wpList_append_rd rfl hst rfl hrd (by decide) (by unfold maxLen; omega) (by omega) ?_; clear hst hrd; intro v w hst; (try dsimp only at hst); try simp only [Act.put, List.setIfInBounds_toArray, List.set_cons_zero, List.set_cons_succ]) | (refine wpList_eql_int rfl rfl (fun he => ?_) (fun he => ?_) <;> first | (exfalso; omega) | (try simp only [Act.put, List.setIfInBounds_toArray, List.set_cons_zero, List.set_cons_succ])) | (refine wpList_neq_int rfl rfl (fun he => ?_) (fun he => ?_) <;> first | (exfalso; omega) | (try simp only [Act.put, List.setIfInBounds_toArray, List.set_cons_zero, List.set_cons_succ])) | (refine stk_store rfl ?_) | (refine stk_load rfl ?_) | (refine stk_alloc rfl ?_) | (refine stk_box rfl ?_) | (refine stk_build rfl ?_) | (refine stk_append rfl ?_) | (refine stk_index rfl ?_) | (refine stk_slice rfl ?_)))
    go_loopw [4, 5] (fun c4 c5 wr => ∃ k l, k ≤ n ∧ c4 = .string (mkB l) ∧ c5 = .int .i64 ((k : Nat) : Int) ∧ St w0 wr [] ∧ Hid (DecI n k l) ∧ l.length ≤ 20) (fun _ c _ => (intOf c).toNat)
    case atStart => exact ⟨n, [], Nat.le_refl _, rfl, rfl, hst, Lib.hid ⟨by simp, by simp [valI], fun h => absurd h h0, by simp⟩, by simp⟩
    case round =>
      clear hst
      obtain ⟨k, l, hk, rfl, rfl, hst, hd, hl⟩ := hrel
      have hls : (mkB l).size = l.length := mkB_size l
      by_cases hk0 : k = 0
      · subst hk0
        go_wp2_with (first | ((with_reducible refine isList ?_); first | (refine wpList_alloc_st rfl hst rfl ?_; clear hst; intro ga w hst; try simp only [Act.put, List.setIfInBounds_toArray, List.set_cons_zero, List.set_cons_succ]) | (refine wpList_store_st rfl hst rfl (by rfl) ?_; clear hst; intro w hst; try simp only [Act.put, List.setIfInBounds_toArray, List.set_cons_zero, List.set_cons_succ]) | (refine wpList_load_one_st rfl hst rfl ?_; try simp only [Act.put, List.setIfInBounds_toArray, List.set_cons_zero, List.set_cons_succ]) | (refine wpList_load_agg_st rfl hst rfl ?_; try simp only [Act.put, List.setIfInBounds_toArray, List.set_cons_zero, List.set_cons_succ]) | (refine wpList_fieldAddr_blk rfl rfl ?_; simp only [Nat.zero_add]; try simp only [Act.put, List.setIfInBounds_toArray, List.set_cons_zero, List.set_cons_succ]) | (refine wpList_slice_str_hi rfl rfl ⟨by omega, by omega⟩ ?_; intro t ht; try simp only [Act.put, List.setIfInBounds_toArray, List.set_cons_zero, List.set_cons_succ]) | (refine wpList_slice_str_lo rfl rfl ⟨by omega, by omega⟩ ?_; intro t ht; try simp only [Act.put, List.setIfInBounds_toArray, List.set_cons_zero, List.set_cons_succ]) | (refine wpList_slice_str rfl rfl ⟨by omega, by omega, by omega⟩ ?_; intro t ht; try simp only [Act.put, List.setIfInBounds_toArray, List.set_cons_zero, List.set_cons_succ]) | (refine wpList_range_str rfl hst rfl ?_; clear hst; intro gi w hst; try simp only [Act.put, List.setIfInBounds_toArray, List.set_cons_zero, List.set_cons_succ]) | (refine wpList_next_some rfl hst rfl hlt ?_; clear hst; intro w hst; try simp only [Act.put, List.setIfInBounds_toArray, List.set_cons_zero, List.set_cons_succ]) | (refine wpList_next_end rfl hst rfl hlt ?_; try simp only [Act.put, List.setIfInBounds_toArray, List.set_cons_zero, List.set_cons_succ]) | (refine wpList_build1_st rfl hst rfl (by rfl) (by decide) ?_; clear hst; intro gb w hst hrd; try simp only [Act.put, List.setIfInBounds_toArray, List.set_cons_zero, List.set_cons_succ]) | (refine wpList_buildN_st rfl hst rfl (by rfl) (by decide) (by decide) ?_; clear hst; intro gb w hst hrd; (try simp only [List.cons_append, List.nil_append] at hst hrd); try simp only [Act.put, List.setIfInBounds_toArray, List.set_cons_zero, List.set_cons_succ]) | (refine wpList_append_rd rfl hst rfl hrd (by decide) (by unfold maxLen; omega) (by omega) ?_; clear hst hrd; intro v w hst; (try dsimp only at hst); try simp only [Act.put, List.setIfInBounds_toArray, List.set_cons_zero, List.set_cons_succ]) | (refine stk_store rfl ?_) | (refine stk_load rfl ?_) | (refine stk_alloc rfl ?_) | (refine stk_box rfl ?_) | (refine stk_build rfl ?_) | (refine stk_append rfl ?_) | (refine stk_index rfl ?_) | (refine stk_slice rfl ?_)))
        go_ret
        obtain ⟨h1, h2, h3, h4⟩ := hd.out
        exact ⟨l, rfl, ⟨(h3 rfl).1, h1, by simpa using h2, fun _ => (h3 rfl).2, h4⟩, HW.out ▸ hst.below⟩
      · have hk0' : ¬ ((k : Int) = 0) := by omega
        have hkb : ((k : Int) != 0) = true := by simp; omega
        have e1 : (k : Int).tdiv 10 = ((k / 10 : Nat) : Int) := by rw [Int.tdiv_eq_ediv_of_nonneg (by omega)]; rfl
        have e2 : (k : Int).tmod 10 = ((k % 10 : Nat) : Int) := by rw [Int.tmod_eq_emod_of_nonneg (by omega)]; rfl
        have h10 : k % 10 < 10 := Nat.mod_lt _ (by omega)
        obtain ⟨dg, hdg⟩ : ∃ dg, UInt8.ofNat (48 + k % 10) = dg := ⟨_, rfl⟩
        have HDIG : Hid (∀ t : ByteArray, t = (⟨#[48, 49, 50, 51, 52, 53, 54, 55, 56, 57]⟩ : ByteArray).extract ((k : Int) % 10).toNat ((k : Int) % 10 + 1).toNat → t = mkB [dg]) := Lib.hid (by
          rintro t rfl
          rw [show ((k : Int) % 10).toNat = k % 10 by omega, show ((k : Int) % 10 + 1).toNat = k % 10 + 1 by omega, ← hdg]
          exact dig_ext _ h10)
        have hs1 : (mkB [dg]).size = 1 := mkB_size _
        have HDG := Lib.hid hdg
        clear hdg
        go_wp2_with (first | ((with_reducible refine isList ?_); first | (refine wpList_slice_str rfl rfl ⟨by omega, by omega, by show _ ≤ (10 : Int); omega⟩ ?_; intro t ht; obtain rfl := HDIG.out t ht.out; clear ht; try simp only [Act.put, List.setIfInBounds_toArray, List.set_cons_zero, List.set_cons_succ])))
        go_roundw
        case rel =>
          have hdv : dg.toNat = 48 + k % 10 := by rw [← HDG.out, UInt8.toNat_ofNat']; omega
          obtain ⟨h1, h2⟩ := dec_step hd.out hdv hk0 (by omega)
          exact ⟨k / 10, dg :: l, by omega, by rw [← mkB_app], by first | rfl | go_num | (congr 1; omega), hst.nil, Lib.hid h1, h2⟩
        case measure => simp [intOf]; omega
end Go.Proofs
