/- The reference's symbol. -/
import Derived.Test.YtphncipfcekilaaG
namespace Go.Proofs
open Go.RowKit Lx Go.Sx
set_option linter.unusedSimpArgs false
set_option linter.unusedVariables false
def rsymS (s : ByteArray) (p : Nat) : ByteArray := if symN (s.data.toList.drop p) = 0 then ⟨#[]⟩ else s.extract p (p + symN (s.data.toList.drop p))
theorem sym2_no {s : ByteArray} {p : Nat} (hm : ∀ l ∈ sym2, s.extract p (p + 2) ≠ ⟨l.toArray⟩) : ¬ (1 < (s.data.toList.drop p).length ∧ (s.data.toList.drop p).take 2 ∈ sym2) := by
  rintro ⟨_, h⟩
  refine hm _ h ?_
  have := extract_list s p (p + 2)
  rw [Nat.add_sub_cancel_left] at this
  rw [← this]
theorem rsym_two {s : ByteArray} {p : Nat} (h1 : p + 1 < s.size) (hm : (s.extract p (p + 2)).data.toList ∈ sym2) : rsymS s p = s.extract p (p + 2) := by
  have := extract_list s p (p + 2)
  rw [Nat.add_sub_cancel_left] at this
  rw [this] at hm
  have e : symN (s.data.toList.drop p) = 2 := by
    unfold symN
    rw [if_pos ⟨by simp; omega, hm⟩]
  rw [rsymS, e]; rfl
theorem rsym_one {s : ByteArray} {p : Nat} (h0 : p < s.size) (hno : ¬ (1 < (s.data.toList.drop p).length ∧ (s.data.toList.drop p).take 2 ∈ sym2)) (hb : sym1.contains (s.get! p) = true) : rsymS s p = s.extract p (p + 1) := by
  have e : symN (s.data.toList.drop p) = 1 := by
    unfold symN
    rw [if_neg hno, drop_get s p h0]
    simp only [List.head?_cons, Option.any_some, hb, cond_true]
  rw [rsymS, e]; rfl
theorem rsym_none {s : ByteArray} {p : Nat} (h0 : p < s.size) (hno : ¬ (1 < (s.data.toList.drop p).length ∧ (s.data.toList.drop p).take 2 ∈ sym2)) (hb : sym1.contains (s.get! p) = false) : rsymS s p = ⟨#[]⟩ := by
  have e : symN (s.data.toList.drop p) = 0 := by
    unfold symN
    rw [if_neg hno, drop_get s p h0]
    simp only [List.head?_cons, Option.any_some, hb, cond_false]
  rw [rsymS, e]; rfl
theorem sym1_at {b : UInt8} (k : Int) (h : (b.toNat : Int) ≤ k ∧ k ≤ (b.toNat : Int)) (hk : k ∈ [(123 : Int), 125, 40, 41, 61, 59, 44, 58, 60, 62, 43, 45, 42, 47, 33, 46]) : sym1.contains b = true := by
  have e : b = (k.toNat).toUInt8 := by
    apply UInt8.toNat_inj.1
    have : k = (b.toNat : Int) := by omega
    rw [this]
    simp
  rw [e]
  simp only [List.mem_cons, List.not_mem_nil, or_false] at hk
  rcases hk with rfl | rfl | rfl | rfl | rfl | rfl | rfl | rfl | rfl | rfl | rfl | rfl | rfl | rfl | rfl | rfl <;> decide
theorem sym1_no {b : UInt8} (h : ∀ k ∈ [(123 : Int), 125, 40, 41, 61, 59, 44, 58, 60, 62, 43, 45, 42, 47, 33, 46], (b.toNat : Int) ≠ k) : sym1.contains b = false := by
  rw [Bool.eq_false_iff]
  intro hc
  have hm := List.contains_iff_mem.1 hc
  refine h b.toNat ?_ rfl
  simp only [sym1, List.mem_cons, List.not_mem_nil, or_false] at hm
  rcases hm with rfl | rfl | rfl | rfl | rfl | rfl | rfl | rfl | rfl | rfl | rfl | rfl | rfl | rfl | rfl | rfl <;> simp
set_option maxHeartbeats 4000000 in
theorem rsymbol_any (s : ByteArray) (p : Nat) (w : World) (hs : s.size ≤ maxLen) (hp : p < s.size) : Calls Try.prog 29 #[.string s, .int .i64 p] w fun e w' => e = .returned (.string (rsymS s p)) ∧ w = w' := by
  unfold maxLen at hs
  have HB := Lib.hid (geti s p hp)
  obtain ⟨w0, hw0, hst⟩ := St.start' w
  have HW := Lib.hid hw0; clear hw0
  go_enter Try.func29, Try.ntmps29
  go_wp2_with (first | ((with_reducible refine isList ?_); first | (refine wpList_alloc_st rfl hst rfl ?_; clear hst; intro ga w hst; try simp only [Act.put, List.setIfInBounds_toArray, List.set_cons_zero, List.set_cons_succ]) | (refine wpList_store_st rfl hst rfl (by rfl) ?_; clear hst; intro w hst; try simp only [Act.put, List.setIfInBounds_toArray, List.set_cons_zero, List.set_cons_succ]) | (refine wpList_load_one_st rfl hst rfl ?_; try simp only [Act.put, List.setIfInBounds_toArray, List.set_cons_zero, List.set_cons_succ]) | (refine wpList_load_agg_st rfl hst rfl ?_; try simp only [Act.put, List.setIfInBounds_toArray, List.set_cons_zero, List.set_cons_succ]) | (refine wpList_fieldAddr_blk rfl rfl ?_; simp only [Nat.zero_add]; try simp only [Act.put, List.setIfInBounds_toArray, List.set_cons_zero, List.set_cons_succ]) | (refine wpList_build1_st rfl hst rfl (by rfl) (by decide) ?_; clear hst; intro gb w hst hrd; try simp only [Act.put, List.setIfInBounds_toArray, List.set_cons_zero, List.set_cons_succ]) | (refine wpList_buildN_st rfl hst rfl (by rfl) (by decide) (by decide) ?_; clear hst; intro gb w hst hrd; (try simp only [List.cons_append, List.nil_append] at hst hrd); try simp only [Act.put, List.setIfInBounds_toArray, List.set_cons_zero, List.set_cons_succ]) | (refine wpList_append_rd rfl hst rfl hrd (by decide) (by unfold maxLen; omega) (by omega) ?_; clear hst hrd; intro v w hst; (try dsimp only at hst); try simp only [Act.put, List.setIfInBounds_toArray, List.set_cons_zero, List.set_cons_succ]) | (refine wpList_eql_str rfl rfl (fun hs1 => ?_) (fun hs1 => ?_) <;> try simp only [Act.put, List.setIfInBounds_toArray, List.set_cons_zero, List.set_cons_succ]) | (refine wpList_neq_str rfl rfl (fun hs1 => ?_) (fun hs1 => ?_) <;> try simp only [Act.put, List.setIfInBounds_toArray, List.set_cons_zero, List.set_cons_succ]) | (refine wpList_eql_int rfl rfl (fun he => ?_) (fun he => ?_) <;> first | (exfalso; omega) | (try simp only [Act.put, List.setIfInBounds_toArray, List.set_cons_zero, List.set_cons_succ])) | (refine wpList_neq_int rfl rfl (fun he => ?_) (fun he => ?_) <;> first | (exfalso; omega) | (try simp only [Act.put, List.setIfInBounds_toArray, List.set_cons_zero, List.set_cons_succ]))))
  all_goals
    go_ret
    refine ⟨?_, rfl⟩
    first
    | (have hm : (s.extract p (p + 2)).data.toList ∈ sym2 := by rw [hs1.out]; decide
       rw [rsym_two (by omega) hm]
       first | done | rfl)
    | (have hno : ¬ (1 < (s.data.toList.drop p).length ∧ (s.data.toList.drop p).take 2 ∈ sym2) := by
         first
         | (have hx : s.size ≤ p + 1 := by omega
            rintro ⟨h, _⟩
            simp at h
            omega)
         | (have n1 : Hid (s.extract p (p + 2) ≠ ⟨#[124, 124]⟩) := by assumption
            have n2 : Hid (s.extract p (p + 2) ≠ ⟨#[38, 38]⟩) := by assumption
            have n3 : Hid (s.extract p (p + 2) ≠ ⟨#[60, 61]⟩) := by assumption
            have n4 : Hid (s.extract p (p + 2) ≠ ⟨#[62, 61]⟩) := by assumption
            have n5 : Hid (s.extract p (p + 2) ≠ ⟨#[61, 61]⟩) := by assumption
            have n6 : Hid (s.extract p (p + 2) ≠ ⟨#[33, 61]⟩) := by assumption
            refine sym2_no (fun l hl => ?_)
            simp only [sym2, List.mem_cons, List.not_mem_nil, or_false] at hl
            rcases hl with rfl | rfl | rfl | rfl | rfl | rfl
            exact n1.out
            exact n2.out
            exact n3.out
            exact n4.out
            exact n5.out
            exact n6.out)
       first
       | (have h1 := sym1_at _ he (by decide)
          rw [HB.out] at h1
          rw [rsym_one hp hno h1]
          first | done | rfl)
       | (have h1 := sym1_no (b := s[p]) (fun k hk => by
            simp only [List.mem_cons, List.not_mem_nil, or_false] at hk
            omega)
          rw [HB.out] at h1
          rw [rsym_none hp hno h1]
          first | done | rfl))
end Go.Proofs
