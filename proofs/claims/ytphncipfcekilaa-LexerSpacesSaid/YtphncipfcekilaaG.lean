/- The reference's small functions; Skip. -/
import Derived.Test.YtphncipfcekilaaA
import Derived.Test.YtphncipfcekilaaN
namespace Go.Proofs
open Go.RowKit Lx Go.Sx
set_option linter.unusedSimpArgs false
set_option linter.unusedVariables false
theorem rLetter_any (c : Int) (w : World) : Calls Try.prog 27 #[.int .u8 c] w fun e w' => e = .returned (.bool (letterI c)) ∧ w = w' := by
  go_enter Try.func27, Try.ntmps27
  go_wp2
  all_goals go_ret
  all_goals exact ⟨retB (by rw [Bool.eq_iff_iff]; simp [letterI]; omega), rfl⟩
theorem rDigit_any (c : Int) (w : World) : Calls Try.prog 28 #[.int .u8 c] w fun e w' => e = .returned (.bool (digitI c)) ∧ w = w' := by
  go_enter Try.func28, Try.ntmps28
  go_wp2
  all_goals go_ret
  all_goals exact ⟨retB (by rw [Bool.eq_iff_iff]; simp [digitI]; omega), rfl⟩
theorem rWhite_any (c : Int) (w : World) : Calls Try.prog 24 #[.int .u8 c] w fun e w' => e = .returned (.bool (whiteI c)) ∧ w = w' := by
  go_enter Try.func24, Try.ntmps24
  go_wp2
  all_goals go_ret
  all_goals exact ⟨retB (by rw [Bool.eq_iff_iff]; simp [whiteI]; omega), rfl⟩
/-- How many bytes of white space and comments a list begins with. -/
def skipL : Bool → List UInt8 → Nat
  | _, [] => 0
  | true, b :: l => 1 + skipL (!(b == 10)) l
  | false, b :: l => if b = 35 then 1 + skipL true l else if whiteI b.toNat then 1 + skipL false l else 0
theorem skipL_le : ∀ (l : List UInt8) (c : Bool), skipL c l ≤ l.length := by
  intro l
  induction l with
  | nil => intro c; cases c <;> simp [skipL]
  | cons b l ih =>
    intro c
    cases c
    · simp only [skipL, List.length_cons]
      split
      · have := ih true; omega
      · split
        · have := ih false; omega
        · omega
    · simp only [skipL, List.length_cons]
      have := ih (!(b == 10))
      omega
theorem geti (s : ByteArray) (p : Nat) (h : p < s.size) : s[p] = s.get! p := by have e := get_at s p h; simp only [Nat.add_zero] at e; exact e.symm

theorem rSkip_any (s : ByteArray) (at_ : Nat) (w : World) (hs : s.size ≤ maxLen) (ha : at_ ≤ s.size) :
    Calls Try.prog 14 #[.string s, .int .i64 at_] w fun e w' => e = .returned (.int .i64 ((at_ + skipL false (s.data.toList.drop at_) : Nat) : Int)) ∧ w = w' := by
  unfold maxLen at hs
  go_enter Try.func14, Try.ntmps14
  go_wp2_with fail
  go_loop [1, 5] (fun c1 c5 => ∃ p b, p ≤ s.size ∧ c1 = .int .i64 (p : Nat) ∧ c5 = .bool b ∧ Hid (at_ + skipL false (s.data.toList.drop at_) = p + skipL b (s.data.toList.drop p))) (fun c1 _ => s.size - (intOf c1).toNat)
  case atStart => exact ⟨at_, false, ha, rfl, rfl, Lib.hid rfl⟩
  case round =>
    obtain ⟨p, b, hp, rfl, rfl, hh⟩ := hrel
    by_cases hlt : p < s.size
    · have HG := Lib.hid (drop_get s p hlt)
      have HB := Lib.hid (geti s p hlt)
      have HL := Lib.hid (skipL_le (s.data.toList.drop (p + 1)))
      cases b
      · by_cases h35 : ((s[p]).toNat : Int) = 35
        · have hb : (s.get! p) = 35 := by rw [← HB.out]; exact UInt8.toNat_inj.1 (by have := h35; simp; omega)
          go_wp2_with fail
          go_round
          case rel => exact ⟨p + 1, true, by omega, by go_num, rfl, Lib.hid (by rw [hh.out, HG.out]; simp only [skipL, hb, if_true]; omega)⟩
          case measure => simp [intOf]; omega
        · have hb : ¬ (s.get! p) = 35 := by rw [← HB.out]; intro h; apply h35; rw [h]; rfl
          have h35b : (((s[p]).toNat : Int) == 35) = false := beq_eq_false_iff_ne.2 h35
          cases hw : whiteI ((s[p]).toNat : Int)
          all_goals
            have HW := Lib.hid hw; clear hw
            have HW2 := HW.out
            rw [HB.out] at HW2
            have HW3 := Lib.hid HW2; clear HW2
            go_wp2_with ((go_at_call 24; refine (rWhite_any _ _).mono ?_; rintro e w' ⟨rfl, rfl⟩; rw [HW.out]))
          · go_ret
            refine ⟨retI ?_, rfl⟩
            rw [hh.out, HG.out]
            simp [skipL, hb, HW3.out]
          · go_round
            case rel => exact ⟨p + 1, false, by omega, by go_num, rfl, Lib.hid (by rw [hh.out, HG.out]; simp only [skipL, hb, HW3.out, if_false, if_true]; omega)⟩
            case measure => simp [intOf]; omega
      · go_wp2_with fail
        go_round
        case rel => exact ⟨p + 1, (!(s.get! p == 10)), by omega, by go_num, by
          rw [show ((((s[p]).toNat : Int) != 10)) = (!(s.get! p == 10)) from by
            rw [HB.out]
            rw [Bool.eq_iff_iff]
            simp [bne, ← UInt8.toNat_inj]
            omega], Lib.hid (by rw [hh.out, HG.out]; simp only [skipL]; omega)⟩
        case measure => simp [intOf]; omega
    · go_wp2_with fail
      go_ret
      obtain rfl : p = s.size := by omega
      refine ⟨retI ?_, rfl⟩
      have h0 : skipL b (s.data.toList.drop s.size) = 0 := by rw [List.drop_of_length_le (by simp)]; cases b <;> rfl
      have := hh.out
      omega
end Go.Proofs
