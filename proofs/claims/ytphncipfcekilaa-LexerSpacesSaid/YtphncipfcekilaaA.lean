/- Contracts of the small functions of the lexer. -/
import Derived.Test.YtphncipfcekilaaT
import Derived.Test.YtphncipfcekilaaM
import Derived.Outline
import Derived.LoopTactic
namespace Go.Proofs
open Go.RowKit Lx Go.Sx
theorem retB {a b : Bool} (h : a = b) : Ending.returned (.bool a) = .returned (.bool b) := by rw [h]
theorem retI {k : IntKind} {a b : Int} (h : a = b) : Ending.returned (.int k a) = .returned (.int k b) := by rw [h]
theorem letter_any (c : Int) (w : World) : Calls Try.prog 18 #[.int .i32 c] w fun e w' => e = .returned (.bool (letterI c)) ∧ w = w' := by
  go_enter Try.func18, Try.ntmps18
  go_wp2
  all_goals go_ret
  all_goals exact ⟨retB (by rw [Bool.eq_iff_iff]; simp [letterI]; omega), rfl⟩
theorem digit_any (c : Int) (w : World) : Calls Try.prog 20 #[.int .i32 c] w fun e w' => e = .returned (.bool (digitI c)) ∧ w = w' := by
  go_enter Try.func20, Try.ntmps20
  go_wp2
  all_goals go_ret
  all_goals exact ⟨retB (by rw [Bool.eq_iff_iff]; simp [digitI]; omega), rfl⟩
theorem word1_any (c : Int) (w : World) : Calls Try.prog 25 #[.int .i32 c] w fun e w' => e = .returned (.bool (wordI c)) ∧ w = w' := by
  cases hl : letterI c
  all_goals
    have H := Lib.hid hl; clear hl
    go_enter Try.func25, Try.ntmps25
    go_wp2_with (first | (go_at_call 18; refine (letter_any _ _).mono ?_; rintro e w' ⟨rfl, rfl⟩; rw [H.out]) | (go_at_call 20; refine (digit_any _ _).mono ?_; rintro e w' ⟨rfl, rfl⟩))
    go_ret
    exact ⟨by simp [wordI, H.out], rfl⟩
theorem tokens1_any (c : Int) (w : World) : Calls Try.prog 17 #[.int .i32 c] w fun e w' => e = .returned (.bool (ne10 c)) ∧ w = w' := by
  go_enter Try.func17, Try.ntmps17
  go_wp2
  go_ret
  exact ⟨retB (by first | rfl | simp [ne10]), rfl⟩
theorem flat_word : Flat wordI := fun c h => by rw [Bool.eq_iff_iff]; simp [wordI, letterI, digitI]; omega
theorem flat_digit : Flat digitI := fun c h => by rw [Bool.eq_iff_iff]; simp [digitI]; omega
theorem flat_ne10 : Flat ne10 := fun c h => by rw [Bool.eq_iff_iff]; simp [ne10]; omega
theorem span_le (g : Int → Bool) (l : List UInt8) : spanL g l ≤ l.length := (List.takeWhile_sublist _).length_le
abbrev resV (q : Tok × Int) : Value := .tuple #[.agg #[.int .i64 q.1.k, .int .i64 q.1.a, .string q.1.t, .int .i64 q.1.n], .int .i64 q.2]
end Go.Proofs
