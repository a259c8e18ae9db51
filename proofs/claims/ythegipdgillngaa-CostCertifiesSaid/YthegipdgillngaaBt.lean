/- Tables of functions: numbers made small, costs added, subtracted, compared. -/
import Derived.Test.YthegipdgillngaaBe
namespace Go.Proofs.Ythegipdgillngaa
open Go Go.Am
abbrev w (n : Int) : Int := IntKind.wrap .i64 n
def i6 (a b c d e f : Int) : V := .agg [i64 a, i64 b, i64 c, i64 d, i64 e, i64 f]
def lim (n : Int) : Int := if 2147483647 < n then 2147483647 else n
def pos (n : Int) : Int := if 0 > n then 0 else n
def around (a m : Int) : Int := if a < 0 then (w (0 - w (a + 1))).tmod m else a.tmod m
def add6 (a b c d e f a' b' c' d' e' f' : Int) : V := i6 (lim (w (a + a'))) (lim (w (b + b'))) (lim (w (c + c'))) (lim (w (d + d'))) (lim (w (e + e'))) (lim (w (f + f')))
def sub6 (a b c d e f a' b' c' d' e' f' : Int) : V := i6 (pos (w (a - a'))) (pos (w (b - b'))) (pos (w (c - c'))) (pos (w (d - d'))) (pos (w (e - e'))) (pos (w (f - f')))
theorem SC.g {n : Nat} {f : FuncId} {args : List V} {L : List (Option Chunk)} {cr : CRes} (h : callG E n f args L K = some (.c cr)) : SC E f args L cr := by
  obtain ⟨cr', e1, e2⟩ := (sound_G hW hX n).1 _ _ _ _ _ h
  simp only [K, Option.some.injEq, Ans.c.injEq] at e1
  rwa [e1] at e2
def t21 : Tab1
  | [.sc (.int .i64 a), .sc (.int .i64 m)], [], k => if m = 0 then none else k (.ret (i64 (around a m)) [])
  | _, _, _ => none
theorem tree21 (a m : Int) : callG E 20 21 [i64 a, i64 m] [] K = if decide (a < 0) = true then (if m = 0 then none else some (.c (.ret (i64 (Int.tmod (w (0 - w (a + 1))) m)) []))) else (if m = 0 then none else some (.c (.ret (i64 (Int.tmod a m)) []))) := by kernel_rfl
theorem ok21 : OkT E 21 t21 := by
  intro args L k r h
  unfold t21 at h
  split at h
  · rename_i a m
    split at h
    · cases h
    · rename_i hm
      refine ⟨_, h, SC.g (n := 20) ?_⟩
      rw [tree21]
      unfold around
      by_cases ha : a < 0 <;> simp [ha, hm]
  · cases h
def tAdd : Tab1
  | [.agg [.sc (.int .i64 a), .sc (.int .i64 b), .sc (.int .i64 c), .sc (.int .i64 d), .sc (.int .i64 e), .sc (.int .i64 f)], .agg [.sc (.int .i64 a'), .sc (.int .i64 b'), .sc (.int .i64 c'), .sc (.int .i64 d'), .sc (.int .i64 e'), .sc (.int .i64 f')]], [], k => k (.ret (add6 a b c d e f a' b' c' d' e' f') [])
  | _, _, _ => none
def tSub : Tab1
  | [.agg [.sc (.int .i64 a), .sc (.int .i64 b), .sc (.int .i64 c), .sc (.int .i64 d), .sc (.int .i64 e), .sc (.int .i64 f)], .agg [.sc (.int .i64 a'), .sc (.int .i64 b'), .sc (.int .i64 c'), .sc (.int .i64 d'), .sc (.int .i64 e'), .sc (.int .i64 f')]], [], k => k (.ret (sub6 a b c d e f a' b' c' d' e' f') [])
  | _, _, _ => none
theorem tree29 (a b c d e f a' b' c' d' e' f' : Int) : callG E 20 29 [i6 a b c d e f, i6 a' b' c' d' e' f'] [] K = some (.c (.ret (add6 a b c d e f a' b' c' d' e' f') [])) := by kernel_rfl
theorem tree32 (a b c d e f a' b' c' d' e' f' : Int) : callG E 20 32 [i6 a b c d e f, i6 a' b' c' d' e' f'] [] K = some (.c (.ret (add6 a b c d e f a' b' c' d' e' f') [])) := by kernel_rfl
theorem tree33 (a b c d e f a' b' c' d' e' f' : Int) : callG E 20 33 [i6 a b c d e f, i6 a' b' c' d' e' f'] [] K = some (.c (.ret (sub6 a b c d e f a' b' c' d' e' f') [])) := by kernel_rfl
theorem tree34 (a b c d e f a' b' c' d' e' f' : Int) : callG E 20 34 [i6 a b c d e f, i6 a' b' c' d' e' f'] [] K = some (.c (.ret (sub6 a b c d e f a' b' c' d' e' f') [])) := by kernel_rfl
theorem okAdd {g : FuncId} (h : ∀ a b c d e f a' b' c' d' e' f' : Int, callG E 20 g [i6 a b c d e f, i6 a' b' c' d' e' f'] [] K = some (.c (.ret (add6 a b c d e f a' b' c' d' e' f') []))) : OkT E g tAdd := by
  intro args L k r hr
  unfold tAdd at hr
  split at hr
  · exact ⟨_, hr, SC.g (h _ _ _ _ _ _ _ _ _ _ _ _)⟩
  · cases hr
theorem okSub {g : FuncId} (h : ∀ a b c d e f a' b' c' d' e' f' : Int, callG E 20 g [i6 a b c d e f, i6 a' b' c' d' e' f'] [] K = some (.c (.ret (sub6 a b c d e f a' b' c' d' e' f') []))) : OkT E g tSub := by
  intro args L k r hr
  unfold tSub at hr
  split at hr
  · exact ⟨_, hr, SC.g (h _ _ _ _ _ _ _ _ _ _ _ _)⟩
  · cases hr
def mx (a b : Int) : Int := if b > a then b else a
theorem tree24 (a b c d e f a' b' c' d' e' f' : Int) : callG E 20 24 [i6 a b c d e f, i6 a' b' c' d' e' f'] [] K = some (.c (.ret (bo (mx a a' == a' && (mx b b' == b' && (mx c c' == c' && (mx d d' == d' && (mx e e' == e' && (mx f f' == f' && true))))))) [])) := by kernel_rfl
theorem tree31 (a b c d e f a' b' c' d' e' f' : Int) : callG E 20 31 [i6 a b c d e f, i6 a' b' c' d' e' f'] [] K = if decide (a ≤ a') = true then (if decide (b ≤ b') = true then (if decide (c ≤ c') = true then (if decide (d ≤ d') = true then (if decide (e ≤ e') = true then some (.c (.ret (bo (decide (f ≤ f'))) [])) else some (.c (.ret (bo false) []))) else some (.c (.ret (bo false) []))) else some (.c (.ret (bo false) []))) else some (.c (.ret (bo false) []))) else some (.c (.ret (bo false) [])) := by kernel_rfl
def within6 (a b c d e f a' b' c' d' e' f' : Int) : Bool := decide (a ≤ a') && (decide (b ≤ b') && (decide (c ≤ c') && (decide (d ≤ d') && (decide (e ≤ e') && decide (f ≤ f')))))
theorem mx_le (a b : Int) : (mx a b == b) = decide (a ≤ b) := by
  unfold mx
  by_cases h : a ≤ b
  · by_cases h' : b > a
    · simp [h, h']
    · have : a = b := by omega
      subst this; simp
  · have h' : ¬ b > a := by omega
    simp only [h', if_false, h, decide_false, beq_eq_false_iff_ne, ne_eq]; omega
theorem tree24' (a b c d e f a' b' c' d' e' f' : Int) : callG E 20 24 [i6 a b c d e f, i6 a' b' c' d' e' f'] [] K = some (.c (.ret (bo (within6 a b c d e f a' b' c' d' e' f')) [])) := by
  rw [tree24]; simp only [mx_le, Bool.and_true, within6]
theorem tree31' (a b c d e f a' b' c' d' e' f' : Int) : callG E 20 31 [i6 a b c d e f, i6 a' b' c' d' e' f'] [] K = some (.c (.ret (bo (within6 a b c d e f a' b' c' d' e' f')) [])) := by
  rw [tree31]
  unfold within6
  by_cases h1 : a ≤ a' <;> by_cases h2 : b ≤ b' <;> by_cases h3 : c ≤ c' <;> by_cases h4 : d ≤ d' <;> by_cases h5 : e ≤ e' <;> simp [h1, h2, h3, h4, h5]
def tIn : Tab1
  | [.agg [.sc (.int .i64 a), .sc (.int .i64 b), .sc (.int .i64 c), .sc (.int .i64 d), .sc (.int .i64 e), .sc (.int .i64 f)], .agg [.sc (.int .i64 a'), .sc (.int .i64 b'), .sc (.int .i64 c'), .sc (.int .i64 d'), .sc (.int .i64 e'), .sc (.int .i64 f')]], [], k => k (.ret (bo (within6 a b c d e f a' b' c' d' e' f')) [])
  | _, _, _ => none
theorem okIn {g : FuncId} (h : ∀ a b c d e f a' b' c' d' e' f' : Int, callG E 20 g [i6 a b c d e f, i6 a' b' c' d' e' f'] [] K = some (.c (.ret (bo (within6 a b c d e f a' b' c' d' e' f')) []))) : OkT E g tIn := by
  intro args L k r hr
  unfold tIn at hr
  split at hr
  · exact ⟨_, hr, SC.g (h _ _ _ _ _ _ _ _ _ _ _ _)⟩
  · cases hr
def r6 (n : Nat) (a b c d e f : Nat → Int) : V := .ro 6 n (fun j => [i64 (a j), i64 (b j), i64 (c j), i64 (d j), i64 (e j), i64 (f j)])
theorem tree28 (a b c d e f : Int) : callK E (tab [(21, t21)]) L0 28 [i6 a b c d e f] [] K = some (.c (.ret (i6 (around a 2147483648) (around b 2147483648) (around c 2147483648) (around d 2147483648) (around e 2147483648) (around f 2147483648)) [])) := by kernel_rfl
theorem tree26 (n : Nat) (a b c d e f : Nat → Int) : callG E 20 26 [r6 n a b c d e f] [] K = if ((n : Int) == 0) = true then some (.c (.ret (i6 0 0 0 0 0 0) [])) else if (0 : Int) ≤ 0 ∧ (0 : Int) < (n : Int) then some (.c (.ret (i6 (a 0) (b 0) (c 0) (d 0) (e 0) (f 0)) [])) else none := by kernel_rfl
theorem tree30 (n : Nat) (a b c d e f : Nat → Int) : callG E 20 30 [r6 n a b c d e f] [] K = if ((n : Int) == 0) = true then some (.c (.ret (i6 0 0 0 0 0 0) [])) else if (0 : Int) ≤ 0 ∧ (0 : Int) < (n : Int) then some (.c (.ret (i6 (a 0) (b 0) (c 0) (d 0) (e 0) (f 0)) [])) else none := by kernel_rfl
end Go.Proofs.Ythegipdgillngaa
