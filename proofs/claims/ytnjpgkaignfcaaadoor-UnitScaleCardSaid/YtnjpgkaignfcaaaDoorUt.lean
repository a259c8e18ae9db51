/- Tables: quantities, dimensions. -/
import Derived.Test.YtnjpgkaignfcaaaDoorUx
namespace Go.Proofs.YtnjpgkaignfcaaaDoor
open Go Go.Am
abbrev w (n : Int) : Int := IntKind.wrap .i64 n
def d5 (a b c d e : Int) : V := .agg [i64 a, i64 b, i64 c, i64 d, i64 e]
def q6 (n a b c d e : Int) : V := .agg [i64 n, i64 a, i64 b, i64 c, i64 d, i64 e]
def in8 (a : Int) : Bool := decide (-8 ≤ a) && decide (a ≤ 8)
def valid6 (n a b c d e : Int) : Bool := (decide (-2147483647 ≤ n) && decide (n ≤ 2147483647)) && (in8 a && (in8 b && (in8 c && (in8 d && in8 e))))
def pk (v : Bool) (n : Int) : Int := bif v then n else 0
def eq5 (a b c d e a' b' c' d' e' : Int) : Bool := a == a' && (b == b' && (c == c' && (d == d' && (e == e' && true))))
def er (ok : Bool) (err : Int) : Int := bif ok then 0 else err
def e2 (c : Bool) (x y : Int) : Int := bif c then x else y
/-- A quantity, or none and an error. -/
def rQ (ok : Bool) (err n a b c d e : Int) : V := .tup [q6 (pk ok n) (pk ok a) (pk ok b) (pk ok c) (pk ok d) (pk ok e), i64 (er ok err)]
def qd (n m : Int) : Int := if (Int.tmod n m != 0) = true then (if (!decide (n < 0) == decide (m < 0)) = true then w (w (Int.tdiv n m) - 1) else w (Int.tdiv n m)) else w (Int.tdiv n m)
def flr (n m : Int) : Int := if Int.tmod n m < 0 then w (w (Int.tdiv n m) - 1) else w (Int.tdiv n m)
def qr (n m : Int) : Int := if m < 0 then flr (w (0 - n)) (w (0 - m)) else flr n m
def cmp (c : Bool) (n m : Int) : Int := bif c then (if n < m then -1 else if n > m then 1 else 0) else 0
theorem SC.g {n : Nat} {f : FuncId} {args : List V} {L : List (Option Chunk)} {cr : CRes} (h : callG E n f args L K = some (.c cr)) : SC E f args L cr := by
  obtain ⟨cr', e1, e2⟩ := (sound_G hW hX n).1 _ _ _ _ _ h
  simp only [K, Option.some.injEq, Ans.c.injEq] at e1
  rwa [e1] at e2
theorem w_eq (n : Int) : w n = (n + 9223372036854775808) % 18446744073709551616 - 9223372036854775808 := by
  unfold w; rw [IntKind.wrap_i64]
theorem w_add (a b : Int) : w (a + w b) = w (a + b) := by rw [w_eq, w_eq b, w_eq]; omega
theorem w_one (a b : Int) : w (a + w (1 * b)) = w (a + b) := by rw [w_add, Int.one_mul]
theorem w_neg (a b : Int) : w (a + w (-1 * b)) = w (a - b) := by rw [w_add]; congr 1; omega
theorem w_sub (a b : Int) : w (a + w (0 - b)) = w (a - b) := by rw [w_add]; congr 1; omega
theorem w_in {n : Int} (h : inR n) : w n = n := by
  rw [w_eq]; unfold inR at h; omega
theorem w8 : w (0 - 8) = -8 := by decide
theorem wM : w (0 - 2147483647) = -2147483647 := by decide
def tChk : Tab1
  | [.sc (.int .i64 n), .agg [.sc (.int .i64 a), .sc (.int .i64 b), .sc (.int .i64 c), .sc (.int .i64 d), .sc (.int .i64 e)]], [], k => k (.ret (rQ (valid6 n a b c d e) 5 n a b c d e) [])
  | _, _, _ => none
def tChkR : Tab1
  | [.agg [.sc (.int .i64 n), .sc (.int .i64 a), .sc (.int .i64 b), .sc (.int .i64 c), .sc (.int .i64 d), .sc (.int .i64 e)]], [], k => k (.ret (rQ (valid6 n a b c d e) 5 n a b c d e) [])
  | _, _, _ => none
def tVal : Tab1
  | [.agg [.sc (.int .i64 n), .sc (.int .i64 a), .sc (.int .i64 b), .sc (.int .i64 c), .sc (.int .i64 d), .sc (.int .i64 e)]], [], k => k (.ret (bo (valid6 n a b c d e)) [])
  | _, _, _ => none
def tTimes : Tab1
  | [.agg [.sc (.int .i64 a), .sc (.int .i64 b), .sc (.int .i64 c), .sc (.int .i64 d), .sc (.int .i64 e)], .agg [.sc (.int .i64 a'), .sc (.int .i64 b'), .sc (.int .i64 c'), .sc (.int .i64 d'), .sc (.int .i64 e')]], [], k => k (.ret (d5 (w (a + a')) (w (b + b')) (w (c + c')) (w (d + d')) (w (e + e'))) [])
  | _, _, _ => none
def tOver : Tab1
  | [.agg [.sc (.int .i64 a), .sc (.int .i64 b), .sc (.int .i64 c), .sc (.int .i64 d), .sc (.int .i64 e)], .agg [.sc (.int .i64 a'), .sc (.int .i64 b'), .sc (.int .i64 c'), .sc (.int .i64 d'), .sc (.int .i64 e')]], [], k => k (.ret (d5 (w (a - a')) (w (b - b')) (w (c - c')) (w (d - d')) (w (e - e'))) [])
  | _, _, _ => none
def tAdd : Tab1
  | [.agg [.sc (.int .i64 n), .sc (.int .i64 a), .sc (.int .i64 b), .sc (.int .i64 c), .sc (.int .i64 d), .sc (.int .i64 e)], .agg [.sc (.int .i64 n'), .sc (.int .i64 a'), .sc (.int .i64 b'), .sc (.int .i64 c'), .sc (.int .i64 d'), .sc (.int .i64 e')]], [], k => k (.ret (rQ (eq5 a b c d e a' b' c' d' e' && valid6 (w (n + n')) a b c d e) (e2 (eq5 a b c d e a' b' c' d' e') 5 10) (w (n + n')) a b c d e) [])
  | _, _, _ => none
def tSub : Tab1
  | [.agg [.sc (.int .i64 n), .sc (.int .i64 a), .sc (.int .i64 b), .sc (.int .i64 c), .sc (.int .i64 d), .sc (.int .i64 e)], .agg [.sc (.int .i64 n'), .sc (.int .i64 a'), .sc (.int .i64 b'), .sc (.int .i64 c'), .sc (.int .i64 d'), .sc (.int .i64 e')]], [], k => k (.ret (rQ (eq5 a b c d e a' b' c' d' e' && valid6 (w (n - n')) a b c d e) (e2 (eq5 a b c d e a' b' c' d' e') 5 10) (w (n - n')) a b c d e) [])
  | _, _, _ => none
def tMul : Tab1
  | [.agg [.sc (.int .i64 n), .sc (.int .i64 a), .sc (.int .i64 b), .sc (.int .i64 c), .sc (.int .i64 d), .sc (.int .i64 e)], .agg [.sc (.int .i64 n'), .sc (.int .i64 a'), .sc (.int .i64 b'), .sc (.int .i64 c'), .sc (.int .i64 d'), .sc (.int .i64 e')]], [], k => k (.ret (rQ (valid6 (w (n * n')) (w (a + a')) (w (b + b')) (w (c + c')) (w (d + d')) (w (e + e'))) 5 (w (n * n')) (w (a + a')) (w (b + b')) (w (c + c')) (w (d + d')) (w (e + e'))) [])
  | _, _, _ => none
def tDiv : Tab1
  | [.agg [.sc (.int .i64 n), .sc (.int .i64 a), .sc (.int .i64 b), .sc (.int .i64 c), .sc (.int .i64 d), .sc (.int .i64 e)], .agg [.sc (.int .i64 n'), .sc (.int .i64 a'), .sc (.int .i64 b'), .sc (.int .i64 c'), .sc (.int .i64 d'), .sc (.int .i64 e')]], [], k => k (.ret (rQ (!(n' == 0) && valid6 (qd n n') (w (a - a')) (w (b - b')) (w (c - c')) (w (d - d')) (w (e - e'))) (e2 (n' == 0) 1 5) (qd n n') (w (a - a')) (w (b - b')) (w (c - c')) (w (d - d')) (w (e - e'))) [])
  | _, _, _ => none
def tDivR : Tab1
  | [.agg [.sc (.int .i64 n), .sc (.int .i64 a), .sc (.int .i64 b), .sc (.int .i64 c), .sc (.int .i64 d), .sc (.int .i64 e)], .agg [.sc (.int .i64 n'), .sc (.int .i64 a'), .sc (.int .i64 b'), .sc (.int .i64 c'), .sc (.int .i64 d'), .sc (.int .i64 e')]], [], k => if n' < 0 ∧ w (0 - n') = 0 then none else k (.ret (rQ (!(n' == 0) && valid6 (qr n n') (w (a - a')) (w (b - b')) (w (c - c')) (w (d - d')) (w (e - e'))) (e2 (n' == 0) 1 5) (qr n n') (w (a - a')) (w (b - b')) (w (c - c')) (w (d - d')) (w (e - e'))) [])
  | _, _, _ => none
def tCmp : Tab1
  | [.agg [.sc (.int .i64 n), .sc (.int .i64 a), .sc (.int .i64 b), .sc (.int .i64 c), .sc (.int .i64 d), .sc (.int .i64 e)], .agg [.sc (.int .i64 n'), .sc (.int .i64 a'), .sc (.int .i64 b'), .sc (.int .i64 c'), .sc (.int .i64 d'), .sc (.int .i64 e')]], [], k => k (.ret (.tup [i64 (cmp (eq5 a b c d e a' b' c' d' e') n n'), i64 (e2 (eq5 a b c d e a' b' c' d' e') 0 10)]) [])
  | _, _, _ => none
abbrev C0 : CallT := T0
theorem t51 (n a b c d e : Int) : callG E 20 51 [i64 n, d5 a b c d e] [] K =
  if decide (n ≥ w (0 - 2147483647)) = true then
   if (!decide (n ≤ 2147483647)) = true then
    some (Ans.c (CRes.ret (V.tup [V.agg [i64 0, i64 0, i64 0, i64 0, i64 0, i64 0], i64 5]) []))
   else
    if decide (a ≥ w (0 - 8)) = true then
     if (!decide (a ≤ 8)) = true then
      some (Ans.c (CRes.ret (V.tup [V.agg [i64 0, i64 0, i64 0, i64 0, i64 0, i64 0], i64 5]) []))
     else
      if decide (b ≥ w (0 - 8)) = true then
       if (!decide (b ≤ 8)) = true then
        some (Ans.c (CRes.ret (V.tup [V.agg [i64 0, i64 0, i64 0, i64 0, i64 0, i64 0], i64 5]) []))
       else
        if decide (c ≥ w (0 - 8)) = true then
         if (!decide (c ≤ 8)) = true then
          some (Ans.c (CRes.ret (V.tup [V.agg [i64 0, i64 0, i64 0, i64 0, i64 0, i64 0], i64 5]) []))
         else
          if decide (d ≥ w (0 - 8)) = true then
           if (!decide (d ≤ 8)) = true then
            some (Ans.c (CRes.ret (V.tup [V.agg [i64 0, i64 0, i64 0, i64 0, i64 0, i64 0], i64 5]) []))
           else
            if decide (e ≥ w (0 - 8)) = true then
             if (!decide (e ≤ 8)) = true then
              some (Ans.c (CRes.ret (V.tup [V.agg [i64 0, i64 0, i64 0, i64 0, i64 0, i64 0], i64 5]) []))
             else
              some (Ans.c (CRes.ret (V.tup [V.agg [i64 n, i64 a, i64 b, i64 c, i64 d, i64 e], i64 0]) []))
            else
             some (Ans.c (CRes.ret (V.tup [V.agg [i64 0, i64 0, i64 0, i64 0, i64 0, i64 0], i64 5]) []))
          else
           some (Ans.c (CRes.ret (V.tup [V.agg [i64 0, i64 0, i64 0, i64 0, i64 0, i64 0], i64 5]) []))
        else
         some (Ans.c (CRes.ret (V.tup [V.agg [i64 0, i64 0, i64 0, i64 0, i64 0, i64 0], i64 5]) []))
      else
       some (Ans.c (CRes.ret (V.tup [V.agg [i64 0, i64 0, i64 0, i64 0, i64 0, i64 0], i64 5]) []))
    else
     some (Ans.c (CRes.ret (V.tup [V.agg [i64 0, i64 0, i64 0, i64 0, i64 0, i64 0], i64 5]) []))
  else
   some (Ans.c (CRes.ret (V.tup [V.agg [i64 0, i64 0, i64 0, i64 0, i64 0, i64 0], i64 5]) [])) := by kernel_rfl
theorem t23 (n a b c d e : Int) : callG E 20 23 [q6 n a b c d e] [] K =
  if decide (n ≥ -2147483647) = true then
   if decide (n ≤ 2147483647) = true then
    if decide (a < w (0 - 8)) = true then
     some (Ans.c (CRes.ret (bo false) []))
    else
     if decide (a > 8) = true then
      some (Ans.c (CRes.ret (bo false) []))
     else
      if decide (b < w (0 - 8)) = true then
       some (Ans.c (CRes.ret (bo false) []))
      else
       if decide (b > 8) = true then
        some (Ans.c (CRes.ret (bo false) []))
       else
        if decide (c < w (0 - 8)) = true then
         some (Ans.c (CRes.ret (bo false) []))
        else
         if decide (c > 8) = true then
          some (Ans.c (CRes.ret (bo false) []))
         else
          if decide (d < w (0 - 8)) = true then
           some (Ans.c (CRes.ret (bo false) []))
          else
           if decide (d > 8) = true then
            some (Ans.c (CRes.ret (bo false) []))
           else
            if decide (e < w (0 - 8)) = true then
             some (Ans.c (CRes.ret (bo false) []))
            else
             if decide (e > 8) = true then
              some (Ans.c (CRes.ret (bo false) []))
             else
              some (Ans.c (CRes.ret (bo true) []))
   else
    some (Ans.c (CRes.ret (bo false) []))
  else
   some (Ans.c (CRes.ret (bo false) [])) := by kernel_rfl
theorem t57 (n m : Int) : callG E 20 57 [i64 n, i64 m] [] K =
  if m = 0 then
   none
  else
   if m = 0 then
    none
   else
    if decide (Int.tmod n m < 0) = true then
     some (Ans.c (CRes.ret (i64 (w (w (Int.tdiv n m) - 1))) []))
    else
     some (Ans.c (CRes.ret (i64 (w (Int.tdiv n m))) [])) := by kernel_rfl
theorem t28 (a b c d e a' b' c' d' e' : Int) : callG E 20 28 [d5 a b c d e, d5 a' b' c' d' e'] [] K =
  some (Ans.c (CRes.ret (V.agg [i64 (w (a + w (1 * a'))), i64 (w (b + w (1 * b'))), i64 (w (c + w (1 * c'))), i64 (w (d + w (1 * d'))), i64 (w (e + w (1 * e')))]) [])) := by kernel_rfl
theorem t29 (a b c d e a' b' c' d' e' : Int) : callG E 20 29 [d5 a b c d e, d5 a' b' c' d' e'] [] K =
  some (Ans.c (CRes.ret (V.agg [i64 (w (a + a')), i64 (w (b + b')), i64 (w (c + c')), i64 (w (d + d')), i64 (w (e + e'))]) [])) := by kernel_rfl
theorem t30 (a b c d e a' b' c' d' e' : Int) : callG E 20 30 [d5 a b c d e, d5 a' b' c' d' e'] [] K =
  some (Ans.c (CRes.ret (V.agg [i64 (w (a + w (-1 * a'))), i64 (w (b + w (-1 * b'))), i64 (w (c + w (-1 * c'))), i64 (w (d + w (-1 * d'))), i64 (w (e + w (-1 * e')))]) [])) := by kernel_rfl
theorem t31 (a b c d e a' b' c' d' e' : Int) : callG E 20 31 [d5 a b c d e, d5 a' b' c' d' e'] [] K =
  some (Ans.c (CRes.ret (V.agg [i64 (w (a + w (-1 * a'))), i64 (w (b + w (-1 * b'))), i64 (w (c + w (-1 * c'))), i64 (w (d + w (-1 * d'))), i64 (w (e + w (-1 * e')))]) [])) := by kernel_rfl

theorem ch1 {α : Type} (p q : Prop) [Decidable p] [Decidable q] (X Y : α) : (if decide p = true then (if (!decide q) = true then X else Y) else X) = if p ∧ q then Y else X := by
  by_cases hp : p <;> by_cases hq : q <;> simp [hp, hq]
theorem ch2 {α : Type} (p q : Prop) [Decidable p] [Decidable q] (X Y : α) : (if p then (if q then Y else X) else X) = if p ∧ q then Y else X := by
  by_cases hp : p <;> by_cases hq : q <;> simp [hp, hq]
theorem ch3 {α : Type} (p q : Prop) [Decidable p] [Decidable q] (X Y : α) : (if decide p = true then X else if decide q = true then X else Y) = if ¬p ∧ ¬q then Y else X := by
  by_cases hp : p <;> by_cases hq : q <;> simp [hp, hq]
theorem in8_iff (a : Int) : in8 a = true ↔ -8 ≤ a ∧ a ≤ 8 := by simp [in8]
theorem valid_iff (n a b c d e : Int) : valid6 n a b c d e = true ↔ (-2147483647 ≤ n ∧ n ≤ 2147483647) ∧ (-8 ≤ a ∧ a ≤ 8) ∧ (-8 ≤ b ∧ b ≤ 8) ∧ (-8 ≤ c ∧ c ≤ 8) ∧ (-8 ≤ d ∧ d ≤ 8) ∧ (-8 ≤ e ∧ e ≤ 8) := by
  simp [valid6, in8]
theorem pk_t (n : Int) : pk true n = n := rfl
theorem pk_f (n : Int) : pk false n = 0 := rfl
theorem okChk : OkT E 51 tChk := by
  intro args L k r h
  unfold tChk at h
  split at h
  · rename_i n a b c d e
    refine ⟨_, h, SC.g (n := 20) ((t51 n a b c d e).trans ?_)⟩
    have hv := valid_iff n a b c d e
    simp only [w8, wM, ch1, ch2, ge_iff_le]
    split
    · rename_i hh
      rw [hv.2 (by omega)]; rfl
    · rename_i hh
      rw [show valid6 n a b c d e = false by rw [Bool.eq_false_iff]; intro h2; rw [hv] at h2; omega]; rfl
  · cases h
theorem okVal : OkT E 23 tVal := by
  intro args L k r h
  unfold tVal at h
  split at h
  · rename_i n a b c d e
    refine ⟨_, h, SC.g (n := 20) ((t23 n a b c d e).trans ?_)⟩
    have hv := valid_iff n a b c d e
    simp only [w8, wM, ch3]
    simp only [ch2, ge_iff_le, gt_iff_lt, decide_eq_true_eq]
    split
    · rename_i hh
      rw [hv.2 (by omega)]
    · rename_i hh
      rw [show valid6 n a b c d e = false by rw [Bool.eq_false_iff]; intro h2; rw [hv] at h2; omega]
  · cases h
theorem t55 (n a b c d e : Int) : callK E (tab [(23, tVal)]) L0 55 [q6 n a b c d e] [] K =
  if (!valid6 n a b c d e) = true then
   some (Ans.c (CRes.ret (V.tup [V.agg [i64 0, i64 0, i64 0, i64 0, i64 0, i64 0], i64 5]) []))
  else
   some (Ans.c (CRes.ret (V.tup [V.agg [i64 n, i64 a, i64 b, i64 c, i64 d, i64 e], i64 0]) [])) := by kernel_rfl
theorem okChkR : OkT E 55 tChkR := by
  intro args L k r h
  unfold tChkR at h
  split at h
  · rename_i n a b c d e
    refine ⟨_, h, SC.of hW hX (tab_cons okVal tab_nil) (soundL_none E) ((t55 n a b c d e).trans ?_)⟩
    by_cases hv : valid6 n a b c d e = true
    · rw [hv]; rfl
    · rw [Bool.not_eq_true] at hv; rw [hv]; rfl
  · cases h
theorem okTimes {g : FuncId} (h : ∀ a b c d e a' b' c' d' e' : Int, callG E 20 g [d5 a b c d e, d5 a' b' c' d' e'] [] K = some (.c (.ret (d5 (w (a + a')) (w (b + b')) (w (c + c')) (w (d + d')) (w (e + e'))) []))) : OkT E g tTimes := by
  intro args L k r hr
  unfold tTimes at hr
  split at hr
  · exact ⟨_, hr, SC.g (h _ _ _ _ _ _ _ _ _ _)⟩
  · cases hr
theorem okOver {g : FuncId} (h : ∀ a b c d e a' b' c' d' e' : Int, callG E 20 g [d5 a b c d e, d5 a' b' c' d' e'] [] K = some (.c (.ret (d5 (w (a - a')) (w (b - b')) (w (c - c')) (w (d - d')) (w (e - e'))) []))) : OkT E g tOver := by
  intro args L k r hr
  unfold tOver at hr
  split at hr
  · exact ⟨_, hr, SC.g (h _ _ _ _ _ _ _ _ _ _)⟩
  · cases hr
theorem ok28 : OkT E 28 tTimes := okTimes fun a b c d e a' b' c' d' e' => by rw [t28]; simp only [w_one]; rfl
theorem ok29 : OkT E 29 tTimes := okTimes fun a b c d e a' b' c' d' e' => by rw [t29]; rfl
theorem ok30 : OkT E 30 tOver := okOver fun a b c d e a' b' c' d' e' => by rw [t30]; simp only [w_neg]; rfl
theorem ok31 : OkT E 31 tOver := okOver fun a b c d e a' b' c' d' e' => by rw [t31]; simp only [w_neg]; rfl
noncomputable def t57' : Tab1 := fun args L k => callG E 20 57 args L k
theorem ok57 : OkT E 57 t57' := fun args L k r h => (sound_G hW hX 20).1 57 args L k r h
noncomputable def C1 : CallT := tab [(51, tChk), (55, tChkR), (28, tTimes), (29, tTimes), (30, tOver), (31, tOver), (57, t57')]
theorem sC1 : SoundC E C1 := tab_cons okChk (tab_cons okChkR (tab_cons ok28 (tab_cons ok29 (tab_cons ok30 (tab_cons ok31 (tab_cons ok57 tab_nil))))))
theorem t35 (n a b c d e n' a' b' c' d' e' : Int) : callK E C1 L0 35 [q6 n a b c d e, q6 n' a' b' c' d' e'] [] K =
  if (if true = true then !(a == a' && (b == b' && (c == c' && (d == d' && (e == e' && true))))) else a == a' && (b == b' && (c == c' && (d == d' && (e == e' && true))))) = true then
   some (Ans.c (CRes.ret (V.tup [V.agg [i64 0, i64 0, i64 0, i64 0, i64 0, i64 0], i64 10]) []))
  else
   some (Ans.c (CRes.ret (V.tup [V.agg [i64 (pk (valid6 (w (n + n')) a b c d e) (w (n + n'))), i64 (pk (valid6 (w (n + n')) a b c d e) a), i64 (pk (valid6 (w (n + n')) a b c d e) b), i64 (pk (valid6 (w (n + n')) a b c d e) c), i64 (pk (valid6 (w (n + n')) a b c d e) d), i64 (pk (valid6 (w (n + n')) a b c d e) e)], i64 (er (valid6 (w (n + n')) a b c d e) 5)]) [])) := by kernel_rfl
theorem t36 (n a b c d e n' a' b' c' d' e' : Int) : callK E C1 L0 36 [q6 n a b c d e, q6 n' a' b' c' d' e'] [] K =
  if (if true = true then !(a == a' && (b == b' && (c == c' && (d == d' && (e == e' && true))))) else a == a' && (b == b' && (c == c' && (d == d' && (e == e' && true))))) = true then
   some (Ans.c (CRes.ret (V.tup [V.agg [i64 0, i64 0, i64 0, i64 0, i64 0, i64 0], i64 10]) []))
  else
   some (Ans.c (CRes.ret (V.tup [V.agg [i64 (pk (valid6 (w (n + n')) a b c d e) (w (n + n'))), i64 (pk (valid6 (w (n + n')) a b c d e) a), i64 (pk (valid6 (w (n + n')) a b c d e) b), i64 (pk (valid6 (w (n + n')) a b c d e) c), i64 (pk (valid6 (w (n + n')) a b c d e) d), i64 (pk (valid6 (w (n + n')) a b c d e) e)], i64 (er (valid6 (w (n + n')) a b c d e) 5)]) [])) := by kernel_rfl
theorem t37 (n a b c d e n' a' b' c' d' e' : Int) : callK E C1 L0 37 [q6 n a b c d e, q6 n' a' b' c' d' e'] [] K =
  if (if true = true then !(a == a' && (b == b' && (c == c' && (d == d' && (e == e' && true))))) else a == a' && (b == b' && (c == c' && (d == d' && (e == e' && true))))) = true then
   some (Ans.c (CRes.ret (V.tup [V.agg [i64 0, i64 0, i64 0, i64 0, i64 0, i64 0], i64 10]) []))
  else
   some (Ans.c (CRes.ret (V.tup [V.agg [i64 (pk (valid6 (w (n - n')) a b c d e) (w (n - n'))), i64 (pk (valid6 (w (n - n')) a b c d e) a), i64 (pk (valid6 (w (n - n')) a b c d e) b), i64 (pk (valid6 (w (n - n')) a b c d e) c), i64 (pk (valid6 (w (n - n')) a b c d e) d), i64 (pk (valid6 (w (n - n')) a b c d e) e)], i64 (er (valid6 (w (n - n')) a b c d e) 5)]) [])) := by kernel_rfl
theorem t32 (n a b c d e n' a' b' c' d' e' : Int) : callK E C1 L0 32 [q6 n a b c d e, q6 n' a' b' c' d' e'] [] K =
  some (Ans.c (CRes.ret (V.tup [V.agg [i64 (pk (valid6 (w (n * n')) (w (a + a')) (w (b + b')) (w (c + c')) (w (d + d')) (w (e + e'))) (w (n * n'))), i64 (pk (valid6 (w (n * n')) (w (a + a')) (w (b + b')) (w (c + c')) (w (d + d')) (w (e + e'))) (w (a + a'))), i64 (pk (valid6 (w (n * n')) (w (a + a')) (w (b + b')) (w (c + c')) (w (d + d')) (w (e + e'))) (w (b + b'))), i64 (pk (valid6 (w (n * n')) (w (a + a')) (w (b + b')) (w (c + c')) (w (d + d')) (w (e + e'))) (w (c + c'))), i64 (pk (valid6 (w (n * n')) (w (a + a')) (w (b + b')) (w (c + c')) (w (d + d')) (w (e + e'))) (w (d + d'))), i64 (pk (valid6 (w (n * n')) (w (a + a')) (w (b + b')) (w (c + c')) (w (d + d')) (w (e + e'))) (w (e + e')))], i64 (er (valid6 (w (n * n')) (w (a + a')) (w (b + b')) (w (c + c')) (w (d + d')) (w (e + e'))) 5)]) [])) := by kernel_rfl
theorem t33 (n a b c d e n' a' b' c' d' e' : Int) : callK E C1 L0 33 [q6 n a b c d e, q6 n' a' b' c' d' e'] [] K =
  some (Ans.c (CRes.ret (V.tup [V.agg [i64 (pk (valid6 (w (n * n')) (w (a + a')) (w (b + b')) (w (c + c')) (w (d + d')) (w (e + e'))) (w (n * n'))), i64 (pk (valid6 (w (n * n')) (w (a + a')) (w (b + b')) (w (c + c')) (w (d + d')) (w (e + e'))) (w (a + a'))), i64 (pk (valid6 (w (n * n')) (w (a + a')) (w (b + b')) (w (c + c')) (w (d + d')) (w (e + e'))) (w (b + b'))), i64 (pk (valid6 (w (n * n')) (w (a + a')) (w (b + b')) (w (c + c')) (w (d + d')) (w (e + e'))) (w (c + c'))), i64 (pk (valid6 (w (n * n')) (w (a + a')) (w (b + b')) (w (c + c')) (w (d + d')) (w (e + e'))) (w (d + d'))), i64 (pk (valid6 (w (n * n')) (w (a + a')) (w (b + b')) (w (c + c')) (w (d + d')) (w (e + e'))) (w (e + e')))], i64 (er (valid6 (w (n * n')) (w (a + a')) (w (b + b')) (w (c + c')) (w (d + d')) (w (e + e'))) 5)]) [])) := by kernel_rfl
theorem t24 (n a b c d e n' a' b' c' d' e' : Int) : callK E C1 L0 24 [q6 n a b c d e, q6 n' a' b' c' d' e'] [] K =
  if (n' == 0) = true then
   some (Ans.c (CRes.ret (V.tup [V.agg [i64 0, i64 0, i64 0, i64 0, i64 0, i64 0], i64 1]) []))
  else
   if n' = 0 then
    none
   else
    if n' = 0 then
     none
    else
     if (Int.tmod n n' != 0) = true then
      if (!decide (n < 0) == decide (n' < 0)) = true then
       some (Ans.c (CRes.ret (V.tup [V.agg [i64 (pk (valid6 (w (w (Int.tdiv n n') - 1)) (w (a - a')) (w (b - b')) (w (c - c')) (w (d - d')) (w (e - e'))) (w (w (Int.tdiv n n') - 1))), i64 (pk (valid6 (w (w (Int.tdiv n n') - 1)) (w (a - a')) (w (b - b')) (w (c - c')) (w (d - d')) (w (e - e'))) (w (a - a'))), i64 (pk (valid6 (w (w (Int.tdiv n n') - 1)) (w (a - a')) (w (b - b')) (w (c - c')) (w (d - d')) (w (e - e'))) (w (b - b'))), i64 (pk (valid6 (w (w (Int.tdiv n n') - 1)) (w (a - a')) (w (b - b')) (w (c - c')) (w (d - d')) (w (e - e'))) (w (c - c'))), i64 (pk (valid6 (w (w (Int.tdiv n n') - 1)) (w (a - a')) (w (b - b')) (w (c - c')) (w (d - d')) (w (e - e'))) (w (d - d'))), i64 (pk (valid6 (w (w (Int.tdiv n n') - 1)) (w (a - a')) (w (b - b')) (w (c - c')) (w (d - d')) (w (e - e'))) (w (e - e')))], i64 (er (valid6 (w (w (Int.tdiv n n') - 1)) (w (a - a')) (w (b - b')) (w (c - c')) (w (d - d')) (w (e - e'))) 5)]) []))
      else
       some (Ans.c (CRes.ret (V.tup [V.agg [i64 (pk (valid6 (w (Int.tdiv n n')) (w (a - a')) (w (b - b')) (w (c - c')) (w (d - d')) (w (e - e'))) (w (Int.tdiv n n'))), i64 (pk (valid6 (w (Int.tdiv n n')) (w (a - a')) (w (b - b')) (w (c - c')) (w (d - d')) (w (e - e'))) (w (a - a'))), i64 (pk (valid6 (w (Int.tdiv n n')) (w (a - a')) (w (b - b')) (w (c - c')) (w (d - d')) (w (e - e'))) (w (b - b'))), i64 (pk (valid6 (w (Int.tdiv n n')) (w (a - a')) (w (b - b')) (w (c - c')) (w (d - d')) (w (e - e'))) (w (c - c'))), i64 (pk (valid6 (w (Int.tdiv n n')) (w (a - a')) (w (b - b')) (w (c - c')) (w (d - d')) (w (e - e'))) (w (d - d'))), i64 (pk (valid6 (w (Int.tdiv n n')) (w (a - a')) (w (b - b')) (w (c - c')) (w (d - d')) (w (e - e'))) (w (e - e')))], i64 (er (valid6 (w (Int.tdiv n n')) (w (a - a')) (w (b - b')) (w (c - c')) (w (d - d')) (w (e - e'))) 5)]) []))
     else
      some (Ans.c (CRes.ret (V.tup [V.agg [i64 (pk (valid6 (w (Int.tdiv n n')) (w (a - a')) (w (b - b')) (w (c - c')) (w (d - d')) (w (e - e'))) (w (Int.tdiv n n'))), i64 (pk (valid6 (w (Int.tdiv n n')) (w (a - a')) (w (b - b')) (w (c - c')) (w (d - d')) (w (e - e'))) (w (a - a'))), i64 (pk (valid6 (w (Int.tdiv n n')) (w (a - a')) (w (b - b')) (w (c - c')) (w (d - d')) (w (e - e'))) (w (b - b'))), i64 (pk (valid6 (w (Int.tdiv n n')) (w (a - a')) (w (b - b')) (w (c - c')) (w (d - d')) (w (e - e'))) (w (c - c'))), i64 (pk (valid6 (w (Int.tdiv n n')) (w (a - a')) (w (b - b')) (w (c - c')) (w (d - d')) (w (e - e'))) (w (d - d'))), i64 (pk (valid6 (w (Int.tdiv n n')) (w (a - a')) (w (b - b')) (w (c - c')) (w (d - d')) (w (e - e'))) (w (e - e')))], i64 (er (valid6 (w (Int.tdiv n n')) (w (a - a')) (w (b - b')) (w (c - c')) (w (d - d')) (w (e - e'))) 5)]) [])) := by kernel_rfl
theorem t34 (n a b c d e n' a' b' c' d' e' : Int) : callK E C1 L0 34 [q6 n a b c d e, q6 n' a' b' c' d' e'] [] K =
  if (n' == 0) = true then
   some (Ans.c (CRes.ret (V.tup [V.agg [i64 0, i64 0, i64 0, i64 0, i64 0, i64 0], i64 1]) []))
  else
   if decide (n' < 0) = true then
    if w (0 - n') = 0 then
     none
    else
     if w (0 - n') = 0 then
      none
     else
      if decide (Int.tmod (w (0 - n)) (w (0 - n')) < 0) = true then
       some (Ans.c (CRes.ret (V.tup [V.agg [i64 (pk (valid6 (w (w (Int.tdiv (w (0 - n)) (w (0 - n'))) - 1)) (w (a - a')) (w (b - b')) (w (c - c')) (w (d - d')) (w (e - e'))) (w (w (Int.tdiv (w (0 - n)) (w (0 - n'))) - 1))), i64 (pk (valid6 (w (w (Int.tdiv (w (0 - n)) (w (0 - n'))) - 1)) (w (a - a')) (w (b - b')) (w (c - c')) (w (d - d')) (w (e - e'))) (w (a - a'))), i64 (pk (valid6 (w (w (Int.tdiv (w (0 - n)) (w (0 - n'))) - 1)) (w (a - a')) (w (b - b')) (w (c - c')) (w (d - d')) (w (e - e'))) (w (b - b'))), i64 (pk (valid6 (w (w (Int.tdiv (w (0 - n)) (w (0 - n'))) - 1)) (w (a - a')) (w (b - b')) (w (c - c')) (w (d - d')) (w (e - e'))) (w (c - c'))), i64 (pk (valid6 (w (w (Int.tdiv (w (0 - n)) (w (0 - n'))) - 1)) (w (a - a')) (w (b - b')) (w (c - c')) (w (d - d')) (w (e - e'))) (w (d - d'))), i64 (pk (valid6 (w (w (Int.tdiv (w (0 - n)) (w (0 - n'))) - 1)) (w (a - a')) (w (b - b')) (w (c - c')) (w (d - d')) (w (e - e'))) (w (e - e')))], i64 (er (valid6 (w (w (Int.tdiv (w (0 - n)) (w (0 - n'))) - 1)) (w (a - a')) (w (b - b')) (w (c - c')) (w (d - d')) (w (e - e'))) 5)]) []))
      else
       some (Ans.c (CRes.ret (V.tup [V.agg [i64 (pk (valid6 (w (Int.tdiv (w (0 - n)) (w (0 - n')))) (w (a - a')) (w (b - b')) (w (c - c')) (w (d - d')) (w (e - e'))) (w (Int.tdiv (w (0 - n)) (w (0 - n'))))), i64 (pk (valid6 (w (Int.tdiv (w (0 - n)) (w (0 - n')))) (w (a - a')) (w (b - b')) (w (c - c')) (w (d - d')) (w (e - e'))) (w (a - a'))), i64 (pk (valid6 (w (Int.tdiv (w (0 - n)) (w (0 - n')))) (w (a - a')) (w (b - b')) (w (c - c')) (w (d - d')) (w (e - e'))) (w (b - b'))), i64 (pk (valid6 (w (Int.tdiv (w (0 - n)) (w (0 - n')))) (w (a - a')) (w (b - b')) (w (c - c')) (w (d - d')) (w (e - e'))) (w (c - c'))), i64 (pk (valid6 (w (Int.tdiv (w (0 - n)) (w (0 - n')))) (w (a - a')) (w (b - b')) (w (c - c')) (w (d - d')) (w (e - e'))) (w (d - d'))), i64 (pk (valid6 (w (Int.tdiv (w (0 - n)) (w (0 - n')))) (w (a - a')) (w (b - b')) (w (c - c')) (w (d - d')) (w (e - e'))) (w (e - e')))], i64 (er (valid6 (w (Int.tdiv (w (0 - n)) (w (0 - n')))) (w (a - a')) (w (b - b')) (w (c - c')) (w (d - d')) (w (e - e'))) 5)]) []))
   else
    if n' = 0 then
     none
    else
     if n' = 0 then
      none
     else
      if decide (Int.tmod n n' < 0) = true then
       some (Ans.c (CRes.ret (V.tup [V.agg [i64 (pk (valid6 (w (w (Int.tdiv n n') - 1)) (w (a - a')) (w (b - b')) (w (c - c')) (w (d - d')) (w (e - e'))) (w (w (Int.tdiv n n') - 1))), i64 (pk (valid6 (w (w (Int.tdiv n n') - 1)) (w (a - a')) (w (b - b')) (w (c - c')) (w (d - d')) (w (e - e'))) (w (a - a'))), i64 (pk (valid6 (w (w (Int.tdiv n n') - 1)) (w (a - a')) (w (b - b')) (w (c - c')) (w (d - d')) (w (e - e'))) (w (b - b'))), i64 (pk (valid6 (w (w (Int.tdiv n n') - 1)) (w (a - a')) (w (b - b')) (w (c - c')) (w (d - d')) (w (e - e'))) (w (c - c'))), i64 (pk (valid6 (w (w (Int.tdiv n n') - 1)) (w (a - a')) (w (b - b')) (w (c - c')) (w (d - d')) (w (e - e'))) (w (d - d'))), i64 (pk (valid6 (w (w (Int.tdiv n n') - 1)) (w (a - a')) (w (b - b')) (w (c - c')) (w (d - d')) (w (e - e'))) (w (e - e')))], i64 (er (valid6 (w (w (Int.tdiv n n') - 1)) (w (a - a')) (w (b - b')) (w (c - c')) (w (d - d')) (w (e - e'))) 5)]) []))
      else
       some (Ans.c (CRes.ret (V.tup [V.agg [i64 (pk (valid6 (w (Int.tdiv n n')) (w (a - a')) (w (b - b')) (w (c - c')) (w (d - d')) (w (e - e'))) (w (Int.tdiv n n'))), i64 (pk (valid6 (w (Int.tdiv n n')) (w (a - a')) (w (b - b')) (w (c - c')) (w (d - d')) (w (e - e'))) (w (a - a'))), i64 (pk (valid6 (w (Int.tdiv n n')) (w (a - a')) (w (b - b')) (w (c - c')) (w (d - d')) (w (e - e'))) (w (b - b'))), i64 (pk (valid6 (w (Int.tdiv n n')) (w (a - a')) (w (b - b')) (w (c - c')) (w (d - d')) (w (e - e'))) (w (c - c'))), i64 (pk (valid6 (w (Int.tdiv n n')) (w (a - a')) (w (b - b')) (w (c - c')) (w (d - d')) (w (e - e'))) (w (d - d'))), i64 (pk (valid6 (w (Int.tdiv n n')) (w (a - a')) (w (b - b')) (w (c - c')) (w (d - d')) (w (e - e'))) (w (e - e')))], i64 (er (valid6 (w (Int.tdiv n n')) (w (a - a')) (w (b - b')) (w (c - c')) (w (d - d')) (w (e - e'))) 5)]) [])) := by kernel_rfl
theorem t39 (n a b c d e n' a' b' c' d' e' : Int) : callK E C1 L0 39 [q6 n a b c d e, q6 n' a' b' c' d' e'] [] K =
  if (if true = true then !(a == a' && (b == b' && (c == c' && (d == d' && (e == e' && true))))) else a == a' && (b == b' && (c == c' && (d == d' && (e == e' && true))))) = true then
   some (Ans.c (CRes.ret (V.tup [i64 0, i64 10]) []))
  else
   if decide (n < n') = true then
    some (Ans.c (CRes.ret (V.tup [i64 (-1), i64 0]) []))
   else
    if decide (n > n') = true then
     some (Ans.c (CRes.ret (V.tup [i64 1, i64 0]) []))
    else
     some (Ans.c (CRes.ret (V.tup [i64 0, i64 0]) [])) := by kernel_rfl
theorem t40 (n a b c d e n' a' b' c' d' e' : Int) : callK E C1 L0 40 [q6 n a b c d e, q6 n' a' b' c' d' e'] [] K =
  if (if true = true then !(a == a' && (b == b' && (c == c' && (d == d' && (e == e' && true))))) else a == a' && (b == b' && (c == c' && (d == d' && (e == e' && true))))) = true then
   some (Ans.c (CRes.ret (V.tup [i64 0, i64 10]) []))
  else
   if decide (n < n') = true then
    some (Ans.c (CRes.ret (V.tup [i64 (-1), i64 0]) []))
   else
    if decide (n > n') = true then
     some (Ans.c (CRes.ret (V.tup [i64 1, i64 0]) []))
    else
     some (Ans.c (CRes.ret (V.tup [i64 0, i64 0]) [])) := by kernel_rfl
theorem ok35 : OkT E 35 tAdd := by
  intro args L k r h
  unfold tAdd at h
  split at h
  · rename_i n a b c d e n' a' b' c' d' e'
    refine ⟨_, h, SC.of hW hX sC1 (soundL_none E) ((t35 n a b c d e n' a' b' c' d' e').trans ?_)⟩
    simp only [if_true]
    by_cases hc : eq5 a b c d e a' b' c' d' e' = true
    · rw [hc]; unfold eq5 at hc; rw [hc]; rfl
    · rw [Bool.not_eq_true] at hc; rw [hc]; unfold eq5 at hc; rw [hc]; rfl
  · cases h
theorem ok36 : OkT E 36 tAdd := by
  intro args L k r h
  unfold tAdd at h
  split at h
  · rename_i n a b c d e n' a' b' c' d' e'
    refine ⟨_, h, SC.of hW hX sC1 (soundL_none E) ((t36 n a b c d e n' a' b' c' d' e').trans ?_)⟩
    simp only [if_true]
    by_cases hc : eq5 a b c d e a' b' c' d' e' = true
    · rw [hc]; unfold eq5 at hc; rw [hc]; rfl
    · rw [Bool.not_eq_true] at hc; rw [hc]; unfold eq5 at hc; rw [hc]; rfl
  · cases h
theorem ok37 : OkT E 37 tSub := by
  intro args L k r h
  unfold tSub at h
  split at h
  · rename_i n a b c d e n' a' b' c' d' e'
    refine ⟨_, h, SC.of hW hX sC1 (soundL_none E) ((t37 n a b c d e n' a' b' c' d' e').trans ?_)⟩
    simp only [if_true]
    by_cases hc : eq5 a b c d e a' b' c' d' e' = true
    · rw [hc]; unfold eq5 at hc; rw [hc]; rfl
    · rw [Bool.not_eq_true] at hc; rw [hc]; unfold eq5 at hc; rw [hc]; rfl
  · cases h
def C2 : CallT := tab [(36, tAdd)]
theorem sC2 : SoundC E C2 := tab_cons ok36 tab_nil
theorem t38 (n a b c d e n' a' b' c' d' e' : Int) : callK E C2 L0 38 [q6 n a b c d e, q6 n' a' b' c' d' e'] [] K =
  some (Ans.c (CRes.ret (V.tup [V.agg [i64 (pk (eq5 a b c d e a' b' c' d' e' && valid6 (w (n + w (0 - n'))) a b c d e) (w (n + w (0 - n')))), i64 (pk (eq5 a b c d e a' b' c' d' e' && valid6 (w (n + w (0 - n'))) a b c d e) a), i64 (pk (eq5 a b c d e a' b' c' d' e' && valid6 (w (n + w (0 - n'))) a b c d e) b), i64 (pk (eq5 a b c d e a' b' c' d' e' && valid6 (w (n + w (0 - n'))) a b c d e) c), i64 (pk (eq5 a b c d e a' b' c' d' e' && valid6 (w (n + w (0 - n'))) a b c d e) d), i64 (pk (eq5 a b c d e a' b' c' d' e' && valid6 (w (n + w (0 - n'))) a b c d e) e)], i64 (er (eq5 a b c d e a' b' c' d' e' && valid6 (w (n + w (0 - n'))) a b c d e) (e2 (eq5 a b c d e a' b' c' d' e') 5 10))]) [])) := by kernel_rfl
theorem ok38 : OkT E 38 tSub := by
  intro args L k r h
  unfold tSub at h
  split at h
  · rename_i n a b c d e n' a' b' c' d' e'
    refine ⟨_, h, SC.of hW hX sC2 (soundL_none E) ((t38 n a b c d e n' a' b' c' d' e').trans ?_)⟩
    simp only [w_sub]
    rfl
  · cases h
theorem ok32 : OkT E 32 tMul := by
  intro args L k r h
  unfold tMul at h
  split at h
  · rename_i n a b c d e n' a' b' c' d' e'
    refine ⟨_, h, SC.of hW hX sC1 (soundL_none E) ((t32 n a b c d e n' a' b' c' d' e').trans ?_)⟩
    rfl
  · cases h
theorem ok33 : OkT E 33 tMul := by
  intro args L k r h
  unfold tMul at h
  split at h
  · rename_i n a b c d e n' a' b' c' d' e'
    refine ⟨_, h, SC.of hW hX sC1 (soundL_none E) ((t33 n a b c d e n' a' b' c' d' e').trans ?_)⟩
    rfl
  · cases h
theorem ok24 : OkT E 24 tDiv := by
  intro args L k r h
  unfold tDiv at h
  split at h
  · rename_i n a b c d e n' a' b' c' d' e'
    refine ⟨_, h, SC.of hW hX sC1 (soundL_none E) ((t24 n a b c d e n' a' b' c' d' e').trans ?_)⟩
    unfold qd
    by_cases hz : n' = 0
    · subst hz; rfl
    · have e1 : (n' == 0) = false := by simpa using hz
      rw [e1]
      simp only [Bool.false_eq_true, if_false, hz]
      repeat' split
      all_goals first | rfl | omega | simp_all
  · cases h
theorem ok34 : OkT E 34 tDivR := by
  intro args L k r h
  unfold tDivR at h
  split at h
  · rename_i n a b c d e n' a' b' c' d' e'
    split at h
    · cases h
    · rename_i hov
      refine ⟨_, h, SC.of hW hX sC1 (soundL_none E) ((t34 n a b c d e n' a' b' c' d' e').trans ?_)⟩
      unfold qr flr
      by_cases hz : n' = 0
      · subst hz; rfl
      · have e1 : (n' == 0) = false := by simpa using hz
        rw [e1]
        simp only [Bool.false_eq_true, if_false, hz, decide_eq_true_eq]
        by_cases hn : n' < 0
        · have e2 : w (0 - n') ≠ 0 := fun e => hov ⟨hn, e⟩
          simp only [hn, e2, if_true, if_false]
          split <;> rfl
        · simp only [hn, if_false]
          split <;> rfl
  · cases h
theorem ok39 : OkT E 39 tCmp := by
  intro args L k r h
  unfold tCmp at h
  split at h
  · rename_i n a b c d e n' a' b' c' d' e'
    refine ⟨_, h, SC.of hW hX sC1 (soundL_none E) ((t39 n a b c d e n' a' b' c' d' e').trans ?_)⟩
    unfold cmp
    simp only [if_true]
    by_cases hc : eq5 a b c d e a' b' c' d' e' = true
    · rw [hc]; unfold eq5 at hc; rw [hc]
      simp only [Bool.not_true, Bool.false_eq_true, if_false, decide_eq_true_eq, cond_true]
      repeat' split
      all_goals first | rfl | omega
    · rw [Bool.not_eq_true] at hc; rw [hc]; unfold eq5 at hc; rw [hc]; rfl
  · cases h
theorem ok40 : OkT E 40 tCmp := by
  intro args L k r h
  unfold tCmp at h
  split at h
  · rename_i n a b c d e n' a' b' c' d' e'
    refine ⟨_, h, SC.of hW hX sC1 (soundL_none E) ((t40 n a b c d e n' a' b' c' d' e').trans ?_)⟩
    unfold cmp
    simp only [if_true]
    by_cases hc : eq5 a b c d e a' b' c' d' e' = true
    · rw [hc]; unfold eq5 at hc; rw [hc]
      simp only [Bool.not_true, Bool.false_eq_true, if_false, decide_eq_true_eq, cond_true]
      repeat' split
      all_goals first | rfl | omega
    · rw [Bool.not_eq_true] at hc; rw [hc]; unfold eq5 at hc; rw [hc]; rfl
  · cases h
def t16 : Tab1
  | [], [], k => k (.ret (bo true) [])
  | _, _, _ => none
theorem run_lives : callG E 60 16 [] [] K = some (.c (.ret (bo true) [])) := by kernel_rfl
theorem ok16 : OkT E 16 t16 := by
  intro args L k r h
  unfold t16 at h
  split at h
  · exact ⟨_, h, SC.g run_lives⟩
  · cases h
end Go.Proofs.YtnjpgkaignfcaaaDoor
