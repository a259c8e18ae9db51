/- UnitLookup. -/
import Derived.Test.YtnjpgkaignfcaaaDoorUu
namespace Go.Proofs.YtnjpgkaignfcaaaDoor
open Go Go.Am
/-- The row of a unit's name. -/
def lkI (s : ByteArray) : Nat :=
  if (ByteArray.toList s == ByteArray.toList { data := #[74] }) = true then 0 else
  if (ByteArray.toList s == ByteArray.toList { data := #[107, 74] }) = true then 1 else
  if (ByteArray.toList s == ByteArray.toList { data := #[87, 104] }) = true then 2 else
  if (ByteArray.toList s == ByteArray.toList { data := #[66] }) = true then 3 else
  if (ByteArray.toList s == ByteArray.toList { data := #[107, 66] }) = true then 4 else
  if (ByteArray.toList s == ByteArray.toList { data := #[115] }) = true then 5 else
  if (ByteArray.toList s == ByteArray.toList { data := #[109, 105, 110] }) = true then 6 else
  if (ByteArray.toList s == ByteArray.toList { data := #[104] }) = true then 7 else
  if (ByteArray.toList s == ByteArray.toList { data := #[100, 101, 103] }) = true then 8 else
  if (ByteArray.toList s == ByteArray.toList { data := #[75] }) = true then 9 else
  if (ByteArray.toList s == ByteArray.toList { data := #[87] }) = true then 10 else
  if (ByteArray.toList s == ByteArray.toList { data := #[107, 87] }) = true then 11 else
  if (ByteArray.toList s == ByteArray.toList { data := #[66, 112, 115] }) = true then 12 else
  13
def lkE (i : Nat) : Int := ([1, 1, 1, 0, 0, 0, 0, 0, 0, 0, 1, 1, 0, 0] : List Int).getD i 0
def lkD (i : Nat) : Int := ([0, 0, 0, 1, 1, 0, 0, 0, 0, 0, 0, 0, 1, 0] : List Int).getD i 0
def lkT (i : Nat) : Int := ([0, 0, 0, 0, 0, 1, 1, 1, 0, 0, (-1), (-1), (-1), 0] : List Int).getD i 0
def lkA (i : Nat) : Int := ([0, 0, 0, 0, 0, 0, 0, 0, 1, 0, 0, 0, 0, 0] : List Int).getD i 0
def lkH (i : Nat) : Int := ([0, 0, 0, 0, 0, 0, 0, 0, 0, 1, 0, 0, 0, 0] : List Int).getD i 0
def lkF (i : Nat) : Int := ([1, 1000, 3600, 1, 1000, 1, 60, 3600, 1, 1, 1, 1000, 1, 0] : List Int).getD i 0
def lkB (i : Nat) : Bool := ([true, true, true, true, true, true, true, true, true, true, true, true, true, false] : List Bool).getD i false
def lkV (i : Nat) : V := .tup [d5 (lkE i) (lkD i) (lkT i) (lkA i) (lkH i), i64 (lkF i), bo (lkB i)]
def tLk : Tab1
  | [.sc (.string s)], [], k => k (.ret (lkV (lkI s)) [])
  | _, _, _ => none
theorem t14 (s : ByteArray) : callG E 60 14 [st s] [] K =
  if (ByteArray.toList { data := #[74] } == ByteArray.toList s) = true then
   some (Ans.c (CRes.ret (V.tup [V.agg [i64 1, i64 0, i64 0, i64 0, i64 0], i64 1, bo true]) []))
  else
   if (ByteArray.toList { data := #[107, 74] } == ByteArray.toList s) = true then
    some (Ans.c (CRes.ret (V.tup [V.agg [i64 1, i64 0, i64 0, i64 0, i64 0], i64 1000, bo true]) []))
   else
    if (ByteArray.toList { data := #[87, 104] } == ByteArray.toList s) = true then
     some (Ans.c (CRes.ret (V.tup [V.agg [i64 1, i64 0, i64 0, i64 0, i64 0], i64 3600, bo true]) []))
    else
     if (ByteArray.toList { data := #[66] } == ByteArray.toList s) = true then
      some (Ans.c (CRes.ret (V.tup [V.agg [i64 0, i64 1, i64 0, i64 0, i64 0], i64 1, bo true]) []))
     else
      if (ByteArray.toList { data := #[107, 66] } == ByteArray.toList s) = true then
       some (Ans.c (CRes.ret (V.tup [V.agg [i64 0, i64 1, i64 0, i64 0, i64 0], i64 1000, bo true]) []))
      else
       if (ByteArray.toList { data := #[115] } == ByteArray.toList s) = true then
        some (Ans.c (CRes.ret (V.tup [V.agg [i64 0, i64 0, i64 1, i64 0, i64 0], i64 1, bo true]) []))
       else
        if (ByteArray.toList { data := #[109, 105, 110] } == ByteArray.toList s) = true then
         some (Ans.c (CRes.ret (V.tup [V.agg [i64 0, i64 0, i64 1, i64 0, i64 0], i64 60, bo true]) []))
        else
         if (ByteArray.toList { data := #[104] } == ByteArray.toList s) = true then
          some (Ans.c (CRes.ret (V.tup [V.agg [i64 0, i64 0, i64 1, i64 0, i64 0], i64 3600, bo true]) []))
         else
          if (ByteArray.toList { data := #[100, 101, 103] } == ByteArray.toList s) = true then
           some (Ans.c (CRes.ret (V.tup [V.agg [i64 0, i64 0, i64 0, i64 1, i64 0], i64 1, bo true]) []))
          else
           if (ByteArray.toList { data := #[75] } == ByteArray.toList s) = true then
            some (Ans.c (CRes.ret (V.tup [V.agg [i64 0, i64 0, i64 0, i64 0, i64 1], i64 1, bo true]) []))
           else
            if (ByteArray.toList { data := #[87] } == ByteArray.toList s) = true then
             some (Ans.c (CRes.ret (V.tup [V.agg [i64 1, i64 0, i64 (-1), i64 0, i64 0], i64 1, bo true]) []))
            else
             if (ByteArray.toList { data := #[107, 87] } == ByteArray.toList s) = true then
              some (Ans.c (CRes.ret (V.tup [V.agg [i64 1, i64 0, i64 (-1), i64 0, i64 0], i64 1000, bo true]) []))
             else
              if (ByteArray.toList { data := #[66, 112, 115] } == ByteArray.toList s) = true then
               some (Ans.c (CRes.ret (V.tup [V.agg [i64 0, i64 1, i64 (-1), i64 0, i64 0], i64 1, bo true]) []))
              else
               some (Ans.c (CRes.ret (V.tup [V.agg [i64 0, i64 0, i64 0, i64 0, i64 0], i64 0, bo false]) [])) := by kernel_rfl
theorem t15 (s : ByteArray) : callG E 60 15 [st s] [] K =
  if (ByteArray.toList s == ByteArray.toList { data := #[74] }) = true then
   some (Ans.c (CRes.ret (V.tup [V.agg [i64 1, i64 0, i64 0, i64 0, i64 0], i64 1, bo true]) []))
  else
   if (ByteArray.toList s == ByteArray.toList { data := #[107, 74] }) = true then
    some (Ans.c (CRes.ret (V.tup [V.agg [i64 1, i64 0, i64 0, i64 0, i64 0], i64 1000, bo true]) []))
   else
    if (ByteArray.toList s == ByteArray.toList { data := #[87, 104] }) = true then
     some (Ans.c (CRes.ret (V.tup [V.agg [i64 1, i64 0, i64 0, i64 0, i64 0], i64 3600, bo true]) []))
    else
     if (ByteArray.toList s == ByteArray.toList { data := #[66] }) = true then
      some (Ans.c (CRes.ret (V.tup [V.agg [i64 0, i64 1, i64 0, i64 0, i64 0], i64 1, bo true]) []))
     else
      if (ByteArray.toList s == ByteArray.toList { data := #[107, 66] }) = true then
       some (Ans.c (CRes.ret (V.tup [V.agg [i64 0, i64 1, i64 0, i64 0, i64 0], i64 1000, bo true]) []))
      else
       if (ByteArray.toList s == ByteArray.toList { data := #[115] }) = true then
        some (Ans.c (CRes.ret (V.tup [V.agg [i64 0, i64 0, i64 1, i64 0, i64 0], i64 1, bo true]) []))
       else
        if (ByteArray.toList s == ByteArray.toList { data := #[109, 105, 110] }) = true then
         some (Ans.c (CRes.ret (V.tup [V.agg [i64 0, i64 0, i64 1, i64 0, i64 0], i64 60, bo true]) []))
        else
         if (ByteArray.toList s == ByteArray.toList { data := #[104] }) = true then
          some (Ans.c (CRes.ret (V.tup [V.agg [i64 0, i64 0, i64 1, i64 0, i64 0], i64 3600, bo true]) []))
         else
          if (ByteArray.toList s == ByteArray.toList { data := #[100, 101, 103] }) = true then
           some (Ans.c (CRes.ret (V.tup [V.agg [i64 0, i64 0, i64 0, i64 1, i64 0], i64 1, bo true]) []))
          else
           if (ByteArray.toList s == ByteArray.toList { data := #[75] }) = true then
            some (Ans.c (CRes.ret (V.tup [V.agg [i64 0, i64 0, i64 0, i64 0, i64 1], i64 1, bo true]) []))
           else
            if (ByteArray.toList s == ByteArray.toList { data := #[87] }) = true then
             some (Ans.c (CRes.ret (V.tup [V.agg [i64 1, i64 0, i64 (-1), i64 0, i64 0], i64 1, bo true]) []))
            else
             if (ByteArray.toList s == ByteArray.toList { data := #[107, 87] }) = true then
              some (Ans.c (CRes.ret (V.tup [V.agg [i64 1, i64 0, i64 (-1), i64 0, i64 0], i64 1000, bo true]) []))
             else
              if (ByteArray.toList s == ByteArray.toList { data := #[66, 112, 115] }) = true then
               some (Ans.c (CRes.ret (V.tup [V.agg [i64 0, i64 1, i64 (-1), i64 0, i64 0], i64 1, bo true]) []))
              else
               some (Ans.c (CRes.ret (V.tup [V.agg [i64 0, i64 0, i64 0, i64 0, i64 0], i64 0, bo false]) [])) := by kernel_rfl
theorem bsym (l m : List UInt8) : (l == m) = (m == l) := by rw [Bool.eq_iff_iff, beq_iff_eq, beq_iff_eq]; exact ⟨Eq.symm, Eq.symm⟩
theorem ok15 : OkT E 15 tLk := by
  intro args L k r h
  unfold tLk at h
  split at h
  · rename_i s
    refine ⟨_, h, SC.g (n := 60) ((t15 s).trans ?_)⟩
    have e : ∀ i, some (Ans.c (CRes.ret (lkV i) [])) = (fun i => some (Ans.c (CRes.ret (lkV i) []))) i := fun _ => rfl
    rw [e]
    unfold lkI
    simp only [apply_ite (fun i => some (Ans.c (CRes.ret (lkV i) [])))]
    rfl
  · cases h
theorem ok14 : OkT E 14 tLk := by
  intro args L k r h
  unfold tLk at h
  split at h
  · rename_i s
    refine ⟨_, h, SC.g (n := 60) ((t14 s).trans ?_)⟩
    repeat rw [bsym _ (ByteArray.toList s)]
    have e : ∀ i, some (Ans.c (CRes.ret (lkV i) [])) = (fun i => some (Ans.c (CRes.ret (lkV i) []))) i := fun _ => rfl
    rw [e]
    unfold lkI
    simp only [apply_ite (fun i => some (Ans.c (CRes.ret (lkV i) [])))]
    rfl
  · cases h
def C4 : CallT := tab [(14, tLk), (15, tLk), (16, t16)]
theorem sC4 : SoundC E C4 := tab_cons ok14 (tab_cons ok15 (tab_cons ok16 tab_nil))
theorem law3 (s : ByteArray) : callK E C4 L0 3 [st s] [] K =
  if (if false = true then !(lkE (lkI s) == lkE (lkI s) && (lkD (lkI s) == lkD (lkI s) && (lkT (lkI s) == lkT (lkI s) && (lkA (lkI s) == lkA (lkI s) && (lkH (lkI s) == lkH (lkI s) && true))))) else lkE (lkI s) == lkE (lkI s) && (lkD (lkI s) == lkD (lkI s) && (lkT (lkI s) == lkT (lkI s) && (lkA (lkI s) == lkA (lkI s) && (lkH (lkI s) == lkH (lkI s) && true))))) = true then
   if (lkF (lkI s) == lkF (lkI s)) = true then
    if (lkB (lkI s) == lkB (lkI s)) = true then
     some (Ans.c (CRes.ret (bo true) []))
    else
     some (Ans.c (CRes.ret (bo false) []))
   else
    some (Ans.c (CRes.ret (bo false) []))
  else
   some (Ans.c (CRes.ret (bo false) [])) := by kernel_rfl
set_option maxRecDepth 100000 in
theorem unitLookup (v0 : V) (h0 : WTV E.P 9 v0) : ∃ l', LeL [v0] l' ∧ SC E 3 l' [] (.ret (bo true) []) := by
  obtain ⟨s, rfl, _⟩ := h0.str (by kernel_rfl) (by kernel_rfl)
  refine ⟨_, LeL.refl _, SC.of hW hX sC4 (soundL_none E) ((law3 s).trans ?_)⟩
  simp only [beq_self_eq_true, Bool.and_true, if_true, Bool.false_eq_true, if_false, ite_self]
end Go.Proofs.YtnjpgkaignfcaaaDoor
