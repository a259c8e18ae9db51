/- Parse of the program (21): walked. -/
import Derived.Test.YtnjpgkaignfcaaaDoorVb
import Derived.Test.YtnjpgkaignfcaaaDoorU3
namespace Go.Proofs.YtnjpgkaignfcaaaDoor
open Go Go.Am
set_option linter.unusedSimpArgs false
set_option linter.unusedVariables false
theorem okE1 {f : FuncId} {t : Tab1} (h : OkT E f t) : OkT E1 f t := fun args L k r hr => by
  obtain ⟨cr, h1, h2⟩ := h args L k r hr
  exact ⟨cr, h1, sc1.2 h2⟩
def QSpl (args : List V) : Prop := ∃ s c, args = [st s, st ⟨⟨[c]⟩⟩] ∧ s.size ≤ 1000
def QFac (args : List V) : Prop := ∃ s, args = [st s] ∧ s.size ≤ 1000
theorem spl_sc {s : ByteArray} {c : UInt8} (hs : s.size ≤ 1000) : SC E1 47 [st s, st ⟨⟨[c]⟩⟩] [] (.ret (vSpl [st s, st ⟨⟨[c]⟩⟩]) []) := by
  have hx : SC E1 47 [st s, st ⟨⟨[c]⟩⟩] [] (.ret (.ro 1 (Lib.countB s ⟨⟨[c]⟩⟩ + 1) (fun j => match (Lib.splitB ⟨⟨[c]⟩⟩ 0 (Lib.countB s ⟨⟨[c]⟩⟩) s)[j]? with | some x => [st x] | none => [])) []) := by
    refine sc1.2 (SC.ext hX ?_)
    show extF 47 [st s, st ⟨⟨[c]⟩⟩] = _
    have h1 : s.size < 4294967281 ∧ 1 ≤ ByteArray.size ⟨⟨[c]⟩⟩ := ⟨by omega, Nat.le_refl 1⟩
    simp only [extF]
    rw [if_neg (by decide), if_neg (by decide), if_neg (by decide), if_pos trivial, if_pos h1]
    rfl
  have hn : Lib.countB s ⟨⟨[c]⟩⟩ + 1 = ptN c s := (pts_len c s).symm
  have hp : Lib.splitB ⟨⟨[c]⟩⟩ 0 (Lib.countB s ⟨⟨[c]⟩⟩) s = pts c s := pts_B c s
  rw [hp, hn] at hx
  refine hx.le ?_
  show Le _ (.ro 1 (ptN c s) (fun j => [st (pt c s j)]))
  refine Le.ro_eq fun j hj => ?_
  refine ⟨?_, rfl⟩
  unfold ptN at hj
  simp [pt, List.getElem?_eq_getElem hj]
noncomputable def CP : CallT := ptab 45 QCut vCut (ptab 46 QNum vNum (ptab 47 QSpl vSpl (ptab 48 QFac vFac (tab [(14, tLk), (49, fun args L k => callG E1 20 49 args L k), (50, fun args L k => callG E1 20 50 args L k), (51, tChk)]))))
theorem sG1 (f : FuncId) : OkT E1 f (fun args L k => callG E1 20 f args L k) := fun args L k r h => (sound_G hW1 hX1 20).1 f args L k r h
theorem sCP : SoundC E1 CP := ptab_cons (fun args h => by obtain ⟨s, c, rfl, hs⟩ := h; exact cut_sc hs) (ptab_cons (fun args h => by obtain ⟨s, rfl, hs⟩ := h; exact num46_sc hs) (ptab_cons (fun args h => by obtain ⟨s, c, rfl, hs⟩ := h; exact spl_sc hs) (ptab_cons (fun args h => by obtain ⟨s, rfl, hs⟩ := h; exact fac_sc hs) (tab_cons (okE1 ok14) (tab_cons (sG1 49) (tab_cons (sG1 50) (tab_cons (okE1 okChk) tab_nil)))))))
def frow (u : Nat → ByteArray) (e : Nat → Int) (g : Nat → Bool) : Nat → List V := fun j => [st (u j), i64 (e j), bo (g j)]
def z6 : List V := [i64 0, i64 0, i64 0, i64 0, i64 0, i64 0]
def parts' (c : UInt8) (t : ByteArray) : V := .ro 1 (ptN c t) (fun j => [st (pt c t j)])
def SXn (n : Int) (t : ByteArray) : St := { fr := [.junk, .junk, .ptr 0 0, .junk, .junk, .junk, .junk, i64 n, .junk, .sc (.slice none 0 0)] ++ jk 30 ++ [parts' 42 t, i64 (ptN 42 t), i64 0] ++ jk 66, H := hp [some (.blk z6)], nx := 1, rt := 0, me := 21 }
def SXs (n : Int) (t : ByteArray) (k m : Nat) (u : Nat → ByteArray) (e : Nat → Int) (g : Nat → Bool) : St := { fr := [.junk, .junk, .ptr 0 0, .junk, .junk, .junk, .junk, i64 n, .junk, .sl 1 3 0 m] ++ jk 30 ++ [parts' 42 t, i64 (ptN 42 t), i64 k] ++ jk 66, H := hp [some (.blk z6), some (.row 63 3 m (frow u e g))], nx := 2, rt := 0, me := 21 }
def TXs (n : Int) (m : Nat) (u : Nat → ByteArray) (e : Nat → Int) (g : Nat → Bool) : St := { fr := [.junk, .junk, .ptr 0 0, .junk, .junk, .junk, .junk, i64 n, .junk, .sl 1 3 0 m] ++ jk 99, H := hp [some (.blk z6), some (.row 63 3 m (frow u e g))], nx := 2, rt := 0, me := 21 }
def TXr (er : Int) : St := { fr := [.junk, .junk, .ptr 0 0, i64 er] ++ jk 105, H := hp [some (.blk z6)], nx := 1, rt := 0, me := 21 }
def SYn (n : Int) : St := { fr := [.junk, .junk, .ptr 0 0, .junk, .junk, .junk, .junk, i64 n] ++ jk 6 ++ [.ptr 1 0] ++ jk 44 ++ [.sc (.slice none 0 0), i64 0, i64 0] ++ jk 47, H := hp [some (.blk z6), some (.blk [i64 0, i64 0, i64 0, i64 0, i64 0])], nx := 2, rt := 0, me := 21 }
def SYs (n a b c d h : Int) (k m : Nat) (u : Nat → ByteArray) (e : Nat → Int) (g : Nat → Bool) : St := { fr := [.junk, .junk, .ptr 0 0, .junk, .junk, .junk, .junk, i64 n] ++ jk 6 ++ [.ptr 1 0] ++ jk 44 ++ [.sl 2 3 0 m, i64 m, i64 k] ++ jk 47, H := hp [some (.blk z6), some (.blk [i64 a, i64 b, i64 c, i64 d, i64 h]), some (.row 63 3 m (frow u e g))], nx := 3, rt := 0, me := 21 }
def TY (n a b c d h : Int) : St := { fr := [.junk, .junk, .ptr 0 0, .junk, .junk, .junk, .junk, i64 n] ++ jk 6 ++ [.ptr 1 0] ++ jk 94, H := hp [some (.blk z6), some (.blk [i64 a, i64 b, i64 c, i64 d, i64 h])], nx := 2, rt := 0, me := 21 }
theorem r21a (n : Int) (t : ByteArray) (lo : LoopT) : loopK E1 CP lo 0 7696581395076 (bodyOf E1 21 0) (SXn n t) (KC2 644 12) =
  if decide ((0 : Int) < ((ptN (42 : UInt8) t : Nat) : Int)) = true then
   if (0 : Int) ≤ (0 : Int) ∧ (0 : Int) < ((ptN (42 : UInt8) t : Nat) : Int) then
    cl (QFac ([V.sc (Value.string (pt (42 : UInt8) t 0))]) ∧ ([] : List (Option Chunk)) = []) (
     if (!fO (pt (42 : UInt8) t 0)) = true then
      some (Ans.l Ex.ret { fr := [V.junk, V.junk, V.ptr 0 0, i64 7] ++ jk 105, H := hp [some (Chunk.blk [i64 0, i64 0, i64 0, i64 0, i64 0, i64 0])], nx := 1, rt := 0, me := 21 })
     else
      lo 0 7696581395076 (bodyOf E1 21 0) ({ fr := [V.junk, V.junk, V.ptr 0 0, V.junk, V.junk, V.junk, V.junk, i64 n, V.junk, V.sl 1 3 0 1, V.junk, V.junk, V.junk, V.junk, V.junk, V.junk, V.junk, V.junk, V.junk, V.junk, V.junk, V.junk, V.junk, V.junk, V.junk, V.junk, V.junk, V.junk, V.junk, V.junk, V.junk, V.junk, V.junk, V.junk, V.junk, V.junk, V.junk, V.junk, V.junk, V.junk, V.ro 1 (ptN (42 : UInt8) t) fun (j : Nat) => [st (pt (42 : UInt8) t j)], i64 ((ptN (42 : UInt8) t : Nat) : Int), i64 (w ((0 : Int) + (1 : Int)))] ++ jk 66, H := hp [some (Chunk.blk [i64 0, i64 0, i64 0, i64 0, i64 0, i64 0]), some (Chunk.row 63 3 1 fun (j : Nat) => List.getD [[V.sc (Value.string (fU (pt (42 : UInt8) t 0))), i64 (fE (pt (42 : UInt8) t 0)), bo ((fG (pt (42 : UInt8) t 0)))]] (0 + j) [])], nx := 2, rt := 0, me := 21 }) (KC2 644 12)) (
     none)
   else
    none
  else
   some (Ans.l (Ex.exit 0) { fr := [V.junk, V.junk, V.ptr 0 0, V.junk, V.junk, V.junk, V.junk, i64 n, V.junk, V.sc (Value.slice none 0 0)] ++ jk 99, H := hp [some (Chunk.blk [i64 0, i64 0, i64 0, i64 0, i64 0, i64 0])], nx := 1, rt := 0, me := 21 }) := by kernel_rfl
theorem r21b (n : Int) (t : ByteArray) (k m : Nat) (u : Nat → ByteArray) (e : Nat → Int) (g : Nat → Bool) (lo : LoopT) : loopK E1 CP lo 0 7696581395076 (bodyOf E1 21 0) (SXs n t k m u e g) (KC2 644 12) =
  if decide ((k : Int) < ((ptN (42 : UInt8) t : Nat) : Int)) = true then
   if (0 : Int) ≤ (k : Int) ∧ (k : Int) < ((ptN (42 : UInt8) t : Nat) : Int) then
    cl (QFac ([V.sc (Value.string (pt (42 : UInt8) t (Int.toNat (k : Int))))]) ∧ ([] : List (Option Chunk)) = []) (
     if (!fO (pt (42 : UInt8) t (Int.toNat (k : Int)))) = true then
      some (Ans.l Ex.ret { fr := [V.junk, V.junk, V.ptr 0 0, i64 7] ++ jk 105, H := hp [some (Chunk.blk [i64 0, i64 0, i64 0, i64 0, i64 0, i64 0])], nx := 1, rt := 0, me := 21 })
     else
      if (m + 1) * 32 ≤ roomBound ∧ m + 1 ≤ maxLen ∧ m ≤ m then
       lo 0 7696581395076 (bodyOf E1 21 0) ({ fr := [V.junk, V.junk, V.ptr 0 0, V.junk, V.junk, V.junk, V.junk, i64 n, V.junk, V.sl 1 3 0 (m + 1), V.junk, V.junk, V.junk, V.junk, V.junk, V.junk, V.junk, V.junk, V.junk, V.junk, V.junk, V.junk, V.junk, V.junk, V.junk, V.junk, V.junk, V.junk, V.junk, V.junk, V.junk, V.junk, V.junk, V.junk, V.junk, V.junk, V.junk, V.junk, V.junk, V.junk, V.ro 1 (ptN (42 : UInt8) t) fun (j : Nat) => [st (pt (42 : UInt8) t j)], i64 ((ptN (42 : UInt8) t : Nat) : Int), i64 (w ((k : Int) + (1 : Int)))] ++ jk 66, H := hp [some (Chunk.blk [i64 0, i64 0, i64 0, i64 0, i64 0, i64 0]), some (Chunk.row 63 3 (m + 1) (joinF m (frow u e g) fun (j : Nat) => List.getD [[V.sc (Value.string (fU (pt (42 : UInt8) t (Int.toNat (k : Int))))), i64 (fE (pt (42 : UInt8) t (Int.toNat (k : Int)))), bo ((fG (pt (42 : UInt8) t (Int.toNat (k : Int)))))]] (0 + j) []))], nx := 2, rt := 0, me := 21 }) (KC2 644 12)
      else
       none) (
     none)
   else
    none
  else
   some (Ans.l (Ex.exit 0) { fr := [V.junk, V.junk, V.ptr 0 0, V.junk, V.junk, V.junk, V.junk, i64 n, V.junk, V.sl 1 3 0 m] ++ jk 99, H := hp [some (Chunk.blk [i64 0, i64 0, i64 0, i64 0, i64 0, i64 0]), some (Chunk.row 63 3 m (frow u e g))], nx := 2, rt := 0, me := 21 }) := by kernel_rfl
theorem r21c (n : Int) (lo : LoopT) : loopK E1 CP lo 2 4035225266123980932 (bodyOf E1 21 2) (SYn n) (KC2 16516 12) =
  some (Ans.l (Ex.exit 2) { fr := [V.junk, V.junk, V.ptr 0 0, V.junk, V.junk, V.junk, V.junk, i64 n, V.junk, V.junk, V.junk, V.junk, V.junk, V.junk, V.ptr 1 0] ++ jk 94, H := hp [some (Chunk.blk [i64 0, i64 0, i64 0, i64 0, i64 0, i64 0]), some (Chunk.blk [i64 0, i64 0, i64 0, i64 0, i64 0])], nx := 2, rt := 0, me := 21 }) := by kernel_rfl
theorem r21d (n a b c d h : Int) (k m : Nat) (u : Nat → ByteArray) (e : Nat → Int) (g : Nat → Bool) (lo : LoopT) : loopK E1 CP lo 2 4035225266123980932 (bodyOf E1 21 2) (SYs n a b c d h k m u e g) (KC2 16516 12) =
  if decide ((k : Int) < (m : Int)) = true then
   if (0 : Int) ≤ (k : Int) ∧ (k : Int) < (m : Int) then
    if 0 + Int.toNat (k : Int) < m ∧ 3 = 3 then
     if (!lkB (lkI (u (0 + Int.toNat (k : Int))))) = true then
      some (Ans.l Ex.ret { fr := [V.junk, V.junk, V.ptr 0 0, i64 10] ++ jk 105, H := hp [some (Chunk.blk [i64 0, i64 0, i64 0, i64 0, i64 0, i64 0])], nx := 1, rt := 0, me := 21 })
     else
      if g (0 + Int.toNat (k : Int)) = true then
       if (lkF (lkI (u (0 + Int.toNat (k : Int)))) != (1 : Int)) = true then
        some (Ans.l Ex.ret { fr := [V.junk, V.junk, V.ptr 0 0, i64 10] ++ jk 105, H := hp [some (Chunk.blk [i64 0, i64 0, i64 0, i64 0, i64 0, i64 0])], nx := 1, rt := 0, me := 21 })
       else
        if (e (0 + Int.toNat (k : Int)) == (0 : Int)) = true then
         some (Ans.l Ex.ret { fr := [V.junk, V.junk, V.ptr 0 0, i64 5] ++ jk 105, H := hp [some (Chunk.blk [i64 0, i64 0, i64 0, i64 0, i64 0, i64 0])], nx := 1, rt := 0, me := 21 })
        else
         if decide (e (0 + Int.toNat (k : Int)) ≥ w ((0 : Int) - (8 : Int))) = true then
          if (!decide (e (0 + Int.toNat (k : Int)) ≤ (8 : Int))) = true then
           some (Ans.l Ex.ret { fr := [V.junk, V.junk, V.ptr 0 0, i64 5] ++ jk 105, H := hp [some (Chunk.blk [i64 0, i64 0, i64 0, i64 0, i64 0, i64 0])], nx := 1, rt := 0, me := 21 })
          else
           lo 2 4035225266123980932 (bodyOf E1 21 2) ({ fr := [V.junk, V.junk, V.ptr 0 0, V.junk, V.junk, V.junk, V.junk, i64 (if (if (2147483648 : Int) < w (n * lkF (lkI (u (0 + Int.toNat (k : Int))))) then (2147483648 : Int) else w (n * lkF (lkI (u (0 + Int.toNat (k : Int)))))) > (-2147483648 : Int) then if (2147483648 : Int) < w (n * lkF (lkI (u (0 + Int.toNat (k : Int))))) then (2147483648 : Int) else w (n * lkF (lkI (u (0 + Int.toNat (k : Int))))) else (-2147483648 : Int)), V.junk, V.junk, V.junk, V.junk, V.junk, V.junk, V.ptr 1 0, V.junk, V.junk, V.junk, V.junk, V.junk, V.junk, V.junk, V.junk, V.junk, V.junk, V.junk, V.junk, V.junk, V.junk, V.junk, V.junk, V.junk, V.junk, V.junk, V.junk, V.junk, V.junk, V.junk, V.junk, V.junk, V.junk, V.junk, V.junk, V.junk, V.junk, V.junk, V.junk, V.junk, V.junk, V.junk, V.junk, V.junk, V.junk, V.junk, V.junk, V.junk, V.junk, V.junk, V.junk, V.sl (0 + 1 + 1) 3 0 m, i64 (m : Int), i64 (w ((k : Int) + (1 : Int)))] ++ jk 47, H := hp [some (Chunk.blk [i64 0, i64 0, i64 0, i64 0, i64 0, i64 0]), some (Chunk.blk [i64 (w (a + w (e (0 + Int.toNat (k : Int)) * lkE (lkI (u (0 + Int.toNat (k : Int))))))), i64 (w (b + w (e (0 + Int.toNat (k : Int)) * lkD (lkI (u (0 + Int.toNat (k : Int))))))), i64 (w (c + w (e (0 + Int.toNat (k : Int)) * lkT (lkI (u (0 + Int.toNat (k : Int))))))), i64 (w (d + w (e (0 + Int.toNat (k : Int)) * lkA (lkI (u (0 + Int.toNat (k : Int))))))), i64 (w (h + w (e (0 + Int.toNat (k : Int)) * lkH (lkI (u (0 + Int.toNat (k : Int)))))))]), some (Chunk.row 63 3 m (frow u e g))], nx := 3, rt := 0, me := 21 }) (KC2 16516 12)
         else
          some (Ans.l Ex.ret { fr := [V.junk, V.junk, V.ptr 0 0, i64 5] ++ jk 105, H := hp [some (Chunk.blk [i64 0, i64 0, i64 0, i64 0, i64 0, i64 0])], nx := 1, rt := 0, me := 21 })
      else
       if (e (0 + Int.toNat (k : Int)) == (0 : Int)) = true then
        some (Ans.l Ex.ret { fr := [V.junk, V.junk, V.ptr 0 0, i64 5] ++ jk 105, H := hp [some (Chunk.blk [i64 0, i64 0, i64 0, i64 0, i64 0, i64 0])], nx := 1, rt := 0, me := 21 })
       else
        if decide (e (0 + Int.toNat (k : Int)) ≥ w ((0 : Int) - (8 : Int))) = true then
         if (!decide (e (0 + Int.toNat (k : Int)) ≤ (8 : Int))) = true then
          some (Ans.l Ex.ret { fr := [V.junk, V.junk, V.ptr 0 0, i64 5] ++ jk 105, H := hp [some (Chunk.blk [i64 0, i64 0, i64 0, i64 0, i64 0, i64 0])], nx := 1, rt := 0, me := 21 })
         else
          lo 2 4035225266123980932 (bodyOf E1 21 2) ({ fr := [V.junk, V.junk, V.ptr 0 0, V.junk, V.junk, V.junk, V.junk, i64 (if (if (2147483648 : Int) < w (n * lkF (lkI (u (0 + Int.toNat (k : Int))))) then (2147483648 : Int) else w (n * lkF (lkI (u (0 + Int.toNat (k : Int)))))) > (-2147483648 : Int) then if (2147483648 : Int) < w (n * lkF (lkI (u (0 + Int.toNat (k : Int))))) then (2147483648 : Int) else w (n * lkF (lkI (u (0 + Int.toNat (k : Int))))) else (-2147483648 : Int)), V.junk, V.junk, V.junk, V.junk, V.junk, V.junk, V.ptr 1 0, V.junk, V.junk, V.junk, V.junk, V.junk, V.junk, V.junk, V.junk, V.junk, V.junk, V.junk, V.junk, V.junk, V.junk, V.junk, V.junk, V.junk, V.junk, V.junk, V.junk, V.junk, V.junk, V.junk, V.junk, V.junk, V.junk, V.junk, V.junk, V.junk, V.junk, V.junk, V.junk, V.junk, V.junk, V.junk, V.junk, V.junk, V.junk, V.junk, V.junk, V.junk, V.junk, V.junk, V.junk, V.sl (0 + 1 + 1) 3 0 m, i64 (m : Int), i64 (w ((k : Int) + (1 : Int)))] ++ jk 47, H := hp [some (Chunk.blk [i64 0, i64 0, i64 0, i64 0, i64 0, i64 0]), some (Chunk.blk [i64 (w (a + w (e (0 + Int.toNat (k : Int)) * lkE (lkI (u (0 + Int.toNat (k : Int))))))), i64 (w (b + w (e (0 + Int.toNat (k : Int)) * lkD (lkI (u (0 + Int.toNat (k : Int))))))), i64 (w (c + w (e (0 + Int.toNat (k : Int)) * lkT (lkI (u (0 + Int.toNat (k : Int))))))), i64 (w (d + w (e (0 + Int.toNat (k : Int)) * lkA (lkI (u (0 + Int.toNat (k : Int))))))), i64 (w (h + w (e (0 + Int.toNat (k : Int)) * lkH (lkI (u (0 + Int.toNat (k : Int)))))))]), some (Chunk.row 63 3 m (frow u e g))], nx := 3, rt := 0, me := 21 }) (KC2 16516 12)
        else
         some (Ans.l Ex.ret { fr := [V.junk, V.junk, V.ptr 0 0, i64 5] ++ jk 105, H := hp [some (Chunk.blk [i64 0, i64 0, i64 0, i64 0, i64 0, i64 0])], nx := 1, rt := 0, me := 21 })
    else
     none
   else
    none
  else
   some (Ans.l (Ex.exit 2) { fr := [V.junk, V.junk, V.ptr 0 0, V.junk, V.junk, V.junk, V.junk, i64 n, V.junk, V.junk, V.junk, V.junk, V.junk, V.junk, V.ptr 1 0] ++ jk 94, H := hp [some (Chunk.blk [i64 0, i64 0, i64 0, i64 0, i64 0, i64 0]), some (Chunk.blk [i64 a, i64 b, i64 c, i64 d, i64 h])], nx := 2, rt := 0, me := 21 }) := by kernel_rfl
theorem f21 (s : ByteArray) (n : Int) (m : Nat) (u : Nat → ByteArray) (e : Nat → Int) (g : Nat → Bool) (er1 n2 a b c d h er2 : Int) (S1 S2 : St) (P P2 : Prop) : callK E1 CP (ltab2 [⟨0, bodyOf E1 21 0, S1, P, .exit 0, TXs n m u e g, .ret, TXr er1⟩, ⟨2, bodyOf E1 21 2, S2, P2, .exit 2, TY n2 a b c d h, .ret, TXr er2⟩]) 21 [st s] [] K =
  if decide (((ByteArray.size s : Nat) : Int) > (100 : Int)) = true then
   some (Ans.c (CRes.ret (V.tup [V.agg [i64 0, i64 0, i64 0, i64 0, i64 0, i64 0], i64 2]) []))
  else
   cl (QCut ([V.sc (Value.string s), V.sc (Value.string { data := #[(32 : UInt8)] })]) ∧ ([] : List (Option Chunk)) = []) (
    cl (QNum ([V.sc (Value.string (cA (32 : UInt8) s))]) ∧ ([] : List (Option Chunk)) = []) (
     if (!nB (cA (32 : UInt8) s)) = true then
      some (Ans.c (CRes.ret (V.tup [V.agg [i64 0, i64 0, i64 0, i64 0, i64 0, i64 0], i64 7]) []))
     else
      if cF (32 : UInt8) s = true then
       cl (QSpl ([V.sc (Value.string (cB (32 : UInt8) s)), V.sc (Value.string { data := #[(42 : UInt8)] })]) ∧ ([] : List (Option Chunk)) = []) (
        cl ((bodyOf E1 21 0) = (bodyOf E1 21 0) ∧ LeSt ({ fr := [V.junk, V.junk, V.ptr 0 0, V.junk, V.junk, V.junk, V.junk, i64 (nV (cA (32 : UInt8) s)), V.junk, V.sc (Value.slice none 0 0), V.junk, V.junk, V.junk, V.junk, V.junk, V.junk, V.junk, V.junk, V.junk, V.junk, V.junk, V.junk, V.junk, V.junk, V.junk, V.junk, V.junk, V.junk, V.junk, V.junk, V.junk, V.junk, V.junk, V.junk, V.junk, V.junk, V.junk, V.junk, V.junk, V.junk, V.ro 1 (ptN (42 : UInt8) (cB (32 : UInt8) s)) fun (j : Nat) => [st (pt (42 : UInt8) (cB (32 : UInt8) s) j)], i64 ((ptN (42 : UInt8) (cB (32 : UInt8) s) : Nat) : Int), i64 0] ++ jk 66, H := hp [some (Chunk.blk [i64 0, i64 0, i64 0, i64 0, i64 0, i64 0])], nx := 1, rt := 0, me := 21 }) (S1)) (
         cl (P) (
          cl ((bodyOf E1 21 2) = (bodyOf E1 21 2) ∧ LeSt ({ fr := [V.junk, V.junk, V.ptr 0 0, V.junk, V.junk, V.junk, V.junk, i64 n, V.junk, V.junk, V.junk, V.junk, V.junk, V.junk, V.ptr 1 0, V.junk, V.junk, V.junk, V.junk, V.junk, V.junk, V.junk, V.junk, V.junk, V.junk, V.junk, V.junk, V.junk, V.junk, V.junk, V.junk, V.junk, V.junk, V.junk, V.junk, V.junk, V.junk, V.junk, V.junk, V.junk, V.junk, V.junk, V.junk, V.junk, V.junk, V.junk, V.junk, V.junk, V.junk, V.junk, V.junk, V.junk, V.junk, V.junk, V.junk, V.junk, V.junk, V.junk, V.junk, V.sl (0 + 1 + 1) 3 0 m, i64 (m : Int), i64 0] ++ jk 47, H := hp [some (Chunk.blk [i64 0, i64 0, i64 0, i64 0, i64 0, i64 0]), some (Chunk.blk [i64 0, i64 0, i64 0, i64 0, i64 0]), some (Chunk.row 63 3 m (frow u e g))], nx := 3, rt := 0, me := 21 }) (S2)) (
           cl (P2) (
            some (Ans.c (CRes.ret (V.tup [V.agg [i64 (pk (valid6 n2 a b c d h) n2), i64 (pk (valid6 n2 a b c d h) a), i64 (pk (valid6 n2 a b c d h) b), i64 (pk (valid6 n2 a b c d h) c), i64 (pk (valid6 n2 a b c d h) d), i64 (pk (valid6 n2 a b c d h) h)], i64 (er (valid6 n2 a b c d h) (5 : Int))]) []))) (
            some (Ans.c (CRes.ret (V.tup [V.agg [i64 0, i64 0, i64 0, i64 0, i64 0, i64 0], i64 er2]) [])))) (
           none)) (
          some (Ans.c (CRes.ret (V.tup [V.agg [i64 0, i64 0, i64 0, i64 0, i64 0, i64 0], i64 er1]) [])))) (
         none)) (
        none)
      else
       cl ((bodyOf E1 21 2) = (bodyOf E1 21 2) ∧ LeSt ({ fr := [V.junk, V.junk, V.ptr 0 0, V.junk, V.junk, V.junk, V.junk, i64 (nV (cA (32 : UInt8) s)), V.junk, V.junk, V.junk, V.junk, V.junk, V.junk, V.ptr 1 0, V.junk, V.junk, V.junk, V.junk, V.junk, V.junk, V.junk, V.junk, V.junk, V.junk, V.junk, V.junk, V.junk, V.junk, V.junk, V.junk, V.junk, V.junk, V.junk, V.junk, V.junk, V.junk, V.junk, V.junk, V.junk, V.junk, V.junk, V.junk, V.junk, V.junk, V.junk, V.junk, V.junk, V.junk, V.junk, V.junk, V.junk, V.junk, V.junk, V.junk, V.junk, V.junk, V.junk, V.junk, V.sc (Value.slice none 0 0), i64 0, i64 0] ++ jk 47, H := hp [some (Chunk.blk [i64 0, i64 0, i64 0, i64 0, i64 0, i64 0]), some (Chunk.blk [i64 0, i64 0, i64 0, i64 0, i64 0])], nx := 2, rt := 0, me := 21 }) (S2)) (
        cl (P2) (
         some (Ans.c (CRes.ret (V.tup [V.agg [i64 (pk (valid6 n2 a b c d h) n2), i64 (pk (valid6 n2 a b c d h) a), i64 (pk (valid6 n2 a b c d h) b), i64 (pk (valid6 n2 a b c d h) c), i64 (pk (valid6 n2 a b c d h) d), i64 (pk (valid6 n2 a b c d h) h)], i64 (er (valid6 n2 a b c d h) (5 : Int))]) []))) (
         some (Ans.c (CRes.ret (V.tup [V.agg [i64 0, i64 0, i64 0, i64 0, i64 0, i64 0], i64 er2]) [])))) (
        none)) (
     none)) (
    none) := by kernel_rfl
/-! ### What Parse computes -/
/-- One factor more. -/
def nS (n : Int) (i : Nat) : Int := if (if (2147483648 : Int) < w (n * lkF i) then (2147483648 : Int) else w (n * lkF i)) > (-2147483648 : Int) then (if (2147483648 : Int) < w (n * lkF i) then (2147483648 : Int) else w (n * lkF i)) else (-2147483648 : Int)
structure Acc where
  n : Int
  a : Int
  b : Int
  c : Int
  d : Int
  h : Int
def Acc.step (q : Acc) (i : Nat) (e : Int) : Acc := ⟨nS q.n i, w (q.a + w (e * lkE i)), w (q.b + w (e * lkD i)), w (q.c + w (e * lkT i)), w (q.d + w (e * lkA i)), w (q.h + w (e * lkH i))⟩
/-- What is wrong with a factor. -/
def facE (u : ByteArray) (e : Int) (g : Bool) : Option Int :=
  if lkB (lkI u) = false then some 10 else if g = true ∧ lkF (lkI u) ≠ 1 then some 10 else if e = 0 ∨ e < -8 ∨ 8 < e then some 5 else none
def run2 (u : Nat → ByteArray) (e : Nat → Int) (g : Nat → Bool) : Nat → Nat → Acc → Int ⊕ Acc
  | 0, _, q => .inr q
  | r + 1, k, q => match facE (u k) (e k) (g k) with
    | some er => .inl er
    | none => run2 u e g r (k + 1) (q.step (lkI (u k)) (e k))
theorem oneF {c : ACode} {S T T' : St} {e e' : Ex} (id : Nat) (h : SL E1 c S e' T') : SoundL E1 (ltab2 [⟨id, c, S, False, e, T, e', T'⟩]) := ltab2_cons ⟨fun h => False.elim h, fun _ => h⟩ ltab2_nil
theorem kX (n : Int) (m : Nat) (u : Nat → ByteArray) (e : Nat → Int) (g : Nat → Bool) : KC2 644 12 (.exit 0) (TXs n m u e g) = some (.l (.exit 0) (TXs n m u e g)) := by kernel_rfl
theorem kXr (er : Int) : KC2 644 12 .ret (TXr er) = some (.l .ret (TXr er)) := by kernel_rfl
theorem kY (n a b c d h : Int) : KC2 16516 12 (.exit 2) (TY n a b c d h) = some (.l (.exit 2) (TY n a b c d h)) := by kernel_rfl
theorem kYr (er : Int) : KC2 16516 12 .ret (TXr er) = some (.l .ret (TXr er)) := by kernel_rfl
/-- All parts from k on are factors. -/
def allF (O : ByteArray → Bool) (t : ByteArray) (k : Nat) : Prop := ∀ j, k ≤ j → j < ptN 42 t → O (pt 42 t j) = true
theorem allF_next {O : ByteArray → Bool} {t : ByteArray} {k : Nat} (hO : O (pt 42 t k) = true) : allF O t (k + 1) ↔ allF O t k := by
  constructor
  · intro h j h1 h2
    rcases Nat.lt_or_eq_of_le h1 with h3 | h3
    · exact h j h3 h2
    · rw [← h3]; exact hO
  · exact fun h j h1 h2 => h j (by omega) h2
theorem ptN_le (c : UInt8) (s : ByteArray) : ptN c s ≤ s.size + 2 := by
  unfold ptN
  rw [pts_len]
  have := Lib.count_le s.data.toList [c]
  rw [← Lib.size_eq] at this
  have h : Lib.countB s ⟨#[c]⟩ = Lib.count s.data.toList [c] := rfl
  omega
theorem row_next (u : Nat → ByteArray) (e : Nat → Int) (g : Nat → Bool) (k q : Nat) (hq : q < k + 1) (x : List V) (hx : x = frow u e g k) : joinF k (frow u e g) (fun j => List.getD [x] (0 + j) []) q = frow u e g q := by
  unfold joinF
  split
  · rfl
  · have : q = k := by omega
    subst this
    rw [hx, Nat.sub_self]
    rfl
theorem roomF {n : Nat} (h : n ≤ 1000) : (n + 1) * 32 ≤ roomBound ∧ n + 1 ≤ Go.maxLen ∧ n ≤ n := by
  have : Go.maxLen = 9223372036854775807 := by decide
  unfold roomBound; omega
abbrev uP (t : ByteArray) (j : Nat) : ByteArray := fU (pt 42 t j)
abbrev eP (t : ByteArray) (j : Nat) : Int := fE (pt 42 t j)
abbrev gP (t : ByteArray) (j : Nat) : Bool := fG (pt 42 t j)
set_option maxRecDepth 100000 in
theorem loop21b (n : Int) (t : ByteArray) (ht : t.size ≤ 900) : ∀ (r k : Nat), ptN 42 t - k = r → k ≤ ptN 42 t →
    (allF fO t k → SL E1 (bodyOf E1 21 0) (SXs n t k k (uP t) (eP t) (gP t)) (.exit 0) (TXs n (ptN 42 t) (uP t) (eP t) (gP t))) ∧ (¬ allF fO t k → SL E1 (bodyOf E1 21 0) (SXs n t k k (uP t) (eP t) (gP t)) .ret (TXr 7)) := by
  intro r
  induction r with
  | zero =>
    intro k hr hk
    have : k = ptN 42 t := by omega
    subst this
    refine ⟨fun _ => ?_, fun h => absurd (fun j h1 h2 => absurd h2 (by omega)) h⟩
    exact SL.by2 (m := 644) (r := 12) sCP hX1 ltab2_nil ((r21b n t _ _ _ _ _ _).trans (by rw [if_neg (by simp)]; rfl))
  | succ r ih =>
    intro k hr hk
    have hk' : k < ptN 42 t := by omega
    have hN := ptN_le 42 t
    have hz := pt_size 42 t k
    have hkd : decide ((k : Int) < (ptN 42 t : Int)) = true := by simpa using hk'
    have hbb : (0 : Int) ≤ (k : Int) ∧ (k : Int) < (ptN 42 t : Int) := by omega
    have ew : w ((k : Int) + 1) = ((k + 1 : Nat) : Int) := by rw [w_in (by unfold inR; omega)]; omega
    have eq : QFac [V.sc (Value.string (pt 42 t (Int.toNat (k : Int))))] ∧ ([] : List (Option Chunk)) = [] := ⟨⟨_, rfl, by rw [Int.toNat_natCast]; omega⟩, rfl⟩
    cases hO : fO (pt 42 t k) with
    | false =>
      refine ⟨fun h => absurd (h k (Nat.le_refl _) hk') (by rw [hO]; decide), fun _ => ?_⟩
      refine SL.by2 (m := 644) (r := 12) sCP hX1 ltab2_nil ((r21b n t _ _ _ _ _ _).trans ?_)
      rw [if_pos hkd, if_pos hbb, cl_pos eq, Int.toNat_natCast, hO]; rfl
    | true =>
      have key := ih (k + 1) (by omega) (by omega)
      have hiff := allF_next hO
      rw [hiff] at key
      have hsnd := ltab2_cons (x := ⟨0, bodyOf E1 21 0, SXs n t (k + 1) (k + 1) (uP t) (eP t) (gP t), allF fO t k, .exit 0, TXs n (ptN 42 t) (uP t) (eP t) (gP t), .ret, TXr 7⟩) key ltab2_nil
      have h0 : loopK E1 CP (ltab2 [⟨0, bodyOf E1 21 0, SXs n t (k + 1) (k + 1) (uP t) (eP t) (gP t), allF fO t k, .exit 0, TXs n (ptN 42 t) (uP t) (eP t) (gP t), .ret, TXr 7⟩]) 0 7696581395076 (bodyOf E1 21 0) (SXs n t k k (uP t) (eP t) (gP t)) (KC2 644 12) = cl (allF fO t k) (some (.l (.exit 0) (TXs n (ptN 42 t) (uP t) (eP t) (gP t)))) (some (.l .ret (TXr 7))) := by
        refine (r21b n t _ _ _ _ _ _).trans ?_
        rw [if_pos hkd, if_pos hbb, cl_pos eq, Int.toNat_natCast, hO, if_neg (by decide), if_pos (roomF (by omega)), ew]
        refine (ltab2_hit ?_).trans ?_
        · exact LeSt.mk' (LeL.refl _) ⟨ChLe.refl _, ChLe.row fun q hq => row_next _ _ _ k q hq _ rfl, trivial⟩
        · rw [kX, kXr]
      exact ⟨fun h => SL.by2 sCP hX1 hsnd (h0.trans (cl_pos h)), fun h => SL.by2 sCP hX1 hsnd (h0.trans (cl_neg h))⟩
set_option maxRecDepth 100000 in
theorem loop21a (n : Int) (t : ByteArray) (ht : t.size ≤ 900) :
    (allF fO t 0 → SL E1 (bodyOf E1 21 0) (SXn n t) (.exit 0) (TXs n (ptN 42 t) (uP t) (eP t) (gP t))) ∧ (¬ allF fO t 0 → SL E1 (bodyOf E1 21 0) (SXn n t) .ret (TXr 7)) := by
  have hk' := ptN_pos 42 t
  have hN := ptN_le 42 t
  have hz := pt_size 42 t 0
  have hkd : decide ((0 : Int) < (ptN 42 t : Int)) = true := by simpa using hk'
  have hbb : (0 : Int) ≤ (0 : Int) ∧ (0 : Int) < (ptN 42 t : Int) := by omega
  have ew : w ((0 : Int) + 1) = ((1 : Nat) : Int) := by decide
  have eq : QFac [V.sc (Value.string (pt 42 t 0))] ∧ ([] : List (Option Chunk)) = [] := ⟨⟨_, rfl, by omega⟩, rfl⟩
  cases hO : fO (pt 42 t 0) with
  | false =>
    refine ⟨fun h => absurd (h 0 (Nat.le_refl _) hk') (by rw [hO]; decide), fun _ => ?_⟩
    refine SL.by2 (m := 644) (r := 12) sCP hX1 ltab2_nil ((r21a n t _).trans ?_)
    rw [if_pos hkd, if_pos hbb, cl_pos eq, hO]; rfl
  | true =>
    have key := loop21b n t ht _ 1 rfl (by omega)
    have hiff : allF fO t 1 ↔ allF fO t 0 := allF_next hO
    rw [hiff] at key
    have hsnd := ltab2_cons (x := ⟨0, bodyOf E1 21 0, SXs n t 1 1 (uP t) (eP t) (gP t), allF fO t 0, .exit 0, TXs n (ptN 42 t) (uP t) (eP t) (gP t), .ret, TXr 7⟩) key ltab2_nil
    have h0 : loopK E1 CP (ltab2 [⟨0, bodyOf E1 21 0, SXs n t 1 1 (uP t) (eP t) (gP t), allF fO t 0, .exit 0, TXs n (ptN 42 t) (uP t) (eP t) (gP t), .ret, TXr 7⟩]) 0 7696581395076 (bodyOf E1 21 0) (SXn n t) (KC2 644 12) = cl (allF fO t 0) (some (.l (.exit 0) (TXs n (ptN 42 t) (uP t) (eP t) (gP t)))) (some (.l .ret (TXr 7))) := by
      refine (r21a n t _).trans ?_
      rw [if_pos hkd, if_pos hbb, cl_pos eq, hO, if_neg (by decide), ew]
      refine (ltab2_hit ?_).trans ?_
      · exact LeSt.mk' (LeL.refl _) ⟨ChLe.refl _, ChLe.row fun q hq => (by obtain rfl : q = 0 := (by omega); rfl), trivial⟩
      · rw [kX, kXr]
    exact ⟨fun h => SL.by2 sCP hX1 hsnd (h0.trans (cl_pos h)), fun h => SL.by2 sCP hX1 hsnd (h0.trans (cl_neg h))⟩
theorem facE_10 {u : ByteArray} {e : Int} {g : Bool} (h : lkB (lkI u) = false) : facE u e g = some 10 := by unfold facE; rw [if_pos h]
/-- The loop over the factors. -/
def endsY (q : Int ⊕ Acc) (S : St) : Prop := match q with
  | .inl er => SL E1 (bodyOf E1 21 2) S .ret (TXr er)
  | .inr q => SL E1 (bodyOf E1 21 2) S (.exit 2) (TY q.n q.a q.b q.c q.d q.h)
abbrev SYq (q : Acc) (k m : Nat) (u : Nat → ByteArray) (e : Nat → Int) (g : Nat → Bool) : St := SYs q.n q.a q.b q.c q.d q.h k m u e g
set_option maxRecDepth 100000 in
theorem loop21d (u : Nat → ByteArray) (e : Nat → Int) (g : Nat → Bool) (m : Nat) (hm : m ≤ 1000) : ∀ (r k : Nat) (q : Acc), m - k = r → k ≤ m → endsY (run2 u e g r k q) (SYq q k m u e g) := by
  intro r
  induction r with
  | zero =>
    intro k q hr hk
    have : k = m := by omega
    subst this
    exact SL.by2 (m := 16516) (r := 12) sCP hX1 ltab2_nil ((r21d _ _ _ _ _ _ _ _ _ _ _ _).trans (by rw [if_neg (by simp)]; rfl))
  | succ r ih =>
    intro k q hr hk
    have hk' : k < m := by omega
    have hkd : decide ((k : Int) < (m : Int)) = true := by simpa using hk'
    have hbb : (0 : Int) ≤ (k : Int) ∧ (k : Int) < (m : Int) := by omega
    have hcc : 0 + Int.toNat (k : Int) < m ∧ 3 = 3 := ⟨by rw [Int.toNat_natCast]; omega, rfl⟩
    have hcc' : k < m ∧ True := ⟨hk', trivial⟩
    have ek : 0 + Int.toNat (k : Int) = k := by rw [Int.toNat_natCast]; omega
    have ew : w ((k : Int) + 1) = ((k + 1 : Nat) : Int) := by rw [w_in (by unfold inR; omega)]; omega
    have key := ih (k + 1) (q.step (lkI (u k)) (e k)) (by omega) (by omega)
    have tree := fun lo => r21d q.n q.a q.b q.c q.d q.h k m u e g lo
    simp only [if_pos hkd, if_pos hbb, if_pos hcc, if_pos hcc', ek, ew, w8] at tree
    have ret : ∀ er, facE (u k) (e k) (g k) = some er → (∀ lo, loopK E1 CP lo 2 4035225266123980932 (bodyOf E1 21 2) (SYq q k m u e g) (KC2 16516 12) = some (.l .ret (TXr er))) → endsY (run2 u e g (r + 1) k q) (SYq q k m u e g) := by
      intro er he h
      rw [run2, he]
      exact SL.by2 sCP hX1 ltab2_nil (h _)
    cases hB : lkB (lkI (u k)) with
    | false =>
      refine ret 10 (facE_10 hB) fun lo => (tree lo).trans ?_
      rw [hB]; rfl
    | true =>
      by_cases hF : g k = true ∧ lkF (lkI (u k)) ≠ 1
      · refine ret 10 (by unfold facE; rw [if_neg (by rw [hB]; decide), if_pos hF]) fun lo => (tree lo).trans ?_
        rw [hB, if_neg (by decide), if_pos hF.1, if_pos (by simp [hF.2])]; rfl
      · by_cases hE : e k = 0 ∨ e k < -8 ∨ 8 < e k
        · refine ret 5 (by unfold facE; rw [if_neg (by rw [hB]; decide), if_neg hF, if_pos hE]) fun lo => (tree lo).trans ?_
          rw [hB, if_neg (by decide)]
          have go : ∀ X : Option Ans, (if (e k == (0 : Int)) = true then some (Ans.l Ex.ret (TXr 5)) else if decide (e k ≥ -8) = true then if (!decide (e k ≤ (8 : Int))) = true then some (Ans.l Ex.ret (TXr 5)) else X else some (Ans.l Ex.ret (TXr 5))) = some (Ans.l Ex.ret (TXr 5)) := by
            intro X
            by_cases h0 : e k = 0
            · rw [if_pos (by simp [h0])]
            · rw [if_neg (by simp [h0])]
              by_cases h1 : e k < -8
              · rw [if_neg (by simp; omega)]
              · rw [if_pos (by simp; omega), if_pos (by simp; omega)]
          by_cases hg : g k = true
          · rw [if_pos hg, if_neg (by simp; exact Classical.not_not.1 fun h => hF ⟨hg, h⟩)]
            exact go _
          · rw [if_neg hg]
            exact go _
        · have he : facE (u k) (e k) (g k) = none := by unfold facE; rw [if_neg (by rw [hB]; decide), if_neg hF, if_neg hE]
          have fin : ∀ lo, loopK E1 CP lo 2 4035225266123980932 (bodyOf E1 21 2) (SYq q k m u e g) (KC2 16516 12) = lo 2 4035225266123980932 (bodyOf E1 21 2) (SYq (q.step (lkI (u k)) (e k)) (k + 1) m u e g) (KC2 16516 12) := by
            intro lo
            refine (tree lo).trans ?_
            rw [hB, if_neg (by decide)]
            by_cases hg : g k = true
            · rw [if_pos hg, if_neg (by simp; exact Classical.not_not.1 fun h => hF ⟨hg, h⟩), if_neg (by simp; omega), if_pos (by simp; omega), if_neg (by simp; omega)]
              rfl
            · rw [if_neg hg, if_neg (by simp; omega), if_pos (by simp; omega), if_neg (by simp; omega)]
              rfl
          rw [run2, he]
          show endsY (run2 u e g r (k + 1) (q.step (lkI (u k)) (e k))) _
          revert key
          cases run2 u e g r (k + 1) (q.step (lkI (u k)) (e k)) with
          | inl er =>
            intro key
            refine SL.by2 sCP hX1 (oneF 2 (e := .exit 2) (T := TY 0 0 0 0 0 0) key) ((fin _).trans ?_)
            exact (ltab2_hit (LeSt.refl _)).trans ((cl_neg id).trans (kYr _))
          | inr q' =>
            intro key
            refine SL.by2 sCP hX1 (one 2 (e' := .ret) (T' := TXr 0) key) ((fin _).trans ?_)
            exact (ltab2_hit (LeSt.refl _)).trans ((cl_pos trivial).trans (kY _ _ _ _ _ _))
end Go.Proofs.YtnjpgkaignfcaaaDoor
