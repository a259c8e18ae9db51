/- Parse of the reference (22), form (52); what both compute. -/
import Derived.Test.YtnjpgkaignfcaaaDoorVc
namespace Go.Proofs.YtnjpgkaignfcaaaDoor
open Go Go.Am
set_option linter.unusedSimpArgs false
set_option linter.unusedVariables false
noncomputable def CQ : CallT := ptab 66 QSplR vSplR (ptab 65 QNum vNum (ptab 67 QFac vFacR (tab [])))
theorem sCQ : SoundC E1 CQ := ptab_cons (fun args h => by obtain ⟨s, c, rfl, hs⟩ := h; exact spl66_sc hs) (ptab_cons (fun args h => by obtain ⟨s, rfl, hs⟩ := h; exact num65_sc hs) (ptab_cons (fun args h => by obtain ⟨s, rfl, hs⟩ := h; exact facR_sc hs) tab_nil))
noncomputable def CR (Q : List V → Prop) (F : V) : CallT := ptab 52 Q (fun _ => F) (tab [(15, tLk), (53, fun args L k => callG E1 20 53 args L k), (54, fun args L k => callG E1 20 54 args L k), (29, fun args L k => callG E1 20 29 args L k), (55, tChkR)])
theorem sCR {Q : List V → Prop} {F : V} (h : ∀ args, Q args → SC E1 52 args [] (.ret F [])) : SoundC E1 (CR Q F) := ptab_cons h (tab_cons (okE1 ok15) (tab_cons (sG1 53) (tab_cons (sG1 54) (tab_cons (sG1 29) (tab_cons (okE1 okChkR) tab_nil)))))
def formN (n : Int) (ok : Bool) : V := .tup [i64 n, .sc (.slice none 0 0), bo ok]
def formS (n : Int) (N : Nat) (u : Nat → ByteArray) (e : Nat → Int) (g : Nat → Bool) : V := .tup [i64 n, .ro 3 N (frow u e g), bo true]
def SH (s : ByteArray) (k : Nat) : St := { fr := [st s, .junk, .junk, .junk, .junk, i64 k] ++ jk 63, H := hp [], nx := 0, rt := 0, me := 52 }
def SHn (n : Int) (t : ByteArray) : St := { fr := [.junk, .junk, .junk, .junk, .junk, .junk, i64 n, .junk, parts' 42 t, .sc (.slice none 0 0), i64 0] ++ jk 58, H := hp [], nx := 0, rt := 0, me := 52 }
def SHs (n : Int) (t : ByteArray) (k m : Nat) (u : Nat → ByteArray) (e : Nat → Int) (g : Nat → Bool) : St := { fr := [.junk, .junk, .junk, .junk, .junk, .junk, i64 n, .junk, parts' 42 t, .sl 0 3 0 m, i64 k] ++ jk 58, H := hp [some (.row 73 3 m (frow u e g))], nx := 1, rt := 0, me := 52 }
def THs (n : Int) (m : Nat) (u : Nat → ByteArray) (e : Nat → Int) (g : Nat → Bool) : St := { fr := [.junk, .junk, .junk, .junk, .junk, .junk, i64 n, .junk, .junk, .sl 0 3 0 m] ++ jk 59, H := hp [some (.row 73 3 m (frow u e g))], nx := 1, rt := 0, me := 52 }
def THr : St := { fr := [.junk, .junk, i64 0, .sc (.slice none 0 0), bo false] ++ jk 64, H := hp [], nx := 0, rt := 0, me := 52 }
def SZn (n : Int) : St := { fr := [.junk, .junk, .ptr 0 0, .junk, .junk, .sc (.slice none 0 0), .junk, .ptr 1 0, i64 0] ++ jk 91, H := hp [some (.blk z6), some (.blk [i64 n, i64 0, i64 0, i64 0, i64 0, i64 0])], nx := 2, rt := 0, me := 22 }
def SZs (n a b c d h : Int) (k m : Nat) (u : Nat → ByteArray) (e : Nat → Int) (g : Nat → Bool) : St := { fr := [.junk, .junk, .ptr 0 0, .junk, .junk, .ro 3 m (frow u e g), .junk, .ptr 1 0, i64 k] ++ jk 91, H := hp [some (.blk z6), some (.blk [i64 n, i64 a, i64 b, i64 c, i64 d, i64 h])], nx := 2, rt := 0, me := 22 }
def TZ (n a b c d h : Int) : St := { fr := [.junk, .junk, .ptr 0 0, .junk, .junk, .junk, .junk, .ptr 1 0] ++ jk 92, H := hp [some (.blk z6), some (.blk [i64 n, i64 a, i64 b, i64 c, i64 d, i64 h])], nx := 2, rt := 0, me := 22 }
def TZr (er : Int) : St := { fr := [.junk, .junk, .ptr 0 0, i64 er] ++ jk 96, H := hp [some (.blk z6)], nx := 1, rt := 0, me := 22 }
theorem f21_e (s : ByteArray) : callK E1 CP L0 21 [st s] [] K =
  if decide (((ByteArray.size s : Nat) : Int) > (100 : Int)) = true then
   some (Ans.c (CRes.ret (V.tup [V.agg [i64 0, i64 0, i64 0, i64 0, i64 0, i64 0], i64 2]) []))
  else
   cl (QCut ([V.sc (Value.string s), V.sc (Value.string { data := #[(32 : UInt8)] })]) ∧ ([] : List (Option Chunk)) = []) (
    cl (QNum ([V.sc (Value.string (cA (32 : UInt8) s))]) ∧ ([] : List (Option Chunk)) = []) (
     if (!nB (cA (32 : UInt8) s)) = true then
      some (Ans.c (CRes.ret (V.tup [V.agg [i64 0, i64 0, i64 0, i64 0, i64 0, i64 0], i64 7]) []))
     else
      if cF (32 : UInt8) s = true then
       cl (QSpl ([V.sc (Value.string (cB (32 : UInt8) s)), V.sc (Value.string { data := #[(42 : UInt8)] })]) ∧ ([] : List (Option Chunk)) = []) (
        none) (
        none)
      else
       none) (
     none)) (
    none) := by kernel_rfl

theorem r52 (s : ByteArray) (k : Nat) (lo : LoopT) : loopK E1 CQ lo 0 33 (bodyOf E1 52 0) (SH s k) (KC 33) =
  if decide ((k : Int) < ((ByteArray.size s : Nat) : Int)) = true then
   if (0 : Int) ≤ (k : Int) ∧ (k : Int) < ((ByteArray.size s : Nat) : Int) then
    if (((UInt8.toNat (List.getD (Array.toList (ByteArray.data s)) (Int.toNat (k : Int)) (0 : UInt8)) : Nat) : Int) != (32 : Int)) = true then
     lo 0 33 (bodyOf E1 52 0) ({ fr := [V.sc (Value.string s), V.junk, V.junk, V.junk, V.junk, i64 (w ((k : Int) + (1 : Int)))] ++ jk 63, H := hp [], nx := 0, rt := 0, me := 52 }) (KC 33)
    else
     some (Ans.l (Ex.exit 0) { fr := [V.sc (Value.string s), V.junk, V.junk, V.junk, V.junk, i64 (k : Int)] ++ jk 63, H := hp [], nx := 0, rt := 0, me := 52 })
   else
    none
  else
   some (Ans.l (Ex.exit 0) { fr := [V.sc (Value.string s), V.junk, V.junk, V.junk, V.junk, i64 (k : Int)] ++ jk 63, H := hp [], nx := 0, rt := 0, me := 52 }) := by kernel_rfl
theorem r52a (n : Int) (t : ByteArray) (lo : LoopT) : loopK E1 CQ lo 2 1856 (bodyOf E1 52 2) (SHn n t) (KC2 576 28) =
  if decide ((0 : Int) < ((ptN (42 : UInt8) t : Nat) : Int)) = true then
   if (0 : Int) ≤ (0 : Int) ∧ (0 : Int) < ((ptN (42 : UInt8) t : Nat) : Int) then
    cl (QFac ([V.sc (Value.string (pt (42 : UInt8) t 0))]) ∧ ([] : List (Option Chunk)) = []) (
     if (!gO (pt (42 : UInt8) t 0)) = true then
      some (Ans.l Ex.ret { fr := [V.junk, V.junk, i64 0, V.sc (Value.slice none 0 0), bo false] ++ jk 64, H := hp [], nx := 0, rt := 0, me := 52 })
     else
      lo 2 1856 (bodyOf E1 52 2) ({ fr := [V.junk, V.junk, V.junk, V.junk, V.junk, V.junk, i64 n, V.junk, V.ro 1 (ptN (42 : UInt8) t) fun (j : Nat) => [st (pt (42 : UInt8) t j)], V.sl 0 3 0 1, i64 (w ((0 : Int) + (1 : Int)))] ++ jk 58, H := hp [some (Chunk.row 73 3 1 fun (j : Nat) => List.getD [[V.sc (Value.string (gU (pt (42 : UInt8) t 0))), i64 (gE (pt (42 : UInt8) t 0)), bo ((gG (pt (42 : UInt8) t 0)))]] (0 + j) [])], nx := 1, rt := 0, me := 52 }) (KC2 576 28)) (
     none)
   else
    none
  else
   some (Ans.l (Ex.exit 2) { fr := [V.junk, V.junk, V.junk, V.junk, V.junk, V.junk, i64 n, V.junk, V.junk, V.sc (Value.slice none 0 0)] ++ jk 59, H := hp [], nx := 0, rt := 0, me := 52 }) := by kernel_rfl
theorem r52b (n : Int) (t : ByteArray) (k m : Nat) (u : Nat → ByteArray) (e : Nat → Int) (g : Nat → Bool) (lo : LoopT) : loopK E1 CQ lo 2 1856 (bodyOf E1 52 2) (SHs n t k m u e g) (KC2 576 28) =
  if decide ((k : Int) < ((ptN (42 : UInt8) t : Nat) : Int)) = true then
   if (0 : Int) ≤ (k : Int) ∧ (k : Int) < ((ptN (42 : UInt8) t : Nat) : Int) then
    cl (QFac ([V.sc (Value.string (pt (42 : UInt8) t (Int.toNat (k : Int))))]) ∧ ([] : List (Option Chunk)) = []) (
     if (!gO (pt (42 : UInt8) t (Int.toNat (k : Int)))) = true then
      some (Ans.l Ex.ret { fr := [V.junk, V.junk, i64 0, V.sc (Value.slice none 0 0), bo false] ++ jk 64, H := hp [], nx := 0, rt := 0, me := 52 })
     else
      if (m + 1) * 32 ≤ roomBound ∧ m + 1 ≤ maxLen ∧ m ≤ m then
       lo 2 1856 (bodyOf E1 52 2) ({ fr := [V.junk, V.junk, V.junk, V.junk, V.junk, V.junk, i64 n, V.junk, V.ro 1 (ptN (42 : UInt8) t) fun (j : Nat) => [st (pt (42 : UInt8) t j)], V.sl 0 3 0 (m + 1), i64 (w ((k : Int) + (1 : Int)))] ++ jk 58, H := hp [some (Chunk.row 73 3 (m + 1) (joinF m (frow u e g) fun (j : Nat) => List.getD [[V.sc (Value.string (gU (pt (42 : UInt8) t (Int.toNat (k : Int))))), i64 (gE (pt (42 : UInt8) t (Int.toNat (k : Int)))), bo ((gG (pt (42 : UInt8) t (Int.toNat (k : Int)))))]] (0 + j) []))], nx := 1, rt := 0, me := 52 }) (KC2 576 28)
      else
       none) (
     none)
   else
    none
  else
   some (Ans.l (Ex.exit 2) { fr := [V.junk, V.junk, V.junk, V.junk, V.junk, V.junk, i64 n, V.junk, V.junk, V.sl 0 3 0 m] ++ jk 59, H := hp [some (Chunk.row 73 3 m (frow u e g))], nx := 1, rt := 0, me := 52 }) := by kernel_rfl
theorem f52 (s : ByteArray) (m0 : Nat) (n : Int) (m : Nat) (u : Nat → ByteArray) (e : Nat → Int) (g : Nat → Bool) (S1 S2 : St) (P P2 : Prop) : callK E1 CQ (ltab2 [⟨0, bodyOf E1 52 0, S1, P, .exit 0, SH s m0, .ret, THr⟩, ⟨2, bodyOf E1 52 2, S2, P2, .exit 2, THs n m u e g, .ret, THr⟩]) 52 [st s] [] K =
  cl ((bodyOf E1 52 0) = (bodyOf E1 52 0) ∧ LeSt ({ fr := [V.sc (Value.string s), V.junk, V.junk, V.junk, V.junk, i64 0] ++ jk 63, H := hp [], nx := 0, rt := 0, me := 52 }) (S1)) (
   cl (P) (
    if (0 : Int) ≤ (0 : Int) ∧ (0 : Int) ≤ (m0 : Int) ∧ (m0 : Int) ≤ ((ByteArray.size s : Nat) : Int) then
     cl (QNum ([V.sc (Value.string (ByteArray.extract s 0 (Int.toNat (m0 : Int))))]) ∧ ([] : List (Option Chunk)) = []) (
      if (!nB (ByteArray.extract s 0 (Int.toNat (m0 : Int)))) = true then
       some (Ans.c (CRes.ret (V.tup [i64 (nV (ByteArray.extract s 0 (Int.toNat (m0 : Int)))), V.sc (Value.slice none 0 0), bo ((nB (ByteArray.extract s (Int.toNat (0 : Int)) (Int.toNat (m0 : Int)))))]) []))
      else
       if ((m0 : Int) == ((ByteArray.size s : Nat) : Int)) = true then
        some (Ans.c (CRes.ret (V.tup [i64 (nV (ByteArray.extract s 0 (Int.toNat (m0 : Int)))), V.sc (Value.slice none 0 0), bo ((nB (ByteArray.extract s (Int.toNat (0 : Int)) (Int.toNat (m0 : Int)))))]) []))
       else
        if (0 : Int) ≤ w ((m0 : Int) + (1 : Int)) ∧ w ((m0 : Int) + (1 : Int)) ≤ ((ByteArray.size s : Nat) : Int) ∧ ((ByteArray.size s : Nat) : Int) ≤ ((ByteArray.size s : Nat) : Int) then
         cl (QSplR ([V.sc (Value.string (ByteArray.extract s (Int.toNat (w ((m0 : Int) + (1 : Int)))) (Int.toNat ((ByteArray.size s : Nat) : Int)))), V.sc (Value.int IntKind.u8 (42 : Int))]) ∧ ([] : List (Option Chunk)) = []) (
          cl ((bodyOf E1 52 2) = (bodyOf E1 52 2) ∧ LeSt ({ fr := [V.junk, V.junk, V.junk, V.junk, V.junk, V.junk, i64 (nV (ByteArray.extract s 0 (Int.toNat (m0 : Int)))), V.junk, V.ro 1 (ptN (UInt8.ofNat (42)) (ByteArray.extract s (Int.toNat (w ((m0 : Int) + (1 : Int)))) (Int.toNat ((ByteArray.size s : Nat) : Int)))) fun (j : Nat) => [st (pt (UInt8.ofNat (42)) (ByteArray.extract s (Int.toNat (w ((m0 : Int) + (1 : Int)))) (Int.toNat ((ByteArray.size s : Nat) : Int))) j)], V.sc (Value.slice none 0 0), i64 0] ++ jk 58, H := hp [], nx := 0, rt := 0, me := 52 }) (S2)) (
           cl (P2) (
            some (Ans.c (CRes.ret (V.tup [i64 n, V.sl 0 3 0 m, bo true]) [some (Chunk.row 73 3 m (frow u e g))]))) (
            some (Ans.c (CRes.ret (V.tup [i64 0, V.sc (Value.slice none 0 0), bo false]) [])))) (
           none)) (
          none)
        else
         none) (
      none)
    else
     none) (
    some (Ans.c (CRes.ret (V.tup [i64 0, V.sc (Value.slice none 0 0), bo false]) [])))) (
   none) := by kernel_rfl
theorem r22a (n : Int) (F : V) (Q : List V → Prop) (lo : LoopT) : loopK E1 (CR Q F) lo 0 420 (bodyOf E1 22 0) (SZn n) (KC2 132 12) =
  some (Ans.l (Ex.exit 0) { fr := [V.junk, V.junk, V.ptr 0 0, V.junk, V.junk, V.junk, V.junk, V.ptr 1 0] ++ jk 92, H := hp [some (Chunk.blk [i64 0, i64 0, i64 0, i64 0, i64 0, i64 0]), some (Chunk.blk [i64 n, i64 0, i64 0, i64 0, i64 0, i64 0])], nx := 2, rt := 0, me := 22 }) := by kernel_rfl
theorem r22b (n a b c d h : Int) (k m : Nat) (u : Nat → ByteArray) (e : Nat → Int) (g : Nat → Bool) (F : V) (Q : List V → Prop) (lo : LoopT) : loopK E1 (CR Q F) lo 0 420 (bodyOf E1 22 0) (SZs n a b c d h k m u e g) (KC2 132 12) =
  if decide ((k : Int) < (m : Int)) = true then
   if (0 : Int) ≤ (k : Int) ∧ (k : Int) < (m : Int) then
    if (!lkB (lkI (u (Int.toNat (k : Int))))) = true then
     some (Ans.l Ex.ret { fr := [V.junk, V.junk, V.ptr 0 0, i64 10] ++ jk 96, H := hp [some (Chunk.blk [i64 0, i64 0, i64 0, i64 0, i64 0, i64 0])], nx := 1, rt := 0, me := 22 })
    else
     if (0 : Int) ≤ (k : Int) ∧ (k : Int) < (m : Int) then
      if g (Int.toNat (k : Int)) = true then
       if (lkF (lkI (u (Int.toNat (k : Int)))) != (1 : Int)) = true then
        some (Ans.l Ex.ret { fr := [V.junk, V.junk, V.ptr 0 0, i64 10] ++ jk 96, H := hp [some (Chunk.blk [i64 0, i64 0, i64 0, i64 0, i64 0, i64 0])], nx := 1, rt := 0, me := 22 })
       else
        if (0 : Int) ≤ (k : Int) ∧ (k : Int) < (m : Int) then
         if (e (Int.toNat (k : Int)) == (0 : Int)) = true then
          some (Ans.l Ex.ret { fr := [V.junk, V.junk, V.ptr 0 0, i64 5] ++ jk 96, H := hp [some (Chunk.blk [i64 0, i64 0, i64 0, i64 0, i64 0, i64 0])], nx := 1, rt := 0, me := 22 })
         else
          if (0 : Int) ≤ (k : Int) ∧ (k : Int) < (m : Int) then
           if decide (e (Int.toNat (k : Int)) < (-8 : Int)) = true then
            some (Ans.l Ex.ret { fr := [V.junk, V.junk, V.ptr 0 0, i64 5] ++ jk 96, H := hp [some (Chunk.blk [i64 0, i64 0, i64 0, i64 0, i64 0, i64 0])], nx := 1, rt := 0, me := 22 })
           else
            if (0 : Int) ≤ (k : Int) ∧ (k : Int) < (m : Int) then
             if decide (e (Int.toNat (k : Int)) > (8 : Int)) = true then
              some (Ans.l Ex.ret { fr := [V.junk, V.junk, V.ptr 0 0, i64 5] ++ jk 96, H := hp [some (Chunk.blk [i64 0, i64 0, i64 0, i64 0, i64 0, i64 0])], nx := 1, rt := 0, me := 22 })
             else
              if (0 : Int) ≤ (k : Int) ∧ (k : Int) < (m : Int) then
               lo 0 420 (bodyOf E1 22 0) ({ fr := [V.junk, V.junk, V.ptr 0 0, V.junk, V.junk, V.ro 3 m (frow u e g), V.junk, V.ptr 1 0, i64 (w ((k : Int) + (1 : Int)))] ++ jk 91, H := hp [some (Chunk.blk [i64 0, i64 0, i64 0, i64 0, i64 0, i64 0]), some (Chunk.blk [i64 (if (-2147483648 : Int) > if (2147483648 : Int) < w (n * lkF (lkI (u (Int.toNat (k : Int))))) then (2147483648 : Int) else w (n * lkF (lkI (u (Int.toNat (k : Int))))) then (-2147483648 : Int) else if (2147483648 : Int) < w (n * lkF (lkI (u (Int.toNat (k : Int))))) then (2147483648 : Int) else w (n * lkF (lkI (u (Int.toNat (k : Int)))))), i64 (w (a + w (e (Int.toNat (k : Int)) * lkE (lkI (u (Int.toNat (k : Int))))))), i64 (w (b + w (e (Int.toNat (k : Int)) * lkD (lkI (u (Int.toNat (k : Int))))))), i64 (w (c + w (e (Int.toNat (k : Int)) * lkT (lkI (u (Int.toNat (k : Int))))))), i64 (w (d + w (e (Int.toNat (k : Int)) * lkA (lkI (u (Int.toNat (k : Int))))))), i64 (w (h + w (e (Int.toNat (k : Int)) * lkH (lkI (u (Int.toNat (k : Int)))))))])], nx := 2, rt := 0, me := 22 }) (KC2 132 12)
              else
               none
            else
             none
          else
           none
        else
         none
      else
       if (0 : Int) ≤ (k : Int) ∧ (k : Int) < (m : Int) then
        if (e (Int.toNat (k : Int)) == (0 : Int)) = true then
         some (Ans.l Ex.ret { fr := [V.junk, V.junk, V.ptr 0 0, i64 5] ++ jk 96, H := hp [some (Chunk.blk [i64 0, i64 0, i64 0, i64 0, i64 0, i64 0])], nx := 1, rt := 0, me := 22 })
        else
         if (0 : Int) ≤ (k : Int) ∧ (k : Int) < (m : Int) then
          if decide (e (Int.toNat (k : Int)) < (-8 : Int)) = true then
           some (Ans.l Ex.ret { fr := [V.junk, V.junk, V.ptr 0 0, i64 5] ++ jk 96, H := hp [some (Chunk.blk [i64 0, i64 0, i64 0, i64 0, i64 0, i64 0])], nx := 1, rt := 0, me := 22 })
          else
           if (0 : Int) ≤ (k : Int) ∧ (k : Int) < (m : Int) then
            if decide (e (Int.toNat (k : Int)) > (8 : Int)) = true then
             some (Ans.l Ex.ret { fr := [V.junk, V.junk, V.ptr 0 0, i64 5] ++ jk 96, H := hp [some (Chunk.blk [i64 0, i64 0, i64 0, i64 0, i64 0, i64 0])], nx := 1, rt := 0, me := 22 })
            else
             if (0 : Int) ≤ (k : Int) ∧ (k : Int) < (m : Int) then
              lo 0 420 (bodyOf E1 22 0) ({ fr := [V.junk, V.junk, V.ptr 0 0, V.junk, V.junk, V.ro 3 m (frow u e g), V.junk, V.ptr 1 0, i64 (w ((k : Int) + (1 : Int)))] ++ jk 91, H := hp [some (Chunk.blk [i64 0, i64 0, i64 0, i64 0, i64 0, i64 0]), some (Chunk.blk [i64 (if (-2147483648 : Int) > if (2147483648 : Int) < w (n * lkF (lkI (u (Int.toNat (k : Int))))) then (2147483648 : Int) else w (n * lkF (lkI (u (Int.toNat (k : Int))))) then (-2147483648 : Int) else if (2147483648 : Int) < w (n * lkF (lkI (u (Int.toNat (k : Int))))) then (2147483648 : Int) else w (n * lkF (lkI (u (Int.toNat (k : Int)))))), i64 (w (a + w (e (Int.toNat (k : Int)) * lkE (lkI (u (Int.toNat (k : Int))))))), i64 (w (b + w (e (Int.toNat (k : Int)) * lkD (lkI (u (Int.toNat (k : Int))))))), i64 (w (c + w (e (Int.toNat (k : Int)) * lkT (lkI (u (Int.toNat (k : Int))))))), i64 (w (d + w (e (Int.toNat (k : Int)) * lkA (lkI (u (Int.toNat (k : Int))))))), i64 (w (h + w (e (Int.toNat (k : Int)) * lkH (lkI (u (Int.toNat (k : Int)))))))])], nx := 2, rt := 0, me := 22 }) (KC2 132 12)
             else
              none
           else
            none
         else
          none
       else
        none
     else
      none
   else
    none
  else
   some (Ans.l (Ex.exit 0) { fr := [V.junk, V.junk, V.ptr 0 0, V.junk, V.junk, V.junk, V.junk, V.ptr 1 0] ++ jk 92, H := hp [some (Chunk.blk [i64 0, i64 0, i64 0, i64 0, i64 0, i64 0]), some (Chunk.blk [i64 n, i64 a, i64 b, i64 c, i64 d, i64 h])], nx := 2, rt := 0, me := 22 }) := by kernel_rfl
theorem f22n (n : Int) (ok : Bool) (Q : List V → Prop) (s : ByteArray) (n2 a b c d h er2 : Int) (S1 : St) (P : Prop) : callK E1 (CR Q (formN n ok)) (ltab2 [⟨0, bodyOf E1 22 0, S1, P, .exit 0, TZ n2 a b c d h, .ret, TZr er2⟩]) 22 [st s] [] K =
  if decide (((ByteArray.size s : Nat) : Int) > (100 : Int)) = true then
   some (Ans.c (CRes.ret (V.tup [V.agg [i64 0, i64 0, i64 0, i64 0, i64 0, i64 0], i64 2]) []))
  else
   cl (Q ([V.sc (Value.string s)]) ∧ ([] : List (Option Chunk)) = []) (
    if (!ok) = true then
     some (Ans.c (CRes.ret (V.tup [V.agg [i64 0, i64 0, i64 0, i64 0, i64 0, i64 0], i64 7]) []))
    else
     cl ((bodyOf E1 22 0) = (bodyOf E1 22 0) ∧ LeSt ({ fr := [V.junk, V.junk, V.ptr 0 0, V.junk, V.junk, V.sc (Value.slice none 0 0), V.junk, V.ptr 1 0, i64 0] ++ jk 91, H := hp [some (Chunk.blk [i64 0, i64 0, i64 0, i64 0, i64 0, i64 0]), some (Chunk.blk [i64 n, i64 0, i64 0, i64 0, i64 0, i64 0])], nx := 2, rt := 0, me := 22 }) (S1)) (
      cl (P) (
       some (Ans.c (CRes.ret (V.tup [V.agg [i64 (pk (valid6 n2 a b c d h) n2), i64 (pk (valid6 n2 a b c d h) a), i64 (pk (valid6 n2 a b c d h) b), i64 (pk (valid6 n2 a b c d h) c), i64 (pk (valid6 n2 a b c d h) d), i64 (pk (valid6 n2 a b c d h) h)], i64 (er (valid6 n2 a b c d h) (5 : Int))]) []))) (
       some (Ans.c (CRes.ret (V.tup [V.agg [i64 0, i64 0, i64 0, i64 0, i64 0, i64 0], i64 er2]) [])))) (
      none)) (
    none) := by kernel_rfl
theorem f22s (n : Int) (m : Nat) (u : Nat → ByteArray) (e : Nat → Int) (g : Nat → Bool) (Q : List V → Prop) (s : ByteArray) (n2 a b c d h er2 : Int) (S1 : St) (P : Prop) : callK E1 (CR Q (formS n m u e g)) (ltab2 [⟨0, bodyOf E1 22 0, S1, P, .exit 0, TZ n2 a b c d h, .ret, TZr er2⟩]) 22 [st s] [] K =
  if decide (((ByteArray.size s : Nat) : Int) > (100 : Int)) = true then
   some (Ans.c (CRes.ret (V.tup [V.agg [i64 0, i64 0, i64 0, i64 0, i64 0, i64 0], i64 2]) []))
  else
   cl (Q ([V.sc (Value.string s)]) ∧ ([] : List (Option Chunk)) = []) (
    cl ((bodyOf E1 22 0) = (bodyOf E1 22 0) ∧ LeSt ({ fr := [V.junk, V.junk, V.ptr 0 0, V.junk, V.junk, V.ro 3 m (frow u e g), V.junk, V.ptr 1 0, i64 0] ++ jk 91, H := hp [some (Chunk.blk [i64 0, i64 0, i64 0, i64 0, i64 0, i64 0]), some (Chunk.blk [i64 n, i64 0, i64 0, i64 0, i64 0, i64 0])], nx := 2, rt := 0, me := 22 }) (S1)) (
     cl (P) (
      some (Ans.c (CRes.ret (V.tup [V.agg [i64 (pk (valid6 n2 a b c d h) n2), i64 (pk (valid6 n2 a b c d h) a), i64 (pk (valid6 n2 a b c d h) b), i64 (pk (valid6 n2 a b c d h) c), i64 (pk (valid6 n2 a b c d h) d), i64 (pk (valid6 n2 a b c d h) h)], i64 (er (valid6 n2 a b c d h) (5 : Int))]) []))) (
      some (Ans.c (CRes.ret (V.tup [V.agg [i64 0, i64 0, i64 0, i64 0, i64 0, i64 0], i64 er2]) [])))) (
     none)) (
    none) := by kernel_rfl
theorem f22_e (s : ByteArray) (n : Int) (ok : Bool) (Q : List V → Prop) : callK E1 (CR Q (formN n ok)) L0 22 [st s] [] K =
  if decide (((ByteArray.size s : Nat) : Int) > (100 : Int)) = true then
   some (Ans.c (CRes.ret (V.tup [V.agg [i64 0, i64 0, i64 0, i64 0, i64 0, i64 0], i64 2]) []))
  else
   cl (Q ([V.sc (Value.string s)]) ∧ ([] : List (Option Chunk)) = []) (
    if (!ok) = true then
     some (Ans.c (CRes.ret (V.tup [V.agg [i64 0, i64 0, i64 0, i64 0, i64 0, i64 0], i64 7]) []))
    else
     none) (
    none) := by kernel_rfl
theorem f52_e (s : ByteArray) (m0 : Nat) (S1 : St) (P : Prop) : callK E1 CQ (ltab2 [⟨0, bodyOf E1 52 0, S1, P, .exit 0, SH s m0, .ret, THr⟩]) 52 [st s] [] K =
  cl ((bodyOf E1 52 0) = (bodyOf E1 52 0) ∧ LeSt ({ fr := [V.sc (Value.string s), V.junk, V.junk, V.junk, V.junk, i64 0] ++ jk 63, H := hp [], nx := 0, rt := 0, me := 52 }) (S1)) (
   cl (P) (
    if (0 : Int) ≤ (0 : Int) ∧ (0 : Int) ≤ (m0 : Int) ∧ (m0 : Int) ≤ ((ByteArray.size s : Nat) : Int) then
     cl (QNum ([V.sc (Value.string (ByteArray.extract s 0 (Int.toNat (m0 : Int))))]) ∧ ([] : List (Option Chunk)) = []) (
      if (!nB (ByteArray.extract s 0 (Int.toNat (m0 : Int)))) = true then
       some (Ans.c (CRes.ret (V.tup [i64 (nV (ByteArray.extract s 0 (Int.toNat (m0 : Int)))), V.sc (Value.slice none 0 0), bo ((nB (ByteArray.extract s (Int.toNat (0 : Int)) (Int.toNat (m0 : Int)))))]) []))
      else
       if ((m0 : Int) == ((ByteArray.size s : Nat) : Int)) = true then
        some (Ans.c (CRes.ret (V.tup [i64 (nV (ByteArray.extract s 0 (Int.toNat (m0 : Int)))), V.sc (Value.slice none 0 0), bo ((nB (ByteArray.extract s (Int.toNat (0 : Int)) (Int.toNat (m0 : Int)))))]) []))
       else
        if (0 : Int) ≤ w ((m0 : Int) + (1 : Int)) ∧ w ((m0 : Int) + (1 : Int)) ≤ ((ByteArray.size s : Nat) : Int) ∧ ((ByteArray.size s : Nat) : Int) ≤ ((ByteArray.size s : Nat) : Int) then
         cl (QSplR ([V.sc (Value.string (ByteArray.extract s (Int.toNat (w ((m0 : Int) + (1 : Int)))) (Int.toNat ((ByteArray.size s : Nat) : Int)))), V.sc (Value.int IntKind.u8 (42 : Int))]) ∧ ([] : List (Option Chunk)) = []) (
          none) (
          none)
        else
         none) (
      none)
    else
     none) (
    some (Ans.c (CRes.ret (V.tup [i64 0, V.sc (Value.slice none 0 0), bo false]) [])))) (
   none) := by kernel_rfl

/-! ### What Parse computes -/
def errV (r : Int) : V := .tup [q6 0 0 0 0 0 0, i64 r]
def accV (q : Acc) : V := rQ (valid6 q.n q.a q.b q.c q.d q.h) 5 q.n q.a q.b q.c q.d q.h
def endV : Int ⊕ Acc → V
  | .inl r => errV r
  | .inr q => accV q
open Classical in
noncomputable def pV (s : ByteArray) : V :=
  if 100 < s.size then errV 2
  else if nB (cA 32 s) = false then errV 7
  else if cF 32 s = true then
    (if allF fO (cB 32 s) 0 then endV (run2 (uP (cB 32 s)) (eP (cB 32 s)) (gP (cB 32 s)) (ptN 42 (cB 32 s)) 0 ⟨nV (cA 32 s), 0, 0, 0, 0, 0⟩) else errV 7)
  else accV ⟨nV (cA 32 s), 0, 0, 0, 0, 0⟩
theorem SL.y {n : Int} : SL E1 (bodyOf E1 21 2) (SYn n) (.exit 2) (TY n 0 0 0 0 0) := SL.by2 (m := 16516) (r := 12) sCP hX1 ltab2_nil (r21c n _)
/-- Two loops, of which each ends in one way. -/
theorem two {x y : LFact2} (h1 : (x.P → SL E1 x.c x.s x.e1 x.t1) ∧ (¬ x.P → SL E1 x.c x.s x.e2 x.t2)) (h2 : (y.P → SL E1 y.c y.s y.e1 y.t1) ∧ (¬ y.P → SL E1 y.c y.s y.e2 y.t2)) : SoundL E1 (ltab2 [x, y]) := ltab2_cons h1 (ltab2_cons h2 ltab2_nil)
set_option maxRecDepth 100000 in
theorem parse21 (s : ByteArray) : SC E1 21 [st s] [] (.ret (pV s) []) := by
  by_cases h100 : 100 < s.size
  · refine SC.of hW1 hX1 sCP (soundL_none E1) ((f21_e s).trans ?_)
    rw [if_pos (by simp; omega)]
    unfold pV
    rw [if_pos h100]; rfl
  have zA := cA_size 32 s
  have zB := cB_size 32 s
  have hN := ptN_le 42 (cB 32 s)
  have l1 := loop21a (nV (cA 32 s)) (cB 32 s) (by omega)
  have l2 := loop21d (uP (cB 32 s)) (eP (cB 32 s)) (gP (cB 32 s)) (ptN 42 (cB 32 s)) (by omega) _ 0 ⟨nV (cA 32 s), 0, 0, 0, 0, 0⟩ rfl (by omega)
  rw [Nat.sub_zero] at l2
  have q0 : QCut [V.sc (Value.string s), V.sc (Value.string { data := #[(32 : UInt8)] })] ∧ ([] : List (Option Chunk)) = [] := ⟨⟨s, 32, rfl, by omega⟩, rfl⟩
  have q1 : QNum [V.sc (Value.string (cA 32 s))] ∧ ([] : List (Option Chunk)) = [] := ⟨⟨_, rfl, by omega⟩, rfl⟩
  have q2 : QSpl [V.sc (Value.string (cB 32 s)), V.sc (Value.string { data := #[(42 : UInt8)] })] ∧ ([] : List (Option Chunk)) = [] := ⟨⟨_, 42, rfl, by omega⟩, rfl⟩
  have h1 : ¬ decide (((s.size : Nat) : Int) > 100) = true := by simp; omega
  unfold pV
  rw [if_neg h100]
  cases hn : nB (cA 32 s) with
  | false =>
    refine SC.of hW1 hX1 sCP (soundL_none E1) ((f21_e s).trans ?_)
    rw [if_neg h1, cl_pos q0, cl_pos q1, hn]; rfl
  | true =>
    rw [if_neg (by decide)]
    cases hF : cF 32 s with
    | false =>
      rw [if_neg (by decide)]
      refine SC.of hW1 hX1 sCP (two (x := ⟨0, bodyOf E1 21 0, SXn (nV (cA 32 s)) (cB 32 s), allF fO (cB 32 s) 0, .exit 0, TXs (nV (cA 32 s)) (ptN 42 (cB 32 s)) (uP (cB 32 s)) (eP (cB 32 s)) (gP (cB 32 s)), .ret, TXr 7⟩) (y := ⟨2, bodyOf E1 21 2, SYn (nV (cA 32 s)), True, .exit 2, TY (nV (cA 32 s)) 0 0 0 0 0, .ret, TXr 0⟩) l1 ⟨fun _ => SL.y, fun h => absurd trivial h⟩) ((f21 s _ _ _ _ _ _ _ _ _ _ _ _ _ _ _ _ _).trans ?_)
      rw [if_neg h1, cl_pos q0, cl_pos q1, hn, hF, if_neg (by decide), if_neg (by decide), cl_pos ⟨rfl, LeSt.refl _⟩, cl_pos trivial]
      rfl
    | true =>
      rw [if_pos rfl]
      revert l2
      cases hr : run2 (uP (cB 32 s)) (eP (cB 32 s)) (gP (cB 32 s)) (ptN 42 (cB 32 s)) 0 ⟨nV (cA 32 s), 0, 0, 0, 0, 0⟩ with
      | inl r =>
        intro l2
        refine SC.of hW1 hX1 sCP (two (x := ⟨0, bodyOf E1 21 0, SXn (nV (cA 32 s)) (cB 32 s), allF fO (cB 32 s) 0, .exit 0, TXs (nV (cA 32 s)) (ptN 42 (cB 32 s)) (uP (cB 32 s)) (eP (cB 32 s)) (gP (cB 32 s)), .ret, TXr 7⟩) (y := ⟨2, bodyOf E1 21 2, SYs (nV (cA 32 s)) 0 0 0 0 0 0 (ptN 42 (cB 32 s)) (uP (cB 32 s)) (eP (cB 32 s)) (gP (cB 32 s)), False, .exit 2, TY 0 0 0 0 0 0, .ret, TXr r⟩) l1 ⟨fun h => False.elim h, fun _ => l2⟩) ((f21 s _ _ _ _ _ _ _ _ _ _ _ _ _ _ _ _ _).trans ?_)
        rw [if_neg h1, cl_pos q0, cl_pos q1, hn, hF, if_neg (by decide), if_pos rfl, cl_pos q2, cl_pos ⟨rfl, LeSt.refl _⟩]
        by_cases hA : allF fO (cB 32 s) 0
        · rw [cl_pos hA, cl_pos ⟨rfl, LeSt.refl _⟩, cl_neg (fun h => h), if_pos hA]; rfl
        · rw [cl_neg hA, if_neg hA]; rfl
      | inr q =>
        intro l2
        refine SC.of hW1 hX1 sCP (two (x := ⟨0, bodyOf E1 21 0, SXn (nV (cA 32 s)) (cB 32 s), allF fO (cB 32 s) 0, .exit 0, TXs (nV (cA 32 s)) (ptN 42 (cB 32 s)) (uP (cB 32 s)) (eP (cB 32 s)) (gP (cB 32 s)), .ret, TXr 7⟩) (y := ⟨2, bodyOf E1 21 2, SYs (nV (cA 32 s)) 0 0 0 0 0 0 (ptN 42 (cB 32 s)) (uP (cB 32 s)) (eP (cB 32 s)) (gP (cB 32 s)), True, .exit 2, TY q.n q.a q.b q.c q.d q.h, .ret, TXr 0⟩) l1 ⟨fun _ => l2, fun h => absurd trivial h⟩) ((f21 s _ _ _ _ _ _ _ _ _ _ _ _ _ _ _ _ _).trans ?_)
        rw [if_neg h1, cl_pos q0, cl_pos q1, hn, hF, if_neg (by decide), if_pos rfl, cl_pos q2, cl_pos ⟨rfl, LeSt.refl _⟩]
        by_cases hA : allF fO (cB 32 s) 0
        · rw [cl_pos hA, cl_pos ⟨rfl, LeSt.refl _⟩, cl_pos trivial, if_pos hA]; rfl
        · rw [cl_neg hA, if_neg hA]; rfl
end Go.Proofs.YtnjpgkaignfcaaaDoor
