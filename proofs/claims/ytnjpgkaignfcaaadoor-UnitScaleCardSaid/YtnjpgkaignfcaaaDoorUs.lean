/- Letters, factors, parts: walked. -/
import Derived.Test.YtnjpgkaignfcaaaDoorUr
namespace Go.Proofs.YtnjpgkaignfcaaaDoor
open Go Go.Am
set_option linter.unusedSimpArgs false
set_option linter.unusedVariables false
def SF (p : ByteArray) (k : Nat) : St := { fr := [st p, .junk, .junk, i64 k] ++ jk 30, H := hp [], nx := 0, rt := 0, me := 76 }
def TF (p : ByteArray) : St := { fr := [st p] ++ jk 33, H := hp [], nx := 0, rt := 0, me := 76 }
def TFr : St := { fr := [.junk, .junk, bo false] ++ jk 31, H := hp [], nx := 0, rt := 0, me := 76 }
def zf : List V := [st ⟨#[]⟩, i64 0, bo false]
def SG (a b : ByteArray) (g : Bool) (k : Nat) : St := { fr := [.junk, .junk, .ptr 0 0, .junk, st a, st b, bo g] ++ jk 11 ++ [i64 a.size, i64 k] ++ jk 33, H := hp [some (.blk zf)], nx := 1, rt := 0, me := 48 }
def TG (a b : ByteArray) (g : Bool) : St := { fr := [.junk, .junk, .ptr 0 0, .junk, st a, st b, bo g] ++ jk 46, H := hp [some (.blk zf)], nx := 1, rt := 0, me := 48 }
def TGr : St := { fr := [.junk, .junk, .ptr 0 0, bo false] ++ jk 49, H := hp [some (.blk zf)], nx := 1, rt := 0, me := 48 }
def SPn (s : ByteArray) (c : UInt8) (k : Nat) : St := { fr := [st s, .sc (.int .u8 (UInt8.toNat c : Nat)), .junk, .junk, .junk, .sc (.slice none 0 0), i64 0, i64 k] ++ jk 26, H := hp [], nx := 0, rt := 0, me := 66 }
def SPs (s : ByteArray) (c : UInt8) (b k n : Nat) (u : Nat → ByteArray) : St := { fr := [st s, .sc (.int .u8 (UInt8.toNat c : Nat)), .junk, .junk, .junk, .sl 0 1 0 n, i64 b, i64 k] ++ jk 26, H := hp [some (.row 9 1 n (fun j => [st (u j)]))], nx := 1, rt := 0, me := 66 }
def TPn (s : ByteArray) : St := { fr := [st s, .junk, .junk, .junk, .junk, .sc (.slice none 0 0), i64 0] ++ jk 27, H := hp [], nx := 0, rt := 0, me := 66 }
def TPs (s : ByteArray) (b n : Nat) (u : Nat → ByteArray) : St := { fr := [st s, .junk, .junk, .junk, .junk, .sl 0 1 0 n, i64 b] ++ jk 27, H := hp [some (.row 9 1 n (fun j => [st (u j)]))], nx := 1, rt := 0, me := 66 }
/-- How many parts. -/
def ptN (c : UInt8) (s : ByteArray) : Nat := (pts c s).length
/-- One letter or more. -/
def isL (c : UInt8) : Bool := (decide (65 ≤ c.toNat) && decide (c.toNat ≤ 90)) || (decide (97 ≤ c.toNat) && decide (c.toNat ≤ 122))
def lB (s : ByteArray) : Bool := s.data.toList.all isL && !(ByteArray.toList s == ByteArray.toList ⟨#[]⟩)
def vCut : List V → V
  | [.sc (.string s), .sc (.string ⟨⟨[c]⟩⟩)] => .tup [st (cA c s), st (cB c s), bo (cF c s)]
  | _ => .junk
def vSpl : List V → V
  | [.sc (.string s), .sc (.string ⟨⟨[c]⟩⟩)] => .ro 1 (ptN c s) (fun j => [st (pt c s j)])
  | _ => .junk
def vSplR : List V → V
  | [.sc (.string s), .sc (.int .u8 (.ofNat n))] => .ro 1 (ptN (UInt8.ofNat n) s) (fun j => [st (pt (UInt8.ofNat n) s j)])
  | _ => .junk
def vNum : List V → V
  | [.sc (.string s)] => .tup [i64 (nV s), bo (nB s)]
  | _ => .junk
def vLet : List V → V
  | [.sc (.string s)] => bo (lB s)
  | _ => .junk
def QCut (args : List V) : Prop := ∃ s c, args = [st s, st ⟨⟨[c]⟩⟩] ∧ s.size ≤ 1000
def QNum (args : List V) : Prop := ∃ s, args = [st s] ∧ s.size ≤ 1000
def QLet (args : List V) : Prop := ∃ s, args = [st s] ∧ s.size ≤ 1000
def QSplR (args : List V) : Prop := ∃ s c, args = [st s, .sc (.int .u8 ((UInt8.toNat c : Nat) : Int))] ∧ s.size ≤ 1000
noncomputable def CG : CallT := ptab 45 QCut vCut (ptab 46 QNum vNum (tab []))
noncomputable def CH : CallT := ptab 66 QSplR vSplR (ptab 65 QNum vNum (ptab 76 QLet vLet (tab [])))
theorem f76 (s p : ByteArray) (S1 : St) (P : Prop) : callK E1 T0 (ltab2 [⟨0, bodyOf E1 76 0, S1, P, .exit 0, TF p, .ret, TFr⟩]) 76 [st s] [] K =
  cl ((bodyOf E1 76 0) = (bodyOf E1 76 0) ∧ LeSt ({ fr := [V.sc (Value.string s), V.junk, V.junk, i64 0] ++ jk 30, H := hp [], nx := 0, rt := 0, me := 76 }) (S1)) (
   cl (P) (
    some (Ans.c (CRes.ret (bo (!ByteArray.toList p == ByteArray.toList { data := #[] })) []))) (
    some (Ans.c (CRes.ret (bo false) [])))) (
   none) := by kernel_rfl
theorem r76 (p : ByteArray) (k : Nat) (lo : LoopT) : loopK E1 T0 lo 0 9 (bodyOf E1 76 0) (SF p k) (KC2 1 4) =
  if decide ((k : Int) < ((ByteArray.size p : Nat) : Int)) = true then
   if (0 : Int) ≤ (k : Int) ∧ (k : Int) < ((ByteArray.size p : Nat) : Int) then
    if decide (((UInt8.toNat (List.getD (Array.toList (ByteArray.data p)) (Int.toNat (k : Int)) (0 : UInt8)) : Nat) : Int) < (97 : Int)) = true then
     if (0 : Int) ≤ (k : Int) ∧ (k : Int) < ((ByteArray.size p : Nat) : Int) then
      if decide (((UInt8.toNat (List.getD (Array.toList (ByteArray.data p)) (Int.toNat (k : Int)) (0 : UInt8)) : Nat) : Int) < (65 : Int)) = true then
       some (Ans.l Ex.ret { fr := [V.junk, V.junk, bo false] ++ jk 31, H := hp [], nx := 0, rt := 0, me := 76 })
      else
       if (0 : Int) ≤ (k : Int) ∧ (k : Int) < ((ByteArray.size p : Nat) : Int) then
        if decide (((UInt8.toNat (List.getD (Array.toList (ByteArray.data p)) (Int.toNat (k : Int)) (0 : UInt8)) : Nat) : Int) > (90 : Int)) = true then
         some (Ans.l Ex.ret { fr := [V.junk, V.junk, bo false] ++ jk 31, H := hp [], nx := 0, rt := 0, me := 76 })
        else
         lo 0 9 (bodyOf E1 76 0) ({ fr := [V.sc (Value.string p), V.junk, V.junk, i64 (w ((k : Int) + (1 : Int)))] ++ jk 30, H := hp [], nx := 0, rt := 0, me := 76 }) (KC2 1 4)
       else
        none
     else
      none
    else
     if (0 : Int) ≤ (k : Int) ∧ (k : Int) < ((ByteArray.size p : Nat) : Int) then
      if decide (((UInt8.toNat (List.getD (Array.toList (ByteArray.data p)) (Int.toNat (k : Int)) (0 : UInt8)) : Nat) : Int) > (122 : Int)) = true then
       if (0 : Int) ≤ (k : Int) ∧ (k : Int) < ((ByteArray.size p : Nat) : Int) then
        if decide (((UInt8.toNat (List.getD (Array.toList (ByteArray.data p)) (Int.toNat (k : Int)) (0 : UInt8)) : Nat) : Int) < (65 : Int)) = true then
         some (Ans.l Ex.ret { fr := [V.junk, V.junk, bo false] ++ jk 31, H := hp [], nx := 0, rt := 0, me := 76 })
        else
         if (0 : Int) ≤ (k : Int) ∧ (k : Int) < ((ByteArray.size p : Nat) : Int) then
          if decide (((UInt8.toNat (List.getD (Array.toList (ByteArray.data p)) (Int.toNat (k : Int)) (0 : UInt8)) : Nat) : Int) > (90 : Int)) = true then
           some (Ans.l Ex.ret { fr := [V.junk, V.junk, bo false] ++ jk 31, H := hp [], nx := 0, rt := 0, me := 76 })
          else
           lo 0 9 (bodyOf E1 76 0) ({ fr := [V.sc (Value.string p), V.junk, V.junk, i64 (w ((k : Int) + (1 : Int)))] ++ jk 30, H := hp [], nx := 0, rt := 0, me := 76 }) (KC2 1 4)
         else
          none
       else
        none
      else
       lo 0 9 (bodyOf E1 76 0) ({ fr := [V.sc (Value.string p), V.junk, V.junk, i64 (w ((k : Int) + (1 : Int)))] ++ jk 30, H := hp [], nx := 0, rt := 0, me := 76 }) (KC2 1 4)
     else
      none
   else
    none
  else
   some (Ans.l (Ex.exit 0) { fr := [V.sc (Value.string p)] ++ jk 33, H := hp [], nx := 0, rt := 0, me := 76 }) := by kernel_rfl
theorem f48 (s a b : ByteArray) (g : Bool) (S1 : St) (P : Prop) : callK E1 CG (ltab2 [⟨0, bodyOf E1 48 0, S1, P, .exit 0, TG a b g, .ret, TGr⟩]) 48 [st s] [] K =
  cl (QCut ([V.sc (Value.string s), V.sc (Value.string { data := #[(94 : UInt8)] })]) ∧ ([] : List (Option Chunk)) = []) (
   cl ((bodyOf E1 48 0) = (bodyOf E1 48 0) ∧ LeSt ({ fr := [V.junk, V.junk, V.ptr 0 0, V.junk, V.sc (Value.string (cA (94 : UInt8) s)), V.sc (Value.string (cB (94 : UInt8) s)), bo ((cF (94 : UInt8) s)), V.junk, V.junk, V.junk, V.junk, V.junk, V.junk, V.junk, V.junk, V.junk, V.junk, V.junk, i64 ((ByteArray.size (cA (94 : UInt8) s) : Nat) : Int), i64 0] ++ jk 33, H := hp [some (Chunk.blk [V.sc (Value.string { data := #[] }), i64 0, bo false])], nx := 1, rt := 0, me := 48 }) (S1)) (
    cl (P) (
     if (!g) = true then
      some (Ans.c (CRes.ret (V.tup [V.agg [V.sc (Value.string a), i64 1, bo false], bo (!ByteArray.toList a == ByteArray.toList { data := #[] })]) []))
     else
      cl (QNum ([V.sc (Value.string b)]) ∧ ([] : List (Option Chunk)) = []) (
       if nB b = true then
        some (Ans.c (CRes.ret (V.tup [V.agg [V.sc (Value.string a), i64 (nV b), bo true], bo (!ByteArray.toList a == ByteArray.toList { data := #[] })]) []))
       else
        some (Ans.c (CRes.ret (V.tup [V.agg [V.sc (Value.string a), i64 (nV b), bo true], bo false]) []))) (
       none)) (
     some (Ans.c (CRes.ret (V.tup [V.agg [V.sc (Value.string { data := #[] }), i64 0, bo false], bo false]) [])))) (
    none)) (
   none) := by kernel_rfl
theorem r48 (a b : ByteArray) (g : Bool) (k : Nat) (lo : LoopT) : loopK E1 T0 lo 0 786548 (bodyOf E1 48 0) (SG a b g k) (KC2 116 12) =
  if decide ((k : Int) < ((ByteArray.size a : Nat) : Int)) = true then
   if (0 : Int) ≤ (k : Int) ∧ (k : Int) < ((ByteArray.size a : Nat) : Int) then
    if decide (orI IntKind.u8 ((UInt8.toNat (List.getD (Array.toList (ByteArray.data a)) (Int.toNat (k : Int)) (0 : UInt8)) : Nat) : Int) (32 : Int) < (97 : Int)) = true then
     some (Ans.l Ex.ret { fr := [V.junk, V.junk, V.ptr 0 0, bo false] ++ jk 49, H := hp [some (Chunk.blk [V.sc (Value.string { data := #[] }), i64 0, bo false])], nx := 1, rt := 0, me := 48 })
    else
     if decide (orI IntKind.u8 ((UInt8.toNat (List.getD (Array.toList (ByteArray.data a)) (Int.toNat (k : Int)) (0 : UInt8)) : Nat) : Int) (32 : Int) > (122 : Int)) = true then
      some (Ans.l Ex.ret { fr := [V.junk, V.junk, V.ptr 0 0, bo false] ++ jk 49, H := hp [some (Chunk.blk [V.sc (Value.string { data := #[] }), i64 0, bo false])], nx := 1, rt := 0, me := 48 })
     else
      lo 0 786548 (bodyOf E1 48 0) ({ fr := [V.junk, V.junk, V.ptr 0 0, V.junk, V.sc (Value.string a), V.sc (Value.string b), bo (g), V.junk, V.junk, V.junk, V.junk, V.junk, V.junk, V.junk, V.junk, V.junk, V.junk, V.junk, i64 ((ByteArray.size a : Nat) : Int), i64 (w ((k : Int) + (1 : Int)))] ++ jk 33, H := hp [some (Chunk.blk [V.sc (Value.string { data := #[] }), i64 0, bo false])], nx := 1, rt := 0, me := 48 }) (KC2 116 12)
   else
    none
  else
   some (Ans.l (Ex.exit 0) { fr := [V.junk, V.junk, V.ptr 0 0, V.junk, V.sc (Value.string a), V.sc (Value.string b), bo (g)] ++ jk 46, H := hp [some (Chunk.blk [V.sc (Value.string { data := #[] }), i64 0, bo false])], nx := 1, rt := 0, me := 48 }) := by kernel_rfl
theorem r66 (s : ByteArray) (c : UInt8) (k : Nat) (lo : LoopT) : loopK E1 T0 lo 0 227 (bodyOf E1 66 0) (SPn s c k) (KC 97) =
  if decide ((k : Int) < ((ByteArray.size s : Nat) : Int)) = true then
   if (0 : Int) ≤ (k : Int) ∧ (k : Int) < ((ByteArray.size s : Nat) : Int) then
    if (((UInt8.toNat (List.getD (Array.toList (ByteArray.data s)) (Int.toNat (k : Int)) (0 : UInt8)) : Nat) : Int) == ((UInt8.toNat c : Nat) : Int)) = true then
     if (0 : Int) ≤ (0 : Int) ∧ (0 : Int) ≤ (k : Int) ∧ (k : Int) ≤ ((ByteArray.size s : Nat) : Int) then
      lo 0 227 (bodyOf E1 66 0) ({ fr := [V.sc (Value.string s), V.sc (Value.int IntKind.u8 ((UInt8.toNat c : Nat) : Int)), V.junk, V.junk, V.junk, V.sl 0 1 0 1, i64 (w ((k : Int) + (1 : Int))), i64 (w ((k : Int) + (1 : Int)))] ++ jk 26, H := hp [some (Chunk.row 9 1 1 fun (j : Nat) => List.getD [[V.sc (Value.string (ByteArray.extract s 0 (Int.toNat (k : Int))))]] (0 + j) [])], nx := 1, rt := 0, me := 66 }) (KC 97)
     else
      none
    else
     lo 0 227 (bodyOf E1 66 0) ({ fr := [V.sc (Value.string s), V.sc (Value.int IntKind.u8 ((UInt8.toNat c : Nat) : Int)), V.junk, V.junk, V.junk, V.sc (Value.slice none 0 0), i64 0, i64 (w ((k : Int) + (1 : Int)))] ++ jk 26, H := hp [], nx := 0, rt := 0, me := 66 }) (KC 97)
   else
    none
  else
   some (Ans.l (Ex.exit 0) { fr := [V.sc (Value.string s), V.junk, V.junk, V.junk, V.junk, V.sc (Value.slice none 0 0), i64 0] ++ jk 27, H := hp [], nx := 0, rt := 0, me := 66 }) := by kernel_rfl
theorem r66s (s : ByteArray) (c : UInt8) (b k n : Nat) (u : Nat → ByteArray) (lo : LoopT) : loopK E1 T0 lo 0 227 (bodyOf E1 66 0) (SPs s c b k n u) (KC 97) =
  if decide ((k : Int) < ((ByteArray.size s : Nat) : Int)) = true then
   if (0 : Int) ≤ (k : Int) ∧ (k : Int) < ((ByteArray.size s : Nat) : Int) then
    if (((UInt8.toNat (List.getD (Array.toList (ByteArray.data s)) (Int.toNat (k : Int)) (0 : UInt8)) : Nat) : Int) == ((UInt8.toNat c : Nat) : Int)) = true then
     if (0 : Int) ≤ (b : Int) ∧ (b : Int) ≤ (k : Int) ∧ (k : Int) ≤ ((ByteArray.size s : Nat) : Int) then
      if (n + 1) * 16 ≤ roomBound ∧ n + 1 ≤ maxLen ∧ n ≤ n then
       lo 0 227 (bodyOf E1 66 0) ({ fr := [V.sc (Value.string s), V.sc (Value.int IntKind.u8 ((UInt8.toNat c : Nat) : Int)), V.junk, V.junk, V.junk, V.sl 0 1 0 (n + 1), i64 (w ((k : Int) + (1 : Int))), i64 (w ((k : Int) + (1 : Int)))] ++ jk 26, H := hp [some (Chunk.row 9 1 (n + 1) (joinF n (fun (j : Nat) => [st (u j)]) fun (j : Nat) => List.getD [[V.sc (Value.string (ByteArray.extract s (Int.toNat (b : Int)) (Int.toNat (k : Int))))]] (0 + j) []))], nx := 1, rt := 0, me := 66 }) (KC 97)
      else
       none
     else
      none
    else
     lo 0 227 (bodyOf E1 66 0) ({ fr := [V.sc (Value.string s), V.sc (Value.int IntKind.u8 ((UInt8.toNat c : Nat) : Int)), V.junk, V.junk, V.junk, V.sl 0 1 0 n, i64 (b : Int), i64 (w ((k : Int) + (1 : Int)))] ++ jk 26, H := hp [some (Chunk.row 9 1 n fun (j : Nat) => [st (u j)])], nx := 1, rt := 0, me := 66 }) (KC 97)
   else
    none
  else
   some (Ans.l (Ex.exit 0) { fr := [V.sc (Value.string s), V.junk, V.junk, V.junk, V.junk, V.sl 0 1 0 n, i64 (b : Int)] ++ jk 27, H := hp [some (Chunk.row 9 1 n fun (j : Nat) => [st (u j)])], nx := 1, rt := 0, me := 66 }) := by kernel_rfl
theorem f66n (s : ByteArray) (c : UInt8) (S1 : St) : callK E1 T0 (ltab2 [⟨0, bodyOf E1 66 0, S1, True, .exit 0, TPn s, .ret, TPn s⟩]) 66 [st s, .sc (.int .u8 (UInt8.toNat c : Nat))] [] K =
  cl ((bodyOf E1 66 0) = (bodyOf E1 66 0) ∧ LeSt ({ fr := [V.sc (Value.string s), V.sc (Value.int IntKind.u8 ((UInt8.toNat c : Nat) : Int)), V.junk, V.junk, V.junk, V.sc (Value.slice none 0 0), i64 0, i64 0] ++ jk 26, H := hp [], nx := 0, rt := 0, me := 66 }) (S1)) (
   cl (True) (
    if (0 : Int) ≤ (0 : Int) ∧ (0 : Int) ≤ ((ByteArray.size s : Nat) : Int) ∧ ((ByteArray.size s : Nat) : Int) ≤ ((ByteArray.size s : Nat) : Int) then
     some (Ans.c (CRes.ret (V.sl 0 1 0 1) [some (Chunk.row 9 1 1 fun (j : Nat) => List.getD [[V.sc (Value.string (ByteArray.extract s 0 (Int.toNat ((ByteArray.size s : Nat) : Int))))]] (0 + j) [])]))
    else
     none) (
    some (Ans.c (CRes.ret V.junk [])))) (
   none) := by kernel_rfl
theorem f66s (s : ByteArray) (c : UInt8) (b n : Nat) (u : Nat → ByteArray) (S1 : St) : callK E1 T0 (ltab2 [⟨0, bodyOf E1 66 0, S1, True, .exit 0, TPs s b n u, .ret, TPn s⟩]) 66 [st s, .sc (.int .u8 (UInt8.toNat c : Nat))] [] K =
  cl ((bodyOf E1 66 0) = (bodyOf E1 66 0) ∧ LeSt ({ fr := [V.sc (Value.string s), V.sc (Value.int IntKind.u8 ((UInt8.toNat c : Nat) : Int)), V.junk, V.junk, V.junk, V.sc (Value.slice none 0 0), i64 0, i64 0] ++ jk 26, H := hp [], nx := 0, rt := 0, me := 66 }) (S1)) (
   cl (True) (
    if (0 : Int) ≤ (b : Int) ∧ (b : Int) ≤ ((ByteArray.size s : Nat) : Int) ∧ ((ByteArray.size s : Nat) : Int) ≤ ((ByteArray.size s : Nat) : Int) then
     if (n + 1) * 16 ≤ roomBound ∧ n + 1 ≤ maxLen ∧ n ≤ n then
      some (Ans.c (CRes.ret (V.sl 0 1 0 (n + 1)) [some (Chunk.row 9 1 (n + 1) (joinF n (fun (j : Nat) => [st (u j)]) fun (j : Nat) => List.getD [[V.sc (Value.string (ByteArray.extract s (Int.toNat (b : Int)) (Int.toNat ((ByteArray.size s : Nat) : Int))))]] (0 + j) []))]))
     else
      none
    else
     none) (
    some (Ans.c (CRes.ret V.junk [])))) (
   none) := by kernel_rfl
theorem f67 (s : ByteArray) : callK E1 CH L0 67 [st s] [] K =
  cl (QSplR ([V.sc (Value.string s), V.sc (Value.int IntKind.u8 (94 : Int))]) ∧ ([] : List (Option Chunk)) = []) (
   if decide (((ptN (UInt8.ofNat (94)) s : Nat) : Int) > (2 : Int)) = true then
    some (Ans.c (CRes.ret (V.tup [V.agg [V.sc (Value.string { data := #[] }), i64 0, bo false], bo false]) []))
   else
    if (0 : Int) ≤ (0 : Int) ∧ (0 : Int) < ((ptN (UInt8.ofNat (94)) s : Nat) : Int) then
     cl (QLet ([V.sc (Value.string (pt (UInt8.ofNat (94)) s 0))]) ∧ ([] : List (Option Chunk)) = []) (
      if (!lB (pt (UInt8.ofNat (94)) s 0)) = true then
       some (Ans.c (CRes.ret (V.tup [V.agg [V.sc (Value.string { data := #[] }), i64 0, bo false], bo false]) []))
      else
       if (((ptN (UInt8.ofNat (94)) s : Nat) : Int) == (1 : Int)) = true then
        if (0 : Int) ≤ (0 : Int) ∧ (0 : Int) < ((ptN (UInt8.ofNat (94)) s : Nat) : Int) then
         some (Ans.c (CRes.ret (V.tup [V.agg [V.sc (Value.string (pt (UInt8.ofNat (94)) s 0)), i64 1, bo false], bo true]) []))
        else
         none
       else
        if (0 : Int) ≤ (1 : Int) ∧ (1 : Int) < ((ptN (UInt8.ofNat (94)) s : Nat) : Int) then
         cl (QNum ([V.sc (Value.string (pt (UInt8.ofNat (94)) s 1))]) ∧ ([] : List (Option Chunk)) = []) (
          if (0 : Int) ≤ (0 : Int) ∧ (0 : Int) < ((ptN (UInt8.ofNat (94)) s : Nat) : Int) then
           some (Ans.c (CRes.ret (V.tup [V.agg [V.sc (Value.string (pt (UInt8.ofNat (94)) s 0)), i64 (nV (pt (UInt8.ofNat (94)) s 1)), bo true], bo ((nB (pt (UInt8.ofNat (94)) s (Int.toNat (1 : Int)))))]) []))
          else
           none) (
          none)
        else
         none) (
      none)
    else
     none) (
   none) := by kernel_rfl

/-! ### What the kit says of Cut and Split -/
theorem cut_sc {s : ByteArray} {c : UInt8} (hs : s.size ≤ 1000) : SC E1 45 [st s, st ⟨⟨[c]⟩⟩] [] (.ret (vCut [st s, st ⟨⟨[c]⟩⟩]) []) := by
  refine sc1.2 (SC.ext hX ?_)
  show extF 45 [st s, st ⟨⟨[c]⟩⟩] = _
  have h1 : s.size < 4294967281 := by omega
  simp only [extF]
  rw [if_neg (by decide), if_neg (by decide), if_pos trivial, if_pos h1]
  simp only [cut_A]
  rfl
theorem num46_sc {s : ByteArray} (hs : s.size ≤ 1000) : SC E1 46 [st s] [] (.ret (vNum [st s]) []) := sc1.2 (number46 hs)
theorem num65_sc {s : ByteArray} (hs : s.size ≤ 1000) : SC E1 65 [st s] [] (.ret (vNum [st s]) []) := sc1.2 (number65 hs)
theorem sCG : SoundC E1 CG := ptab_cons (fun args h => by obtain ⟨s, c, rfl, hs⟩ := h; exact cut_sc hs) (ptab_cons (fun args h => by obtain ⟨s, rfl, hs⟩ := h; exact num46_sc hs) tab_nil)

/-! ### Letters -/
theorem kF (p : ByteArray) : KC2 1 4 (.exit 0) (TF p) = some (.l (.exit 0) (TF p)) := by kernel_rfl
theorem kFr : KC2 1 4 .ret TFr = some (.l .ret TFr) := by kernel_rfl
set_option maxRecDepth 100000 in
theorem loop76 (p : ByteArray) (hp : p.size ≤ 1000) : ∀ (n k : Nat), p.size - k = n →
    ((p.data.toList.drop k).all isL = true → SL E1 (bodyOf E1 76 0) (SF p k) (.exit 0) (TF p)) ∧ (¬ (p.data.toList.drop k).all isL = true → SL E1 (bodyOf E1 76 0) (SF p k) .ret TFr) := by
  intro n
  induction n with
  | zero =>
    intro k hn
    have hk' : ¬ k < p.size := by omega
    rw [at_end hk']
    refine ⟨fun _ => ?_, fun h => absurd rfl h⟩
    exact SL.by2 (m := 1) (r := 4) sT0 hX1 ltab2_nil ((r76 p k _).trans (by rw [if_neg (by simpa using hk')]; rfl))
  | succ n ih =>
    intro k hn
    have hk' : k < p.size := by omega
    obtain ⟨c, e1, e2⟩ := at_k hk'
    have hk : decide ((k : Int) < (p.size : Int)) = true := by simpa using hk'
    have hb : (0 : Int) ≤ (k : Int) ∧ (k : Int) < (p.size : Int) := by omega
    have ew : w ((k : Int) + 1) = ((k + 1 : Nat) : Int) := by rw [w_in (by unfold inR; omega)]; omega
    rw [e1, List.all_cons]
    cases hL : isL c with
    | false =>
      refine ⟨fun h => by simp at h, fun _ => ?_⟩
      refine SL.by2 (m := 1) (r := 4) sT0 hX1 ltab2_nil ((r76 p k _).trans ?_)
      simp only [isL, Bool.or_eq_false_iff, Bool.and_eq_false_iff, decide_eq_false_iff_not] at hL
      rw [e2, if_pos hk, if_pos hb]
      by_cases h1 : c.toNat < 97
      · rw [if_pos (by simp; omega), if_pos hb]
        by_cases h2 : c.toNat < 65
        · rw [if_pos (by simp; omega)]; rfl
        · rw [if_neg (by simp; omega), if_pos hb, if_pos (by simp; omega)]; rfl
      · rw [if_neg (by simp; omega), if_pos hb, if_pos (by simp; omega), if_pos hb, if_neg (by simp; omega), if_pos hb, if_pos (by simp; omega)]; rfl
    | true =>
      simp only [isL, Bool.or_eq_true, Bool.and_eq_true, decide_eq_true_eq] at hL
      rw [Bool.true_and]
      have key := ih (k + 1) (by omega)
      have hsnd : SoundL E1 (ltab2 [⟨0, bodyOf E1 76 0, SF p (k + 1), (p.data.toList.drop (k + 1)).all isL = true, .exit 0, TF p, .ret, TFr⟩]) := ltab2_cons key ltab2_nil
      have h0 : loopK E1 T0 (ltab2 [⟨0, bodyOf E1 76 0, SF p (k + 1), (p.data.toList.drop (k + 1)).all isL = true, .exit 0, TF p, .ret, TFr⟩]) 0 9 (bodyOf E1 76 0) (SF p k) (KC2 1 4) = cl ((p.data.toList.drop (k + 1)).all isL = true) (some (.l (.exit 0) (TF p))) (some (.l .ret TFr)) := by
        refine (r76 p k _).trans ?_
        rw [e2, if_pos hk, if_pos hb, ew]
        rcases hL with h1 | h1
        · rw [if_pos (by simp; omega), if_pos hb, if_neg (by simp; omega), if_pos hb, if_neg (by simp; omega)]
          refine (ltab2_hit (LeSt.refl _)).trans ?_
          rw [kF, kFr]
        · rw [if_neg (by simp; omega), if_pos hb, if_neg (by simp; omega)]
          refine (ltab2_hit (LeSt.refl _)).trans ?_
          rw [kF, kFr]
      exact ⟨fun h => SL.by2 sT0 hX1 hsnd (h0.trans (cl_pos h)), fun h => SL.by2 sT0 hX1 hsnd (h0.trans (cl_neg h))⟩
set_option maxRecDepth 100000 in
theorem let_sc {s : ByteArray} (hs : s.size ≤ 1000) : SC E1 76 [st s] [] (.ret (vLet [st s]) []) := by
  have key := loop76 s hs _ 0 rfl
  rw [List.drop_zero] at key
  refine SC.of hW1 hX1 sT0 (ltab2_cons (x := ⟨0, bodyOf E1 76 0, SF s 0, s.data.toList.all isL = true, .exit 0, TF s, .ret, TFr⟩) key ltab2_nil) ((f76 s s _ _).trans ?_)
  rw [cl_pos ⟨rfl, LeSt.refl _⟩]
  by_cases h : s.data.toList.all isL = true
  · rw [cl_pos h]
    simp only [vLet, lB, h, Bool.true_and]
  · rw [cl_neg h]
    simp only [vLet, lB, h, Bool.false_and]
end Go.Proofs.YtnjpgkaignfcaaaDoor
