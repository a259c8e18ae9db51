/- Numbers read from a text; letters. -/
import Derived.Test.YtnjpgkaignfcaaaDoorUp
namespace Go.Proofs.YtnjpgkaignfcaaaDoor
open Go Go.Am
noncomputable def CX : CallT := tab [(63, fun args L k => callG E 20 63 args L k)]
theorem sCX : SoundC E CX := tab_cons (fun args L k r h => (sound_G hW hX 20).1 63 args L k r h) tab_nil
def SA (p : ByteArray) (g : Bool) (v : Int) (k : Nat) : St := { fr := [.junk, .junk, .junk, .junk, st p, bo g, i64 v] ++ jk 20 ++ [i64 p.size, i64 k] ++ jk 23, H := hp [], nx := 0, rt := 0, me := 46 }
def SB (p : ByteArray) (g v : Int) (k : Nat) : St := { fr := [st p, .junk, .junk, .junk, i64 g, i64 v, i64 k] ++ jk 54, H := hp [], nx := 0, rt := 0, me := 65 }
/-- A number's text behind its sign; its sign. -/
def nbody (s : ByteArray) : ByteArray := { data := List.toArray (Lib.trimPrefix (Array.toList (ByteArray.data s)) (Array.toList (ByteArray.data { data := #[(45 : UInt8)] }))) }
def nneg (s : ByteArray) : Bool := Lib.hasPrefix (Array.toList (ByteArray.data s)) (Array.toList (ByteArray.data { data := #[(45 : UInt8)] }))
def TA (g : Bool) (r : Int) : St := { fr := [.junk, .junk, .junk, .junk, .junk, bo g, i64 r] ++ jk 45, H := hp [], nx := 0, rt := 0, me := 46 }
def TAr : St := { fr := [.junk, .junk, i64 0, bo false] ++ jk 48, H := hp [], nx := 0, rt := 0, me := 46 }
def TB (g : Int) (r : Int) : St := { fr := [.junk, .junk, .junk, .junk, i64 g, i64 r] ++ jk 55, H := hp [], nx := 0, rt := 0, me := 65 }
def TBr : St := { fr := [.junk, .junk, i64 0, bo false] ++ jk 57, H := hp [], nx := 0, rt := 0, me := 65 }
theorem r46x (p : ByteArray) (g : Bool) (v r : Int) (k : Nat) (S1 : St) : loopK E CX (ltab [⟨bodyOf E 46 0, S1, .exit 0, TA g r⟩]) 0 402653296 (bodyOf E 46 0) (SA p g v k) (KC 96) =
  if decide ((k : Int) < ((ByteArray.size p : Nat) : Int)) = true then
   if (0 : Int) ≤ (k : Int) ∧ (k : Int) < ((ByteArray.size p : Nat) : Int) then
    if decide (↑(UInt8.toNat (List.getD (Array.toList (ByteArray.data p)) (Int.toNat (k : Int)) (0 : UInt8))) < (48 : Int)) = true then
     some (Ans.l Ex.ret { fr := [V.junk, V.junk, V.junk, V.junk, V.junk, bo (g), i64 v] ++ jk 45, H := hp [], nx := 0, rt := 0, me := 46 })
    else
     if decide (↑(UInt8.toNat (List.getD (Array.toList (ByteArray.data p)) (Int.toNat (k : Int)) (0 : UInt8))) > (57 : Int)) = true then
      some (Ans.l Ex.ret { fr := [V.junk, V.junk, V.junk, V.junk, V.junk, bo (g), i64 v] ++ jk 45, H := hp [], nx := 0, rt := 0, me := 46 })
     else
      cl ((bodyOf E 46 0) = (bodyOf E 46 0) ∧ LeSt ({ fr := [V.junk, V.junk, V.junk, V.junk, V.sc (Value.string p), bo (g), i64 (if (2147483648 : Int) < w (w ((10 : Int) * v) + w (IntKind.wrap IntKind.u8 (↑(UInt8.toNat (List.getD (Array.toList (ByteArray.data p)) (Int.toNat (k : Int)) (0 : UInt8))) - (48 : Int)))) then (2147483648 : Int) else w (w ((10 : Int) * v) + w (IntKind.wrap IntKind.u8 (↑(UInt8.toNat (List.getD (Array.toList (ByteArray.data p)) (Int.toNat (k : Int)) (0 : UInt8))) - (48 : Int))))), V.junk, V.junk, V.junk, V.junk, V.junk, V.junk, V.junk, V.junk, V.junk, V.junk, V.junk, V.junk, V.junk, V.junk, V.junk, V.junk, V.junk, V.junk, V.junk, V.junk, i64 ((ByteArray.size p : Nat) : Int), i64 (w ((k : Int) + (1 : Int)))] ++ jk 23, H := hp [], nx := 0, rt := 0, me := 46 }) (S1)) (
       some (Ans.l (Ex.exit 0) { fr := [V.junk, V.junk, V.junk, V.junk, V.junk, bo (g), i64 r] ++ jk 45, H := hp [], nx := 0, rt := 0, me := 46 })) (
       none)
   else
    none
  else
   some (Ans.l (Ex.exit 0) { fr := [V.junk, V.junk, V.junk, V.junk, V.junk, bo (g), i64 v] ++ jk 45, H := hp [], nx := 0, rt := 0, me := 46 }) := by kernel_rfl
theorem r46r (p : ByteArray) (g : Bool) (v : Int) (k : Nat) (S1 : St) : loopK E CX (ltab [⟨bodyOf E 46 0, S1, .ret, TAr⟩]) 0 402653296 (bodyOf E 46 0) (SA p g v k) (KC 12) =
  if decide ((k : Int) < ((ByteArray.size p : Nat) : Int)) = true then
   if (0 : Int) ≤ (k : Int) ∧ (k : Int) < ((ByteArray.size p : Nat) : Int) then
    if decide (↑(UInt8.toNat (List.getD (Array.toList (ByteArray.data p)) (Int.toNat (k : Int)) (0 : UInt8))) < (48 : Int)) = true then
     some (Ans.l Ex.ret { fr := [V.junk, V.junk, i64 0, bo false] ++ jk 48, H := hp [], nx := 0, rt := 0, me := 46 })
    else
     if decide (↑(UInt8.toNat (List.getD (Array.toList (ByteArray.data p)) (Int.toNat (k : Int)) (0 : UInt8))) > (57 : Int)) = true then
      some (Ans.l Ex.ret { fr := [V.junk, V.junk, i64 0, bo false] ++ jk 48, H := hp [], nx := 0, rt := 0, me := 46 })
     else
      cl ((bodyOf E 46 0) = (bodyOf E 46 0) ∧ LeSt ({ fr := [V.junk, V.junk, V.junk, V.junk, V.sc (Value.string p), bo (g), i64 (if (2147483648 : Int) < w (w ((10 : Int) * v) + w (IntKind.wrap IntKind.u8 (↑(UInt8.toNat (List.getD (Array.toList (ByteArray.data p)) (Int.toNat (k : Int)) (0 : UInt8))) - (48 : Int)))) then (2147483648 : Int) else w (w ((10 : Int) * v) + w (IntKind.wrap IntKind.u8 (↑(UInt8.toNat (List.getD (Array.toList (ByteArray.data p)) (Int.toNat (k : Int)) (0 : UInt8))) - (48 : Int))))), V.junk, V.junk, V.junk, V.junk, V.junk, V.junk, V.junk, V.junk, V.junk, V.junk, V.junk, V.junk, V.junk, V.junk, V.junk, V.junk, V.junk, V.junk, V.junk, V.junk, i64 ((ByteArray.size p : Nat) : Int), i64 (w ((k : Int) + (1 : Int)))] ++ jk 23, H := hp [], nx := 0, rt := 0, me := 46 }) (S1)) (
       some (Ans.l Ex.ret { fr := [V.junk, V.junk, i64 0, bo false] ++ jk 48, H := hp [], nx := 0, rt := 0, me := 46 })) (
       none)
   else
    none
  else
   some (Ans.l (Ex.exit 0) { fr := [V.junk] ++ jk 51, H := hp [], nx := 0, rt := 0, me := 46 }) := by kernel_rfl
theorem r65x (p : ByteArray) (g v r : Int) (k : Nat) (S1 : St) : loopK E CX (ltab [⟨bodyOf E 65 0, S1, .exit 0, TB g r⟩]) 0 113 (bodyOf E 65 0) (SB p g v k) (KC 48) =
  if decide ((k : Int) < ((ByteArray.size p : Nat) : Int)) = true then
   if (0 : Int) ≤ (k : Int) ∧ (k : Int) < ((ByteArray.size p : Nat) : Int) then
    if decide (↑(UInt8.toNat (List.getD (Array.toList (ByteArray.data p)) (Int.toNat (k : Int)) (0 : UInt8))) < (48 : Int)) = true then
     some (Ans.l Ex.ret { fr := [V.junk, V.junk, V.junk, V.junk, i64 g, i64 v] ++ jk 55, H := hp [], nx := 0, rt := 0, me := 65 })
    else
     if (0 : Int) ≤ (k : Int) ∧ (k : Int) < ((ByteArray.size p : Nat) : Int) then
      if decide (↑(UInt8.toNat (List.getD (Array.toList (ByteArray.data p)) (Int.toNat (k : Int)) (0 : UInt8))) > (57 : Int)) = true then
       some (Ans.l Ex.ret { fr := [V.junk, V.junk, V.junk, V.junk, i64 g, i64 v] ++ jk 55, H := hp [], nx := 0, rt := 0, me := 65 })
      else
       if (0 : Int) ≤ (k : Int) ∧ (k : Int) < ((ByteArray.size p : Nat) : Int) then
        cl ((bodyOf E 65 0) = (bodyOf E 65 0) ∧ LeSt ({ fr := [V.sc (Value.string p), V.junk, V.junk, V.junk, i64 g, i64 (if (2147483648 : Int) < w (w ((10 : Int) * v) + w (IntKind.wrap IntKind.u8 (↑(UInt8.toNat (List.getD (Array.toList (ByteArray.data p)) (Int.toNat (k : Int)) (0 : UInt8))) - (48 : Int)))) then (2147483648 : Int) else w (w ((10 : Int) * v) + w (IntKind.wrap IntKind.u8 (↑(UInt8.toNat (List.getD (Array.toList (ByteArray.data p)) (Int.toNat (k : Int)) (0 : UInt8))) - (48 : Int))))), i64 (w ((k : Int) + (1 : Int)))] ++ jk 54, H := hp [], nx := 0, rt := 0, me := 65 }) (S1)) (
         some (Ans.l (Ex.exit 0) { fr := [V.junk, V.junk, V.junk, V.junk, i64 g, i64 r] ++ jk 55, H := hp [], nx := 0, rt := 0, me := 65 })) (
         none)
       else
        none
     else
      none
   else
    none
  else
   some (Ans.l (Ex.exit 0) { fr := [V.junk, V.junk, V.junk, V.junk, i64 g, i64 v] ++ jk 55, H := hp [], nx := 0, rt := 0, me := 65 }) := by kernel_rfl
theorem r65r (p : ByteArray) (g : Int) (v : Int) (k : Nat) (S1 : St) : loopK E CX (ltab [⟨bodyOf E 65 0, S1, .ret, TBr⟩]) 0 113 (bodyOf E 65 0) (SB p g v k) (KC 12) =
  if decide ((k : Int) < ((ByteArray.size p : Nat) : Int)) = true then
   if (0 : Int) ≤ (k : Int) ∧ (k : Int) < ((ByteArray.size p : Nat) : Int) then
    if decide (↑(UInt8.toNat (List.getD (Array.toList (ByteArray.data p)) (Int.toNat (k : Int)) (0 : UInt8))) < (48 : Int)) = true then
     some (Ans.l Ex.ret { fr := [V.junk, V.junk, i64 0, bo false] ++ jk 57, H := hp [], nx := 0, rt := 0, me := 65 })
    else
     if (0 : Int) ≤ (k : Int) ∧ (k : Int) < ((ByteArray.size p : Nat) : Int) then
      if decide (↑(UInt8.toNat (List.getD (Array.toList (ByteArray.data p)) (Int.toNat (k : Int)) (0 : UInt8))) > (57 : Int)) = true then
       some (Ans.l Ex.ret { fr := [V.junk, V.junk, i64 0, bo false] ++ jk 57, H := hp [], nx := 0, rt := 0, me := 65 })
      else
       if (0 : Int) ≤ (k : Int) ∧ (k : Int) < ((ByteArray.size p : Nat) : Int) then
        cl ((bodyOf E 65 0) = (bodyOf E 65 0) ∧ LeSt ({ fr := [V.sc (Value.string p), V.junk, V.junk, V.junk, i64 g, i64 (if (2147483648 : Int) < w (w ((10 : Int) * v) + w (IntKind.wrap IntKind.u8 (↑(UInt8.toNat (List.getD (Array.toList (ByteArray.data p)) (Int.toNat (k : Int)) (0 : UInt8))) - (48 : Int)))) then (2147483648 : Int) else w (w ((10 : Int) * v) + w (IntKind.wrap IntKind.u8 (↑(UInt8.toNat (List.getD (Array.toList (ByteArray.data p)) (Int.toNat (k : Int)) (0 : UInt8))) - (48 : Int))))), i64 (w ((k : Int) + (1 : Int)))] ++ jk 54, H := hp [], nx := 0, rt := 0, me := 65 }) (S1)) (
         some (Ans.l Ex.ret { fr := [V.junk, V.junk, i64 0, bo false] ++ jk 57, H := hp [], nx := 0, rt := 0, me := 65 })) (
         none)
       else
        none
     else
      none
   else
    none
  else
   some (Ans.l (Ex.exit 0) { fr := [V.junk] ++ jk 60, H := hp [], nx := 0, rt := 0, me := 65 }) := by kernel_rfl
theorem r46x_e (p : ByteArray) (g : Bool) (v : Int) (k : Nat) : loopK E CX (ltab []) 0 402653296 (bodyOf E 46 0) (SA p g v k) (KC 96) =
  if decide ((k : Int) < ((ByteArray.size p : Nat) : Int)) = true then
   if (0 : Int) ≤ (k : Int) ∧ (k : Int) < ((ByteArray.size p : Nat) : Int) then
    if decide (↑(UInt8.toNat (List.getD (Array.toList (ByteArray.data p)) (Int.toNat (k : Int)) (0 : UInt8))) < (48 : Int)) = true then
     some (Ans.l Ex.ret { fr := [V.junk, V.junk, V.junk, V.junk, V.junk, bo (g), i64 v] ++ jk 45, H := hp [], nx := 0, rt := 0, me := 46 })
    else
     if decide (↑(UInt8.toNat (List.getD (Array.toList (ByteArray.data p)) (Int.toNat (k : Int)) (0 : UInt8))) > (57 : Int)) = true then
      some (Ans.l Ex.ret { fr := [V.junk, V.junk, V.junk, V.junk, V.junk, bo (g), i64 v] ++ jk 45, H := hp [], nx := 0, rt := 0, me := 46 })
     else
      none
   else
    none
  else
   some (Ans.l (Ex.exit 0) { fr := [V.junk, V.junk, V.junk, V.junk, V.junk, bo (g), i64 v] ++ jk 45, H := hp [], nx := 0, rt := 0, me := 46 }) := by kernel_rfl
theorem r46r_e (p : ByteArray) (g : Bool) (v : Int) (k : Nat) : loopK E CX (ltab []) 0 402653296 (bodyOf E 46 0) (SA p g v k) (KC 12) =
  if decide ((k : Int) < ((ByteArray.size p : Nat) : Int)) = true then
   if (0 : Int) ≤ (k : Int) ∧ (k : Int) < ((ByteArray.size p : Nat) : Int) then
    if decide (↑(UInt8.toNat (List.getD (Array.toList (ByteArray.data p)) (Int.toNat (k : Int)) (0 : UInt8))) < (48 : Int)) = true then
     some (Ans.l Ex.ret { fr := [V.junk, V.junk, i64 0, bo false] ++ jk 48, H := hp [], nx := 0, rt := 0, me := 46 })
    else
     if decide (↑(UInt8.toNat (List.getD (Array.toList (ByteArray.data p)) (Int.toNat (k : Int)) (0 : UInt8))) > (57 : Int)) = true then
      some (Ans.l Ex.ret { fr := [V.junk, V.junk, i64 0, bo false] ++ jk 48, H := hp [], nx := 0, rt := 0, me := 46 })
     else
      none
   else
    none
  else
   some (Ans.l (Ex.exit 0) { fr := [V.junk] ++ jk 51, H := hp [], nx := 0, rt := 0, me := 46 }) := by kernel_rfl
theorem r65x_e (p : ByteArray) (g : Int) (v : Int) (k : Nat) : loopK E CX (ltab []) 0 113 (bodyOf E 65 0) (SB p g v k) (KC 48) =
  if decide ((k : Int) < ((ByteArray.size p : Nat) : Int)) = true then
   if (0 : Int) ≤ (k : Int) ∧ (k : Int) < ((ByteArray.size p : Nat) : Int) then
    if decide (↑(UInt8.toNat (List.getD (Array.toList (ByteArray.data p)) (Int.toNat (k : Int)) (0 : UInt8))) < (48 : Int)) = true then
     some (Ans.l Ex.ret { fr := [V.junk, V.junk, V.junk, V.junk, i64 g, i64 v] ++ jk 55, H := hp [], nx := 0, rt := 0, me := 65 })
    else
     if (0 : Int) ≤ (k : Int) ∧ (k : Int) < ((ByteArray.size p : Nat) : Int) then
      if decide (↑(UInt8.toNat (List.getD (Array.toList (ByteArray.data p)) (Int.toNat (k : Int)) (0 : UInt8))) > (57 : Int)) = true then
       some (Ans.l Ex.ret { fr := [V.junk, V.junk, V.junk, V.junk, i64 g, i64 v] ++ jk 55, H := hp [], nx := 0, rt := 0, me := 65 })
      else
       if (0 : Int) ≤ (k : Int) ∧ (k : Int) < ((ByteArray.size p : Nat) : Int) then
        none
       else
        none
     else
      none
   else
    none
  else
   some (Ans.l (Ex.exit 0) { fr := [V.junk, V.junk, V.junk, V.junk, i64 g, i64 v] ++ jk 55, H := hp [], nx := 0, rt := 0, me := 65 }) := by kernel_rfl
theorem r65r_e (p : ByteArray) (g : Int) (v : Int) (k : Nat) : loopK E CX (ltab []) 0 113 (bodyOf E 65 0) (SB p g v k) (KC 12) =
  if decide ((k : Int) < ((ByteArray.size p : Nat) : Int)) = true then
   if (0 : Int) ≤ (k : Int) ∧ (k : Int) < ((ByteArray.size p : Nat) : Int) then
    if decide (↑(UInt8.toNat (List.getD (Array.toList (ByteArray.data p)) (Int.toNat (k : Int)) (0 : UInt8))) < (48 : Int)) = true then
     some (Ans.l Ex.ret { fr := [V.junk, V.junk, i64 0, bo false] ++ jk 57, H := hp [], nx := 0, rt := 0, me := 65 })
    else
     if (0 : Int) ≤ (k : Int) ∧ (k : Int) < ((ByteArray.size p : Nat) : Int) then
      if decide (↑(UInt8.toNat (List.getD (Array.toList (ByteArray.data p)) (Int.toNat (k : Int)) (0 : UInt8))) > (57 : Int)) = true then
       some (Ans.l Ex.ret { fr := [V.junk, V.junk, i64 0, bo false] ++ jk 57, H := hp [], nx := 0, rt := 0, me := 65 })
      else
       if (0 : Int) ≤ (k : Int) ∧ (k : Int) < ((ByteArray.size p : Nat) : Int) then
        none
       else
        none
     else
      none
   else
    none
  else
   some (Ans.l (Ex.exit 0) { fr := [V.junk] ++ jk 60, H := hp [], nx := 0, rt := 0, me := 65 }) := by kernel_rfl
theorem f46x (s : ByteArray) (g : Bool) (r : Int) (S1 : St) : callK E CX (ltab [⟨bodyOf E 46 0, S1, .exit 0, TA g r⟩]) 46 [st s] [] K =
  if (ByteArray.toList (nbody s) == ByteArray.toList { data := #[] }) = true then
   some (Ans.c (CRes.ret (V.tup [i64 0, bo false]) []))
  else
   if (0 : Int) ≤ (0 : Int) ∧ (0 : Int) < ((ByteArray.size (nbody s) : Nat) : Int) then
    if (↑(UInt8.toNat (List.getD (Array.toList (ByteArray.data (nbody s))) 0 (0 : UInt8))) == (48 : Int)) = true then
     if decide (((ByteArray.size s : Nat) : Int) > (1 : Int)) = true then
      some (Ans.c (CRes.ret (V.tup [i64 0, bo false]) []))
     else
      cl ((bodyOf E 46 0) = (bodyOf E 46 0) ∧ LeSt ({ fr := [V.junk, V.junk, V.junk, V.junk, V.sc (Value.string (nbody s)), bo ((nneg s)), i64 0, V.junk, V.junk, V.junk, V.junk, V.junk, V.junk, V.junk, V.junk, V.junk, V.junk, V.junk, V.junk, V.junk, V.junk, V.junk, V.junk, V.junk, V.junk, V.junk, V.junk, i64 ((ByteArray.size (nbody s) : Nat) : Int), i64 0] ++ jk 23, H := hp [], nx := 0, rt := 0, me := 46 }) (S1)) (
       if g = true then
        some (Ans.c (CRes.ret (V.tup [i64 (w ((0 : Int) - r)), bo true]) []))
       else
        some (Ans.c (CRes.ret (V.tup [i64 r, bo true]) []))) (
       none)
    else
     cl ((bodyOf E 46 0) = (bodyOf E 46 0) ∧ LeSt ({ fr := [V.junk, V.junk, V.junk, V.junk, V.sc (Value.string (nbody s)), bo ((nneg s)), i64 0, V.junk, V.junk, V.junk, V.junk, V.junk, V.junk, V.junk, V.junk, V.junk, V.junk, V.junk, V.junk, V.junk, V.junk, V.junk, V.junk, V.junk, V.junk, V.junk, V.junk, i64 ((ByteArray.size (nbody s) : Nat) : Int), i64 0] ++ jk 23, H := hp [], nx := 0, rt := 0, me := 46 }) (S1)) (
      if g = true then
       some (Ans.c (CRes.ret (V.tup [i64 (w ((0 : Int) - r)), bo true]) []))
      else
       some (Ans.c (CRes.ret (V.tup [i64 r, bo true]) []))) (
      none)
   else
    none := by kernel_rfl
theorem f46r (s : ByteArray) (S1 : St) : callK E CX (ltab [⟨bodyOf E 46 0, S1, .ret, TAr⟩]) 46 [st s] [] K =
  if (ByteArray.toList (nbody s) == ByteArray.toList { data := #[] }) = true then
   some (Ans.c (CRes.ret (V.tup [i64 0, bo false]) []))
  else
   if (0 : Int) ≤ (0 : Int) ∧ (0 : Int) < ((ByteArray.size (nbody s) : Nat) : Int) then
    if (↑(UInt8.toNat (List.getD (Array.toList (ByteArray.data (nbody s))) 0 (0 : UInt8))) == (48 : Int)) = true then
     if decide (((ByteArray.size s : Nat) : Int) > (1 : Int)) = true then
      some (Ans.c (CRes.ret (V.tup [i64 0, bo false]) []))
     else
      cl ((bodyOf E 46 0) = (bodyOf E 46 0) ∧ LeSt ({ fr := [V.junk, V.junk, V.junk, V.junk, V.sc (Value.string (nbody s)), bo ((nneg s)), i64 0, V.junk, V.junk, V.junk, V.junk, V.junk, V.junk, V.junk, V.junk, V.junk, V.junk, V.junk, V.junk, V.junk, V.junk, V.junk, V.junk, V.junk, V.junk, V.junk, V.junk, i64 ((ByteArray.size (nbody s) : Nat) : Int), i64 0] ++ jk 23, H := hp [], nx := 0, rt := 0, me := 46 }) (S1)) (
       some (Ans.c (CRes.ret (V.tup [i64 0, bo false]) []))) (
       none)
    else
     cl ((bodyOf E 46 0) = (bodyOf E 46 0) ∧ LeSt ({ fr := [V.junk, V.junk, V.junk, V.junk, V.sc (Value.string (nbody s)), bo ((nneg s)), i64 0, V.junk, V.junk, V.junk, V.junk, V.junk, V.junk, V.junk, V.junk, V.junk, V.junk, V.junk, V.junk, V.junk, V.junk, V.junk, V.junk, V.junk, V.junk, V.junk, V.junk, i64 ((ByteArray.size (nbody s) : Nat) : Int), i64 0] ++ jk 23, H := hp [], nx := 0, rt := 0, me := 46 }) (S1)) (
      some (Ans.c (CRes.ret (V.tup [i64 0, bo false]) []))) (
      none)
   else
    none := by kernel_rfl
theorem f65x (s : ByteArray) (g : Int) (r : Int) (S1 : St) : callK E CX (ltab [⟨bodyOf E 65 0, S1, .exit 0, TB g r⟩]) 65 [st s] [] K =
  if decide (((ByteArray.size s : Nat) : Int) > (0 : Int)) = true then
   if (0 : Int) ≤ (0 : Int) ∧ (0 : Int) < ((ByteArray.size s : Nat) : Int) then
    if (↑(UInt8.toNat (List.getD (Array.toList (ByteArray.data s)) 0 (0 : UInt8))) == (45 : Int)) = true then
     if ((1 : Int) == ((ByteArray.size s : Nat) : Int)) = true then
      some (Ans.c (CRes.ret (V.tup [i64 0, bo false]) []))
     else
      if (0 : Int) ≤ (1 : Int) ∧ (1 : Int) < ((ByteArray.size s : Nat) : Int) then
       if (↑(UInt8.toNat (List.getD (Array.toList (ByteArray.data s)) 1 (0 : UInt8))) == (48 : Int)) = true then
        if decide (((ByteArray.size s : Nat) : Int) > (1 : Int)) = true then
         some (Ans.c (CRes.ret (V.tup [i64 0, bo false]) []))
        else
         cl ((bodyOf E 65 0) = (bodyOf E 65 0) ∧ LeSt ({ fr := [V.sc (Value.string s), V.junk, V.junk, V.junk, i64 1, i64 0, i64 1] ++ jk 54, H := hp [], nx := 0, rt := 0, me := 65 }) (S1)) (
          if (g == (1 : Int)) = true then
           some (Ans.c (CRes.ret (V.tup [i64 (w ((0 : Int) - r)), bo true]) []))
          else
           some (Ans.c (CRes.ret (V.tup [i64 r, bo true]) []))) (
          none)
       else
        cl ((bodyOf E 65 0) = (bodyOf E 65 0) ∧ LeSt ({ fr := [V.sc (Value.string s), V.junk, V.junk, V.junk, i64 1, i64 0, i64 1] ++ jk 54, H := hp [], nx := 0, rt := 0, me := 65 }) (S1)) (
         if (g == (1 : Int)) = true then
          some (Ans.c (CRes.ret (V.tup [i64 (w ((0 : Int) - r)), bo true]) []))
         else
          some (Ans.c (CRes.ret (V.tup [i64 r, bo true]) []))) (
         none)
      else
       none
    else
     if ((0 : Int) == ((ByteArray.size s : Nat) : Int)) = true then
      some (Ans.c (CRes.ret (V.tup [i64 0, bo false]) []))
     else
      if (0 : Int) ≤ (0 : Int) ∧ (0 : Int) < ((ByteArray.size s : Nat) : Int) then
       if (↑(UInt8.toNat (List.getD (Array.toList (ByteArray.data s)) 0 (0 : UInt8))) == (48 : Int)) = true then
        if decide (((ByteArray.size s : Nat) : Int) > (1 : Int)) = true then
         some (Ans.c (CRes.ret (V.tup [i64 0, bo false]) []))
        else
         cl ((bodyOf E 65 0) = (bodyOf E 65 0) ∧ LeSt ({ fr := [V.sc (Value.string s), V.junk, V.junk, V.junk, i64 0, i64 0, i64 0] ++ jk 54, H := hp [], nx := 0, rt := 0, me := 65 }) (S1)) (
          if (g == (1 : Int)) = true then
           some (Ans.c (CRes.ret (V.tup [i64 (w ((0 : Int) - r)), bo true]) []))
          else
           some (Ans.c (CRes.ret (V.tup [i64 r, bo true]) []))) (
          none)
       else
        cl ((bodyOf E 65 0) = (bodyOf E 65 0) ∧ LeSt ({ fr := [V.sc (Value.string s), V.junk, V.junk, V.junk, i64 0, i64 0, i64 0] ++ jk 54, H := hp [], nx := 0, rt := 0, me := 65 }) (S1)) (
         if (g == (1 : Int)) = true then
          some (Ans.c (CRes.ret (V.tup [i64 (w ((0 : Int) - r)), bo true]) []))
         else
          some (Ans.c (CRes.ret (V.tup [i64 r, bo true]) []))) (
         none)
      else
       none
   else
    none
  else
   if ((0 : Int) == ((ByteArray.size s : Nat) : Int)) = true then
    some (Ans.c (CRes.ret (V.tup [i64 0, bo false]) []))
   else
    if (0 : Int) ≤ (0 : Int) ∧ (0 : Int) < ((ByteArray.size s : Nat) : Int) then
     if (↑(UInt8.toNat (List.getD (Array.toList (ByteArray.data s)) 0 (0 : UInt8))) == (48 : Int)) = true then
      if decide (((ByteArray.size s : Nat) : Int) > (1 : Int)) = true then
       some (Ans.c (CRes.ret (V.tup [i64 0, bo false]) []))
      else
       cl ((bodyOf E 65 0) = (bodyOf E 65 0) ∧ LeSt ({ fr := [V.sc (Value.string s), V.junk, V.junk, V.junk, i64 0, i64 0, i64 0] ++ jk 54, H := hp [], nx := 0, rt := 0, me := 65 }) (S1)) (
        if (g == (1 : Int)) = true then
         some (Ans.c (CRes.ret (V.tup [i64 (w ((0 : Int) - r)), bo true]) []))
        else
         some (Ans.c (CRes.ret (V.tup [i64 r, bo true]) []))) (
        none)
     else
      cl ((bodyOf E 65 0) = (bodyOf E 65 0) ∧ LeSt ({ fr := [V.sc (Value.string s), V.junk, V.junk, V.junk, i64 0, i64 0, i64 0] ++ jk 54, H := hp [], nx := 0, rt := 0, me := 65 }) (S1)) (
       if (g == (1 : Int)) = true then
        some (Ans.c (CRes.ret (V.tup [i64 (w ((0 : Int) - r)), bo true]) []))
       else
        some (Ans.c (CRes.ret (V.tup [i64 r, bo true]) []))) (
       none)
    else
     none := by kernel_rfl
theorem f65r (s : ByteArray) (S1 : St) : callK E CX (ltab [⟨bodyOf E 65 0, S1, .ret, TBr⟩]) 65 [st s] [] K =
  if decide (((ByteArray.size s : Nat) : Int) > (0 : Int)) = true then
   if (0 : Int) ≤ (0 : Int) ∧ (0 : Int) < ((ByteArray.size s : Nat) : Int) then
    if (↑(UInt8.toNat (List.getD (Array.toList (ByteArray.data s)) 0 (0 : UInt8))) == (45 : Int)) = true then
     if ((1 : Int) == ((ByteArray.size s : Nat) : Int)) = true then
      some (Ans.c (CRes.ret (V.tup [i64 0, bo false]) []))
     else
      if (0 : Int) ≤ (1 : Int) ∧ (1 : Int) < ((ByteArray.size s : Nat) : Int) then
       if (↑(UInt8.toNat (List.getD (Array.toList (ByteArray.data s)) 1 (0 : UInt8))) == (48 : Int)) = true then
        if decide (((ByteArray.size s : Nat) : Int) > (1 : Int)) = true then
         some (Ans.c (CRes.ret (V.tup [i64 0, bo false]) []))
        else
         cl ((bodyOf E 65 0) = (bodyOf E 65 0) ∧ LeSt ({ fr := [V.sc (Value.string s), V.junk, V.junk, V.junk, i64 1, i64 0, i64 1] ++ jk 54, H := hp [], nx := 0, rt := 0, me := 65 }) (S1)) (
          some (Ans.c (CRes.ret (V.tup [i64 0, bo false]) []))) (
          none)
       else
        cl ((bodyOf E 65 0) = (bodyOf E 65 0) ∧ LeSt ({ fr := [V.sc (Value.string s), V.junk, V.junk, V.junk, i64 1, i64 0, i64 1] ++ jk 54, H := hp [], nx := 0, rt := 0, me := 65 }) (S1)) (
         some (Ans.c (CRes.ret (V.tup [i64 0, bo false]) []))) (
         none)
      else
       none
    else
     if ((0 : Int) == ((ByteArray.size s : Nat) : Int)) = true then
      some (Ans.c (CRes.ret (V.tup [i64 0, bo false]) []))
     else
      if (0 : Int) ≤ (0 : Int) ∧ (0 : Int) < ((ByteArray.size s : Nat) : Int) then
       if (↑(UInt8.toNat (List.getD (Array.toList (ByteArray.data s)) 0 (0 : UInt8))) == (48 : Int)) = true then
        if decide (((ByteArray.size s : Nat) : Int) > (1 : Int)) = true then
         some (Ans.c (CRes.ret (V.tup [i64 0, bo false]) []))
        else
         cl ((bodyOf E 65 0) = (bodyOf E 65 0) ∧ LeSt ({ fr := [V.sc (Value.string s), V.junk, V.junk, V.junk, i64 0, i64 0, i64 0] ++ jk 54, H := hp [], nx := 0, rt := 0, me := 65 }) (S1)) (
          some (Ans.c (CRes.ret (V.tup [i64 0, bo false]) []))) (
          none)
       else
        cl ((bodyOf E 65 0) = (bodyOf E 65 0) ∧ LeSt ({ fr := [V.sc (Value.string s), V.junk, V.junk, V.junk, i64 0, i64 0, i64 0] ++ jk 54, H := hp [], nx := 0, rt := 0, me := 65 }) (S1)) (
         some (Ans.c (CRes.ret (V.tup [i64 0, bo false]) []))) (
         none)
      else
       none
   else
    none
  else
   if ((0 : Int) == ((ByteArray.size s : Nat) : Int)) = true then
    some (Ans.c (CRes.ret (V.tup [i64 0, bo false]) []))
   else
    if (0 : Int) ≤ (0 : Int) ∧ (0 : Int) < ((ByteArray.size s : Nat) : Int) then
     if (↑(UInt8.toNat (List.getD (Array.toList (ByteArray.data s)) 0 (0 : UInt8))) == (48 : Int)) = true then
      if decide (((ByteArray.size s : Nat) : Int) > (1 : Int)) = true then
       some (Ans.c (CRes.ret (V.tup [i64 0, bo false]) []))
      else
       cl ((bodyOf E 65 0) = (bodyOf E 65 0) ∧ LeSt ({ fr := [V.sc (Value.string s), V.junk, V.junk, V.junk, i64 0, i64 0, i64 0] ++ jk 54, H := hp [], nx := 0, rt := 0, me := 65 }) (S1)) (
        some (Ans.c (CRes.ret (V.tup [i64 0, bo false]) []))) (
        none)
     else
      cl ((bodyOf E 65 0) = (bodyOf E 65 0) ∧ LeSt ({ fr := [V.sc (Value.string s), V.junk, V.junk, V.junk, i64 0, i64 0, i64 0] ++ jk 54, H := hp [], nx := 0, rt := 0, me := 65 }) (S1)) (
       some (Ans.c (CRes.ret (V.tup [i64 0, bo false]) []))) (
       none)
    else
     none := by kernel_rfl
/-- One more digit. -/
def nstep (v : Int) (c : Nat) : Int := if 2147483648 < 10 * v + ((c : Int) - 48) then 2147483648 else 10 * v + ((c : Int) - 48)
/-- Digits to a number, at most 2147483648. -/
def dg : List UInt8 → Int → Option Int
  | [], v => some v
  | c :: l, v => if c.toNat < 48 ∨ 57 < c.toNat then none else dg l (nstep v c.toNat)
theorem nstep_in {v : Int} {c : Nat} (h0 : 0 ≤ v) (h1 : v ≤ 2147483648) (h2 : 48 ≤ c) (h3 : c ≤ 57) : 0 ≤ nstep v c ∧ nstep v c ≤ 2147483648 := by
  unfold nstep; split <;> omega
theorem wrap8 {n : Int} (h : 0 ≤ n ∧ n ≤ 255) : IntKind.wrap IntKind.u8 n = n := by
  simp [IntKind.wrap, IntKind.bits, IntKind.signed]; omega
theorem nstep_eq {v : Int} {c : Nat} (h0 : 0 ≤ v) (h1 : v ≤ 2147483648) (h2 : 48 ≤ c) (h3 : c ≤ 57) :
    (if (2147483648 : Int) < w (w ((10 : Int) * v) + w (IntKind.wrap IntKind.u8 ((c : Int) - (48 : Int)))) then (2147483648 : Int) else w (w ((10 : Int) * v) + w (IntKind.wrap IntKind.u8 ((c : Int) - (48 : Int))))) = nstep v c := by
  rw [wrap8 (by omega), w_in (n := 10 * v) (by unfold inR; omega), w_in (n := (c : Int) - 48) (by unfold inR; omega), w_in (by unfold inR; omega)]
  rfl
theorem dg_in : ∀ {l : List UInt8} {v r : Int}, 0 ≤ v → v ≤ 2147483648 → dg l v = some r → 0 ≤ r ∧ r ≤ 2147483648
  | [], v, r, h0, h1, h => by cases h; exact ⟨h0, h1⟩
  | c :: l, v, r, h0, h1, h => by
    unfold dg at h
    split at h
    · cases h
    · obtain ⟨a, b⟩ := nstep_in (v := v) (c := c.toNat) h0 h1 (by omega) (by omega)
      exact dg_in a b h
theorem at_k {p : ByteArray} {k : Nat} (h : k < p.size) : ∃ c, p.data.toList.drop k = c :: p.data.toList.drop (k + 1) ∧ List.getD (Array.toList (ByteArray.data p)) (Int.toNat (k : Int)) (0 : UInt8) = c := by
  have h' : k < p.data.toList.length := by rw [Array.length_toList]; exact h
  refine ⟨p.data.toList[k], List.drop_eq_getElem_cons h', ?_⟩
  rw [Int.toNat_natCast, List.getD_eq_getElem?_getD, List.getElem?_eq_getElem h']; rfl
theorem at_end {p : ByteArray} {k : Nat} (h : ¬ k < p.size) : p.data.toList.drop k = [] := by
  apply List.drop_eq_nil_of_le
  rw [Array.length_toList]; exact Nat.not_lt.1 h
set_option maxRecDepth 100000 in
theorem loop46 (p : ByteArray) (g : Bool) (hp : p.size ≤ 1000) : ∀ (n k : Nat) (v : Int), p.size - k = n → 0 ≤ v → v ≤ 2147483648 →
    (∀ r, dg (p.data.toList.drop k) v = some r → SL E (bodyOf E 46 0) (SA p g v k) (.exit 0) (TA g r)) ∧ (dg (p.data.toList.drop k) v = none → SL E (bodyOf E 46 0) (SA p g v k) .ret TAr) := by
  intro n
  induction n with
  | zero =>
    intro k v hn h0 h1
    have hk' : ¬ k < p.size := by omega
    rw [at_end hk']
    refine ⟨fun r hr => ?_, fun hr => by cases hr⟩
    cases hr
    exact SL.by (m := 96) sCX hX ltab_nil ((r46x_e p g v k).trans (by rw [if_neg (by simpa using hk')]; rfl))
  | succ n ih =>
    intro k v hn h0 h1
    have hk' : k < p.size := by omega
    obtain ⟨c, e1, e2⟩ := at_k hk'
    have hk : decide ((k : Int) < (p.size : Int)) = true := by simpa using hk'
    have hb : (0 : Int) ≤ (k : Int) ∧ (k : Int) < (p.size : Int) := by omega
    rw [e1]
    unfold dg
    by_cases hc : c.toNat < 48 ∨ 57 < c.toNat
    · rw [if_pos hc]
      refine ⟨fun r hr => (by cases hr), fun _ => ?_⟩
      refine SL.by (m := 12) sCX hX ltab_nil ((r46r_e p g v k).trans ?_)
      rw [e2, if_pos hk, if_pos hb]
      by_cases hc1 : c.toNat < 48
      · rw [if_pos (by simp; omega)]; rfl
      · rw [if_neg (by simp; omega), if_pos (by simp; omega)]; rfl
    · rw [if_neg hc]
      obtain ⟨i0, i1⟩ := nstep_in (v := v) (c := c.toNat) h0 h1 (by omega) (by omega)
      have key := ih (k + 1) (nstep v c.toNat) (by omega) i0 i1
      have ew : w ((k : Int) + 1) = ((k + 1 : Nat) : Int) := by rw [w_in (by unfold inR; omega)]; omega
      refine ⟨fun r hr => ?_, fun hr => ?_⟩
      · refine SL.by (m := 96) sCX hX (ltab_cons (x := ⟨bodyOf E 46 0, _, .exit 0, TA g r⟩) (key.1 r hr) ltab_nil) ((r46x p g v r k _).trans ?_)
        rw [e2, if_pos hk, if_pos hb, if_neg (by simp; omega), if_neg (by simp; omega), nstep_eq h0 h1 (by omega) (by omega), ew, cl_pos ⟨rfl, LeSt.refl _⟩]; rfl
      · refine SL.by (m := 12) sCX hX (ltab_cons (x := ⟨bodyOf E 46 0, _, .ret, TAr⟩) (key.2 hr) ltab_nil) ((r46r p g v k _).trans ?_)
        rw [e2, if_pos hk, if_pos hb, if_neg (by simp; omega), if_neg (by simp; omega), nstep_eq h0 h1 (by omega) (by omega), ew, cl_pos ⟨rfl, LeSt.refl _⟩]; rfl
set_option maxRecDepth 100000 in
theorem loop65 (p : ByteArray) (g : Int) (hp : p.size ≤ 1000) : ∀ (n k : Nat) (v : Int), p.size - k = n → 0 ≤ v → v ≤ 2147483648 →
    (∀ r, dg (p.data.toList.drop k) v = some r → SL E (bodyOf E 65 0) (SB p g v k) (.exit 0) (TB g r)) ∧ (dg (p.data.toList.drop k) v = none → SL E (bodyOf E 65 0) (SB p g v k) .ret TBr) := by
  intro n
  induction n with
  | zero =>
    intro k v hn h0 h1
    have hk' : ¬ k < p.size := by omega
    rw [at_end hk']
    refine ⟨fun r hr => ?_, fun hr => by cases hr⟩
    cases hr
    exact SL.by (m := 48) sCX hX ltab_nil ((r65x_e p g v k).trans (by rw [if_neg (by simpa using hk')]; rfl))
  | succ n ih =>
    intro k v hn h0 h1
    have hk' : k < p.size := by omega
    obtain ⟨c, e1, e2⟩ := at_k hk'
    have hk : decide ((k : Int) < (p.size : Int)) = true := by simpa using hk'
    have hb : (0 : Int) ≤ (k : Int) ∧ (k : Int) < (p.size : Int) := by omega
    rw [e1]
    unfold dg
    by_cases hc : c.toNat < 48 ∨ 57 < c.toNat
    · rw [if_pos hc]
      refine ⟨fun r hr => (by cases hr), fun _ => ?_⟩
      refine SL.by (m := 12) sCX hX ltab_nil ((r65r_e p g v k).trans ?_)
      rw [e2, if_pos hk, if_pos hb]
      by_cases hc1 : c.toNat < 48
      · rw [if_pos (by simp; omega)]; rfl
      · rw [if_neg (by simp; omega), if_pos hb, if_pos (by simp; omega)]; rfl
    · rw [if_neg hc]
      obtain ⟨i0, i1⟩ := nstep_in (v := v) (c := c.toNat) h0 h1 (by omega) (by omega)
      have key := ih (k + 1) (nstep v c.toNat) (by omega) i0 i1
      have ew : w ((k : Int) + 1) = ((k + 1 : Nat) : Int) := by rw [w_in (by unfold inR; omega)]; omega
      refine ⟨fun r hr => ?_, fun hr => ?_⟩
      · refine SL.by (m := 48) sCX hX (ltab_cons (x := ⟨bodyOf E 65 0, _, .exit 0, TB g r⟩) (key.1 r hr) ltab_nil) ((r65x p g v r k _).trans ?_)
        rw [e2, if_pos hk, if_pos hb, if_neg (by simp; omega), if_pos hb, if_neg (by simp; omega), if_pos hb, nstep_eq h0 h1 (by omega) (by omega), ew, cl_pos ⟨rfl, LeSt.refl _⟩]; rfl
      · refine SL.by (m := 12) sCX hX (ltab_cons (x := ⟨bodyOf E 65 0, _, .ret, TBr⟩) (key.2 hr) ltab_nil) ((r65r p g v k _).trans ?_)
        rw [e2, if_pos hk, if_pos hb, if_neg (by simp; omega), if_pos hb, if_neg (by simp; omega), if_pos hb, nstep_eq h0 h1 (by omega) (by omega), ew, cl_pos ⟨rfl, LeSt.refl _⟩]; rfl
/-- What a text says as a number. -/
def numS (s : ByteArray) : Option Int := match (nbody s).data.toList with
  | [] => none
  | c :: t => if c.toNat = 48 ∧ 1 < s.size then none else (dg (c :: t) 0).map fun r => if nneg s then -r else r
def nV (s : ByteArray) : Int := (numS s).getD 0
def nB (s : ByteArray) : Bool := (numS s).isSome
theorem body_size (s : ByteArray) : (nbody s).size ≤ s.size := by
  rw [Lib.size_eq, Lib.size_eq]
  unfold nbody Lib.trimPrefix
  split
  · simp
  · simp
theorem toList_data (s : ByteArray) : s.toList = s.data.toList := ByteArray.toList_eq s
theorem beq_nil {s : ByteArray} {c : UInt8} {t : List UInt8} (h : s.data.toList = c :: t) : ¬ (ByteArray.toList s == ByteArray.toList { data := #[] }) = true := by
  rw [toList_data, toList_data, h]; simp
theorem beq_nil' {s : ByteArray} (h : s.data.toList = []) : (ByteArray.toList s == ByteArray.toList { data := #[] }) = true := by
  rw [toList_data, toList_data, h]; simp
theorem getD0 {s : ByteArray} {c : UInt8} {t : List UInt8} (h : s.data.toList = c :: t) : List.getD (Array.toList (ByteArray.data s)) 0 (0 : UInt8) = c := by rw [h]; rfl
theorem sz_cons {s : ByteArray} {c : UInt8} {t : List UInt8} (h : s.data.toList = c :: t) : s.size = t.length + 1 := by rw [Lib.size_eq, h]; rfl
set_option maxRecDepth 100000 in
theorem number46 {s : ByteArray} (hs : s.size ≤ 1000) : SC E 46 [st s] [] (.ret (.tup [i64 (nV s), bo (nB s)]) []) := by
  have hz := body_size s
  have hl := loop46 (nbody s) (nneg s) (by omega) _ 0 0 rfl (by omega) (by omega)
  rw [List.drop_zero] at hl
  unfold nV nB numS
  cases hd : dg (nbody s).data.toList 0 with
  | none =>
    refine SC.of hW hX sCX (ltab_cons (x := ⟨bodyOf E 46 0, _, .ret, TAr⟩) (hl.2 hd) ltab_nil) ((f46r s _).trans ?_)
    cases hB : (nbody s).data.toList with
    | nil => rw [hB] at hd; cases hd
    | cons c t =>
      rw [hB] at hd
      have := sz_cons hB
      rw [if_neg (beq_nil hB), if_pos (by omega), List.getD_cons_zero]
      by_cases h48 : c.toNat = 48
      · rw [if_pos (by simp; omega)]
        by_cases h1 : 1 < s.size
        · rw [if_pos (by simp; omega)]
          simp only [if_pos (And.intro h48 h1)]; rfl
        · rw [if_neg (by simp; omega), cl_pos ⟨rfl, LeSt.refl _⟩]
          simp only [if_neg (show ¬ (c.toNat = 48 ∧ 1 < s.size) from fun h => h1 h.2), hd]; rfl
      · rw [if_neg (by simp; omega), cl_pos ⟨rfl, LeSt.refl _⟩]
        simp only [if_neg (show ¬ (c.toNat = 48 ∧ 1 < s.size) from fun h => h48 h.1), hd]; rfl
  | some r =>
    obtain ⟨r0, r1⟩ := dg_in (by omega) (by omega) hd
    have ew : w (0 - r) = -r := by rw [w_in (by unfold inR; omega)]; omega
    refine SC.of hW hX sCX (ltab_cons (x := ⟨bodyOf E 46 0, _, .exit 0, TA (nneg s) r⟩) (hl.1 r hd) ltab_nil) ((f46x s (nneg s) r _).trans ?_)
    have fin : ∀ A : Option Ans, (if nneg s = true then some (Ans.c (CRes.ret (V.tup [i64 (w ((0 : Int) - r)), bo true]) [])) else some (Ans.c (CRes.ret (V.tup [i64 r, bo true]) []))) = some (Ans.c (CRes.ret (V.tup [i64 (((dg (nbody s).data.toList 0).map fun r => if nneg s then -r else r).getD 0), bo ((dg (nbody s).data.toList 0).map fun r => if nneg s then -r else r).isSome]) [])) := by
      intro _
      rw [hd, ew]
      cases nneg s <;> rfl
    cases hB : (nbody s).data.toList with
    | nil => rw [if_pos (beq_nil' hB)]; rfl
    | cons c t =>
      have := sz_cons hB
      rw [hB] at fin
      rw [if_neg (beq_nil hB), if_pos (by omega), List.getD_cons_zero]
      by_cases h48 : c.toNat = 48
      · rw [if_pos (by simp; omega)]
        by_cases h1 : 1 < s.size
        · rw [if_pos (by simp; omega)]
          simp only [if_pos (And.intro h48 h1)]; rfl
        · rw [if_neg (by simp; omega), cl_pos ⟨rfl, LeSt.refl _⟩, fin none]
          simp only [if_neg (show ¬ (c.toNat = 48 ∧ 1 < s.size) from fun h => h1 h.2)]
      · rw [if_neg (by simp; omega), cl_pos ⟨rfl, LeSt.refl _⟩, fin none]
        simp only [if_neg (show ¬ (c.toNat = 48 ∧ 1 < s.size) from fun h => h48 h.1)]
theorem body_nil {s : ByteArray} (h : s.data.toList = []) : (nbody s).data.toList = [] := by
  unfold nbody Lib.trimPrefix Lib.hasPrefix; rw [h]; simp
theorem body_neg {s : ByteArray} {t : List UInt8} (h : s.data.toList = 45 :: t) : (nbody s).data.toList = t ∧ nneg s = true := by
  unfold nbody nneg Lib.trimPrefix Lib.hasPrefix; rw [h]; simp [List.isPrefixOf]
theorem body_pos {s : ByteArray} {c : UInt8} {t : List UInt8} (h : s.data.toList = c :: t) (hc : c ≠ 45) : (nbody s).data.toList = c :: t ∧ nneg s = false := by
  unfold nbody nneg Lib.trimPrefix Lib.hasPrefix; rw [h]
  have : ((45 : UInt8) == c) = false := by simpa using fun e => hc e.symm
  simp [List.isPrefixOf, this]
theorem getD1 {s : ByteArray} {c d : UInt8} {t : List UInt8} (h : s.data.toList = c :: d :: t) : List.getD (Array.toList (ByteArray.data s)) 1 (0 : UInt8) = d := by rw [h]; rfl
set_option maxRecDepth 100000 in
theorem number65 {s : ByteArray} (hs : s.size ≤ 1000) : SC E 65 [st s] [] (.ret (.tup [i64 (nV s), bo (nB s)]) []) := by
  unfold nV nB numS
  cases hl : s.data.toList with
  | nil =>
    have h0 : s.size = 0 := by rw [Lib.size_eq, hl]; rfl
    have f := (loop65 s 0 hs _ 0 0 rfl (by omega) (by omega)).1 0 (by rw [hl]; rfl)
    refine SC.of hW hX sCX (ltab_cons (x := ⟨bodyOf E 65 0, _, .exit 0, TB 0 0⟩) f ltab_nil) ((f65x s 0 0 _).trans ?_)
    rw [if_neg (by rw [h0]; decide), if_pos (by rw [h0]; decide), body_nil hl]; rfl
  | cons c t =>
    have hz := sz_cons hl
    by_cases hc : c = 45
    · subst hc
      obtain ⟨hB, hg⟩ := body_neg hl
      rw [hB, hg]
      have f := loop65 s 1 hs _ 1 0 rfl (by omega) (by omega)
      rw [hl] at f
      simp only [List.drop_succ_cons, List.drop_zero] at f
      cases hd : dg t 0 with
      | none =>
        refine SC.of hW hX sCX (ltab_cons (x := ⟨bodyOf E 65 0, _, .ret, TBr⟩) (f.2 hd) ltab_nil) ((f65r s _).trans ?_)
        rw [if_pos (by simp; omega), if_pos (by omega), getD0 hl, if_pos (by decide)]
        cases t with
        | nil => rw [if_pos (by simp; simp at hz; omega)]; rfl
        | cons d t =>
          simp only [List.length_cons] at hz
          rw [if_neg (by simp; omega), if_pos (by omega), getD1 hl]
          by_cases h48 : d.toNat = 48
          · rw [if_pos (by simp; omega), if_pos (by simp; omega)]
            simp only [if_pos (show d.toNat = 48 ∧ 1 < s.size from ⟨h48, by omega⟩)]; rfl
          · rw [if_neg (by simp; omega), cl_pos ⟨rfl, LeSt.refl _⟩]
            simp only [if_neg (show ¬ (d.toNat = 48 ∧ 1 < s.size) from fun h => h48 h.1), hd]; rfl
      | some r =>
        obtain ⟨r0, r1⟩ := dg_in (by omega) (by omega) hd
        have ew : w (0 - r) = -r := by rw [w_in (by unfold inR; omega)]; omega
        refine SC.of hW hX sCX (ltab_cons (x := ⟨bodyOf E 65 0, _, .exit 0, TB 1 r⟩) (f.1 r hd) ltab_nil) ((f65x s 1 r _).trans ?_)
        rw [if_pos (by simp; omega), if_pos (by omega), getD0 hl, if_pos (by decide)]
        cases t with
        | nil => rw [if_pos (by simp; simp at hz; omega)]; rfl
        | cons d t =>
          simp only [List.length_cons] at hz
          rw [if_neg (by simp; omega), if_pos (by omega), getD1 hl]
          by_cases h48 : d.toNat = 48
          · rw [if_pos (by simp; omega), if_pos (by simp; omega)]
            simp only [if_pos (show d.toNat = 48 ∧ 1 < s.size from ⟨h48, by omega⟩)]; rfl
          · rw [if_neg (by simp; omega), cl_pos ⟨rfl, LeSt.refl _⟩, if_pos (by decide), ew]
            simp only [if_neg (show ¬ (d.toNat = 48 ∧ 1 < s.size) from fun h => h48 h.1), hd]; rfl
    · obtain ⟨hB, hg⟩ := body_pos hl hc
      rw [hB, hg]
      have hcn : c.toNat ≠ 45 := fun h => hc (UInt8.toNat_inj.1 (by rw [h]; rfl))
      have f := loop65 s 0 hs _ 0 0 rfl (by omega) (by omega)
      rw [hl] at f
      simp only [List.drop_zero] at f
      cases hd : dg (c :: t) 0 with
      | none =>
        refine SC.of hW hX sCX (ltab_cons (x := ⟨bodyOf E 65 0, _, .ret, TBr⟩) (f.2 hd) ltab_nil) ((f65r s _).trans ?_)
        rw [if_pos (by simp; omega), if_pos (by omega), getD0 hl, if_neg (by simp; omega), if_neg (by simp; omega), if_pos (by omega)]
        by_cases h48 : c.toNat = 48
        · rw [if_pos (by simp; omega)]
          by_cases h1 : 1 < s.size
          · rw [if_pos (by simp; omega)]
            simp only [if_pos (And.intro h48 h1)]; rfl
          · rw [if_neg (by simp; omega), cl_pos ⟨rfl, LeSt.refl _⟩]
            simp only [if_neg (show ¬ (c.toNat = 48 ∧ 1 < s.size) from fun h => h1 h.2), hd]; rfl
        · rw [if_neg (by simp; omega), cl_pos ⟨rfl, LeSt.refl _⟩]
          simp only [if_neg (show ¬ (c.toNat = 48 ∧ 1 < s.size) from fun h => h48 h.1), hd]; rfl
      | some r =>
        refine SC.of hW hX sCX (ltab_cons (x := ⟨bodyOf E 65 0, _, .exit 0, TB 0 r⟩) (f.1 r hd) ltab_nil) ((f65x s 0 r _).trans ?_)
        rw [if_pos (by simp; omega), if_pos (by omega), getD0 hl, if_neg (by simp; omega), if_neg (by simp; omega), if_pos (by omega)]
        by_cases h48 : c.toNat = 48
        · rw [if_pos (by simp; omega)]
          by_cases h1 : 1 < s.size
          · rw [if_pos (by simp; omega)]
            simp only [if_pos (And.intro h48 h1)]; rfl
          · rw [if_neg (by simp; omega), cl_pos ⟨rfl, LeSt.refl _⟩, if_neg (by decide)]
            simp only [if_neg (show ¬ (c.toNat = 48 ∧ 1 < s.size) from fun h => h1 h.2), hd]; rfl
        · rw [if_neg (by simp; omega), cl_pos ⟨rfl, LeSt.refl _⟩, if_neg (by decide)]
          simp only [if_neg (show ¬ (c.toNat = 48 ∧ 1 < s.size) from fun h => h48 h.1), hd]; rfl
end Go.Proofs.YtnjpgkaignfcaaaDoor
