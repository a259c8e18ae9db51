/- LexerCover and LexerSpaces, walked. -/
import Derived.Test.YtphncipfcekilaaWb
namespace Go.Proofs.Ytphncipfcekilaa
open Go Go.Am Go.Proofs Lx
set_option linter.unusedSimpArgs false
set_option linter.unusedVariables false
def K : CRes → Option Ans := fun r => some (.c r)
def L0 : LoopT := fun _ _ _ _ _ => none
def w (n : Int) : Int := IntKind.wrap IntKind.i64 n
theorem w_in {n : Int} (h : inR n) : w n = n := by
  unfold inR at h
  simp [w, IntKind.wrap, IntKind.bits, IntKind.signed]; omega
noncomputable def CA : CallT := tab [(24, fun args L k => callG E13 20 24 args L k)]
theorem sG (f : FuncId) : OkT E13 f (fun args L k => callG E13 20 f args L k) := fun args L k r h => (sound_G hW hX 20).1 f args L k r h
theorem sCA : SoundC E13 CA := tab_cons (sG 24) tab_nil
noncomputable def CL : CallT := ptab 10 QLiv vLiv (tab [(12, fun args L k => callG E13 20 12 args L k)])
theorem sCL : SoundC E13 CL := ptab_cons liv_sc (tab_cons (sG 12) tab_nil)
noncomputable def skp (s : ByteArray) (k : Int) : Int := ((skipTo s k.toNat : Nat) : Int)
noncomputable def vSkip : List V → V
  | [.sc (.string s), .sc (.int .i64 k)] => i64 (skp s k)
  | _ => .junk
def QSkip (args : List V) : Prop := ∃ (s : ByteArray) (k : Nat), args = [st s, i64 (k : Int)] ∧ k ≤ s.size ∧ s.size ≤ 4000
def t13 : Tab1
  | [], [], k => k (.ret (bo true) [])
  | _, _, _ => none
noncomputable def CT : CallT := ptab 10 QTok vTok (ptab 14 QSkip vSkip (tab [(13, t13)]))
noncomputable def tkF (s : ByteArray) : Nat → List V := fun j => [i64 (tkk s j), i64 (tka s j), st (tkt s j), i64 (tkn s j)]
def SS (s : ByteArray) (k : Nat) (c : Bool) : St := { fr := [st s, i64 k, .junk, .junk, .junk, bo c] ++ jk 20, H := hp [], nx := 0, rt := 0, me := 14 }
def TS (k : Nat) : St := { fr := [.junk, i64 k] ++ jk 24, H := hp [], nx := 0, rt := 0, me := 14 }
def TSr (k : Nat) : St := { fr := [.junk, .junk, .junk, .junk, i64 k] ++ jk 21, H := hp [], nx := 0, rt := 0, me := 14 }
noncomputable def SC4 (s : ByteArray) (at_ : Int) (i : Nat) : St := { fr := [st s, .junk, .junk, .ro 4 (tkN s) (tkF s), .junk, .junk, i64 at_, i64 i] ++ jk 101, H := hp [], nx := 0, rt := 0, me := 4 }
noncomputable def TC4 (s : ByteArray) (at_ : Int) : St := { fr := [st s, .junk, .junk, .ro 4 (tkN s) (tkF s), .junk, .junk, i64 at_] ++ jk 102, H := hp [], nx := 0, rt := 0, me := 4 }
def TC4r : St := { fr := [.junk, .junk, bo false] ++ jk 106, H := hp [], nx := 0, rt := 0, me := 4 }
noncomputable def SD5 (s wd : ByteArray) (i : Nat) : St := { fr := [.junk, .junk, .junk, .ro 4 (tkN s) (tkF s), .junk, .junk, st wd, i64 i] ++ jk 98, H := hp [], nx := 0, rt := 0, me := 5 }
noncomputable def TD5 (s wd : ByteArray) : St := { fr := [.junk, .junk, .junk, .ro 4 (tkN s) (tkF s), .junk, .junk, st wd] ++ jk 99, H := hp [], nx := 0, rt := 0, me := 5 }
noncomputable def SE5 (s s' : ByteArray) (i : Nat) : St := { fr := [.junk, .junk, .junk, .ro 4 (tkN s) (tkF s), .junk, .junk, .junk, .junk, .ro 4 (tkN s') (tkF s'), .junk, .junk, i64 i] ++ jk 94, H := hp [], nx := 0, rt := 0, me := 5 }
def TE5 : St := { fr := jk 106, H := hp [], nx := 0, rt := 0, me := 5 }
def TE5r : St := { fr := [.junk, .junk, bo false] ++ jk 103, H := hp [], nx := 0, rt := 0, me := 5 }
theorem f13  : callK E13 CL L0 13 [] [] K =
  cl (QLiv ([V.sc (Value.string { data := #[(120 : UInt8), (60 : UInt8), (61 : UInt8), (49 : UInt8), (48 : UInt8), (32 : UInt8), (35 : UInt8), (32 : UInt8), (121 : UInt8)] })]) ∧ ([] : List (Option Chunk)) = []) (
   cl (QLiv ([V.sc (Value.string { data := #[(97 : UInt8), (38 : UInt8), (98 : UInt8)] })]) ∧ ([] : List (Option Chunk)) = []) (
    cl (QLiv ([V.sc (Value.string { data := #[(48 : UInt8), (48 : UInt8), (55 : UInt8)] })]) ∧ ([] : List (Option Chunk)) = []) (
     cl (QLiv ([V.sc (Value.string { data := #[(49 : UInt8), (32 : UInt8), (50 : UInt8), (49 : UInt8), (52 : UInt8), (55 : UInt8), (52 : UInt8), (56 : UInt8), (51 : UInt8), (54 : UInt8), (52 : UInt8), (56 : UInt8)] })]) ∧ ([] : List (Option Chunk)) = []) (
      some (Ans.c (CRes.ret (bo (((5 : Int) == (5 : Int)))) []))) (
      none)) (
     none)) (
    none)) (
   none) := by kernel_rfl
theorem r14 (s : ByteArray) (k : Nat) (c : Bool) (lo : LoopT) : loopK E13 CA lo 0 35 (bodyOf E13 14 0) (SS s k c) (KC2 2 16) =
  if decide ((k : Int) < ((ByteArray.size s : Nat) : Int)) = true then
   if (0 : Int) ≤ (k : Int) ∧ (k : Int) < ((ByteArray.size s : Nat) : Int) then
    if c = true then
     lo 0 35 (bodyOf E13 14 0) ({ fr := [V.sc (Value.string s), i64 (w ((k : Int) + (1 : Int))), V.junk, V.junk, V.junk, bo ((((UInt8.toNat (List.getD (Array.toList (ByteArray.data s)) (Int.toNat (k : Int)) (0 : UInt8)) : Nat) : Int) != (10 : Int)))] ++ jk 20, H := hp [], nx := 0, rt := 0, me := 14 }) (KC2 2 16)
    else
     if (((UInt8.toNat (List.getD (Array.toList (ByteArray.data s)) (Int.toNat (k : Int)) (0 : UInt8)) : Nat) : Int) == (35 : Int)) = true then
      lo 0 35 (bodyOf E13 14 0) ({ fr := [V.sc (Value.string s), i64 (w ((k : Int) + (1 : Int))), V.junk, V.junk, V.junk, bo true] ++ jk 20, H := hp [], nx := 0, rt := 0, me := 14 }) (KC2 2 16)
     else
      if (((UInt8.toNat (List.getD (Array.toList (ByteArray.data s)) (Int.toNat (k : Int)) (0 : UInt8)) : Nat) : Int) == (32 : Int)) = true then
       lo 0 35 (bodyOf E13 14 0) ({ fr := [V.sc (Value.string s), i64 (w ((k : Int) + (1 : Int))), V.junk, V.junk, V.junk, bo (c)] ++ jk 20, H := hp [], nx := 0, rt := 0, me := 14 }) (KC2 2 16)
      else
       if (((UInt8.toNat (List.getD (Array.toList (ByteArray.data s)) (Int.toNat (k : Int)) (0 : UInt8)) : Nat) : Int) == (9 : Int)) = true then
        lo 0 35 (bodyOf E13 14 0) ({ fr := [V.sc (Value.string s), i64 (w ((k : Int) + (1 : Int))), V.junk, V.junk, V.junk, bo (c)] ++ jk 20, H := hp [], nx := 0, rt := 0, me := 14 }) (KC2 2 16)
       else
        if (((UInt8.toNat (List.getD (Array.toList (ByteArray.data s)) (Int.toNat (k : Int)) (0 : UInt8)) : Nat) : Int) == (10 : Int)) = true then
         lo 0 35 (bodyOf E13 14 0) ({ fr := [V.sc (Value.string s), i64 (w ((k : Int) + (1 : Int))), V.junk, V.junk, V.junk, bo (c)] ++ jk 20, H := hp [], nx := 0, rt := 0, me := 14 }) (KC2 2 16)
        else
         if (!((UInt8.toNat (List.getD (Array.toList (ByteArray.data s)) (Int.toNat (k : Int)) (0 : UInt8)) : Nat) : Int) == (13 : Int)) = true then
          some (Ans.l Ex.ret { fr := [V.junk, V.junk, V.junk, V.junk, i64 (k : Int)] ++ jk 21, H := hp [], nx := 0, rt := 0, me := 14 })
         else
          lo 0 35 (bodyOf E13 14 0) ({ fr := [V.sc (Value.string s), i64 (w ((k : Int) + (1 : Int))), V.junk, V.junk, V.junk, bo (c)] ++ jk 20, H := hp [], nx := 0, rt := 0, me := 14 }) (KC2 2 16)
   else
    none
  else
   some (Ans.l (Ex.exit 0) { fr := [V.junk, i64 (k : Int)] ++ jk 24, H := hp [], nx := 0, rt := 0, me := 14 }) := by kernel_rfl
theorem f14 (s : ByteArray) (k m : Nat) (S1 : St) (P : Prop) : callK E13 CA (ltab2 [⟨0, bodyOf E13 14 0, S1, P, .exit 0, TS m, .ret, TSr m⟩]) 14 [st s, i64 k] [] K =
  cl ((bodyOf E13 14 0) = (bodyOf E13 14 0) ∧ LeSt ({ fr := [V.sc (Value.string s), i64 (k : Int), V.junk, V.junk, V.junk, bo false] ++ jk 20, H := hp [], nx := 0, rt := 0, me := 14 }) (S1)) (
   cl (P) (
    some (Ans.c (CRes.ret (i64 (m : Int)) []))) (
    some (Ans.c (CRes.ret (i64 (m : Int)) [])))) (
   none) := by kernel_rfl
theorem r4 (s : ByteArray) (p : Int) (i : Nat) (lo : LoopT) : loopK E13 CT lo 0 201 (bodyOf E13 4 0) (SC4 s p i) (KC2 73 4) =
  if decide ((i : Int) < ((tkN s : Nat) : Int)) = true then
   if (0 : Int) ≤ (i : Int) ∧ (i : Int) < ((tkN s : Nat) : Int) then
    if (tka s (Int.toNat (i : Int)) != p) = true then
     some (Ans.l Ex.ret { fr := [V.junk, V.junk, bo false] ++ jk 106, H := hp [], nx := 0, rt := 0, me := 4 })
    else
     if decide (tka s (Int.toNat (i : Int)) > ((ByteArray.size s : Nat) : Int)) = true then
      some (Ans.l Ex.ret { fr := [V.junk, V.junk, bo false] ++ jk 106, H := hp [], nx := 0, rt := 0, me := 4 })
     else
      if decide (((ByteArray.size (tkt s (Int.toNat (i : Int))) : Nat) : Int) > w (((ByteArray.size s : Nat) : Int) - tka s (Int.toNat (i : Int)))) = true then
       some (Ans.l Ex.ret { fr := [V.junk, V.junk, bo false] ++ jk 106, H := hp [], nx := 0, rt := 0, me := 4 })
      else
       if (0 : Int) ≤ tka s (Int.toNat (i : Int)) ∧ tka s (Int.toNat (i : Int)) ≤ w (tka s (Int.toNat (i : Int)) + ((ByteArray.size (tkt s (Int.toNat (i : Int))) : Nat) : Int)) ∧ w (tka s (Int.toNat (i : Int)) + ((ByteArray.size (tkt s (Int.toNat (i : Int))) : Nat) : Int)) ≤ ((ByteArray.size s : Nat) : Int) then
        if (!ByteArray.toList (ByteArray.extract s (Int.toNat (tka s (Int.toNat (i : Int)))) (Int.toNat (w (tka s (Int.toNat (i : Int)) + ((ByteArray.size (tkt s (Int.toNat (i : Int))) : Nat) : Int))))) == ByteArray.toList (tkt s (Int.toNat (i : Int)))) = true then
         some (Ans.l Ex.ret { fr := [V.junk, V.junk, bo false] ++ jk 106, H := hp [], nx := 0, rt := 0, me := 4 })
        else
         if (!(tkk s (Int.toNat (i : Int)) == (0 : Int)) == ((i : Int) == w (((tkN s : Nat) : Int) - (1 : Int)))) = true then
          some (Ans.l Ex.ret { fr := [V.junk, V.junk, bo false] ++ jk 106, H := hp [], nx := 0, rt := 0, me := 4 })
         else
          if (!(tkk s (Int.toNat (i : Int)) == (0 : Int)) == (ByteArray.toList (tkt s (Int.toNat (i : Int))) == ByteArray.toList { data := #[] })) = true then
           some (Ans.l Ex.ret { fr := [V.junk, V.junk, bo false] ++ jk 106, H := hp [], nx := 0, rt := 0, me := 4 })
          else
           cl (QSkip ([V.sc (Value.string s), i64 (w (p + ((ByteArray.size (tkt s (Int.toNat (i : Int))) : Nat) : Int)))]) ∧ ([] : List (Option Chunk)) = []) (
            lo 0 201 (bodyOf E13 4 0) ({ fr := [V.sc (Value.string s), V.junk, V.junk, V.ro 4 (tkN s) (tkF s), V.junk, V.junk, i64 (skp s (w (p + ((ByteArray.size (tkt s (Int.toNat (i : Int))) : Nat) : Int)))), i64 (w ((i : Int) + (1 : Int)))] ++ jk 101, H := hp [], nx := 0, rt := 0, me := 4 }) (KC2 73 4)) (
            none)
       else
        none
   else
    none
  else
   some (Ans.l (Ex.exit 0) { fr := [V.sc (Value.string s), V.junk, V.junk, V.ro 4 (tkN s) (tkF s), V.junk, V.junk, i64 p] ++ jk 102, H := hp [], nx := 0, rt := 0, me := 4 }) := by kernel_rfl
theorem f4 (s : ByteArray) (p : Int) (S1 : St) : callK E13 CT (ltab2 [⟨0, bodyOf E13 4 0, S1, True, .exit 0, TC4 s p, .ret, TC4r⟩]) 4 [st s] [] K =
  cl (QTok ([V.sc (Value.string s)]) ∧ ([] : List (Option Chunk)) = []) (
   if (tkE s != (0 : Int)) = true then
    if (((tkN s : Nat) : Int) == (0 : Int)) = true then
     some (Ans.c (CRes.ret (bo true) []))
    else
     some (Ans.c (CRes.ret (bo false) []))
   else
    cl (QSkip ([V.sc (Value.string s), i64 0]) ∧ ([] : List (Option Chunk)) = []) (
     cl ((bodyOf E13 4 0) = (bodyOf E13 4 0) ∧ LeSt ({ fr := [V.sc (Value.string s), V.junk, V.junk, V.ro 4 (tkN s) fun (j : Nat) => [i64 (tkk s j), i64 (tka s j), st (tkt s j), i64 (tkn s j)], V.junk, V.junk, i64 (skp s (0 : Int)), i64 0] ++ jk 101, H := hp [], nx := 0, rt := 0, me := 4 }) (S1)) (
      cl (True) (
       if decide (((tkN s : Nat) : Int) > (0 : Int)) = true then
        if (p == ((ByteArray.size s : Nat) : Int)) = true then
         some (Ans.c (CRes.ret (bo true) []))
        else
         some (Ans.c (CRes.ret (bo false) []))
       else
        some (Ans.c (CRes.ret (bo false) []))) (
       some (Ans.c (CRes.ret (bo false) [])))) (
      none)) (
     none)) (
   none) := by kernel_rfl
theorem f4_e (s : ByteArray) : callK E13 CT L0 4 [st s] [] K =
  cl (QTok ([V.sc (Value.string s)]) ∧ ([] : List (Option Chunk)) = []) (
   if (tkE s != (0 : Int)) = true then
    if (((tkN s : Nat) : Int) == (0 : Int)) = true then
     some (Ans.c (CRes.ret (bo true) []))
    else
     some (Ans.c (CRes.ret (bo false) []))
   else
    cl (QSkip ([V.sc (Value.string s), i64 0]) ∧ ([] : List (Option Chunk)) = []) (
     none) (
     none)) (
   none) := by kernel_rfl
theorem r5 (s wd : ByteArray) (i : Nat) (lo : LoopT) : loopK E13 CT lo 0 200 (bodyOf E13 5 0) (SD5 s wd i) (KC2 72 4) =
  if decide ((i : Int) < ((tkN s : Nat) : Int)) = true then
   if decide (((ByteArray.size wd : Nat) : Int) ≤ (4000 : Int)) = true then
    if decide ((i : Int) > (0 : Int)) = true then
     if ByteArray.size wd + 1 ≤ maxLen then
      if (0 : Int) ≤ (i : Int) ∧ (i : Int) < ((tkN s : Nat) : Int) then
       if ByteArray.size (wd ++ { data := #[(32 : UInt8)] }) + ByteArray.size (tkt s (Int.toNat (i : Int))) ≤ maxLen then
        lo 0 200 (bodyOf E13 5 0) ({ fr := [V.junk, V.junk, V.junk, V.ro 4 (tkN s) (tkF s), V.junk, V.junk, V.sc (Value.string (wd ++ { data := #[(32 : UInt8)] } ++ tkt s (Int.toNat (i : Int)))), i64 (w ((i : Int) + (1 : Int)))] ++ jk 98, H := hp [], nx := 0, rt := 0, me := 5 }) (KC2 72 4)
       else
        none
      else
       none
     else
      none
    else
     if (0 : Int) ≤ (i : Int) ∧ (i : Int) < ((tkN s : Nat) : Int) then
      if ByteArray.size wd + ByteArray.size (tkt s (Int.toNat (i : Int))) ≤ maxLen then
       lo 0 200 (bodyOf E13 5 0) ({ fr := [V.junk, V.junk, V.junk, V.ro 4 (tkN s) (tkF s), V.junk, V.junk, V.sc (Value.string (wd ++ tkt s (Int.toNat (i : Int)))), i64 (w ((i : Int) + (1 : Int)))] ++ jk 98, H := hp [], nx := 0, rt := 0, me := 5 }) (KC2 72 4)
      else
       none
     else
      none
   else
    some (Ans.l (Ex.exit 0) { fr := [V.junk, V.junk, V.junk, V.ro 4 (tkN s) (tkF s), V.junk, V.junk, V.sc (Value.string wd)] ++ jk 99, H := hp [], nx := 0, rt := 0, me := 5 })
  else
   some (Ans.l (Ex.exit 0) { fr := [V.junk, V.junk, V.junk, V.ro 4 (tkN s) (tkF s), V.junk, V.junk, V.sc (Value.string wd)] ++ jk 99, H := hp [], nx := 0, rt := 0, me := 5 }) := by kernel_rfl
theorem r5b (s s' : ByteArray) (i : Nat) (lo : LoopT) : loopK E13 CT lo 2 2312 (bodyOf E13 5 2) (SE5 s s' i) (KC2 0 4) =
  if decide ((i : Int) < ((tkN s : Nat) : Int)) = true then
   if (0 : Int) ≤ (i : Int) ∧ (i : Int) < ((tkN s' : Nat) : Int) then
    if (0 : Int) ≤ (i : Int) ∧ (i : Int) < ((tkN s : Nat) : Int) then
     if (tkk s' (Int.toNat (i : Int)) != tkk s (Int.toNat (i : Int))) = true then
      some (Ans.l Ex.ret { fr := [V.junk, V.junk, bo false] ++ jk 103, H := hp [], nx := 0, rt := 0, me := 5 })
     else
      if (0 : Int) ≤ (i : Int) ∧ (i : Int) < ((tkN s' : Nat) : Int) then
       if (0 : Int) ≤ (i : Int) ∧ (i : Int) < ((tkN s : Nat) : Int) then
        if (!ByteArray.toList (tkt s' (Int.toNat (i : Int))) == ByteArray.toList (tkt s (Int.toNat (i : Int)))) = true then
         some (Ans.l Ex.ret { fr := [V.junk, V.junk, bo false] ++ jk 103, H := hp [], nx := 0, rt := 0, me := 5 })
        else
         if (0 : Int) ≤ (i : Int) ∧ (i : Int) < ((tkN s' : Nat) : Int) then
          if (0 : Int) ≤ (i : Int) ∧ (i : Int) < ((tkN s : Nat) : Int) then
           if (tkn s' (Int.toNat (i : Int)) != tkn s (Int.toNat (i : Int))) = true then
            some (Ans.l Ex.ret { fr := [V.junk, V.junk, bo false] ++ jk 103, H := hp [], nx := 0, rt := 0, me := 5 })
           else
            lo 2 2312 (bodyOf E13 5 2) ({ fr := [V.junk, V.junk, V.junk, V.ro 4 (tkN s) (tkF s), V.junk, V.junk, V.junk, V.junk, V.ro 4 (tkN s') (tkF s'), V.junk, V.junk, i64 (w ((i : Int) + (1 : Int)))] ++ jk 94, H := hp [], nx := 0, rt := 0, me := 5 }) (KC2 0 4)
          else
           none
         else
          none
       else
        none
      else
       none
    else
     none
   else
    none
  else
   some (Ans.l (Ex.exit 2) { fr := [V.junk] ++ jk 105, H := hp [], nx := 0, rt := 0, me := 5 }) := by kernel_rfl
theorem f5 (s wd : ByteArray) (S1 S2 : St) (P2 : Prop) : callK E13 CT (ltab2 [⟨0, bodyOf E13 5 0, S1, True, .exit 0, TD5 s wd, .ret, TE5r⟩, ⟨2, bodyOf E13 5 2, S2, P2, .exit 2, TE5, .ret, TE5r⟩]) 5 [st s] [] K =
  cl (QTok ([V.sc (Value.string s)]) ∧ ([] : List (Option Chunk)) = []) (
   if (tkE s != (0 : Int)) = true then
    some (Ans.c (CRes.ret (bo true) []))
   else
    cl ((bodyOf E13 5 0) = (bodyOf E13 5 0) ∧ LeSt ({ fr := [V.junk, V.junk, V.junk, V.ro 4 (tkN s) fun (j : Nat) => [i64 (tkk s j), i64 (tka s j), st (tkt s j), i64 (tkn s j)], V.junk, V.junk, V.sc (Value.string { data := #[] }), i64 0] ++ jk 98, H := hp [], nx := 0, rt := 0, me := 5 }) (S1)) (
     cl (True) (
      if decide (((ByteArray.size wd : Nat) : Int) > (4000 : Int)) = true then
       some (Ans.c (CRes.ret (bo true) []))
      else
       cl (QTok ([V.sc (Value.string wd)]) ∧ ([] : List (Option Chunk)) = []) (
        if (tkE wd != (0 : Int)) = true then
         some (Ans.c (CRes.ret (bo false) []))
        else
         if (((tkN wd : Nat) : Int) != ((tkN s : Nat) : Int)) = true then
          some (Ans.c (CRes.ret (bo false) []))
         else
          cl ((bodyOf E13 5 2) = (bodyOf E13 5 2) ∧ LeSt ({ fr := [V.junk, V.junk, V.junk, V.ro 4 (tkN s) (tkF s), V.junk, V.junk, V.junk, V.junk, V.ro 4 (tkN wd) fun (j : Nat) => [i64 (tkk wd j), i64 (tka wd j), st (tkt wd j), i64 (tkn wd j)], V.junk, V.junk, i64 0] ++ jk 94, H := hp [], nx := 0, rt := 0, me := 5 }) (S2)) (
           cl (P2) (
            some (Ans.c (CRes.ret (bo true) []))) (
            some (Ans.c (CRes.ret (bo false) [])))) (
           none)) (
        none)) (
      some (Ans.c (CRes.ret (bo false) [])))) (
     none)) (
   none) := by kernel_rfl
theorem f5_e (s : ByteArray) : callK E13 CT L0 5 [st s] [] K =
  cl (QTok ([V.sc (Value.string s)]) ∧ ([] : List (Option Chunk)) = []) (
   if (tkE s != (0 : Int)) = true then
    some (Ans.c (CRes.ret (bo true) []))
   else
    none) (
   none) := by kernel_rfl

/-! ### The examples -/
set_option maxRecDepth 100000 in
theorem lives_sc : SC E13 13 [] [] (.ret (bo true) []) := by
  refine SC.of hW hX sCL (soundL_none E13) (f13.trans ?_)
  rw [cl_pos ⟨.inl rfl, rfl⟩, cl_pos ⟨.inr (.inl rfl), rfl⟩, cl_pos ⟨.inr (.inr (.inl rfl)), rfl⟩, cl_pos ⟨.inr (.inr (.inr rfl)), rfl⟩]
  rfl
theorem ok13 : OkT E13 13 t13 := by
  intro args L k r h
  unfold t13 at h
  split at h
  · exact ⟨_, h, lives_sc⟩
  · cases h
/-! ### Skip -/
theorem at_k {p : ByteArray} {k : Nat} (h : k < p.size) : ∃ c, p.data.toList.drop k = c :: p.data.toList.drop (k + 1) ∧ List.getD (Array.toList (ByteArray.data p)) (Int.toNat (k : Int)) (0 : UInt8) = c := by
  have h' : k < p.data.toList.length := by rw [Array.length_toList]; exact h
  refine ⟨p.data.toList[k], List.drop_eq_getElem_cons h', ?_⟩
  rw [Int.toNat_natCast, List.getD_eq_getElem?_getD, List.getElem?_eq_getElem h']; rfl
theorem at_end {p : ByteArray} {k : Nat} (h : ¬ k < p.size) : p.data.toList.drop k = [] := by
  apply List.drop_eq_nil_of_le
  rw [Array.length_toList]; exact Nat.not_lt.1 h
theorem one {c : ACode} {S T T' : St} {e e' : Ex} (id : Nat) (h : SL E13 c S e T) : SoundL E13 (ltab2 [⟨id, c, S, True, e, T, e', T'⟩]) := ltab2_cons ⟨fun _ => h, fun h => absurd trivial h⟩ ltab2_nil
theorem oneF {c : ACode} {S T T' : St} {e e' : Ex} (id : Nat) (h : SL E13 c S e' T') : SoundL E13 (ltab2 [⟨id, c, S, False, e, T, e', T'⟩]) := ltab2_cons ⟨fun h => False.elim h, fun _ => h⟩ ltab2_nil
theorem kS (m : Nat) : KC2 2 16 (.exit 0) (TS m) = some (.l (.exit 0) (TS m)) := by kernel_rfl
theorem kSr (m : Nat) : KC2 2 16 .ret (TSr m) = some (.l .ret (TSr m)) := by kernel_rfl
/-- The loop ends in one way or in the other, at the same place. -/
def endS (m : Nat) (S : St) : Prop := SL E13 (bodyOf E13 14 0) S (.exit 0) (TS m) ∨ SL E13 (bodyOf E13 14 0) S .ret (TSr m)
theorem endS_next {m : Nat} {S S' : St} (h : endS m S') (hn : ∀ lo, loopK E13 CA lo 0 35 (bodyOf E13 14 0) S (KC2 2 16) = lo 0 35 (bodyOf E13 14 0) S' (KC2 2 16)) : endS m S := by
  rcases h with h | h
  · exact .inl (SL.by2 sCA hX (one 0 (e' := .ret) (T' := TSr m) h) ((hn _).trans ((ltab2_hit (LeSt.refl _)).trans ((cl_pos trivial).trans (kS _)))))
  · exact .inr (SL.by2 sCA hX (oneF 0 (e := .exit 0) (T := TS m) h) ((hn _).trans ((ltab2_hit (LeSt.refl _)).trans ((cl_neg (fun h => h)).trans (kSr _)))))
set_option maxRecDepth 100000 in
theorem loop14 (s : ByteArray) (hs : s.size ≤ 4000) : ∀ (n k : Nat) (c : Bool), s.size - k = n → k ≤ s.size → endS (k + skipL c (s.data.toList.drop k)) (SS s k c) := by
  intro n
  induction n with
  | zero =>
    intro k c hn hk
    have hk' : ¬ k < s.size := by omega
    rw [at_end hk']
    have e : skipL c [] = 0 := by cases c <;> rfl
    rw [e]
    exact .inl (SL.by2 (m := 2) (r := 16) sCA hX ltab2_nil ((r14 s k c _).trans (by rw [if_neg (by simpa using hk')]; rfl)))
  | succ n ih =>
    intro k c hn hk
    have hk' : k < s.size := by omega
    obtain ⟨x, e1, e2⟩ := at_k hk'
    have hkd : decide ((k : Int) < (s.size : Int)) = true := by simpa using hk'
    have hbb : (0 : Int) ≤ (k : Int) ∧ (k : Int) < (s.size : Int) := by omega
    have ew : w ((k : Int) + 1) = ((k + 1 : Nat) : Int) := by rw [w_in (by unfold inR; omega)]; omega
    have tree := fun lo => r14 s k c lo
    simp only [e2, if_pos hkd, if_pos hbb, ew] at tree
    have eqI : ∀ v : UInt8, (((x.toNat : Nat) : Int) == ((v.toNat : Nat) : Int)) = (x == v) := by
      intro v
      rw [Bool.eq_iff_iff, beq_iff_eq, beq_iff_eq]
      exact ⟨fun h => UInt8.toNat_inj.1 (by omega), fun h => by rw [h]⟩
    rw [e1]
    cases c with
    | true =>
      have e3 : k + skipL true (x :: s.data.toList.drop (k + 1)) = k + 1 + skipL (!(x == 10)) (s.data.toList.drop (k + 1)) := by rw [skipL]; omega
      rw [e3]
      refine endS_next (ih (k + 1) (!(x == 10)) (by omega) (by omega)) fun lo => (tree lo).trans ?_
      rw [if_pos rfl]
      have := eqI 10
      have h10 : (((x.toNat : Nat) : Int) != (10 : Int)) = !(x == 10) := by rw [← this]; rfl
      rw [h10]
      rfl
    | false =>
      by_cases h35 : x = 35
      · have e3 : k + skipL false (x :: s.data.toList.drop (k + 1)) = k + 1 + skipL true (s.data.toList.drop (k + 1)) := by rw [skipL, if_pos h35]; omega
        rw [e3]
        refine endS_next (ih (k + 1) true (by omega) (by omega)) fun lo => (tree lo).trans ?_
        rw [if_neg (by decide), if_pos (by rw [h35]; rfl)]
        rfl
      · have h35' : ¬ (((x.toNat : Nat) : Int) == (35 : Int)) = true := by
          intro h
          have := eqI 35
          rw [show ((UInt8.toNat 35 : Nat) : Int) = (35 : Int) from rfl] at this
          rw [this] at h
          exact h35 (beq_iff_eq.1 h)
        cases hw : whiteI x.toNat with
        | true =>
          have e3 : k + skipL false (x :: s.data.toList.drop (k + 1)) = k + 1 + skipL false (s.data.toList.drop (k + 1)) := by rw [skipL, if_neg h35, hw, if_pos rfl]; omega
          rw [e3]
          refine endS_next (ih (k + 1) false (by omega) (by omega)) fun lo => (tree lo).trans ?_
          rw [if_neg (by decide), if_neg h35']
          simp only [whiteI, decide_eq_true_eq] at hw
          by_cases a1 : ((x.toNat : Nat) : Int) = 32
          · rw [if_pos (by simpa using a1)]; rfl
          · rw [if_neg (by simpa using a1)]
            by_cases a2 : ((x.toNat : Nat) : Int) = 9
            · rw [if_pos (by simpa using a2)]; rfl
            · rw [if_neg (by simpa using a2)]
              by_cases a3 : ((x.toNat : Nat) : Int) = 10
              · rw [if_pos (by simpa using a3)]; rfl
              · rw [if_neg (by simpa using a3), if_neg (by simp; omega)]; rfl
        | false =>
          have e3 : k + skipL false (x :: s.data.toList.drop (k + 1)) = k := by rw [skipL, if_neg h35, hw]; simp
          rw [e3]
          refine .inr (SL.by2 (m := 2) (r := 16) sCA hX ltab2_nil ((tree _).trans ?_))
          simp only [whiteI, decide_eq_false_iff_not] at hw
          rw [if_neg (by decide), if_neg h35', if_neg (by simp; omega), if_neg (by simp; omega), if_neg (by simp; omega), if_pos (by simp; omega)]
          rfl
set_option maxRecDepth 100000 in
theorem skip_sc : ∀ args, QSkip args → SC E13 14 args [] (.ret (vSkip args) []) := by
  rintro _ ⟨s, k, rfl, hk, hs⟩
  have hv : vSkip [st s, i64 (k : Int)] = i64 ((k + skipL false (s.data.toList.drop k) : Nat) : Int) := by
    show i64 (skp s (k : Int)) = _
    unfold skp skipTo
    rw [Int.toNat_natCast]
  rw [hv]
  rcases loop14 s hs _ k false rfl hk with h | h
  · refine SC.of hW hX sCA (one 0 (e' := .ret) (T' := TSr _) h) ((f14 s k (k + skipL false (s.data.toList.drop k)) _ _).trans ?_)
    rw [cl_pos ⟨rfl, LeSt.refl _⟩, cl_pos trivial]
  · refine SC.of hW hX sCA (oneF 0 (e := .exit 0) (T := TS _) h) ((f14 s k (k + skipL false (s.data.toList.drop k)) _ _).trans ?_)
    rw [cl_pos ⟨rfl, LeSt.refl _⟩, cl_neg (fun h => h)]
theorem sCT : SoundC E13 CT := ptab_cons tok_sc (ptab_cons skip_sc (tab_cons ok13 tab_nil))
/-! ### What comes of Tokens -/
theorem tok_err {s : ByteArray} (h : tkE s ≠ 0) : tkN s = 0 := by
  rcases tokR_spec s with ⟨_, h2⟩ | ⟨_, h2⟩
  · unfold tkN; rw [h2]; rfl
  · have : ∀ {p : Nat} {acc : List Tok} {r : List Tok × Nat × Int}, Lex s p acc r → r.2.2 ≠ 0 → r.1 = [] := by
      intro p acc r h
      induction h with
      | fin _ => intro h; exact absurd rfl h
      | white _ _ _ ih => exact ih
      | hash _ _ _ ih => exact ih
      | tok _ _ _ _ _ ih => exact ih
      | err _ _ _ _ _ => intro _; rfl
    unfold tkN
    rw [this h2 h]; rfl
theorem tok_ok {s : ByteArray} (h : tkE s = 0) : s.size ≤ 4000 ∧ Lex s 0 [] (tokR s) := by
  rcases tokR_spec s with ⟨_, h2⟩ | ⟨h1, h2⟩
  · unfold tkE at h; rw [h2] at h; cases h
  · exact ⟨h1, h2⟩
theorem row_at {s : ByteArray} {i : Nat} (h : i < tkN s) : (tokR s).1.drop i = tokRow (tokR s).1 i :: (tokR s).1.drop (i + 1) := by
  have h' : i < (tokR s).1.length := h
  rw [List.drop_eq_getElem_cons h']
  congr 1
  simp [tokRow, List.getD, h']
/-! ### Cover -/
theorem cov_len {s : ByteArray} {q : Nat} {l : List Tok} (h : Cov s q l) : q ≤ s.size → l.length ≤ s.size - q + 1 := by
  induction h with
  | fin => intro _; simp
  | @tok q x l h1 h2 h3 h4 h5 h6 ih =>
    intro hq
    have g1 := skip_le (s := s) (p := q + x.t.size) h4
    have g2 : q + x.t.size ≤ skipTo s (q + x.t.size) := by unfold skipTo; omega
    have := ih g1
    simp only [List.length_cons]; omega
theorem kC (s : ByteArray) (p : Int) : KC2 73 4 (.exit 0) (TC4 s p) = some (.l (.exit 0) (TC4 s p)) := by kernel_rfl
set_option maxRecDepth 100000 in
theorem loop4 (s : ByteArray) (hs : s.size ≤ 4000) (hN : tkN s ≤ 5000) : ∀ (n i p : Nat), tkN s - i = n → i ≤ tkN s → (Cov s p ((tokR s).1.drop i) ∨ ((tokR s).1.drop i = [] ∧ p = s.size)) →
    SL E13 (bodyOf E13 4 0) (SC4 s (p : Int) i) (.exit 0) (TC4 s (s.size : Int)) := by
  intro n
  induction n with
  | zero =>
    intro i p hn hi hc
    have hl : (tokR s).1.drop i = [] := List.drop_of_length_le (by unfold tkN at hn hi; omega)
    have hp : p = s.size := by
      rcases hc with hc | hc
      · rw [hl] at hc; exact absurd rfl (cov_ne hc)
      · exact hc.2
    subst hp
    exact SL.by2 (m := 73) (r := 4) sCT hX ltab2_nil ((r4 s _ i _).trans (by rw [if_neg (by simp; omega)]; rfl))
  | succ n ih =>
    intro i p hn hi hc
    have hi' : i < tkN s := by omega
    have hrow := row_at hi'
    rw [hrow] at hc
    have hc' : Cov s p (tokRow (tokR s).1 i :: (tokR s).1.drop (i + 1)) := by
      rcases hc with hc | hc
      · exact hc
      · cases hc.1
    obtain ⟨c1, c2, c3, c4⟩ := cov_step hc'
    have ei : Int.toNat (i : Int) = i := Int.toNat_natCast i
    have ea : tka s i = (p : Int) := by unfold tka; rw [c1]
    have hid : decide ((i : Int) < (tkN s : Int)) = true := by simpa using hi'
    have hbb : (0 : Int) ≤ (i : Int) ∧ (i : Int) < (tkN s : Int) := by omega
    have hz : (tkt s i).size = (tokRow (tokR s).1 i).t.size := rfl
    have ew2 : w ((s.size : Int) - (p : Int)) = (s.size : Int) - (p : Int) := w_in (by unfold inR; omega)
    have ew3 : w ((p : Int) + ((tkt s i).size : Int)) = ((p + (tkt s i).size : Nat) : Int) := by rw [w_in (by unfold inR; omega)]; omega
    have tree := fun lo => r4 s (p : Int) i lo
    simp only [ei, ea, ew2, ew3, Int.toNat_natCast, if_pos hid, if_pos hbb] at tree
    have hext : s.extract p (p + (tkt s i).size) = tkt s i := c3
    have hdl : (tokR s).1.drop (i + 1) = [] ↔ i + 1 = tkN s := by
      constructor
      · intro h
        have := List.drop_eq_nil_iff.1 h
        unfold tkN at hi' ⊢
        omega
      · intro h
        exact List.drop_of_length_le (by unfold tkN at h; omega)
    have ew4 : w ((tkN s : Int) - 1) = (tkN s : Int) - 1 := w_in (by unfold inR; omega)
    have ew1 : w ((i : Int) + 1) = ((i + 1 : Nat) : Int) := by rw [w_in (by unfold inR; omega)]; omega
    have fin : ∀ q : Nat, q = skipTo s (p + (tkt s i).size) → (Cov s q ((tokR s).1.drop (i + 1)) ∨ ((tokR s).1.drop (i + 1) = [] ∧ q = s.size)) → SL E13 (bodyOf E13 4 0) (SC4 s (p : Int) i) (.exit 0) (TC4 s (s.size : Int)) := by
      intro q hq hcq
      have key := ih (i + 1) q (by omega) (by omega) hcq
      have hQ : QSkip [V.sc (Value.string s), i64 ((p + (tkt s i).size : Nat) : Int)] ∧ ([] : List (Option Chunk)) = [] := ⟨⟨s, p + (tkt s i).size, rfl, by omega, hs⟩, rfl⟩
      have hQ' : QSkip [V.sc (Value.string s), i64 ((p + (tkt s i).size : Nat) : Int)] ∧ True := ⟨hQ.1, trivial⟩
      have hk : tkk s i = (tokRow (tokR s).1 i).k := rfl
      have ht : tkt s i = (tokRow (tokR s).1 i).t := rfl
      refine SL.by2 sCT hX (one 0 (e' := .ret) (T' := TC4r) key) ((tree _).trans ?_)
      have b1 : ¬ ((p : Int) != (p : Int)) = true := by simp
      have b2 : ¬ decide ((p : Int) > (s.size : Int)) = true := by simp; omega
      have b3 : ¬ decide (((tkt s i).size : Int) > (s.size : Int) - (p : Int)) = true := by simp; omega
      have b4 : (0 : Int) ≤ (p : Int) ∧ (p : Int) ≤ ((p + (tkt s i).size : Nat) : Int) ∧ ((p + (tkt s i).size : Nat) : Int) ≤ (s.size : Int) := by omega
      have b5 : ¬ (!ByteArray.toList (s.extract p (p + (tkt s i).size)) == ByteArray.toList (tkt s i)) = true := by rw [hext]; simp
      rw [if_neg b1, if_neg b2, if_neg b3, if_pos b4, if_neg b5, ew4, ew1]
      rcases c4 with ⟨d1, d2, d3, d4⟩ | ⟨d1, d2, d3, d4⟩
      · have e1 := hdl.1 d2
        have f1 : (tkk s i == (0 : Int)) = true := by rw [hk, d1]; rfl
        have f2 : ((i : Int) == (tkN s : Int) - 1) = true := by simp; omega
        have f3 : (ByteArray.toList (tkt s i) == ByteArray.toList { data := #[] }) = true := by rw [ht, d3]; simp
        rw [f1, f2, f3, if_neg (by decide), if_neg (by decide), cl_pos hQ']
        refine (ltab2_hit ?_).trans ((cl_pos trivial).trans (kC _ _))
        rw [hq]
        exact LeSt.refl _
      · have e1 : i + 1 ≠ tkN s := fun h => d2 (hdl.2 h)
        have f1 : (tkk s i == (0 : Int)) = false := by rw [hk]; simpa using d1
        have f2 : ((i : Int) == (tkN s : Int) - 1) = false := by simp; omega
        have f3 : (ByteArray.toList (tkt s i) == ByteArray.toList { data := #[] }) = false := by
          rw [beq_eq_false_iff_ne]
          intro h
          have h2 := congrArg List.length h
          rw [ByteArray.toList_eq, ByteArray.toList_eq, size_list] at h2
          rw [ht] at h2
          exact absurd (show (tokRow (tokR s).1 i).t.size = 0 from h2) (by omega)
        rw [f1, f2, f3, if_neg (by decide), if_neg (by decide), cl_pos hQ']
        refine (ltab2_hit ?_).trans ((cl_pos trivial).trans (kC _ _))
        rw [hq]
        exact LeSt.refl _
    rcases c4 with ⟨d1, d2, d3, d4⟩ | ⟨d1, d2, d3, d4⟩
    · refine fin s.size ?_ (.inr ⟨d2, rfl⟩)
      have : (tkt s i).size = 0 := by show (tokRow (tokR s).1 i).t.size = 0; rw [d3]; rfl
      rw [this, d4, Nat.add_zero, skip_end (Nat.le_refl _) (Nat.le_refl _)]
    · exact fin _ rfl (.inl d4)
theorem lexerCover (v0 : V) (h0 : WTV E13.P 9 v0) : ∃ l', LeL [v0] l' ∧ SC E13 4 l' [] (.ret (bo true) []) := by
  obtain ⟨s, rfl, hs⟩ := h0.str (by kernel_rfl) (by kernel_rfl)
  refine ⟨_, LeL.refl _, ?_⟩
  have hq : QTok [V.sc (Value.string s)] ∧ ([] : List (Option Chunk)) = [] := ⟨⟨s, rfl, hs⟩, rfl⟩
  by_cases he : tkE s = 0
  · obtain ⟨h1, h2⟩ := tok_ok he
    obtain ⟨l, g1, g2⟩ := lex_cov h2 (Nat.zero_le _) he
    rw [List.nil_append] at g1
    rw [← g1] at g2
    have hlen := cov_len g2 (skip_le (Nat.zero_le _))
    have hN : tkN s ≤ 5000 := by unfold tkN; omega
    have hl := loop4 s h1 hN _ 0 (skipTo s 0) rfl (Nat.zero_le _) (.inl (by rw [List.drop_zero]; exact g2))
    have hpos : 0 < tkN s := by
      unfold tkN
      have := cov_ne g2
      exact List.length_pos_iff.2 this
    have hQ : QSkip [V.sc (Value.string s), i64 0] ∧ ([] : List (Option Chunk)) = [] := ⟨⟨s, 0, rfl, Nat.zero_le _, h1⟩, rfl⟩
    refine SC.of hW hX sCT (one 0 (e' := .ret) (T' := TC4r) hl) ((f4 s _ _).trans ?_)
    rw [cl_pos hq, if_neg (by rw [he]; decide), cl_pos hQ, cl_pos ⟨rfl, LeSt.refl _⟩, cl_pos trivial, if_pos (by simp; omega), if_pos (by simp)]
  · refine SC.of hW hX sCT (soundL_none E13) ((f4_e s).trans ?_)
    rw [cl_pos hq, if_pos (by simpa using he), if_pos (by rw [tok_err he]; rfl)]
/-! ### Spaces -/
theorem kD (s wd : ByteArray) : KC2 72 4 (.exit 0) (TD5 s wd) = some (.l (.exit 0) (TD5 s wd)) := by kernel_rfl
theorem kE : KC2 0 4 (.exit 2) TE5 = some (.l (.exit 2) TE5) := by kernel_rfl
theorem spL_snoc : ∀ (l : List Tok) (x : Tok), spL (l ++ [x]) = if l = [] then x.t.data.toList else spL l ++ 32 :: x.t.data.toList
  | [], x => rfl
  | [y], x => rfl
  | y :: z :: l, x => by
    have ih := spL_snoc (z :: l) x
    rw [if_neg (by simp)] at ih ⊢
    show y.t.data.toList ++ 32 :: spL (z :: l ++ [x]) = (y.t.data.toList ++ 32 :: spL (z :: l)) ++ 32 :: x.t.data.toList
    rw [ih]
    simp
theorem take_at {s : ByteArray} {i : Nat} (h : i < tkN s) : (tokR s).1.take (i + 1) = (tokR s).1.take i ++ [tokRow (tokR s).1 i] := by
  have h' : i < (tokR s).1.length := h
  rw [List.take_add_one, List.getElem?_eq_getElem h']
  simp [tokRow, List.getD, h']
theorem cov_sz {s : ByteArray} {q : Nat} {l : List Tok} (h : Cov s q l) : ∀ x ∈ l, x.t.size ≤ s.size := by
  induction h with
  | fin => intro x hx; rw [List.mem_singleton.1 hx]; exact Nat.zero_le _
  | tok h1 h2 h3 h4 h5 h6 ih =>
    intro x hx
    rcases List.mem_cons.1 hx with rfl | hx
    · omega
    · exact ih x hx
set_option maxRecDepth 100000 in
theorem loop5 (s : ByteArray) (hs : s.size ≤ 4000) (hz : ∀ x ∈ (tokR s).1, x.t.size ≤ s.size) (hN : tkN s ≤ 5000) : ∀ (n i : Nat) (wd : ByteArray), tkN s - i = n → i ≤ tkN s → wd.data.toList = spL ((tokR s).1.take i) →
    ∃ wd', SL E13 (bodyOf E13 5 0) (SD5 s wd i) (.exit 0) (TD5 s wd') ∧ wd'.size ≤ 9000 ∧ (4000 < wd'.size ∨ wd'.data.toList = spL (tokR s).1) ∨ 9000 < wd.size := by
  intro n
  induction n with
  | zero =>
    intro i wd hn hi hw
    rcases Nat.lt_or_ge 9000 wd.size with h9 | h9
    · exact ⟨wd, .inr h9⟩
    · refine ⟨wd, .inl ⟨?_, h9, .inr ?_⟩⟩
      · exact SL.by2 (m := 72) (r := 4) sCT hX ltab2_nil ((r5 s wd i _).trans (by rw [if_neg (by simp; omega)]; rfl))
      · rw [hw, List.take_of_length_le (by unfold tkN at hn; omega)]
  | succ n ih =>
    intro i wd hn hi hw
    rcases Nat.lt_or_ge 9000 wd.size with h9 | h9
    · exact ⟨wd, .inr h9⟩
    have hi' : i < tkN s := by omega
    have ei : Int.toNat (i : Int) = i := Int.toNat_natCast i
    have hid : decide ((i : Int) < (tkN s : Int)) = true := by simpa using hi'
    have hbb : (0 : Int) ≤ (i : Int) ∧ (i : Int) < (tkN s : Int) := by omega
    have hML : Go.maxLen = 9223372036854775807 := by decide
    have ew1 : w ((i : Int) + 1) = ((i + 1 : Nat) : Int) := by rw [w_in (by unfold inR; omega)]; omega
    have hmem : tokRow (tokR s).1 i ∈ (tokR s).1 := by
      have h' : i < (tokR s).1.length := hi'
      have : tokRow (tokR s).1 i = (tokR s).1[i] := by simp [tokRow, List.getD, h']
      rw [this]; exact List.getElem_mem h'
    have ht : (tkt s i).size ≤ 4000 := Nat.le_trans (hz _ hmem) hs
    have hsn := spL_snoc ((tokR s).1.take i) (tokRow (tokR s).1 i)
    rw [← take_at hi', ← hw] at hsn
    have tree := fun lo => r5 s wd i lo
    simp only [ei, ew1, if_pos hid, if_pos hbb] at tree
    by_cases h4 : wd.size ≤ 4000
    · have h4d : decide ((wd.size : Int) ≤ 4000) = true := by simp; omega
      simp only [if_pos h4d] at tree
      by_cases h0 : 0 < i
      · have hne : ¬ (tokR s).1.take i = [] := by
          intro h
          rcases List.take_eq_nil_iff.1 h with h | h
          · omega
          · unfold tkN at hi'; rw [h] at hi'; simp at hi'
        rw [if_neg hne] at hsn
        have hwd : (wd ++ ⟨#[32]⟩ ++ tkt s i).data.toList = spL ((tokR s).1.take (i + 1)) := by rw [hsn]; simp; rfl
        have hsz : (wd ++ ⟨#[32]⟩ ++ tkt s i).size ≤ 9000 := by
          rw [ByteArray.size_append, ByteArray.size_append]
          have : (⟨#[32]⟩ : ByteArray).size = 1 := rfl
          omega
        obtain ⟨wd', h | h⟩ := ih (i + 1) _ (by omega) (by omega) hwd
        · refine ⟨wd', .inl ⟨?_, h.2⟩⟩
          refine SL.by2 sCT hX (one 0 (e' := .ret) (T' := TE5r) h.1) ((tree _).trans ?_)
          have z1 : (wd ++ { data := #[(32 : UInt8)] } : ByteArray).size = wd.size + 1 := by rw [ByteArray.size_append]; rfl
          rw [if_pos (by simp; omega), if_pos (by omega), if_pos (by omega)]
          exact (ltab2_hit (LeSt.refl _)).trans ((cl_pos trivial).trans (kD _ _))
        · omega
      · have h00 : i = 0 := by omega
        subst h00
        have hne : (tokR s).1.take 0 = [] := List.take_zero
        rw [if_pos hne] at hsn
        have hwe : wd.data.toList = [] := by rw [hw, hne]; rfl
        have hwd : (wd ++ tkt s 0).data.toList = spL ((tokR s).1.take (0 + 1)) := by rw [hsn, ByteArray.data_append, Array.toList_append, hwe]; rfl
        have hsz : (wd ++ tkt s 0).size ≤ 9000 := by rw [ByteArray.size_append]; omega
        obtain ⟨wd', h | h⟩ := ih (0 + 1) _ (by omega) (by omega) hwd
        · refine ⟨wd', .inl ⟨?_, h.2⟩⟩
          refine SL.by2 sCT hX (one 0 (e' := .ret) (T' := TE5r) h.1) ((tree _).trans ?_)
          rw [if_neg (by simp), if_pos (by omega)]
          exact (ltab2_hit (LeSt.refl _)).trans ((cl_pos trivial).trans (kD _ _))
        · omega
    · refine ⟨wd, .inl ⟨?_, h9, .inl (by omega)⟩⟩
      refine SL.by2 (m := 72) (r := 4) sCT hX ltab2_nil ((tree _).trans ?_)
      rw [if_neg (by simp; omega)]
      rfl
set_option maxRecDepth 100000 in
theorem loop5b (s s' : ByteArray) (hN : tkN s ≤ 5000) (hl : tkN s' = tkN s) (h : ∀ i, i < tkN s → tkk s' i = tkk s i ∧ tkt s' i = tkt s i ∧ tkn s' i = tkn s i) : ∀ (n i : Nat), tkN s - i = n → i ≤ tkN s → SL E13 (bodyOf E13 5 2) (SE5 s s' i) (.exit 2) TE5 := by
  intro n
  induction n with
  | zero =>
    intro i hn hi
    exact SL.by2 (m := 0) (r := 4) sCT hX ltab2_nil ((r5b s s' i _).trans (by rw [if_neg (by simp; omega)]; rfl))
  | succ n ih =>
    intro i hn hi
    have hi' : i < tkN s := by omega
    have ei : Int.toNat (i : Int) = i := Int.toNat_natCast i
    have hid : decide ((i : Int) < (tkN s : Int)) = true := by simpa using hi'
    have hbb : (0 : Int) ≤ (i : Int) ∧ (i : Int) < (tkN s : Int) := by omega
    have ew1 : w ((i : Int) + 1) = ((i + 1 : Nat) : Int) := by rw [w_in (by unfold inR; omega)]; omega
    obtain ⟨h1, h2, h3⟩ := h i hi'
    have key := ih (i + 1) (by omega) (by omega)
    have tree := fun lo => r5b s s' i lo
    simp only [ei, ew1, hl, h1, h2, h3, if_pos hid, if_pos hbb] at tree
    refine SL.by2 sCT hX (one 2 (e' := .ret) (T' := TE5r) key) ((tree _).trans ?_)
    rw [if_neg (by simp), if_neg (by simp), if_neg (by simp)]
    refine (ltab2_hit ?_).trans ((cl_pos trivial).trans kE)
    unfold SE5
    rw [hl]
    exact LeSt.refl _
theorem lexerSpaces (v0 : V) (h0 : WTV E13.P 9 v0) : ∃ l', LeL [v0] l' ∧ SC E13 5 l' [] (.ret (bo true) []) := by
  obtain ⟨s, rfl, hs⟩ := h0.str (by kernel_rfl) (by kernel_rfl)
  refine ⟨_, LeL.refl _, ?_⟩
  have hq : QTok [V.sc (Value.string s)] ∧ ([] : List (Option Chunk)) = [] := ⟨⟨s, rfl, hs⟩, rfl⟩
  by_cases he : tkE s = 0
  · obtain ⟨h1, h2⟩ := tok_ok he
    obtain ⟨l, g1, g2⟩ := lex_cov h2 (Nat.zero_le _) he
    rw [List.nil_append] at g1
    rw [← g1] at g2
    have hlen := cov_len g2 (skip_le (Nat.zero_le _))
    have hN : tkN s ≤ 5000 := by unfold tkN; omega
    obtain ⟨wd, hwd⟩ := loop5 s h1 (cov_sz g2) hN _ 0 ⟨#[]⟩ rfl (Nat.zero_le _) rfl
    obtain ⟨w1, w2, w3⟩ := hwd.resolve_right (by decide)
    have hML : Go.maxLen = 9223372036854775807 := by decide
    have hq' : QTok [V.sc (Value.string wd)] ∧ ([] : List (Option Chunk)) = [] := ⟨⟨wd, rfl, by omega⟩, rfl⟩
    by_cases h4 : 4000 < wd.size
    · refine SC.of hW hX sCT (ltab2_cons (x := ⟨0, bodyOf E13 5 0, SD5 s ⟨#[]⟩ 0, True, .exit 0, TD5 s wd, .ret, TE5r⟩) ⟨fun _ => w1, fun h => absurd trivial h⟩ (ltab2_cons (x := ⟨2, bodyOf E13 5 2, SE5 s s 0, True, .exit 2, TE5, .ret, TE5r⟩) ⟨fun _ => loop5b s s hN rfl (fun _ _ => ⟨rfl, rfl, rfl⟩) _ 0 rfl (Nat.zero_le _), fun h => absurd trivial h⟩ ltab2_nil)) ((f5 s wd _ _ _).trans ?_)
      rw [cl_pos hq, if_neg (by rw [he]; decide), cl_pos ⟨rfl, LeSt.refl _⟩, cl_pos trivial, if_pos (by simp; omega)]
    · have hsp : wd.data.toList = spL (tokR s).1 := by
        rcases w3 with h | h
        · omega
        · exact h
      obtain ⟨l', k1, k2⟩ := lex_sp h2 he (tokR s).1 rfl wd 0 [] (Nat.zero_le _) (by rw [List.drop_zero]; exact hsp)
      rw [List.nil_append] at k1
      have hR : tokR wd = (l', 0, 0) := tokR_of (.inr ⟨by omega, k1⟩)
      have e1 : tkE wd = 0 := by unfold tkE; rw [hR]
      have e2 : tkN wd = tkN s := by unfold tkN; rw [hR, k2.len]
      have e3 : ∀ i, i < tkN s → tkk wd i = tkk s i ∧ tkt wd i = tkt s i ∧ tkn wd i = tkn s i := by
        intro i hi
        have hi1 : i < (tokR s).1.length := hi
        have hi2 : i < l'.length := by rw [← k2.len]; exact hi1
        obtain ⟨a1, a2, a3⟩ := k2.get i hi1 hi2
        have r1 : tokRow (tokR s).1 i = (tokR s).1[i] := by simp [tokRow, List.getD, hi1]
        have r2 : tokRow (tokR wd).1 i = l'[i] := by rw [hR]; simp [tokRow, List.getD, hi2]
        unfold tkk tkt tkn
        rw [r1, r2]
        exact ⟨a1.symm, a2.symm, a3.symm⟩
      have hl2 := loop5b s wd hN e2 e3 _ 0 rfl (Nat.zero_le _)
      refine SC.of hW hX sCT (ltab2_cons (x := ⟨0, bodyOf E13 5 0, SD5 s ⟨#[]⟩ 0, True, .exit 0, TD5 s wd, .ret, TE5r⟩) ⟨fun _ => w1, fun h => absurd trivial h⟩ (ltab2_cons (x := ⟨2, bodyOf E13 5 2, SE5 s wd 0, True, .exit 2, TE5, .ret, TE5r⟩) ⟨fun _ => hl2, fun h => absurd trivial h⟩ ltab2_nil)) ((f5 s wd _ _ _).trans ?_)
      rw [cl_pos hq, if_neg (by rw [he]; decide), cl_pos ⟨rfl, LeSt.refl _⟩, cl_pos trivial, if_neg (by simp; omega), cl_pos hq', if_neg (by rw [e1]; decide), if_neg (by rw [e2]; simp), cl_pos ⟨rfl, LeSt.refl _⟩, cl_pos trivial]
  · refine SC.of hW hX sCT (soundL_none E13) ((f5_e s).trans ?_)
    rw [cl_pos hq, if_pos (by simpa using he)]
end Go.Proofs.Ytphncipfcekilaa
