/- The laws of the round trip and of the scale. -/
import Derived.Test.YtnjpgkaignfcaaaDoorVh
namespace Go.Proofs.YtnjpgkaignfcaaaDoor
open Go Go.Am
set_option linter.unusedSimpArgs false
set_option linter.unusedVariables false
noncomputable def C8 : CallT := ptab 19 QP vP (ptab 21 QStr vPar (tab [(16, t16), (23, tVal)]))
noncomputable def C9 : CallT := ptab 26 QI vI (ptab 21 QStr vPar (tab [(14, tLk), (16, t16), (23, tVal), (25, fun args L k => callG E1 20 25 args L k)]))
theorem par_sc : ∀ args, QStr args → SC E1 21 args [] (.ret (vPar args) []) := fun args h => by obtain ⟨s, rfl⟩ := h; rw [← pV_eq]; exact parse21 s
theorem sC8 : SoundC E1 C8 := ptab_cons ok19 (ptab_cons par_sc (tab_cons ok16' (tab_cons (okE1 okVal) tab_nil)))
theorem sC9 : SoundC E1 C9 := ptab_cons (fun args h => by obtain ⟨n, rfl, hn⟩ := h; exact decimal hn) (ptab_cons par_sc (tab_cons (okE1 ok14) (tab_cons ok16' (tab_cons (okE1 okVal) (tab_cons (sG1 25) tab_nil)))))
def SW (m : Int) (s wd : ByteArray) (i : Nat) : St := { fr := [.junk, st s, .junk, .junk, .junk, i64 m, st wd, i64 i] ++ jk 107, H := hp [], nx := 0, rt := 0, me := 8 }
def TW (m : Int) (wd : ByteArray) : St := { fr := [.junk, .junk, .junk, .junk, .junk, i64 m, st wd] ++ jk 108, H := hp [], nx := 0, rt := 0, me := 8 }
theorem law6 (n a b c d e : Int) : callK E1 C8 L0 6 [q6 n a b c d e] [] K =
  if (!valid6 n a b c d e) = true then
   some (Ans.c (CRes.ret (bo true) []))
  else
   cl (QP ([V.agg [i64 n, i64 a, i64 b, i64 c, i64 d, i64 e]]) ∧ ([] : List (Option Chunk)) = []) (
    cl (QStr ([V.sc (Value.string (prB n a b c d e))]) ∧ ([] : List (Option Chunk)) = []) (
     if (if false = true then !(pn (prB n a b c d e) == n && (pa (prB n a b c d e) == a && (pb (prB n a b c d e) == b && (pc (prB n a b c d e) == c && (pd (prB n a b c d e) == d && (ph (prB n a b c d e) == e && true)))) && true)) else pn (prB n a b c d e) == n && (pa (prB n a b c d e) == a && (pb (prB n a b c d e) == b && (pc (prB n a b c d e) == c && (pd (prB n a b c d e) == d && (ph (prB n a b c d e) == e && true)))) && true)) = true then
      if (pe (prB n a b c d e) == (0 : Int)) = true then
       some (Ans.c (CRes.ret (bo true) []))
      else
       some (Ans.c (CRes.ret (bo false) []))
     else
      some (Ans.c (CRes.ret (bo false) []))) (
     none)) (
    none) := by kernel_rfl
theorem r8 (m : Int) (s wd : ByteArray) (i : Nat) (lo : LoopT) : loopK E1 C9 lo 0 226 (bodyOf E1 8 0) (SW m s wd i) (KC 96) =
  if decide ((i : Int) < ((ByteArray.size s : Nat) : Int)) = true then
   if decide ((i : Int) < (40 : Int)) = true then
    if (0 : Int) ≤ (i : Int) ∧ (i : Int) < ((ByteArray.size s : Nat) : Int) then
     if decide (((UInt8.toNat (List.getD (Array.toList (ByteArray.data s)) (Int.toNat (i : Int)) (0 : UInt8)) : Nat) : Int) ≥ (97 : Int)) = true then
      if decide (((UInt8.toNat (List.getD (Array.toList (ByteArray.data s)) (Int.toNat (i : Int)) (0 : UInt8)) : Nat) : Int) ≤ (122 : Int)) = true then
       if (0 : Int) ≤ (i : Int) ∧ (i : Int) ≤ w ((i : Int) + (1 : Int)) ∧ w ((i : Int) + (1 : Int)) ≤ ((ByteArray.size s : Nat) : Int) then
        if ByteArray.size wd + ByteArray.size (ByteArray.extract s (Int.toNat (i : Int)) (Int.toNat (w ((i : Int) + (1 : Int))))) ≤ maxLen then
         lo 0 226 (bodyOf E1 8 0) ({ fr := [V.junk, V.sc (Value.string s), V.junk, V.junk, V.junk, i64 m, V.sc (Value.string (wd ++ ByteArray.extract s (Int.toNat (i : Int)) (Int.toNat (w ((i : Int) + (1 : Int)))))), i64 (w ((i : Int) + (1 : Int)))] ++ jk 107, H := hp [], nx := 0, rt := 0, me := 8 }) (KC 96)
        else
         none
       else
        none
      else
       if decide (((UInt8.toNat (List.getD (Array.toList (ByteArray.data s)) (Int.toNat (i : Int)) (0 : UInt8)) : Nat) : Int) ≥ (65 : Int)) = true then
        if decide (((UInt8.toNat (List.getD (Array.toList (ByteArray.data s)) (Int.toNat (i : Int)) (0 : UInt8)) : Nat) : Int) ≤ (90 : Int)) = true then
         if (0 : Int) ≤ (i : Int) ∧ (i : Int) ≤ w ((i : Int) + (1 : Int)) ∧ w ((i : Int) + (1 : Int)) ≤ ((ByteArray.size s : Nat) : Int) then
          if ByteArray.size wd + ByteArray.size (ByteArray.extract s (Int.toNat (i : Int)) (Int.toNat (w ((i : Int) + (1 : Int))))) ≤ maxLen then
           lo 0 226 (bodyOf E1 8 0) ({ fr := [V.junk, V.sc (Value.string s), V.junk, V.junk, V.junk, i64 m, V.sc (Value.string (wd ++ ByteArray.extract s (Int.toNat (i : Int)) (Int.toNat (w ((i : Int) + (1 : Int)))))), i64 (w ((i : Int) + (1 : Int)))] ++ jk 107, H := hp [], nx := 0, rt := 0, me := 8 }) (KC 96)
          else
           none
         else
          none
        else
         lo 0 226 (bodyOf E1 8 0) ({ fr := [V.junk, V.sc (Value.string s), V.junk, V.junk, V.junk, i64 m, V.sc (Value.string wd), i64 (w ((i : Int) + (1 : Int)))] ++ jk 107, H := hp [], nx := 0, rt := 0, me := 8 }) (KC 96)
       else
        lo 0 226 (bodyOf E1 8 0) ({ fr := [V.junk, V.sc (Value.string s), V.junk, V.junk, V.junk, i64 m, V.sc (Value.string wd), i64 (w ((i : Int) + (1 : Int)))] ++ jk 107, H := hp [], nx := 0, rt := 0, me := 8 }) (KC 96)
     else
      if decide (((UInt8.toNat (List.getD (Array.toList (ByteArray.data s)) (Int.toNat (i : Int)) (0 : UInt8)) : Nat) : Int) ≥ (65 : Int)) = true then
       if decide (((UInt8.toNat (List.getD (Array.toList (ByteArray.data s)) (Int.toNat (i : Int)) (0 : UInt8)) : Nat) : Int) ≤ (90 : Int)) = true then
        if (0 : Int) ≤ (i : Int) ∧ (i : Int) ≤ w ((i : Int) + (1 : Int)) ∧ w ((i : Int) + (1 : Int)) ≤ ((ByteArray.size s : Nat) : Int) then
         if ByteArray.size wd + ByteArray.size (ByteArray.extract s (Int.toNat (i : Int)) (Int.toNat (w ((i : Int) + (1 : Int))))) ≤ maxLen then
          lo 0 226 (bodyOf E1 8 0) ({ fr := [V.junk, V.sc (Value.string s), V.junk, V.junk, V.junk, i64 m, V.sc (Value.string (wd ++ ByteArray.extract s (Int.toNat (i : Int)) (Int.toNat (w ((i : Int) + (1 : Int)))))), i64 (w ((i : Int) + (1 : Int)))] ++ jk 107, H := hp [], nx := 0, rt := 0, me := 8 }) (KC 96)
         else
          none
        else
         none
       else
        lo 0 226 (bodyOf E1 8 0) ({ fr := [V.junk, V.sc (Value.string s), V.junk, V.junk, V.junk, i64 m, V.sc (Value.string wd), i64 (w ((i : Int) + (1 : Int)))] ++ jk 107, H := hp [], nx := 0, rt := 0, me := 8 }) (KC 96)
      else
       lo 0 226 (bodyOf E1 8 0) ({ fr := [V.junk, V.sc (Value.string s), V.junk, V.junk, V.junk, i64 m, V.sc (Value.string wd), i64 (w ((i : Int) + (1 : Int)))] ++ jk 107, H := hp [], nx := 0, rt := 0, me := 8 }) (KC 96)
    else
     none
   else
    some (Ans.l (Ex.exit 0) { fr := [V.junk, V.junk, V.junk, V.junk, V.junk, i64 m, V.sc (Value.string wd)] ++ jk 108, H := hp [], nx := 0, rt := 0, me := 8 })
  else
   some (Ans.l (Ex.exit 0) { fr := [V.junk, V.junk, V.junk, V.junk, V.junk, i64 m, V.sc (Value.string wd)] ++ jk 108, H := hp [], nx := 0, rt := 0, me := 8 }) := by kernel_rfl
theorem f8 (n m : Int) (s wd : ByteArray) (S1 : St) : callK E1 C9 (ltab2 [⟨0, bodyOf E1 8 0, S1, True, .exit 0, TW m wd, .ret, TW m wd⟩]) 8 [i64 n, st s] [] K =
  if decide (n < (0 : Int)) = true then
   cl ((bodyOf E1 8 0) = (bodyOf E1 8 0) ∧ LeSt ({ fr := [V.junk, V.sc (Value.string s), V.junk, V.junk, V.junk, i64 (w (Int.tmod (w ((0 : Int) - w (n + (1 : Int)))) (w (w ((2 : Int) * (2147483647 : Int)) + (1 : Int))) - (2147483647 : Int))), V.sc (Value.string { data := #[] }), i64 0] ++ jk 107, H := hp [], nx := 0, rt := 0, me := 8 }) (S1)) (
    cl (True) (
     if (ByteArray.toList wd == ByteArray.toList { data := #[] }) = true then
      some (Ans.c (CRes.ret (bo true) []))
     else
      cl (QI ([i64 m]) ∧ ([] : List (Option Chunk)) = []) (
       if ByteArray.size (itS m) + 1 ≤ maxLen then
        if ByteArray.size (itS m ++ { data := #[(32 : UInt8)] }) + ByteArray.size wd ≤ maxLen then
         cl (QStr ([V.sc (Value.string (itS m ++ { data := #[(32 : UInt8)] } ++ wd))]) ∧ ([] : List (Option Chunk)) = []) (
          if (!lkB (lkI wd)) = true then
           if (if false = true then !(pn (itS m ++ { data := #[(32 : UInt8)] } ++ wd) == (0 : Int) && (pa (itS m ++ { data := #[(32 : UInt8)] } ++ wd) == (0 : Int) && (pb (itS m ++ { data := #[(32 : UInt8)] } ++ wd) == (0 : Int) && (pc (itS m ++ { data := #[(32 : UInt8)] } ++ wd) == (0 : Int) && (pd (itS m ++ { data := #[(32 : UInt8)] } ++ wd) == (0 : Int) && (ph (itS m ++ { data := #[(32 : UInt8)] } ++ wd) == (0 : Int) && true)))) && true)) else pn (itS m ++ { data := #[(32 : UInt8)] } ++ wd) == (0 : Int) && (pa (itS m ++ { data := #[(32 : UInt8)] } ++ wd) == (0 : Int) && (pb (itS m ++ { data := #[(32 : UInt8)] } ++ wd) == (0 : Int) && (pc (itS m ++ { data := #[(32 : UInt8)] } ++ wd) == (0 : Int) && (pd (itS m ++ { data := #[(32 : UInt8)] } ++ wd) == (0 : Int) && (ph (itS m ++ { data := #[(32 : UInt8)] } ++ wd) == (0 : Int) && true)))) && true)) = true then
            if (pe (itS m ++ { data := #[(32 : UInt8)] } ++ wd) == (10 : Int)) = true then
             some (Ans.c (CRes.ret (bo true) []))
            else
             some (Ans.c (CRes.ret (bo false) []))
           else
            some (Ans.c (CRes.ret (bo false) []))
          else
           if decide (lkF (lkI wd) < (1 : Int)) = true then
            some (Ans.c (CRes.ret (bo false) []))
           else
            if decide (lkF (lkI wd) > (3600 : Int)) = true then
             some (Ans.c (CRes.ret (bo false) []))
            else
             if (!valid6 (w (m * lkF (lkI wd))) (lkE (lkI wd)) (lkD (lkI wd)) (lkT (lkI wd)) (lkA (lkI wd)) (lkH (lkI wd))) = true then
              if (if false = true then !(pn (itS m ++ { data := #[(32 : UInt8)] } ++ wd) == (0 : Int) && (pa (itS m ++ { data := #[(32 : UInt8)] } ++ wd) == (0 : Int) && (pb (itS m ++ { data := #[(32 : UInt8)] } ++ wd) == (0 : Int) && (pc (itS m ++ { data := #[(32 : UInt8)] } ++ wd) == (0 : Int) && (pd (itS m ++ { data := #[(32 : UInt8)] } ++ wd) == (0 : Int) && (ph (itS m ++ { data := #[(32 : UInt8)] } ++ wd) == (0 : Int) && true)))) && true)) else pn (itS m ++ { data := #[(32 : UInt8)] } ++ wd) == (0 : Int) && (pa (itS m ++ { data := #[(32 : UInt8)] } ++ wd) == (0 : Int) && (pb (itS m ++ { data := #[(32 : UInt8)] } ++ wd) == (0 : Int) && (pc (itS m ++ { data := #[(32 : UInt8)] } ++ wd) == (0 : Int) && (pd (itS m ++ { data := #[(32 : UInt8)] } ++ wd) == (0 : Int) && (ph (itS m ++ { data := #[(32 : UInt8)] } ++ wd) == (0 : Int) && true)))) && true)) = true then
               if (pe (itS m ++ { data := #[(32 : UInt8)] } ++ wd) == (5 : Int)) = true then
                some (Ans.c (CRes.ret (bo true) []))
               else
                some (Ans.c (CRes.ret (bo false) []))
              else
               some (Ans.c (CRes.ret (bo false) []))
             else
              if (if false = true then !(pn (itS m ++ { data := #[(32 : UInt8)] } ++ wd) == w (m * lkF (lkI wd)) && (pa (itS m ++ { data := #[(32 : UInt8)] } ++ wd) == lkE (lkI wd) && (pb (itS m ++ { data := #[(32 : UInt8)] } ++ wd) == lkD (lkI wd) && (pc (itS m ++ { data := #[(32 : UInt8)] } ++ wd) == lkT (lkI wd) && (pd (itS m ++ { data := #[(32 : UInt8)] } ++ wd) == lkA (lkI wd) && (ph (itS m ++ { data := #[(32 : UInt8)] } ++ wd) == lkH (lkI wd) && true)))) && true)) else pn (itS m ++ { data := #[(32 : UInt8)] } ++ wd) == w (m * lkF (lkI wd)) && (pa (itS m ++ { data := #[(32 : UInt8)] } ++ wd) == lkE (lkI wd) && (pb (itS m ++ { data := #[(32 : UInt8)] } ++ wd) == lkD (lkI wd) && (pc (itS m ++ { data := #[(32 : UInt8)] } ++ wd) == lkT (lkI wd) && (pd (itS m ++ { data := #[(32 : UInt8)] } ++ wd) == lkA (lkI wd) && (ph (itS m ++ { data := #[(32 : UInt8)] } ++ wd) == lkH (lkI wd) && true)))) && true)) = true then
               if (pe (itS m ++ { data := #[(32 : UInt8)] } ++ wd) == (0 : Int)) = true then
                some (Ans.c (CRes.ret (bo true) []))
               else
                some (Ans.c (CRes.ret (bo false) []))
              else
               some (Ans.c (CRes.ret (bo false) []))) (
          none)
        else
         none
       else
        none) (
       none)) (
     some (Ans.c (CRes.ret V.junk [])))) (
    none)
  else
   cl ((bodyOf E1 8 0) = (bodyOf E1 8 0) ∧ LeSt ({ fr := [V.junk, V.sc (Value.string s), V.junk, V.junk, V.junk, i64 (w (Int.tmod n (w (w ((2 : Int) * (2147483647 : Int)) + (1 : Int))) - (2147483647 : Int))), V.sc (Value.string { data := #[] }), i64 0] ++ jk 107, H := hp [], nx := 0, rt := 0, me := 8 }) (S1)) (
    cl (True) (
     if (ByteArray.toList wd == ByteArray.toList { data := #[] }) = true then
      some (Ans.c (CRes.ret (bo true) []))
     else
      cl (QI ([i64 m]) ∧ ([] : List (Option Chunk)) = []) (
       if ByteArray.size (itS m) + 1 ≤ maxLen then
        if ByteArray.size (itS m ++ { data := #[(32 : UInt8)] }) + ByteArray.size wd ≤ maxLen then
         cl (QStr ([V.sc (Value.string (itS m ++ { data := #[(32 : UInt8)] } ++ wd))]) ∧ ([] : List (Option Chunk)) = []) (
          if (!lkB (lkI wd)) = true then
           if (if false = true then !(pn (itS m ++ { data := #[(32 : UInt8)] } ++ wd) == (0 : Int) && (pa (itS m ++ { data := #[(32 : UInt8)] } ++ wd) == (0 : Int) && (pb (itS m ++ { data := #[(32 : UInt8)] } ++ wd) == (0 : Int) && (pc (itS m ++ { data := #[(32 : UInt8)] } ++ wd) == (0 : Int) && (pd (itS m ++ { data := #[(32 : UInt8)] } ++ wd) == (0 : Int) && (ph (itS m ++ { data := #[(32 : UInt8)] } ++ wd) == (0 : Int) && true)))) && true)) else pn (itS m ++ { data := #[(32 : UInt8)] } ++ wd) == (0 : Int) && (pa (itS m ++ { data := #[(32 : UInt8)] } ++ wd) == (0 : Int) && (pb (itS m ++ { data := #[(32 : UInt8)] } ++ wd) == (0 : Int) && (pc (itS m ++ { data := #[(32 : UInt8)] } ++ wd) == (0 : Int) && (pd (itS m ++ { data := #[(32 : UInt8)] } ++ wd) == (0 : Int) && (ph (itS m ++ { data := #[(32 : UInt8)] } ++ wd) == (0 : Int) && true)))) && true)) = true then
            if (pe (itS m ++ { data := #[(32 : UInt8)] } ++ wd) == (10 : Int)) = true then
             some (Ans.c (CRes.ret (bo true) []))
            else
             some (Ans.c (CRes.ret (bo false) []))
           else
            some (Ans.c (CRes.ret (bo false) []))
          else
           if decide (lkF (lkI wd) < (1 : Int)) = true then
            some (Ans.c (CRes.ret (bo false) []))
           else
            if decide (lkF (lkI wd) > (3600 : Int)) = true then
             some (Ans.c (CRes.ret (bo false) []))
            else
             if (!valid6 (w (m * lkF (lkI wd))) (lkE (lkI wd)) (lkD (lkI wd)) (lkT (lkI wd)) (lkA (lkI wd)) (lkH (lkI wd))) = true then
              if (if false = true then !(pn (itS m ++ { data := #[(32 : UInt8)] } ++ wd) == (0 : Int) && (pa (itS m ++ { data := #[(32 : UInt8)] } ++ wd) == (0 : Int) && (pb (itS m ++ { data := #[(32 : UInt8)] } ++ wd) == (0 : Int) && (pc (itS m ++ { data := #[(32 : UInt8)] } ++ wd) == (0 : Int) && (pd (itS m ++ { data := #[(32 : UInt8)] } ++ wd) == (0 : Int) && (ph (itS m ++ { data := #[(32 : UInt8)] } ++ wd) == (0 : Int) && true)))) && true)) else pn (itS m ++ { data := #[(32 : UInt8)] } ++ wd) == (0 : Int) && (pa (itS m ++ { data := #[(32 : UInt8)] } ++ wd) == (0 : Int) && (pb (itS m ++ { data := #[(32 : UInt8)] } ++ wd) == (0 : Int) && (pc (itS m ++ { data := #[(32 : UInt8)] } ++ wd) == (0 : Int) && (pd (itS m ++ { data := #[(32 : UInt8)] } ++ wd) == (0 : Int) && (ph (itS m ++ { data := #[(32 : UInt8)] } ++ wd) == (0 : Int) && true)))) && true)) = true then
               if (pe (itS m ++ { data := #[(32 : UInt8)] } ++ wd) == (5 : Int)) = true then
                some (Ans.c (CRes.ret (bo true) []))
               else
                some (Ans.c (CRes.ret (bo false) []))
              else
               some (Ans.c (CRes.ret (bo false) []))
             else
              if (if false = true then !(pn (itS m ++ { data := #[(32 : UInt8)] } ++ wd) == w (m * lkF (lkI wd)) && (pa (itS m ++ { data := #[(32 : UInt8)] } ++ wd) == lkE (lkI wd) && (pb (itS m ++ { data := #[(32 : UInt8)] } ++ wd) == lkD (lkI wd) && (pc (itS m ++ { data := #[(32 : UInt8)] } ++ wd) == lkT (lkI wd) && (pd (itS m ++ { data := #[(32 : UInt8)] } ++ wd) == lkA (lkI wd) && (ph (itS m ++ { data := #[(32 : UInt8)] } ++ wd) == lkH (lkI wd) && true)))) && true)) else pn (itS m ++ { data := #[(32 : UInt8)] } ++ wd) == w (m * lkF (lkI wd)) && (pa (itS m ++ { data := #[(32 : UInt8)] } ++ wd) == lkE (lkI wd) && (pb (itS m ++ { data := #[(32 : UInt8)] } ++ wd) == lkD (lkI wd) && (pc (itS m ++ { data := #[(32 : UInt8)] } ++ wd) == lkT (lkI wd) && (pd (itS m ++ { data := #[(32 : UInt8)] } ++ wd) == lkA (lkI wd) && (ph (itS m ++ { data := #[(32 : UInt8)] } ++ wd) == lkH (lkI wd) && true)))) && true)) = true then
               if (pe (itS m ++ { data := #[(32 : UInt8)] } ++ wd) == (0 : Int)) = true then
                some (Ans.c (CRes.ret (bo true) []))
               else
                some (Ans.c (CRes.ret (bo false) []))
              else
               some (Ans.c (CRes.ret (bo false) []))) (
          none)
        else
         none
       else
        none) (
       none)) (
     some (Ans.c (CRes.ret V.junk [])))) (
    none) := by kernel_rfl

/-! ### Round trip -/
theorem valid_in {n a b c d e : Int} (h : valid6 n a b c d e = true) : sm n ∧ i8 a ∧ i8 b ∧ i8 c ∧ i8 d ∧ i8 e := by
  simp [valid6, in8] at h
  unfold sm i8
  omega
theorem unitRoundTrip (v0 : V) (h0 : WTV E.P 29 v0) : ∃ l', LeL [v0] l' ∧ SC E 6 l' [] (.ret (bo true) []) := by
  obtain ⟨n, a, b, c, d, e, rfl, hn, ha, hb, hc, hd, he⟩ := v29 h0
  refine ⟨_, LeL.refl _, sc1.1 (SC.of hW1 hX1 sC8 (soundL_none E1) ((law6 n a b c d e).trans ?_))⟩
  cases hv : valid6 n a b c d e with
  | false => rfl
  | true =>
    obtain ⟨h1, h2, h3, h4, h5, h6⟩ := valid_in hv
    have hr := round h1 h2 h3 h4 h5 h6
    have hq3 : QP [.agg [i64 n, i64 a, i64 b, i64 c, i64 d, i64 e]] ∧ ([] : List (Option Chunk)) = [] := ⟨⟨_, _, _, _, _, _, rfl, hn, ha, hb, hc, hd, he⟩, rfl⟩
    have hq : QStr [V.sc (Value.string (prB n a b c d e))] ∧ ([] : List (Option Chunk)) = [] := ⟨⟨_, rfl⟩, rfl⟩
    rw [if_neg (by decide), cl_pos hq3, cl_pos hq]
    simp only [pn, pa, pb, pc, pd, ph, pe, hr]
    rw [if_pos (by simp), if_pos (by rfl)]
/-! ### Scale -/
theorem kW (m : Int) (wd : ByteArray) : KC 96 (.exit 0) (TW m wd) = some (.l (.exit 0) (TW m wd)) := by kernel_rfl
theorem allL_app {a b : ByteArray} (ha : allL a = true) (hb : allL b = true) : allL (a ++ b) = true := by
  unfold allL at *
  rw [ByteArray.data_append, Array.toList_append, List.all_append, ha, hb]; rfl
theorem ext1 {s : ByteArray} {i : Nat} {c : UInt8} (h : s.data.toList.drop i = c :: s.data.toList.drop (i + 1)) : s.extract i (i + 1) = ⟨#[c]⟩ := by
  rw [← mk_ext, h, show i + 1 - i = 1 from by omega]; rfl
set_option maxRecDepth 100000 in
theorem loop8 (m : Int) (s : ByteArray) : ∀ (r i : Nat) (wd : ByteArray), 40 - i = r → i ≤ 40 → allL wd = true → wd.size ≤ i →
    ∃ wd', SL E1 (bodyOf E1 8 0) (SW m s wd i) (.exit 0) (TW m wd') ∧ allL wd' = true ∧ wd'.size ≤ 40 := by
  intro r
  induction r with
  | zero =>
    intro i wd hr hi hl hz
    refine ⟨wd, ?_, hl, by omega⟩
    refine SL.by (m := 96) sC9 hX1 ltab2_nil ((r8 m s wd i _).trans ?_)
    by_cases hs : i < s.size
    · rw [if_pos (by simpa using hs), if_neg (by simp; omega)]; rfl
    · rw [if_neg (by simpa using hs)]; rfl
  | succ r ih =>
    intro i wd hr hi hl hz
    by_cases hs : i < s.size
    · obtain ⟨c, e1, e2⟩ := at_k hs
      have hsd : decide ((i : Int) < (s.size : Int)) = true := by simpa using hs
      have h40 : decide ((i : Int) < 40) = true := by simp; omega
      have hbb : (0 : Int) ≤ (i : Int) ∧ (i : Int) < (s.size : Int) := by omega
      have ew : w ((i : Int) + 1) = ((i + 1 : Nat) : Int) := by rw [w_in (by unfold inR; omega)]; omega
      have hML : Go.maxLen = 9223372036854775807 := by decide
      have e2' : List.getD (Array.toList (ByteArray.data s)) i (0 : UInt8) = c := by rw [Int.toNat_natCast] at e2; exact e2
      have tree := fun lo => r8 m s wd i lo
      simp only [Int.toNat_natCast, e2', if_pos hsd, if_pos h40, if_pos hbb, ew, ext1 e1] at tree
      cases hc : isL c with
      | true =>
        have hlc : allL (⟨#[c]⟩ : ByteArray) = true := by unfold allL; simp [hc]
        have hzc : (wd ++ ⟨#[c]⟩).size = wd.size + 1 := by rw [ByteArray.size_append]; rfl
        obtain ⟨wd', h1, h2, h3⟩ := ih (i + 1) (wd ++ ⟨#[c]⟩) (by omega) (by omega) (allL_app hl hlc) (by omega)
        refine ⟨wd', ?_, h2, h3⟩
        have hsz : wd.size + ByteArray.size (⟨#[c]⟩ : ByteArray) ≤ Go.maxLen := by have : ByteArray.size (⟨#[c]⟩ : ByteArray) = 1 := rfl; omega
        have hb2 : (0 : Int) ≤ (i : Int) ∧ (i : Int) ≤ ((i + 1 : Nat) : Int) ∧ ((i + 1 : Nat) : Int) ≤ (s.size : Int) := by omega
        simp only [isL, Bool.or_eq_true, Bool.and_eq_true, decide_eq_true_eq] at hc
        refine SL.by (m := 96) sC9 hX1 (one 0 (e' := .ret) (T' := TW m wd) h1) ((tree _).trans ?_)
        rcases hc with hc | hc
        · rw [if_neg (by simp; omega), if_pos (by simp; omega), if_pos (by simp; omega), if_pos hb2, if_pos hsz]
          exact (ltab2_hit (LeSt.refl _)).trans ((cl_pos trivial).trans (kW _ _))
        · rw [if_pos (by simp; omega), if_pos (by simp; omega), if_pos hb2, if_pos hsz]
          exact (ltab2_hit (LeSt.refl _)).trans ((cl_pos trivial).trans (kW _ _))
      | false =>
        obtain ⟨wd', h1, h2, h3⟩ := ih (i + 1) wd (by omega) (by omega) hl (by omega)
        refine ⟨wd', ?_, h2, h3⟩
        simp only [isL, Bool.or_eq_false_iff, Bool.and_eq_false_iff, decide_eq_false_iff_not] at hc
        refine SL.by (m := 96) sC9 hX1 (one 0 (e' := .ret) (T' := TW m wd) h1) ((tree _).trans ?_)
        have fin : (ltab2 [⟨0, bodyOf E1 8 0, SW m s wd (i + 1), True, .exit 0, TW m wd', .ret, TW m wd⟩]) 0 226 (bodyOf E1 8 0) (SW m s wd (i + 1)) (KC 96) = some (.l (.exit 0) (TW m wd')) := (ltab2_hit (LeSt.refl _)).trans ((cl_pos trivial).trans (kW _ _))
        by_cases g1 : 97 ≤ c.toNat
        · rw [if_pos (by simp; omega), if_neg (by simp; omega), if_pos (by simp; omega), if_neg (by simp; omega)]
          exact fin
        · rw [if_neg (by simp; omega)]
          by_cases g2 : 65 ≤ c.toNat
          · rw [if_pos (by simp; omega), if_neg (by simp; omega)]
            exact fin
          · rw [if_neg (by simp; omega)]
            exact fin
    · refine ⟨wd, ?_, hl, by omega⟩
      exact SL.by (m := 96) sC9 hX1 ltab2_nil ((r8 m s wd i _).trans (by rw [if_neg (by simpa using hs)]; rfl))
theorem ite_le' {p : Prop} [Decidable p] {a b n : Nat} (ha : a ≤ n) (hb : b ≤ n) : (if p then a else b) ≤ n := by
  by_cases h : p
  · rw [if_pos h]; exact ha
  · rw [if_neg h]; exact hb
theorem lkI_le (s : ByteArray) : lkI s ≤ 13 := by
  unfold lkI
  repeat refine ite_le' (by decide) ?_
  decide
theorem lk_all : ∀ i : Fin 14, lkB i.val = true → (1 ≤ lkF i.val ∧ lkF i.val ≤ 3600) ∧ (-1 ≤ lkE i.val ∧ lkE i.val ≤ 1) ∧ (-1 ≤ lkD i.val ∧ lkD i.val ≤ 1) ∧ (-1 ≤ lkT i.val ∧ lkT i.val ≤ 1) ∧ (-1 ≤ lkA i.val ∧ lkA i.val ≤ 1) ∧ (-1 ≤ lkH i.val ∧ lkH i.val ≤ 1) := by decide
theorem scale {m : Int} {wd : ByteArray} (hm : sm m) (hl : allL wd = true) (hn : ne wd = true) (hz : wd.size ≤ 40) : pP (itS m ++ ⟨#[32]⟩ ++ wd) = if lkB (lkI wd) = false then errQ 10 else accQ (Acc.step ⟨m, 0, 0, 0, 0, 0⟩ (lkI wd) 1) := by
  have hs := itS_size (n := m) (by unfold sm at hm; unfold inR; omega)
  have h32 : (32 : UInt8) ∉ (itS m).data.toList := it_no m (by decide) (.inl (by decide))
  obtain ⟨n1, n2⟩ := num_it hm
  have hdat : (itS m ++ ⟨#[32]⟩ ++ wd).data.toList = (itS m).data.toList ++ 32 :: wd.data.toList := by simp
  have hk := cutA_app (r := wd.data.toList) h32
  rw [← hdat] at hk
  have hA : cA 32 (itS m ++ ⟨#[32]⟩ ++ wd) = itS m := by unfold cA; rw [hk]
  have hF : cF 32 (itS m ++ ⟨#[32]⟩ ++ wd) = true := by unfold cF; rw [hk]
  have hB : cB 32 (itS m ++ ⟨#[32]⟩ ++ wd) = wd := by unfold cB; rw [hk]
  have hsz : (itS m ++ ⟨#[32]⟩ ++ wd).size ≤ 100 := by
    rw [ByteArray.size_append, ByteArray.size_append]
    have : (⟨#[32]⟩ : ByteArray).size = 1 := rfl
    omega
  have hp : pts 42 wd = [wd] := by
    unfold pts
    rw [splL_none (allL_no hl (by decide))]
    simp
  have hN : ptN 42 wd = 1 := by unfold ptN; rw [hp]; rfl
  have h0 : pt 42 wd 0 = wd := by unfold pt; rw [hp]; rfl
  have hs1 : segB wd 1 = wd := if_pos rfl
  obtain ⟨s1, s2, s3⟩ := seg_spec (e := 1) hl hn (by omega)
  rw [hs1] at s1 s2 s3
  have hno := cutA_none (allL_no hl (c := 94) (by decide))
  have hG : fG wd = false := by
    have hA9 : cA 94 wd = wd := by unfold cA; rw [hno]
    have hF9 : cF 94 wd = false := by unfold cF; rw [hno]
    unfold fG; rw [hA9, hF9, if_pos hl]
  have hall : allF fO wd 0 := by
    intro j _ hj
    rw [hN] at hj
    obtain rfl : j = 0 := by omega
    rw [h0]; exact s3
  unfold pP
  rw [if_neg (by omega), hA, hB, n1, n2, hF, if_neg (by decide), if_pos rfl, if_pos hall, hN, run2]
  have hf : facE (uP wd 0) (eP wd 0) (gP wd 0) = if lkB (lkI wd) = false then some 10 else none := by
    show facE (fU (pt 42 wd 0)) (fE (pt 42 wd 0)) (fG (pt 42 wd 0)) = _
    rw [h0, s1, s2, hG]
    unfold facE
    simp
  have hU : uP wd 0 = wd := by show fU (pt 42 wd 0) = _; rw [h0]; exact s1
  have hE : eP wd 0 = 1 := by show fE (pt 42 wd 0) = _; rw [h0]; exact s2
  rw [hf, hU, hE]
  cases lkB (lkI wd) <;> rfl
theorem w1 {x : Int} (h : -1 ≤ x ∧ x ≤ 1) : w (0 + w (1 * x)) = x := by
  rw [Int.one_mul, Int.zero_add, w_in (n := x) (by unfold inR; omega), w_in (by unfold inR; omega)]
set_option maxRecDepth 100000 in
theorem tail8 {m : Int} {wd : ByteArray} (hm : sm m) (hl : allL wd = true) (hz : wd.size ≤ 40) : (
     if (ByteArray.toList wd == ByteArray.toList { data := #[] }) = true then
      some (Ans.c (CRes.ret (bo true) []))
     else
      cl (QI ([i64 m]) ∧ ([] : List (Option Chunk)) = []) (
       if ByteArray.size (itS m) + 1 ≤ maxLen then
        if ByteArray.size (itS m ++ { data := #[(32 : UInt8)] }) + ByteArray.size wd ≤ maxLen then
         cl (QStr ([V.sc (Value.string (itS m ++ { data := #[(32 : UInt8)] } ++ wd))]) ∧ ([] : List (Option Chunk)) = []) (
          if (!lkB (lkI wd)) = true then
           if (if false = true then !(pn (itS m ++ { data := #[(32 : UInt8)] } ++ wd) == (0 : Int) && (pa (itS m ++ { data := #[(32 : UInt8)] } ++ wd) == (0 : Int) && (pb (itS m ++ { data := #[(32 : UInt8)] } ++ wd) == (0 : Int) && (pc (itS m ++ { data := #[(32 : UInt8)] } ++ wd) == (0 : Int) && (pd (itS m ++ { data := #[(32 : UInt8)] } ++ wd) == (0 : Int) && (ph (itS m ++ { data := #[(32 : UInt8)] } ++ wd) == (0 : Int) && true)))) && true)) else pn (itS m ++ { data := #[(32 : UInt8)] } ++ wd) == (0 : Int) && (pa (itS m ++ { data := #[(32 : UInt8)] } ++ wd) == (0 : Int) && (pb (itS m ++ { data := #[(32 : UInt8)] } ++ wd) == (0 : Int) && (pc (itS m ++ { data := #[(32 : UInt8)] } ++ wd) == (0 : Int) && (pd (itS m ++ { data := #[(32 : UInt8)] } ++ wd) == (0 : Int) && (ph (itS m ++ { data := #[(32 : UInt8)] } ++ wd) == (0 : Int) && true)))) && true)) = true then
            if (pe (itS m ++ { data := #[(32 : UInt8)] } ++ wd) == (10 : Int)) = true then
             some (Ans.c (CRes.ret (bo true) []))
            else
             some (Ans.c (CRes.ret (bo false) []))
           else
            some (Ans.c (CRes.ret (bo false) []))
          else
           if decide (lkF (lkI wd) < (1 : Int)) = true then
            some (Ans.c (CRes.ret (bo false) []))
           else
            if decide (lkF (lkI wd) > (3600 : Int)) = true then
             some (Ans.c (CRes.ret (bo false) []))
            else
             if (!valid6 (w (m * lkF (lkI wd))) (lkE (lkI wd)) (lkD (lkI wd)) (lkT (lkI wd)) (lkA (lkI wd)) (lkH (lkI wd))) = true then
              if (if false = true then !(pn (itS m ++ { data := #[(32 : UInt8)] } ++ wd) == (0 : Int) && (pa (itS m ++ { data := #[(32 : UInt8)] } ++ wd) == (0 : Int) && (pb (itS m ++ { data := #[(32 : UInt8)] } ++ wd) == (0 : Int) && (pc (itS m ++ { data := #[(32 : UInt8)] } ++ wd) == (0 : Int) && (pd (itS m ++ { data := #[(32 : UInt8)] } ++ wd) == (0 : Int) && (ph (itS m ++ { data := #[(32 : UInt8)] } ++ wd) == (0 : Int) && true)))) && true)) else pn (itS m ++ { data := #[(32 : UInt8)] } ++ wd) == (0 : Int) && (pa (itS m ++ { data := #[(32 : UInt8)] } ++ wd) == (0 : Int) && (pb (itS m ++ { data := #[(32 : UInt8)] } ++ wd) == (0 : Int) && (pc (itS m ++ { data := #[(32 : UInt8)] } ++ wd) == (0 : Int) && (pd (itS m ++ { data := #[(32 : UInt8)] } ++ wd) == (0 : Int) && (ph (itS m ++ { data := #[(32 : UInt8)] } ++ wd) == (0 : Int) && true)))) && true)) = true then
               if (pe (itS m ++ { data := #[(32 : UInt8)] } ++ wd) == (5 : Int)) = true then
                some (Ans.c (CRes.ret (bo true) []))
               else
                some (Ans.c (CRes.ret (bo false) []))
              else
               some (Ans.c (CRes.ret (bo false) []))
             else
              if (if false = true then !(pn (itS m ++ { data := #[(32 : UInt8)] } ++ wd) == w (m * lkF (lkI wd)) && (pa (itS m ++ { data := #[(32 : UInt8)] } ++ wd) == lkE (lkI wd) && (pb (itS m ++ { data := #[(32 : UInt8)] } ++ wd) == lkD (lkI wd) && (pc (itS m ++ { data := #[(32 : UInt8)] } ++ wd) == lkT (lkI wd) && (pd (itS m ++ { data := #[(32 : UInt8)] } ++ wd) == lkA (lkI wd) && (ph (itS m ++ { data := #[(32 : UInt8)] } ++ wd) == lkH (lkI wd) && true)))) && true)) else pn (itS m ++ { data := #[(32 : UInt8)] } ++ wd) == w (m * lkF (lkI wd)) && (pa (itS m ++ { data := #[(32 : UInt8)] } ++ wd) == lkE (lkI wd) && (pb (itS m ++ { data := #[(32 : UInt8)] } ++ wd) == lkD (lkI wd) && (pc (itS m ++ { data := #[(32 : UInt8)] } ++ wd) == lkT (lkI wd) && (pd (itS m ++ { data := #[(32 : UInt8)] } ++ wd) == lkA (lkI wd) && (ph (itS m ++ { data := #[(32 : UInt8)] } ++ wd) == lkH (lkI wd) && true)))) && true)) = true then
               if (pe (itS m ++ { data := #[(32 : UInt8)] } ++ wd) == (0 : Int)) = true then
                some (Ans.c (CRes.ret (bo true) []))
               else
                some (Ans.c (CRes.ret (bo false) []))
              else
               some (Ans.c (CRes.ret (bo false) []))) (
          none)
        else
         none
       else
        none) (
       none)) = some (Ans.c (CRes.ret (bo true) [])) := by
  by_cases hn : ne wd = true
  · have hs := itS_size (n := m) (by unfold sm at hm; unfold inR; omega)
    have hML : Go.maxLen = 9223372036854775807 := by decide
    have z1 : (itS m ++ ⟨#[32]⟩ : ByteArray).size = (itS m).size + 1 := by rw [ByteArray.size_append]; rfl
    have hsc := scale hm hl hn hz
    have he : ¬ (ByteArray.toList wd == ByteArray.toList { data := #[] }) = true := by
      intro h; unfold ne at hn; rw [h] at hn; cases hn
    have q1 : QI [i64 m] ∧ ([] : List (Option Chunk)) = [] := ⟨⟨m, rfl, by unfold sm at hm; unfold inR; omega⟩, rfl⟩
    have q0 : QStr [V.sc (Value.string (itS m ++ { data := #[(32 : UInt8)] } ++ wd))] ∧ ([] : List (Option Chunk)) = [] := ⟨⟨_, rfl⟩, rfl⟩
    rw [if_neg he, cl_pos q1, if_pos (by omega), if_pos (by omega), cl_pos q0]
    cases hB : lkB (lkI wd) with
    | false =>
      rw [hB, if_pos rfl] at hsc
      rw [if_pos (by rfl)]
      simp only [pn, pa, pb, pc, pd, ph, pe, hsc]
      rw [if_pos (by rfl), if_pos (by rfl)]
    | true =>
      rw [hB, if_neg (by decide)] at hsc
      have hi := lkI_le wd
      obtain ⟨f1, f2, f3, f4, f5, f6⟩ := lk_all ⟨lkI wd, by omega⟩ hB
      simp only at f1 f2 f3 f4 f5 f6
      generalize hF : lkF (lkI wd) = F at *
      have hmF : -9223372036854775808 ≤ m * F ∧ m * F ≤ 9223372036854775807 := by
        unfold sm at hm
        have a1 : m * F ≤ 2147483647 * F := Int.mul_le_mul_of_nonneg_right hm.2 (by omega)
        have a2 : -2147483647 * F ≤ m * F := Int.mul_le_mul_of_nonneg_right hm.1 (by omega)
        omega
      have ewm : w (m * F) = m * F := w_in hmF
      have hnS : nS m (lkI wd) = if (if (2147483648 : Int) < m * F then (2147483648 : Int) else m * F) > (-2147483648 : Int) then (if (2147483648 : Int) < m * F then (2147483648 : Int) else m * F) else (-2147483648 : Int) := by
        unfold nS; rw [hF, ewm]
      have hst : Acc.step ⟨m, 0, 0, 0, 0, 0⟩ (lkI wd) 1 = ⟨nS m (lkI wd), lkE (lkI wd), lkD (lkI wd), lkT (lkI wd), lkA (lkI wd), lkH (lkI wd)⟩ := by
        unfold Acc.step
        simp only [w1 f2, w1 f3, w1 f4, w1 f5, w1 f6]
      rw [hst] at hsc
      have hdim : ∀ x : Int, -1 ≤ x ∧ x ≤ 1 → in8 x = true := fun x hx => by simp [in8]; omega
      have hok : ∀ z : Int, valid6 z (lkE (lkI wd)) (lkD (lkI wd)) (lkT (lkI wd)) (lkA (lkI wd)) (lkH (lkI wd)) = (decide (-2147483647 ≤ z) && decide (z ≤ 2147483647)) := by
        intro z
        unfold valid6
        rw [hdim _ f2, hdim _ f3, hdim _ f4, hdim _ f5, hdim _ f6]
        simp
      have hok6 : ok6 ⟨nS m (lkI wd), lkE (lkI wd), lkD (lkI wd), lkT (lkI wd), lkA (lkI wd), lkH (lkI wd)⟩ = (decide (-2147483647 ≤ nS m (lkI wd)) && decide (nS m (lkI wd) ≤ 2147483647)) := hok _
      rw [if_neg (by decide), if_neg (by simp; omega), if_neg (by simp; omega), ewm, hok]
      generalize nS m (lkI wd) = z at *
      by_cases hv : -2147483647 ≤ m * F ∧ m * F ≤ 2147483647
      · have hzz : z = m * F := by
          rw [hnS, if_neg (show ¬ (2147483648 : Int) < m * F by omega), if_pos (by omega)]
        have ht : ok6 ⟨z, lkE (lkI wd), lkD (lkI wd), lkT (lkI wd), lkA (lkI wd), lkH (lkI wd)⟩ = true := by rw [hok6, hzz]; simp [hv]
        unfold accQ at hsc
        rw [ht] at hsc
        rw [if_neg (by simp [hv])]
        simp only [pn, pa, pb, pc, pd, ph, pe, hsc, pk_t, hzz]
        rw [if_pos (by simp), if_pos (by rfl)]
      · have hbad : ¬ (-2147483647 ≤ z ∧ z ≤ 2147483647) := by
          rw [hnS]
          by_cases h1 : (2147483648 : Int) < m * F
          · rw [if_pos h1, if_pos (by omega)]; omega
          · rw [if_neg h1]
            by_cases h2 : m * F > -2147483648
            · rw [if_pos h2]; exact hv
            · rw [if_neg h2]; omega
        have hf : ok6 ⟨z, lkE (lkI wd), lkD (lkI wd), lkT (lkI wd), lkA (lkI wd), lkH (lkI wd)⟩ = false := by
          rw [hok6]; simp; omega
        unfold accQ at hsc
        rw [hf] at hsc
        rw [if_pos (by simp; omega)]
        simp only [pn, pa, pb, pc, pd, ph, pe, hsc, pk_f]
        rw [if_pos (by rfl), if_pos (by rfl)]
  · have he : (ByteArray.toList wd == ByteArray.toList { data := #[] }) = true := by
      unfold ne at hn
      cases h : (ByteArray.toList wd == ByteArray.toList { data := #[] }) with
      | true => rfl
      | false => rw [h] at hn; exact absurd rfl hn
    rw [if_pos he]
theorem small {k : Int} (h : 0 ≤ k ∧ k ≤ 9223372036854775807) : sm (w (Int.tmod k (w (w ((2 : Int) * (2147483647 : Int)) + (1 : Int))) - (2147483647 : Int))) := by
  have e : w (w ((2 : Int) * (2147483647 : Int)) + (1 : Int)) = 4294967295 := by decide
  rw [e, Int.tmod_eq_emod_of_nonneg h.1]
  have h1 := Int.emod_nonneg k (b := 4294967295) (by decide)
  have h2 := Int.emod_lt_of_pos k (b := 4294967295) (by decide)
  rw [w_in (by unfold inR; omega)]
  unfold sm; omega
theorem unitScale (v0 v1 : V) (h0 : WTV E.P 3 v0) (h1 : WTV E.P 9 v1) : ∃ l', LeL [v0, v1] l' ∧ SC E 8 l' [] (.ret (bo true) []) := by
  obtain ⟨n, rfl, hn⟩ := h0.i64 (by kernel_rfl) (by kernel_rfl)
  obtain ⟨s, rfl, _⟩ := h1.str (by kernel_rfl) (by kernel_rfl)
  refine ⟨_, LeL.refl _, ?_⟩
  by_cases h : n < 0
  · have e1 : w (n + 1) = n + 1 := w_in (by unfold inR at *; omega)
    have e2 : w (0 - w (n + 1)) = -(n + 1) := by rw [e1, w_in (by unfold inR at *; omega)]; omega
    have hm := small (k := w (0 - w (n + 1))) (by rw [e2]; unfold inR at hn; omega)
    obtain ⟨wd, l1, l2, l3⟩ := loop8 (w (Int.tmod (w ((0 : Int) - w (n + (1 : Int)))) (w (w ((2 : Int) * (2147483647 : Int)) + (1 : Int))) - (2147483647 : Int))) s 40 0 ⟨#[]⟩ rfl (by omega) rfl (Nat.le_refl 0)
    refine sc1.1 (SC.of hW1 hX1 sC9 (one 0 (e' := .ret) (T' := TW _ wd) l1) ((f8 n _ s wd _).trans ?_))
    rw [if_pos (by simpa using h), cl_pos ⟨rfl, LeSt.refl _⟩, cl_pos trivial]
    exact tail8 hm l2 l3
  · have hm := small (k := n) (by unfold inR at hn; omega)
    obtain ⟨wd, l1, l2, l3⟩ := loop8 (w (Int.tmod n (w (w ((2 : Int) * (2147483647 : Int)) + (1 : Int))) - (2147483647 : Int))) s 40 0 ⟨#[]⟩ rfl (by omega) rfl (Nat.le_refl 0)
    refine sc1.1 (SC.of hW1 hX1 sC9 (one 0 (e' := .ret) (T' := TW _ wd) l1) ((f8 n _ s wd _).trans ?_))
    rw [if_neg (by simpa using h), cl_pos ⟨rfl, LeSt.refl _⟩, cl_pos trivial]
    exact tail8 hm l2 l3
end Go.Proofs.YtnjpgkaignfcaaaDoor
