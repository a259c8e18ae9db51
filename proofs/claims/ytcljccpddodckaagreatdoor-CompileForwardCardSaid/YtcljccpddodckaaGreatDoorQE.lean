/- Texts joined. -/
import Derived.Test.YtcljccpddodckaaGreatDoorQD
import Derived.Test.YtcljccpddodckaaGreatDoorQC
/- Regions (79), walked. -/
namespace Go.Proofs.YtcljccpddodckaaGreatDoor
open Go Go.Am Go.Proofs
set_option linter.unusedSimpArgs false
set_option linter.unusedVariables false
set_option maxRecDepth 100000
def vPuR : List V → V
  | [.sc (.int .i64 o)] => bo (Cv.pureR o)
  | _ => .junk
noncomputable def C79 : CallT := ptab 23 QI1 vPuR (tab [])
theorem sC79 : SoundC E2 C79 := ptab_cons (fun args h => by obtain ⟨o, rfl⟩ := h; exact pureR_sc o) tab_nil
def S79a (n : Nat) (op arg : Nat → Int) : St := { fr := [cd n op arg, .junk, .junk, .junk, .junk, .sc (.slice none 0 0), .sc (.slice none 0 0), .sc (.slice none 0 0), i64 (-1), i64 0] ++ jk 93, H := hp [], nx := 0, rt := 0, me := 10 }
def S79b (n : Nat) (op arg : Nat → Int) (i : Nat) (L W : Nat → Int) (wa : Int) : St := { fr := [cd n op arg, .junk, .junk, .junk, .junk, .sl 0 1 0 i, .sl 1 1 0 i, .sc (.slice none 0 0), i64 wa, i64 i] ++ jk 93, H := hp [some (.row 3 1 i (r1 L)), some (.row 3 1 i (r1 W))], nx := 2, rt := 0, me := 10 }
def S79c (n : Nat) (op arg : Nat → Int) (i : Nat) (L W : Nat → Int) (m cp : Nat) (stk : Nat → Int) (wa : Int) : St := { fr := [cd n op arg, .junk, .junk, .junk, .junk, .sl 0 1 0 i, .sl 1 1 0 i, .sl 2 1 0 m, i64 wa, i64 i] ++ jk 93, H := hp [some (.row 3 1 i (r1 L)), some (.row 3 1 i (r1 W)), some (.row 3 1 cp (r1 stk))], nx := 3, rt := 0, me := 10 }
def T79b (n : Nat) (L W : Nat → Int) (wa : Int) : St := { fr := jk 5 ++ [.sl 0 1 0 n, .sl 1 1 0 n, .sc (.slice none 0 0), i64 wa] ++ jk 94, H := hp [some (.row 3 1 n (r1 L)), some (.row 3 1 n (r1 W))], nx := 2, rt := 0, me := 10 }
def T79c (n : Nat) (L W : Nat → Int) (m cp : Nat) (stk : Nat → Int) (wa : Int) : St := { fr := jk 5 ++ [.sl 0 1 0 n, .sl 1 1 0 n, .sl 2 1 0 m, i64 wa] ++ jk 94, H := hp [some (.row 3 1 n (r1 L)), some (.row 3 1 n (r1 W)), some (.row 3 1 cp (r1 stk))], nx := 3, rt := 0, me := 10 }
def T79r : St := { fr := [.junk, .junk, .sc (.slice none 0 0), .sc (.slice none 0 0), bo false] ++ jk 98, H := hp [], nx := 0, rt := 0, me := 10 }
theorem r79a (n : Nat) (op arg : Nat → Int) (lo : LoopT) : loopK E2 C79 lo 0 993 (bodyOf E2 10 0) (S79a n op arg) (KC2 480 28) =
  if decide ((0 : Int) < (n : Int)) = true then
   if (0 : Int) ≤ (0 : Int) ∧ (0 : Int) < (n : Int) then
    if (op 0 == (16 : Int)) = true then
     lo 0 993 (bodyOf E2 10 0) ({ fr := [V.ro 2 n (ins op arg), V.junk, V.junk, V.junk, V.junk, V.sl 0 1 0 1, V.sl 1 1 0 1, V.sl 2 1 0 1, i64 (-1), i64 (w ((0 : Int) + (1 : Int)))] ++ jk 93, H := hp [some (Chunk.row 3 1 1 fun (j : Nat) => List.getD [[i64 (-1)]] (0 + j) []), some (Chunk.row 3 1 1 fun (j : Nat) => List.getD [[i64 (-1)]] (0 + j) []), some (Chunk.row 3 1 1 fun (j : Nat) => List.getD [[i64 0]] (0 + j) [])], nx := 3, rt := 0, me := 10 }) (KC2 480 28)
    else
     if (op 0 == (17 : Int)) = true then
      some (Ans.l Ex.ret { fr := [V.junk, V.junk, V.sc (Value.slice none 0 0), V.sc (Value.slice none 0 0), bo false] ++ jk 98, H := hp [], nx := 0, rt := 0, me := 10 })
     else
      if (op 0 == (19 : Int)) = true then
       lo 0 993 (bodyOf E2 10 0) ({ fr := [V.ro 2 n (ins op arg), V.junk, V.junk, V.junk, V.junk, V.sl 0 1 0 1, V.sl 1 1 0 1, V.sc (Value.slice none 0 0), i64 0, i64 (w ((0 : Int) + (1 : Int)))] ++ jk 93, H := hp [some (Chunk.row 3 1 1 fun (j : Nat) => List.getD [[i64 (-1)]] (0 + j) []), some (Chunk.row 3 1 1 fun (j : Nat) => List.getD [[i64 (-1)]] (0 + j) [])], nx := 2, rt := 0, me := 10 }) (KC2 480 28)
      else
       if (op 0 == (20 : Int)) = true then
        some (Ans.l Ex.ret { fr := [V.junk, V.junk, V.sc (Value.slice none 0 0), V.sc (Value.slice none 0 0), bo false] ++ jk 98, H := hp [], nx := 0, rt := 0, me := 10 })
       else
        lo 0 993 (bodyOf E2 10 0) ({ fr := [V.ro 2 n (ins op arg), V.junk, V.junk, V.junk, V.junk, V.sl 0 1 0 1, V.sl 1 1 0 1, V.sc (Value.slice none 0 0), i64 (-1), i64 (w ((0 : Int) + (1 : Int)))] ++ jk 93, H := hp [some (Chunk.row 3 1 1 fun (j : Nat) => List.getD [[i64 (-1)]] (0 + j) []), some (Chunk.row 3 1 1 fun (j : Nat) => List.getD [[i64 (-1)]] (0 + j) [])], nx := 2, rt := 0, me := 10 }) (KC2 480 28)
   else
    none
  else
   some (Ans.l (Ex.exit 0) { fr := [V.junk, V.junk, V.junk, V.junk, V.junk, V.sc (Value.slice none 0 0), V.sc (Value.slice none 0 0), V.sc (Value.slice none 0 0), i64 (-1)] ++ jk 94, H := hp [], nx := 0, rt := 0, me := 10 }) := by kernel_rfl

theorem r79b (n : Nat) (op arg : Nat → Int) (i : Nat) (L W : Nat → Int) (wa : Int) (lo : LoopT) : loopK E2 C79 lo 0 993 (bodyOf E2 10 0) (S79b n op arg i L W wa) (KC2 480 28) =
  if decide ((i : Int) < (n : Int)) = true then
   if (0 : Int) ≤ (i : Int) ∧ (i : Int) < (n : Int) then
    if decide (wa ≥ (0 : Int)) = true then
     if (op (Int.toNat (i : Int)) != (20 : Int)) = true then
      cl (QI1 ([i64 (op (Int.toNat (i : Int)))]) ∧ ([] : List (Option Chunk)) = []) (
       if (!Cv.pureR (op (Int.toNat (i : Int)))) = true then
        some (Ans.l Ex.ret { fr := [V.junk, V.junk, V.sc (Value.slice none 0 0), V.sc (Value.slice none 0 0), bo false] ++ jk 98, H := hp [], nx := 0, rt := 0, me := 10 })
       else
        if (i + 1) * 8 ≤ roomBound ∧ i + 1 ≤ maxLen ∧ i ≤ i then
         if (i + 1) * 8 ≤ roomBound ∧ i + 1 ≤ maxLen ∧ i ≤ i then
          if (op (Int.toNat (i : Int)) == (16 : Int)) = true then
           lo 0 993 (bodyOf E2 10 0) ({ fr := [V.ro 2 n (ins op arg), V.junk, V.junk, V.junk, V.junk, V.sl 0 1 0 (i + 1), V.sl 1 1 0 (i + 1), V.sl 2 1 0 1, i64 wa, i64 (w ((i : Int) + (1 : Int)))] ++ jk 93, H := hp [some (Chunk.row 3 1 (i + 1) (joinF i (r1 L) fun (j : Nat) => List.getD [[i64 (-1)]] (0 + j) [])), some (Chunk.row 3 1 (i + 1) (joinF i (r1 W) fun (j : Nat) => List.getD [[i64 wa]] (0 + j) [])), some (Chunk.row 3 1 1 fun (j : Nat) => List.getD [[i64 (i : Int)]] (0 + j) [])], nx := 3, rt := 0, me := 10 }) (KC2 480 28)
          else
           if (op (Int.toNat (i : Int)) == (17 : Int)) = true then
            some (Ans.l Ex.ret { fr := [V.junk, V.junk, V.sc (Value.slice none 0 0), V.sc (Value.slice none 0 0), bo false] ++ jk 98, H := hp [], nx := 0, rt := 0, me := 10 })
           else
            if (op (Int.toNat (i : Int)) == (19 : Int)) = true then
             lo 0 993 (bodyOf E2 10 0) ({ fr := [V.ro 2 n (ins op arg), V.junk, V.junk, V.junk, V.junk, V.sl 0 1 0 (i + 1), V.sl 1 1 0 (i + 1), V.sc (Value.slice none 0 0), i64 (i : Int), i64 (w ((i : Int) + (1 : Int)))] ++ jk 93, H := hp [some (Chunk.row 3 1 (i + 1) (joinF i (r1 L) fun (j : Nat) => List.getD [[i64 (-1)]] (0 + j) [])), some (Chunk.row 3 1 (i + 1) (joinF i (r1 W) fun (j : Nat) => List.getD [[i64 wa]] (0 + j) []))], nx := 2, rt := 0, me := 10 }) (KC2 480 28)
            else
             if (op (Int.toNat (i : Int)) == (20 : Int)) = true then
              if decide (wa < (0 : Int)) = true then
               some (Ans.l Ex.ret { fr := [V.junk, V.junk, V.sc (Value.slice none 0 0), V.sc (Value.slice none 0 0), bo false] ++ jk 98, H := hp [], nx := 0, rt := 0, me := 10 })
              else
               if (0 : Int) ≤ (i : Int) ∧ (i : Int) < (n : Int) then
                if (arg (Int.toNat (i : Int)) != w (wa + (1 : Int))) = true then
                 some (Ans.l Ex.ret { fr := [V.junk, V.junk, V.sc (Value.slice none 0 0), V.sc (Value.slice none 0 0), bo false] ++ jk 98, H := hp [], nx := 0, rt := 0, me := 10 })
                else
                 lo 0 993 (bodyOf E2 10 0) ({ fr := [V.ro 2 n (ins op arg), V.junk, V.junk, V.junk, V.junk, V.sl 0 1 0 (i + 1), V.sl 1 1 0 (i + 1), V.sc (Value.slice none 0 0), i64 (-1), i64 (w ((i : Int) + (1 : Int)))] ++ jk 93, H := hp [some (Chunk.row 3 1 (i + 1) (joinF i (r1 L) fun (j : Nat) => List.getD [[i64 (-1)]] (0 + j) [])), some (Chunk.row 3 1 (i + 1) (joinF i (r1 W) fun (j : Nat) => List.getD [[i64 wa]] (0 + j) []))], nx := 2, rt := 0, me := 10 }) (KC2 480 28)
               else
                none
             else
              lo 0 993 (bodyOf E2 10 0) ({ fr := [V.ro 2 n (ins op arg), V.junk, V.junk, V.junk, V.junk, V.sl 0 1 0 (i + 1), V.sl 1 1 0 (i + 1), V.sc (Value.slice none 0 0), i64 wa, i64 (w ((i : Int) + (1 : Int)))] ++ jk 93, H := hp [some (Chunk.row 3 1 (i + 1) (joinF i (r1 L) fun (j : Nat) => List.getD [[i64 (-1)]] (0 + j) [])), some (Chunk.row 3 1 (i + 1) (joinF i (r1 W) fun (j : Nat) => List.getD [[i64 wa]] (0 + j) []))], nx := 2, rt := 0, me := 10 }) (KC2 480 28)
         else
          none
        else
         none) (
       none)
     else
      if (i + 1) * 8 ≤ roomBound ∧ i + 1 ≤ maxLen ∧ i ≤ i then
       if (i + 1) * 8 ≤ roomBound ∧ i + 1 ≤ maxLen ∧ i ≤ i then
        if (op (Int.toNat (i : Int)) == (16 : Int)) = true then
         lo 0 993 (bodyOf E2 10 0) ({ fr := [V.ro 2 n (ins op arg), V.junk, V.junk, V.junk, V.junk, V.sl 0 1 0 (i + 1), V.sl 1 1 0 (i + 1), V.sl 2 1 0 1, i64 wa, i64 (w ((i : Int) + (1 : Int)))] ++ jk 93, H := hp [some (Chunk.row 3 1 (i + 1) (joinF i (r1 L) fun (j : Nat) => List.getD [[i64 (-1)]] (0 + j) [])), some (Chunk.row 3 1 (i + 1) (joinF i (r1 W) fun (j : Nat) => List.getD [[i64 wa]] (0 + j) [])), some (Chunk.row 3 1 1 fun (j : Nat) => List.getD [[i64 (i : Int)]] (0 + j) [])], nx := 3, rt := 0, me := 10 }) (KC2 480 28)
        else
         if (op (Int.toNat (i : Int)) == (17 : Int)) = true then
          some (Ans.l Ex.ret { fr := [V.junk, V.junk, V.sc (Value.slice none 0 0), V.sc (Value.slice none 0 0), bo false] ++ jk 98, H := hp [], nx := 0, rt := 0, me := 10 })
         else
          if (op (Int.toNat (i : Int)) == (19 : Int)) = true then
           lo 0 993 (bodyOf E2 10 0) ({ fr := [V.ro 2 n (ins op arg), V.junk, V.junk, V.junk, V.junk, V.sl 0 1 0 (i + 1), V.sl 1 1 0 (i + 1), V.sc (Value.slice none 0 0), i64 (i : Int), i64 (w ((i : Int) + (1 : Int)))] ++ jk 93, H := hp [some (Chunk.row 3 1 (i + 1) (joinF i (r1 L) fun (j : Nat) => List.getD [[i64 (-1)]] (0 + j) [])), some (Chunk.row 3 1 (i + 1) (joinF i (r1 W) fun (j : Nat) => List.getD [[i64 wa]] (0 + j) []))], nx := 2, rt := 0, me := 10 }) (KC2 480 28)
          else
           if (op (Int.toNat (i : Int)) == (20 : Int)) = true then
            if decide (wa < (0 : Int)) = true then
             some (Ans.l Ex.ret { fr := [V.junk, V.junk, V.sc (Value.slice none 0 0), V.sc (Value.slice none 0 0), bo false] ++ jk 98, H := hp [], nx := 0, rt := 0, me := 10 })
            else
             if (0 : Int) ≤ (i : Int) ∧ (i : Int) < (n : Int) then
              if (arg (Int.toNat (i : Int)) != w (wa + (1 : Int))) = true then
               some (Ans.l Ex.ret { fr := [V.junk, V.junk, V.sc (Value.slice none 0 0), V.sc (Value.slice none 0 0), bo false] ++ jk 98, H := hp [], nx := 0, rt := 0, me := 10 })
              else
               lo 0 993 (bodyOf E2 10 0) ({ fr := [V.ro 2 n (ins op arg), V.junk, V.junk, V.junk, V.junk, V.sl 0 1 0 (i + 1), V.sl 1 1 0 (i + 1), V.sc (Value.slice none 0 0), i64 (-1), i64 (w ((i : Int) + (1 : Int)))] ++ jk 93, H := hp [some (Chunk.row 3 1 (i + 1) (joinF i (r1 L) fun (j : Nat) => List.getD [[i64 (-1)]] (0 + j) [])), some (Chunk.row 3 1 (i + 1) (joinF i (r1 W) fun (j : Nat) => List.getD [[i64 wa]] (0 + j) []))], nx := 2, rt := 0, me := 10 }) (KC2 480 28)
             else
              none
           else
            lo 0 993 (bodyOf E2 10 0) ({ fr := [V.ro 2 n (ins op arg), V.junk, V.junk, V.junk, V.junk, V.sl 0 1 0 (i + 1), V.sl 1 1 0 (i + 1), V.sc (Value.slice none 0 0), i64 wa, i64 (w ((i : Int) + (1 : Int)))] ++ jk 93, H := hp [some (Chunk.row 3 1 (i + 1) (joinF i (r1 L) fun (j : Nat) => List.getD [[i64 (-1)]] (0 + j) [])), some (Chunk.row 3 1 (i + 1) (joinF i (r1 W) fun (j : Nat) => List.getD [[i64 wa]] (0 + j) []))], nx := 2, rt := 0, me := 10 }) (KC2 480 28)
       else
        none
      else
       none
    else
     if (i + 1) * 8 ≤ roomBound ∧ i + 1 ≤ maxLen ∧ i ≤ i then
      if (i + 1) * 8 ≤ roomBound ∧ i + 1 ≤ maxLen ∧ i ≤ i then
       if (op (Int.toNat (i : Int)) == (16 : Int)) = true then
        lo 0 993 (bodyOf E2 10 0) ({ fr := [V.ro 2 n (ins op arg), V.junk, V.junk, V.junk, V.junk, V.sl 0 1 0 (i + 1), V.sl 1 1 0 (i + 1), V.sl 2 1 0 1, i64 wa, i64 (w ((i : Int) + (1 : Int)))] ++ jk 93, H := hp [some (Chunk.row 3 1 (i + 1) (joinF i (r1 L) fun (j : Nat) => List.getD [[i64 (-1)]] (0 + j) [])), some (Chunk.row 3 1 (i + 1) (joinF i (r1 W) fun (j : Nat) => List.getD [[i64 wa]] (0 + j) [])), some (Chunk.row 3 1 1 fun (j : Nat) => List.getD [[i64 (i : Int)]] (0 + j) [])], nx := 3, rt := 0, me := 10 }) (KC2 480 28)
       else
        if (op (Int.toNat (i : Int)) == (17 : Int)) = true then
         some (Ans.l Ex.ret { fr := [V.junk, V.junk, V.sc (Value.slice none 0 0), V.sc (Value.slice none 0 0), bo false] ++ jk 98, H := hp [], nx := 0, rt := 0, me := 10 })
        else
         if (op (Int.toNat (i : Int)) == (19 : Int)) = true then
          lo 0 993 (bodyOf E2 10 0) ({ fr := [V.ro 2 n (ins op arg), V.junk, V.junk, V.junk, V.junk, V.sl 0 1 0 (i + 1), V.sl 1 1 0 (i + 1), V.sc (Value.slice none 0 0), i64 (i : Int), i64 (w ((i : Int) + (1 : Int)))] ++ jk 93, H := hp [some (Chunk.row 3 1 (i + 1) (joinF i (r1 L) fun (j : Nat) => List.getD [[i64 (-1)]] (0 + j) [])), some (Chunk.row 3 1 (i + 1) (joinF i (r1 W) fun (j : Nat) => List.getD [[i64 wa]] (0 + j) []))], nx := 2, rt := 0, me := 10 }) (KC2 480 28)
         else
          if (op (Int.toNat (i : Int)) == (20 : Int)) = true then
           if decide (wa < (0 : Int)) = true then
            some (Ans.l Ex.ret { fr := [V.junk, V.junk, V.sc (Value.slice none 0 0), V.sc (Value.slice none 0 0), bo false] ++ jk 98, H := hp [], nx := 0, rt := 0, me := 10 })
           else
            if (0 : Int) ≤ (i : Int) ∧ (i : Int) < (n : Int) then
             if (arg (Int.toNat (i : Int)) != w (wa + (1 : Int))) = true then
              some (Ans.l Ex.ret { fr := [V.junk, V.junk, V.sc (Value.slice none 0 0), V.sc (Value.slice none 0 0), bo false] ++ jk 98, H := hp [], nx := 0, rt := 0, me := 10 })
             else
              lo 0 993 (bodyOf E2 10 0) ({ fr := [V.ro 2 n (ins op arg), V.junk, V.junk, V.junk, V.junk, V.sl 0 1 0 (i + 1), V.sl 1 1 0 (i + 1), V.sc (Value.slice none 0 0), i64 (-1), i64 (w ((i : Int) + (1 : Int)))] ++ jk 93, H := hp [some (Chunk.row 3 1 (i + 1) (joinF i (r1 L) fun (j : Nat) => List.getD [[i64 (-1)]] (0 + j) [])), some (Chunk.row 3 1 (i + 1) (joinF i (r1 W) fun (j : Nat) => List.getD [[i64 wa]] (0 + j) []))], nx := 2, rt := 0, me := 10 }) (KC2 480 28)
            else
             none
          else
           lo 0 993 (bodyOf E2 10 0) ({ fr := [V.ro 2 n (ins op arg), V.junk, V.junk, V.junk, V.junk, V.sl 0 1 0 (i + 1), V.sl 1 1 0 (i + 1), V.sc (Value.slice none 0 0), i64 wa, i64 (w ((i : Int) + (1 : Int)))] ++ jk 93, H := hp [some (Chunk.row 3 1 (i + 1) (joinF i (r1 L) fun (j : Nat) => List.getD [[i64 (-1)]] (0 + j) [])), some (Chunk.row 3 1 (i + 1) (joinF i (r1 W) fun (j : Nat) => List.getD [[i64 wa]] (0 + j) []))], nx := 2, rt := 0, me := 10 }) (KC2 480 28)
      else
       none
     else
      none
   else
    none
  else
   some (Ans.l (Ex.exit 0) { fr := [V.junk, V.junk, V.junk, V.junk, V.junk, V.sl 0 1 0 i, V.sl 1 1 0 i, V.sc (Value.slice none 0 0), i64 wa] ++ jk 94, H := hp [some (Chunk.row 3 1 i (r1 L)), some (Chunk.row 3 1 i (r1 W))], nx := 2, rt := 0, me := 10 }) := by kernel_rfl

theorem r79c (n : Nat) (op arg : Nat → Int) (i : Nat) (L W : Nat → Int) (m cp : Nat) (stk : Nat → Int) (wa : Int) (lo : LoopT) : loopK E2 C79 lo 0 993 (bodyOf E2 10 0) (S79c n op arg i L W m cp stk wa) (KC2 480 28) =
  if decide ((i : Int) < (n : Int)) = true then
   if (0 : Int) ≤ (i : Int) ∧ (i : Int) < (n : Int) then
    if decide (wa ≥ (0 : Int)) = true then
     if (op (Int.toNat (i : Int)) != (20 : Int)) = true then
      cl (QI1 ([i64 (op (Int.toNat (i : Int)))]) ∧ ([] : List (Option Chunk)) = []) (
       if (!Cv.pureR (op (Int.toNat (i : Int)))) = true then
        some (Ans.l Ex.ret { fr := [V.junk, V.junk, V.sc (Value.slice none 0 0), V.sc (Value.slice none 0 0), bo false] ++ jk 98, H := hp [], nx := 0, rt := 0, me := 10 })
       else
        if decide ((m : Int) > (0 : Int)) = true then
         if (0 : Int) ≤ w ((m : Int) - (1 : Int)) ∧ w ((m : Int) - (1 : Int)) < (m : Int) then
          if 0 + Int.toNat (w ((m : Int) - (1 : Int))) < cp ∧ 1 = 1 then
           if (i + 1) * 8 ≤ roomBound ∧ i + 1 ≤ maxLen ∧ i ≤ i then
            if (i + 1) * 8 ≤ roomBound ∧ i + 1 ≤ maxLen ∧ i ≤ i then
             if (op (Int.toNat (i : Int)) == (16 : Int)) = true then
              if (m + 1) * 8 ≤ roomBound ∧ m + 1 ≤ maxLen ∧ m ≤ cp then
               lo 0 993 (bodyOf E2 10 0) ({ fr := [V.ro 2 n (ins op arg), V.junk, V.junk, V.junk, V.junk, V.sl 0 1 0 (i + 1), V.sl 1 1 0 (i + 1), V.sl 2 1 0 (m + 1), i64 wa, i64 (w ((i : Int) + (1 : Int)))] ++ jk 93, H := hp [some (Chunk.row 3 1 (i + 1) (joinF i (r1 L) fun (j : Nat) => List.getD [[i64 (stk (0 + Int.toNat (w ((m : Int) - (1 : Int)))))]] (0 + j) [])), some (Chunk.row 3 1 (i + 1) (joinF i (r1 W) fun (j : Nat) => List.getD [[i64 wa]] (0 + j) [])), some (Chunk.row 3 1 (m + 1) (joinF m (r1 stk) fun (j : Nat) => List.getD [[i64 (i : Int)]] (0 + j) []))], nx := 3, rt := 0, me := 10 }) (KC2 480 28)
              else
               none
             else
              if (op (Int.toNat (i : Int)) == (17 : Int)) = true then
               if decide (stk (0 + Int.toNat (w ((m : Int) - (1 : Int)))) < (0 : Int)) = true then
                some (Ans.l Ex.ret { fr := [V.junk, V.junk, V.sc (Value.slice none 0 0), V.sc (Value.slice none 0 0), bo false] ++ jk 98, H := hp [], nx := 0, rt := 0, me := 10 })
               else
                if (0 : Int) ≤ (i : Int) ∧ (i : Int) < (n : Int) then
                 if (arg (Int.toNat (i : Int)) != w (stk (0 + Int.toNat (w ((m : Int) - (1 : Int)))) + (1 : Int))) = true then
                  some (Ans.l Ex.ret { fr := [V.junk, V.junk, V.sc (Value.slice none 0 0), V.sc (Value.slice none 0 0), bo false] ++ jk 98, H := hp [], nx := 0, rt := 0, me := 10 })
                 else
                  if (0 : Int) ≤ (0 : Int) ∧ (0 : Int) ≤ w ((m : Int) - (1 : Int)) ∧ w ((m : Int) - (1 : Int)) ≤ (m : Int) then
                   lo 0 993 (bodyOf E2 10 0) ({ fr := [V.ro 2 n (ins op arg), V.junk, V.junk, V.junk, V.junk, V.sl 0 1 0 (i + 1), V.sl 1 1 0 (i + 1), V.sl 2 1 0 (Int.toNat (w ((m : Int) - (1 : Int))) - Int.toNat (0 : Int)), i64 wa, i64 (w ((i : Int) + (1 : Int)))] ++ jk 93, H := hp [some (Chunk.row 3 1 (i + 1) (joinF i (r1 L) fun (j : Nat) => List.getD [[i64 (stk (0 + Int.toNat (w ((m : Int) - (1 : Int)))))]] (0 + j) [])), some (Chunk.row 3 1 (i + 1) (joinF i (r1 W) fun (j : Nat) => List.getD [[i64 wa]] (0 + j) [])), some (Chunk.row 3 1 cp (r1 stk))], nx := 3, rt := 0, me := 10 }) (KC2 480 28)
                  else
                   none
                else
                 none
              else
               if (op (Int.toNat (i : Int)) == (19 : Int)) = true then
                lo 0 993 (bodyOf E2 10 0) ({ fr := [V.ro 2 n (ins op arg), V.junk, V.junk, V.junk, V.junk, V.sl 0 1 0 (i + 1), V.sl 1 1 0 (i + 1), V.sl 2 1 0 m, i64 (i : Int), i64 (w ((i : Int) + (1 : Int)))] ++ jk 93, H := hp [some (Chunk.row 3 1 (i + 1) (joinF i (r1 L) fun (j : Nat) => List.getD [[i64 (stk (0 + Int.toNat (w ((m : Int) - (1 : Int)))))]] (0 + j) [])), some (Chunk.row 3 1 (i + 1) (joinF i (r1 W) fun (j : Nat) => List.getD [[i64 wa]] (0 + j) [])), some (Chunk.row 3 1 cp (r1 stk))], nx := 3, rt := 0, me := 10 }) (KC2 480 28)
               else
                if (op (Int.toNat (i : Int)) == (20 : Int)) = true then
                 if decide (wa < (0 : Int)) = true then
                  some (Ans.l Ex.ret { fr := [V.junk, V.junk, V.sc (Value.slice none 0 0), V.sc (Value.slice none 0 0), bo false] ++ jk 98, H := hp [], nx := 0, rt := 0, me := 10 })
                 else
                  if (0 : Int) ≤ (i : Int) ∧ (i : Int) < (n : Int) then
                   if (arg (Int.toNat (i : Int)) != w (wa + (1 : Int))) = true then
                    some (Ans.l Ex.ret { fr := [V.junk, V.junk, V.sc (Value.slice none 0 0), V.sc (Value.slice none 0 0), bo false] ++ jk 98, H := hp [], nx := 0, rt := 0, me := 10 })
                   else
                    lo 0 993 (bodyOf E2 10 0) ({ fr := [V.ro 2 n (ins op arg), V.junk, V.junk, V.junk, V.junk, V.sl 0 1 0 (i + 1), V.sl 1 1 0 (i + 1), V.sl 2 1 0 m, i64 (-1), i64 (w ((i : Int) + (1 : Int)))] ++ jk 93, H := hp [some (Chunk.row 3 1 (i + 1) (joinF i (r1 L) fun (j : Nat) => List.getD [[i64 (stk (0 + Int.toNat (w ((m : Int) - (1 : Int)))))]] (0 + j) [])), some (Chunk.row 3 1 (i + 1) (joinF i (r1 W) fun (j : Nat) => List.getD [[i64 wa]] (0 + j) [])), some (Chunk.row 3 1 cp (r1 stk))], nx := 3, rt := 0, me := 10 }) (KC2 480 28)
                  else
                   none
                else
                 lo 0 993 (bodyOf E2 10 0) ({ fr := [V.ro 2 n (ins op arg), V.junk, V.junk, V.junk, V.junk, V.sl 0 1 0 (i + 1), V.sl 1 1 0 (i + 1), V.sl 2 1 0 m, i64 wa, i64 (w ((i : Int) + (1 : Int)))] ++ jk 93, H := hp [some (Chunk.row 3 1 (i + 1) (joinF i (r1 L) fun (j : Nat) => List.getD [[i64 (stk (0 + Int.toNat (w ((m : Int) - (1 : Int)))))]] (0 + j) [])), some (Chunk.row 3 1 (i + 1) (joinF i (r1 W) fun (j : Nat) => List.getD [[i64 wa]] (0 + j) [])), some (Chunk.row 3 1 cp (r1 stk))], nx := 3, rt := 0, me := 10 }) (KC2 480 28)
            else
             none
           else
            none
          else
           none
         else
          none
        else
         if (i + 1) * 8 ≤ roomBound ∧ i + 1 ≤ maxLen ∧ i ≤ i then
          if (i + 1) * 8 ≤ roomBound ∧ i + 1 ≤ maxLen ∧ i ≤ i then
           if (op (Int.toNat (i : Int)) == (16 : Int)) = true then
            if (m + 1) * 8 ≤ roomBound ∧ m + 1 ≤ maxLen ∧ m ≤ cp then
             lo 0 993 (bodyOf E2 10 0) ({ fr := [V.ro 2 n (ins op arg), V.junk, V.junk, V.junk, V.junk, V.sl 0 1 0 (i + 1), V.sl 1 1 0 (i + 1), V.sl 2 1 0 (m + 1), i64 wa, i64 (w ((i : Int) + (1 : Int)))] ++ jk 93, H := hp [some (Chunk.row 3 1 (i + 1) (joinF i (r1 L) fun (j : Nat) => List.getD [[i64 (-1)]] (0 + j) [])), some (Chunk.row 3 1 (i + 1) (joinF i (r1 W) fun (j : Nat) => List.getD [[i64 wa]] (0 + j) [])), some (Chunk.row 3 1 (m + 1) (joinF m (r1 stk) fun (j : Nat) => List.getD [[i64 (i : Int)]] (0 + j) []))], nx := 3, rt := 0, me := 10 }) (KC2 480 28)
            else
             none
           else
            if (op (Int.toNat (i : Int)) == (17 : Int)) = true then
             some (Ans.l Ex.ret { fr := [V.junk, V.junk, V.sc (Value.slice none 0 0), V.sc (Value.slice none 0 0), bo false] ++ jk 98, H := hp [], nx := 0, rt := 0, me := 10 })
            else
             if (op (Int.toNat (i : Int)) == (19 : Int)) = true then
              lo 0 993 (bodyOf E2 10 0) ({ fr := [V.ro 2 n (ins op arg), V.junk, V.junk, V.junk, V.junk, V.sl 0 1 0 (i + 1), V.sl 1 1 0 (i + 1), V.sl 2 1 0 m, i64 (i : Int), i64 (w ((i : Int) + (1 : Int)))] ++ jk 93, H := hp [some (Chunk.row 3 1 (i + 1) (joinF i (r1 L) fun (j : Nat) => List.getD [[i64 (-1)]] (0 + j) [])), some (Chunk.row 3 1 (i + 1) (joinF i (r1 W) fun (j : Nat) => List.getD [[i64 wa]] (0 + j) [])), some (Chunk.row 3 1 cp (r1 stk))], nx := 3, rt := 0, me := 10 }) (KC2 480 28)
             else
              if (op (Int.toNat (i : Int)) == (20 : Int)) = true then
               if decide (wa < (0 : Int)) = true then
                some (Ans.l Ex.ret { fr := [V.junk, V.junk, V.sc (Value.slice none 0 0), V.sc (Value.slice none 0 0), bo false] ++ jk 98, H := hp [], nx := 0, rt := 0, me := 10 })
               else
                if (0 : Int) ≤ (i : Int) ∧ (i : Int) < (n : Int) then
                 if (arg (Int.toNat (i : Int)) != w (wa + (1 : Int))) = true then
                  some (Ans.l Ex.ret { fr := [V.junk, V.junk, V.sc (Value.slice none 0 0), V.sc (Value.slice none 0 0), bo false] ++ jk 98, H := hp [], nx := 0, rt := 0, me := 10 })
                 else
                  lo 0 993 (bodyOf E2 10 0) ({ fr := [V.ro 2 n (ins op arg), V.junk, V.junk, V.junk, V.junk, V.sl 0 1 0 (i + 1), V.sl 1 1 0 (i + 1), V.sl 2 1 0 m, i64 (-1), i64 (w ((i : Int) + (1 : Int)))] ++ jk 93, H := hp [some (Chunk.row 3 1 (i + 1) (joinF i (r1 L) fun (j : Nat) => List.getD [[i64 (-1)]] (0 + j) [])), some (Chunk.row 3 1 (i + 1) (joinF i (r1 W) fun (j : Nat) => List.getD [[i64 wa]] (0 + j) [])), some (Chunk.row 3 1 cp (r1 stk))], nx := 3, rt := 0, me := 10 }) (KC2 480 28)
                else
                 none
              else
               lo 0 993 (bodyOf E2 10 0) ({ fr := [V.ro 2 n (ins op arg), V.junk, V.junk, V.junk, V.junk, V.sl 0 1 0 (i + 1), V.sl 1 1 0 (i + 1), V.sl 2 1 0 m, i64 wa, i64 (w ((i : Int) + (1 : Int)))] ++ jk 93, H := hp [some (Chunk.row 3 1 (i + 1) (joinF i (r1 L) fun (j : Nat) => List.getD [[i64 (-1)]] (0 + j) [])), some (Chunk.row 3 1 (i + 1) (joinF i (r1 W) fun (j : Nat) => List.getD [[i64 wa]] (0 + j) [])), some (Chunk.row 3 1 cp (r1 stk))], nx := 3, rt := 0, me := 10 }) (KC2 480 28)
          else
           none
         else
          none) (
       none)
     else
      if decide ((m : Int) > (0 : Int)) = true then
       if (0 : Int) ≤ w ((m : Int) - (1 : Int)) ∧ w ((m : Int) - (1 : Int)) < (m : Int) then
        if 0 + Int.toNat (w ((m : Int) - (1 : Int))) < cp ∧ 1 = 1 then
         if (i + 1) * 8 ≤ roomBound ∧ i + 1 ≤ maxLen ∧ i ≤ i then
          if (i + 1) * 8 ≤ roomBound ∧ i + 1 ≤ maxLen ∧ i ≤ i then
           if (op (Int.toNat (i : Int)) == (16 : Int)) = true then
            if (m + 1) * 8 ≤ roomBound ∧ m + 1 ≤ maxLen ∧ m ≤ cp then
             lo 0 993 (bodyOf E2 10 0) ({ fr := [V.ro 2 n (ins op arg), V.junk, V.junk, V.junk, V.junk, V.sl 0 1 0 (i + 1), V.sl 1 1 0 (i + 1), V.sl 2 1 0 (m + 1), i64 wa, i64 (w ((i : Int) + (1 : Int)))] ++ jk 93, H := hp [some (Chunk.row 3 1 (i + 1) (joinF i (r1 L) fun (j : Nat) => List.getD [[i64 (stk (0 + Int.toNat (w ((m : Int) - (1 : Int)))))]] (0 + j) [])), some (Chunk.row 3 1 (i + 1) (joinF i (r1 W) fun (j : Nat) => List.getD [[i64 wa]] (0 + j) [])), some (Chunk.row 3 1 (m + 1) (joinF m (r1 stk) fun (j : Nat) => List.getD [[i64 (i : Int)]] (0 + j) []))], nx := 3, rt := 0, me := 10 }) (KC2 480 28)
            else
             none
           else
            if (op (Int.toNat (i : Int)) == (17 : Int)) = true then
             if decide (stk (0 + Int.toNat (w ((m : Int) - (1 : Int)))) < (0 : Int)) = true then
              some (Ans.l Ex.ret { fr := [V.junk, V.junk, V.sc (Value.slice none 0 0), V.sc (Value.slice none 0 0), bo false] ++ jk 98, H := hp [], nx := 0, rt := 0, me := 10 })
             else
              if (0 : Int) ≤ (i : Int) ∧ (i : Int) < (n : Int) then
               if (arg (Int.toNat (i : Int)) != w (stk (0 + Int.toNat (w ((m : Int) - (1 : Int)))) + (1 : Int))) = true then
                some (Ans.l Ex.ret { fr := [V.junk, V.junk, V.sc (Value.slice none 0 0), V.sc (Value.slice none 0 0), bo false] ++ jk 98, H := hp [], nx := 0, rt := 0, me := 10 })
               else
                if (0 : Int) ≤ (0 : Int) ∧ (0 : Int) ≤ w ((m : Int) - (1 : Int)) ∧ w ((m : Int) - (1 : Int)) ≤ (m : Int) then
                 lo 0 993 (bodyOf E2 10 0) ({ fr := [V.ro 2 n (ins op arg), V.junk, V.junk, V.junk, V.junk, V.sl 0 1 0 (i + 1), V.sl 1 1 0 (i + 1), V.sl 2 1 0 (Int.toNat (w ((m : Int) - (1 : Int))) - Int.toNat (0 : Int)), i64 wa, i64 (w ((i : Int) + (1 : Int)))] ++ jk 93, H := hp [some (Chunk.row 3 1 (i + 1) (joinF i (r1 L) fun (j : Nat) => List.getD [[i64 (stk (0 + Int.toNat (w ((m : Int) - (1 : Int)))))]] (0 + j) [])), some (Chunk.row 3 1 (i + 1) (joinF i (r1 W) fun (j : Nat) => List.getD [[i64 wa]] (0 + j) [])), some (Chunk.row 3 1 cp (r1 stk))], nx := 3, rt := 0, me := 10 }) (KC2 480 28)
                else
                 none
              else
               none
            else
             if (op (Int.toNat (i : Int)) == (19 : Int)) = true then
              lo 0 993 (bodyOf E2 10 0) ({ fr := [V.ro 2 n (ins op arg), V.junk, V.junk, V.junk, V.junk, V.sl 0 1 0 (i + 1), V.sl 1 1 0 (i + 1), V.sl 2 1 0 m, i64 (i : Int), i64 (w ((i : Int) + (1 : Int)))] ++ jk 93, H := hp [some (Chunk.row 3 1 (i + 1) (joinF i (r1 L) fun (j : Nat) => List.getD [[i64 (stk (0 + Int.toNat (w ((m : Int) - (1 : Int)))))]] (0 + j) [])), some (Chunk.row 3 1 (i + 1) (joinF i (r1 W) fun (j : Nat) => List.getD [[i64 wa]] (0 + j) [])), some (Chunk.row 3 1 cp (r1 stk))], nx := 3, rt := 0, me := 10 }) (KC2 480 28)
             else
              if (op (Int.toNat (i : Int)) == (20 : Int)) = true then
               if decide (wa < (0 : Int)) = true then
                some (Ans.l Ex.ret { fr := [V.junk, V.junk, V.sc (Value.slice none 0 0), V.sc (Value.slice none 0 0), bo false] ++ jk 98, H := hp [], nx := 0, rt := 0, me := 10 })
               else
                if (0 : Int) ≤ (i : Int) ∧ (i : Int) < (n : Int) then
                 if (arg (Int.toNat (i : Int)) != w (wa + (1 : Int))) = true then
                  some (Ans.l Ex.ret { fr := [V.junk, V.junk, V.sc (Value.slice none 0 0), V.sc (Value.slice none 0 0), bo false] ++ jk 98, H := hp [], nx := 0, rt := 0, me := 10 })
                 else
                  lo 0 993 (bodyOf E2 10 0) ({ fr := [V.ro 2 n (ins op arg), V.junk, V.junk, V.junk, V.junk, V.sl 0 1 0 (i + 1), V.sl 1 1 0 (i + 1), V.sl 2 1 0 m, i64 (-1), i64 (w ((i : Int) + (1 : Int)))] ++ jk 93, H := hp [some (Chunk.row 3 1 (i + 1) (joinF i (r1 L) fun (j : Nat) => List.getD [[i64 (stk (0 + Int.toNat (w ((m : Int) - (1 : Int)))))]] (0 + j) [])), some (Chunk.row 3 1 (i + 1) (joinF i (r1 W) fun (j : Nat) => List.getD [[i64 wa]] (0 + j) [])), some (Chunk.row 3 1 cp (r1 stk))], nx := 3, rt := 0, me := 10 }) (KC2 480 28)
                else
                 none
              else
               lo 0 993 (bodyOf E2 10 0) ({ fr := [V.ro 2 n (ins op arg), V.junk, V.junk, V.junk, V.junk, V.sl 0 1 0 (i + 1), V.sl 1 1 0 (i + 1), V.sl 2 1 0 m, i64 wa, i64 (w ((i : Int) + (1 : Int)))] ++ jk 93, H := hp [some (Chunk.row 3 1 (i + 1) (joinF i (r1 L) fun (j : Nat) => List.getD [[i64 (stk (0 + Int.toNat (w ((m : Int) - (1 : Int)))))]] (0 + j) [])), some (Chunk.row 3 1 (i + 1) (joinF i (r1 W) fun (j : Nat) => List.getD [[i64 wa]] (0 + j) [])), some (Chunk.row 3 1 cp (r1 stk))], nx := 3, rt := 0, me := 10 }) (KC2 480 28)
          else
           none
         else
          none
        else
         none
       else
        none
      else
       if (i + 1) * 8 ≤ roomBound ∧ i + 1 ≤ maxLen ∧ i ≤ i then
        if (i + 1) * 8 ≤ roomBound ∧ i + 1 ≤ maxLen ∧ i ≤ i then
         if (op (Int.toNat (i : Int)) == (16 : Int)) = true then
          if (m + 1) * 8 ≤ roomBound ∧ m + 1 ≤ maxLen ∧ m ≤ cp then
           lo 0 993 (bodyOf E2 10 0) ({ fr := [V.ro 2 n (ins op arg), V.junk, V.junk, V.junk, V.junk, V.sl 0 1 0 (i + 1), V.sl 1 1 0 (i + 1), V.sl 2 1 0 (m + 1), i64 wa, i64 (w ((i : Int) + (1 : Int)))] ++ jk 93, H := hp [some (Chunk.row 3 1 (i + 1) (joinF i (r1 L) fun (j : Nat) => List.getD [[i64 (-1)]] (0 + j) [])), some (Chunk.row 3 1 (i + 1) (joinF i (r1 W) fun (j : Nat) => List.getD [[i64 wa]] (0 + j) [])), some (Chunk.row 3 1 (m + 1) (joinF m (r1 stk) fun (j : Nat) => List.getD [[i64 (i : Int)]] (0 + j) []))], nx := 3, rt := 0, me := 10 }) (KC2 480 28)
          else
           none
         else
          if (op (Int.toNat (i : Int)) == (17 : Int)) = true then
           some (Ans.l Ex.ret { fr := [V.junk, V.junk, V.sc (Value.slice none 0 0), V.sc (Value.slice none 0 0), bo false] ++ jk 98, H := hp [], nx := 0, rt := 0, me := 10 })
          else
           if (op (Int.toNat (i : Int)) == (19 : Int)) = true then
            lo 0 993 (bodyOf E2 10 0) ({ fr := [V.ro 2 n (ins op arg), V.junk, V.junk, V.junk, V.junk, V.sl 0 1 0 (i + 1), V.sl 1 1 0 (i + 1), V.sl 2 1 0 m, i64 (i : Int), i64 (w ((i : Int) + (1 : Int)))] ++ jk 93, H := hp [some (Chunk.row 3 1 (i + 1) (joinF i (r1 L) fun (j : Nat) => List.getD [[i64 (-1)]] (0 + j) [])), some (Chunk.row 3 1 (i + 1) (joinF i (r1 W) fun (j : Nat) => List.getD [[i64 wa]] (0 + j) [])), some (Chunk.row 3 1 cp (r1 stk))], nx := 3, rt := 0, me := 10 }) (KC2 480 28)
           else
            if (op (Int.toNat (i : Int)) == (20 : Int)) = true then
             if decide (wa < (0 : Int)) = true then
              some (Ans.l Ex.ret { fr := [V.junk, V.junk, V.sc (Value.slice none 0 0), V.sc (Value.slice none 0 0), bo false] ++ jk 98, H := hp [], nx := 0, rt := 0, me := 10 })
             else
              if (0 : Int) ≤ (i : Int) ∧ (i : Int) < (n : Int) then
               if (arg (Int.toNat (i : Int)) != w (wa + (1 : Int))) = true then
                some (Ans.l Ex.ret { fr := [V.junk, V.junk, V.sc (Value.slice none 0 0), V.sc (Value.slice none 0 0), bo false] ++ jk 98, H := hp [], nx := 0, rt := 0, me := 10 })
               else
                lo 0 993 (bodyOf E2 10 0) ({ fr := [V.ro 2 n (ins op arg), V.junk, V.junk, V.junk, V.junk, V.sl 0 1 0 (i + 1), V.sl 1 1 0 (i + 1), V.sl 2 1 0 m, i64 (-1), i64 (w ((i : Int) + (1 : Int)))] ++ jk 93, H := hp [some (Chunk.row 3 1 (i + 1) (joinF i (r1 L) fun (j : Nat) => List.getD [[i64 (-1)]] (0 + j) [])), some (Chunk.row 3 1 (i + 1) (joinF i (r1 W) fun (j : Nat) => List.getD [[i64 wa]] (0 + j) [])), some (Chunk.row 3 1 cp (r1 stk))], nx := 3, rt := 0, me := 10 }) (KC2 480 28)
              else
               none
            else
             lo 0 993 (bodyOf E2 10 0) ({ fr := [V.ro 2 n (ins op arg), V.junk, V.junk, V.junk, V.junk, V.sl 0 1 0 (i + 1), V.sl 1 1 0 (i + 1), V.sl 2 1 0 m, i64 wa, i64 (w ((i : Int) + (1 : Int)))] ++ jk 93, H := hp [some (Chunk.row 3 1 (i + 1) (joinF i (r1 L) fun (j : Nat) => List.getD [[i64 (-1)]] (0 + j) [])), some (Chunk.row 3 1 (i + 1) (joinF i (r1 W) fun (j : Nat) => List.getD [[i64 wa]] (0 + j) [])), some (Chunk.row 3 1 cp (r1 stk))], nx := 3, rt := 0, me := 10 }) (KC2 480 28)
        else
         none
       else
        none
    else
     if decide ((m : Int) > (0 : Int)) = true then
      if (0 : Int) ≤ w ((m : Int) - (1 : Int)) ∧ w ((m : Int) - (1 : Int)) < (m : Int) then
       if 0 + Int.toNat (w ((m : Int) - (1 : Int))) < cp ∧ 1 = 1 then
        if (i + 1) * 8 ≤ roomBound ∧ i + 1 ≤ maxLen ∧ i ≤ i then
         if (i + 1) * 8 ≤ roomBound ∧ i + 1 ≤ maxLen ∧ i ≤ i then
          if (op (Int.toNat (i : Int)) == (16 : Int)) = true then
           if (m + 1) * 8 ≤ roomBound ∧ m + 1 ≤ maxLen ∧ m ≤ cp then
            lo 0 993 (bodyOf E2 10 0) ({ fr := [V.ro 2 n (ins op arg), V.junk, V.junk, V.junk, V.junk, V.sl 0 1 0 (i + 1), V.sl 1 1 0 (i + 1), V.sl 2 1 0 (m + 1), i64 wa, i64 (w ((i : Int) + (1 : Int)))] ++ jk 93, H := hp [some (Chunk.row 3 1 (i + 1) (joinF i (r1 L) fun (j : Nat) => List.getD [[i64 (stk (0 + Int.toNat (w ((m : Int) - (1 : Int)))))]] (0 + j) [])), some (Chunk.row 3 1 (i + 1) (joinF i (r1 W) fun (j : Nat) => List.getD [[i64 wa]] (0 + j) [])), some (Chunk.row 3 1 (m + 1) (joinF m (r1 stk) fun (j : Nat) => List.getD [[i64 (i : Int)]] (0 + j) []))], nx := 3, rt := 0, me := 10 }) (KC2 480 28)
           else
            none
          else
           if (op (Int.toNat (i : Int)) == (17 : Int)) = true then
            if decide (stk (0 + Int.toNat (w ((m : Int) - (1 : Int)))) < (0 : Int)) = true then
             some (Ans.l Ex.ret { fr := [V.junk, V.junk, V.sc (Value.slice none 0 0), V.sc (Value.slice none 0 0), bo false] ++ jk 98, H := hp [], nx := 0, rt := 0, me := 10 })
            else
             if (0 : Int) ≤ (i : Int) ∧ (i : Int) < (n : Int) then
              if (arg (Int.toNat (i : Int)) != w (stk (0 + Int.toNat (w ((m : Int) - (1 : Int)))) + (1 : Int))) = true then
               some (Ans.l Ex.ret { fr := [V.junk, V.junk, V.sc (Value.slice none 0 0), V.sc (Value.slice none 0 0), bo false] ++ jk 98, H := hp [], nx := 0, rt := 0, me := 10 })
              else
               if (0 : Int) ≤ (0 : Int) ∧ (0 : Int) ≤ w ((m : Int) - (1 : Int)) ∧ w ((m : Int) - (1 : Int)) ≤ (m : Int) then
                lo 0 993 (bodyOf E2 10 0) ({ fr := [V.ro 2 n (ins op arg), V.junk, V.junk, V.junk, V.junk, V.sl 0 1 0 (i + 1), V.sl 1 1 0 (i + 1), V.sl 2 1 0 (Int.toNat (w ((m : Int) - (1 : Int))) - Int.toNat (0 : Int)), i64 wa, i64 (w ((i : Int) + (1 : Int)))] ++ jk 93, H := hp [some (Chunk.row 3 1 (i + 1) (joinF i (r1 L) fun (j : Nat) => List.getD [[i64 (stk (0 + Int.toNat (w ((m : Int) - (1 : Int)))))]] (0 + j) [])), some (Chunk.row 3 1 (i + 1) (joinF i (r1 W) fun (j : Nat) => List.getD [[i64 wa]] (0 + j) [])), some (Chunk.row 3 1 cp (r1 stk))], nx := 3, rt := 0, me := 10 }) (KC2 480 28)
               else
                none
             else
              none
           else
            if (op (Int.toNat (i : Int)) == (19 : Int)) = true then
             lo 0 993 (bodyOf E2 10 0) ({ fr := [V.ro 2 n (ins op arg), V.junk, V.junk, V.junk, V.junk, V.sl 0 1 0 (i + 1), V.sl 1 1 0 (i + 1), V.sl 2 1 0 m, i64 (i : Int), i64 (w ((i : Int) + (1 : Int)))] ++ jk 93, H := hp [some (Chunk.row 3 1 (i + 1) (joinF i (r1 L) fun (j : Nat) => List.getD [[i64 (stk (0 + Int.toNat (w ((m : Int) - (1 : Int)))))]] (0 + j) [])), some (Chunk.row 3 1 (i + 1) (joinF i (r1 W) fun (j : Nat) => List.getD [[i64 wa]] (0 + j) [])), some (Chunk.row 3 1 cp (r1 stk))], nx := 3, rt := 0, me := 10 }) (KC2 480 28)
            else
             if (op (Int.toNat (i : Int)) == (20 : Int)) = true then
              if decide (wa < (0 : Int)) = true then
               some (Ans.l Ex.ret { fr := [V.junk, V.junk, V.sc (Value.slice none 0 0), V.sc (Value.slice none 0 0), bo false] ++ jk 98, H := hp [], nx := 0, rt := 0, me := 10 })
              else
               if (0 : Int) ≤ (i : Int) ∧ (i : Int) < (n : Int) then
                if (arg (Int.toNat (i : Int)) != w (wa + (1 : Int))) = true then
                 some (Ans.l Ex.ret { fr := [V.junk, V.junk, V.sc (Value.slice none 0 0), V.sc (Value.slice none 0 0), bo false] ++ jk 98, H := hp [], nx := 0, rt := 0, me := 10 })
                else
                 lo 0 993 (bodyOf E2 10 0) ({ fr := [V.ro 2 n (ins op arg), V.junk, V.junk, V.junk, V.junk, V.sl 0 1 0 (i + 1), V.sl 1 1 0 (i + 1), V.sl 2 1 0 m, i64 (-1), i64 (w ((i : Int) + (1 : Int)))] ++ jk 93, H := hp [some (Chunk.row 3 1 (i + 1) (joinF i (r1 L) fun (j : Nat) => List.getD [[i64 (stk (0 + Int.toNat (w ((m : Int) - (1 : Int)))))]] (0 + j) [])), some (Chunk.row 3 1 (i + 1) (joinF i (r1 W) fun (j : Nat) => List.getD [[i64 wa]] (0 + j) [])), some (Chunk.row 3 1 cp (r1 stk))], nx := 3, rt := 0, me := 10 }) (KC2 480 28)
               else
                none
             else
              lo 0 993 (bodyOf E2 10 0) ({ fr := [V.ro 2 n (ins op arg), V.junk, V.junk, V.junk, V.junk, V.sl 0 1 0 (i + 1), V.sl 1 1 0 (i + 1), V.sl 2 1 0 m, i64 wa, i64 (w ((i : Int) + (1 : Int)))] ++ jk 93, H := hp [some (Chunk.row 3 1 (i + 1) (joinF i (r1 L) fun (j : Nat) => List.getD [[i64 (stk (0 + Int.toNat (w ((m : Int) - (1 : Int)))))]] (0 + j) [])), some (Chunk.row 3 1 (i + 1) (joinF i (r1 W) fun (j : Nat) => List.getD [[i64 wa]] (0 + j) [])), some (Chunk.row 3 1 cp (r1 stk))], nx := 3, rt := 0, me := 10 }) (KC2 480 28)
         else
          none
        else
         none
       else
        none
      else
       none
     else
      if (i + 1) * 8 ≤ roomBound ∧ i + 1 ≤ maxLen ∧ i ≤ i then
       if (i + 1) * 8 ≤ roomBound ∧ i + 1 ≤ maxLen ∧ i ≤ i then
        if (op (Int.toNat (i : Int)) == (16 : Int)) = true then
         if (m + 1) * 8 ≤ roomBound ∧ m + 1 ≤ maxLen ∧ m ≤ cp then
          lo 0 993 (bodyOf E2 10 0) ({ fr := [V.ro 2 n (ins op arg), V.junk, V.junk, V.junk, V.junk, V.sl 0 1 0 (i + 1), V.sl 1 1 0 (i + 1), V.sl 2 1 0 (m + 1), i64 wa, i64 (w ((i : Int) + (1 : Int)))] ++ jk 93, H := hp [some (Chunk.row 3 1 (i + 1) (joinF i (r1 L) fun (j : Nat) => List.getD [[i64 (-1)]] (0 + j) [])), some (Chunk.row 3 1 (i + 1) (joinF i (r1 W) fun (j : Nat) => List.getD [[i64 wa]] (0 + j) [])), some (Chunk.row 3 1 (m + 1) (joinF m (r1 stk) fun (j : Nat) => List.getD [[i64 (i : Int)]] (0 + j) []))], nx := 3, rt := 0, me := 10 }) (KC2 480 28)
         else
          none
        else
         if (op (Int.toNat (i : Int)) == (17 : Int)) = true then
          some (Ans.l Ex.ret { fr := [V.junk, V.junk, V.sc (Value.slice none 0 0), V.sc (Value.slice none 0 0), bo false] ++ jk 98, H := hp [], nx := 0, rt := 0, me := 10 })
         else
          if (op (Int.toNat (i : Int)) == (19 : Int)) = true then
           lo 0 993 (bodyOf E2 10 0) ({ fr := [V.ro 2 n (ins op arg), V.junk, V.junk, V.junk, V.junk, V.sl 0 1 0 (i + 1), V.sl 1 1 0 (i + 1), V.sl 2 1 0 m, i64 (i : Int), i64 (w ((i : Int) + (1 : Int)))] ++ jk 93, H := hp [some (Chunk.row 3 1 (i + 1) (joinF i (r1 L) fun (j : Nat) => List.getD [[i64 (-1)]] (0 + j) [])), some (Chunk.row 3 1 (i + 1) (joinF i (r1 W) fun (j : Nat) => List.getD [[i64 wa]] (0 + j) [])), some (Chunk.row 3 1 cp (r1 stk))], nx := 3, rt := 0, me := 10 }) (KC2 480 28)
          else
           if (op (Int.toNat (i : Int)) == (20 : Int)) = true then
            if decide (wa < (0 : Int)) = true then
             some (Ans.l Ex.ret { fr := [V.junk, V.junk, V.sc (Value.slice none 0 0), V.sc (Value.slice none 0 0), bo false] ++ jk 98, H := hp [], nx := 0, rt := 0, me := 10 })
            else
             if (0 : Int) ≤ (i : Int) ∧ (i : Int) < (n : Int) then
              if (arg (Int.toNat (i : Int)) != w (wa + (1 : Int))) = true then
               some (Ans.l Ex.ret { fr := [V.junk, V.junk, V.sc (Value.slice none 0 0), V.sc (Value.slice none 0 0), bo false] ++ jk 98, H := hp [], nx := 0, rt := 0, me := 10 })
              else
               lo 0 993 (bodyOf E2 10 0) ({ fr := [V.ro 2 n (ins op arg), V.junk, V.junk, V.junk, V.junk, V.sl 0 1 0 (i + 1), V.sl 1 1 0 (i + 1), V.sl 2 1 0 m, i64 (-1), i64 (w ((i : Int) + (1 : Int)))] ++ jk 93, H := hp [some (Chunk.row 3 1 (i + 1) (joinF i (r1 L) fun (j : Nat) => List.getD [[i64 (-1)]] (0 + j) [])), some (Chunk.row 3 1 (i + 1) (joinF i (r1 W) fun (j : Nat) => List.getD [[i64 wa]] (0 + j) [])), some (Chunk.row 3 1 cp (r1 stk))], nx := 3, rt := 0, me := 10 }) (KC2 480 28)
             else
              none
           else
            lo 0 993 (bodyOf E2 10 0) ({ fr := [V.ro 2 n (ins op arg), V.junk, V.junk, V.junk, V.junk, V.sl 0 1 0 (i + 1), V.sl 1 1 0 (i + 1), V.sl 2 1 0 m, i64 wa, i64 (w ((i : Int) + (1 : Int)))] ++ jk 93, H := hp [some (Chunk.row 3 1 (i + 1) (joinF i (r1 L) fun (j : Nat) => List.getD [[i64 (-1)]] (0 + j) [])), some (Chunk.row 3 1 (i + 1) (joinF i (r1 W) fun (j : Nat) => List.getD [[i64 wa]] (0 + j) [])), some (Chunk.row 3 1 cp (r1 stk))], nx := 3, rt := 0, me := 10 }) (KC2 480 28)
       else
        none
      else
       none
   else
    none
  else
   some (Ans.l (Ex.exit 0) { fr := [V.junk, V.junk, V.junk, V.junk, V.junk, V.sl 0 1 0 i, V.sl 1 1 0 i, V.sl 2 1 0 m, i64 wa] ++ jk 94, H := hp [some (Chunk.row 3 1 i (r1 L)), some (Chunk.row 3 1 i (r1 W)), some (Chunk.row 3 1 cp (r1 stk))], nx := 3, rt := 0, me := 10 }) := by kernel_rfl

theorem f79b (n : Nat) (op arg L W : Nat → Int) (wa : Int) (S1 : St) (P : Prop) : callK E2 C79 (ltab2 [⟨0, bodyOf E2 10 0, S1, P, .exit 0, T79b n L W wa, .ret, T79r⟩]) 10 [cd n op arg] [] K =
  cl ((bodyOf E2 10 0) = (bodyOf E2 10 0) ∧ LeSt ({ fr := [V.ro 2 n (ins op arg), V.junk, V.junk, V.junk, V.junk, V.sc (Value.slice none 0 0), V.sc (Value.slice none 0 0), V.sc (Value.slice none 0 0), i64 (-1), i64 0] ++ jk 93, H := hp [], nx := 0, rt := 0, me := 10 }) (S1)) (
   cl (P) (
    some (Ans.c (CRes.ret (V.tup [V.sl 0 1 0 n, V.sl 1 1 0 n, bo ((decide (wa < (0 : Int))))]) [some (Chunk.row 3 1 n (r1 L)), some (Chunk.row 3 1 n (r1 W))]))) (
    some (Ans.c (CRes.ret (V.tup [V.sc (Value.slice none 0 0), V.sc (Value.slice none 0 0), bo false]) [])))) (
   none) := by kernel_rfl

theorem f79c (n : Nat) (op arg L W : Nat → Int) (m cp : Nat) (stk : Nat → Int) (wa : Int) (S1 : St) (P : Prop) : callK E2 C79 (ltab2 [⟨0, bodyOf E2 10 0, S1, P, .exit 0, T79c n L W m cp stk wa, .ret, T79r⟩]) 10 [cd n op arg] [] K =
  cl ((bodyOf E2 10 0) = (bodyOf E2 10 0) ∧ LeSt ({ fr := [V.ro 2 n (ins op arg), V.junk, V.junk, V.junk, V.junk, V.sc (Value.slice none 0 0), V.sc (Value.slice none 0 0), V.sc (Value.slice none 0 0), i64 (-1), i64 0] ++ jk 93, H := hp [], nx := 0, rt := 0, me := 10 }) (S1)) (
   cl (P) (
    if ((m : Int) == (0 : Int)) = true then
     some (Ans.c (CRes.ret (V.tup [V.sl 0 1 0 n, V.sl 1 1 0 n, bo ((decide (wa < (0 : Int))))]) [some (Chunk.row 3 1 n (r1 L)), some (Chunk.row 3 1 n (r1 W))]))
    else
     some (Ans.c (CRes.ret (V.tup [V.sl 0 1 0 n, V.sl 1 1 0 n, bo false]) [some (Chunk.row 3 1 n (r1 L)), some (Chunk.row 3 1 n (r1 W))]))) (
    some (Ans.c (CRes.ret (V.tup [V.sc (Value.slice none 0 0), V.sc (Value.slice none 0 0), bo false]) [])))) (
   none) := by kernel_rfl

theorem k79b (n : Nat) (L W : Nat → Int) (wa : Int) : KC2 480 28 (.exit 0) (T79b n L W wa) = some (.l (.exit 0) (T79b n L W wa)) := by kernel_rfl
theorem k79c (n : Nat) (L W : Nat → Int) (m cp : Nat) (stk : Nat → Int) (wa : Int) : KC2 480 28 (.exit 0) (T79c n L W m cp stk wa) = some (.l (.exit 0) (T79c n L W m cp stk wa)) := by kernel_rfl
theorem k79r : KC2 480 28 .ret T79r = some (.l .ret T79r) := by kernel_rfl
def ends79 (n : Nat) (x : Option Cv.Rg) (S : St) : Prop := match x with
  | none => SL E2 (bodyOf E2 10 0) S .ret T79r
  | some q => (q.m = 0 ∧ SL E2 (bodyOf E2 10 0) S (.exit 0) (T79b n q.L q.W q.wa)) ∨ ∃ cp, SL E2 (bodyOf E2 10 0) S (.exit 0) (T79c n q.L q.W q.m cp q.stk q.wa)
theorem ends79_next {n : Nat} {x y : Option Cv.Rg} {S S' S1 : St} (h : ends79 n y S1) (e : x = y) (hn : ∀ lo, loopK E2 C79 lo 0 993 (bodyOf E2 10 0) S (KC2 480 28) = lo 0 993 (bodyOf E2 10 0) S' (KC2 480 28)) (hle : LeSt S' S1) : ends79 n x S := by
  subst e
  cases x with
  | none => exact SL.by2 sC79 hX2 (oneF2 0 (e := .exit 0) (T := T79r) h) ((hn _).trans ((ltab2_hit hle).trans ((cl_neg (fun h => h)).trans k79r)))
  | some q =>
    rcases h with ⟨h0, h⟩ | ⟨cp, h⟩
    · exact .inl ⟨h0, SL.by2 sC79 hX2 (one2 0 (e' := .ret) (T' := T79r) h) ((hn _).trans ((ltab2_hit hle).trans ((cl_pos trivial).trans (k79b _ _ _ _))))⟩
    · exact .inr ⟨cp, SL.by2 sC79 hX2 (one2 0 (e' := .ret) (T' := T79r) h) ((hn _).trans ((ltab2_hit hle).trans ((cl_pos trivial).trans (k79c _ _ _ _ _ _ _))))⟩
theorem ends79_ret {n : Nat} {x : Option Cv.Rg} {S : St} (e : x = none) (hn : ∀ lo, loopK E2 C79 lo 0 993 (bodyOf E2 10 0) S (KC2 480 28) = some (.l .ret T79r)) : ends79 n x S := by
  subst e
  exact SL.by2 sC79 hX2 ltab2_nil (hn _)
theorem join1 (L : Nat → Int) (i : Nat) (v : Int) : ∀ j, j < i + 1 → joinF i (r1 L) (fun (j : Nat) => List.getD [[i64 v]] j []) j = r1 (Cv.upd L i v) j := by
  intro j hj
  unfold joinF r1 Cv.upd
  by_cases h : j < i
  · rw [if_pos h, if_neg (by omega)]
  · have : j = i := by omega
    subst this
    rw [if_neg h, if_pos rfl, Nat.sub_self]
    rfl
theorem get1 (L : Nat → Int) (v : Int) : ∀ j, j < 0 + 1 → (fun (j : Nat) => List.getD [[i64 v]] j []) j = r1 (Cv.upd L 0 v) j := by
  intro j hj
  have : j = 0 := by omega
  subst this
  unfold r1 Cv.upd
  rw [if_pos rfl]
  rfl
structure Inv79 (i m : Nat) (stk : Nat → Int) (wa : Int) : Prop where
  lt : ∀ k, k < m → 0 ≤ stk k ∧ stk k < i
  wa : wa = -1 ∨ (0 ≤ wa ∧ wa < i)
  m : m ≤ i
theorem Inv79.keep {i m : Nat} {stk : Nat → Int} {wa wa' : Int} (h : Inv79 i m stk wa) (hw : wa' = -1 ∨ (0 ≤ wa' ∧ wa' < (i + 1 : Nat))) : Inv79 (i + 1) m stk wa' :=
  ⟨fun k hk => by have := h.lt k hk; omega, hw, by have := h.m; omega⟩
theorem Inv79.push {i m : Nat} {stk : Nat → Int} {wa : Int} (h : Inv79 i m stk wa) : Inv79 (i + 1) (m + 1) (Cv.upd stk m i) wa := by
  refine ⟨fun k hk => ?_, by have := h.wa; omega, by have := h.m; omega⟩
  unfold Cv.upd
  split
  · omega
  · have := h.lt k (by omega); omega
theorem Inv79.pop {i m : Nat} {stk : Nat → Int} {wa : Int} (h : Inv79 i m stk wa) : Inv79 (i + 1) (m - 1) stk wa :=
  ⟨fun k hk => by have := h.lt k (by omega); omega, by have := h.wa; omega, by have := h.m; omega⟩
theorem eqT {o k : Int} (h : o = k) : (o == k) = true := by simpa using h
theorem eqF {o k : Int} (h : o ≠ k) : (o == k) = false := by simpa using h
theorem neT {o k : Int} (h : o ≠ k) : (o != k) = true := by simpa using h
theorem neF {o k : Int} (h : o = k) : (o != k) = false := by simpa using h
theorem dT {p : Prop} [Decidable p] (h : p) : decide p = true := decide_eq_true h
theorem dF {p : Prop} [Decidable p] (h : ¬ p) : decide p = false := decide_eq_false h
set_option maxRecDepth 100000 in
theorem loop79 {n : Nat} {op arg : Nat → Int} (vs : Int) (hn : n ≤ 300) : ∀ r : Nat, (∀ (i : Nat) (L W stk : Nat → Int) (wa : Int), i + r = n → Inv79 i 0 stk wa → ends79 n (Cv.regR (mkC vs n op arg) r i ⟨L, W, 0, stk, wa⟩) (S79b n op arg i L W wa)) ∧ (∀ (i : Nat) (L W : Nat → Int) (m cp : Nat) (stk : Nat → Int) (wa : Int), i + r = n → m ≤ cp → Inv79 i m stk wa → ends79 n (Cv.regR (mkC vs n op arg) r i ⟨L, W, m, stk, wa⟩) (S79c n op arg i L W m cp stk wa)) := by
  intro r
  induction r with
  | zero =>
    refine ⟨fun i L W stk wa hi hv => .inl ⟨rfl, ?_⟩, fun i L W m cp stk wa hi hcp hv => .inr ⟨cp, ?_⟩⟩
    · have : i = n := by omega
      subst this
      exact SL.by2 (m := 480) (r := 28) sC79 hX2 ltab2_nil ((r79b _ _ _ _ _ _ _ _).trans (by rw [if_neg (by simp)]; rfl))
    · have : i = n := by omega
      subst this
      exact SL.by2 (m := 480) (r := 28) sC79 hX2 ltab2_nil ((r79c _ _ _ _ _ _ _ _ _ _ _).trans (by rw [if_neg (by simp)]; rfl))
  | succ r ih =>
   refine ⟨fun i L W stk wa hi hv => ?_, fun i L W m cp stk wa hi hcp hv => ?_⟩
   · have hi' : i < n := by omega
     have hid : decide ((i : Int) < (n : Int)) = true := by simpa using hi'
     have hbb : (0 : Int) ≤ (i : Int) ∧ (i : Int) < (n : Int) := by omega
     have hq : QI1 [i64 (op i)] ∧ True := ⟨⟨_, rfl⟩, trivial⟩
     have ew : w ((i : Int) + 1) = ((i + 1 : Nat) : Int) := by rw [w_in (by unfold inR; omega)]; omega
     have hroom : (i + 1) * 8 ≤ roomBound ∧ i + 1 ≤ Go.maxLen ∧ i ≤ i := by unfold roomBound Go.maxLen; omega
     have tree := fun lo => r79b n op arg i L W wa lo
     simp only [Int.toNat_natCast, Nat.zero_add, ew, if_pos hid, if_pos hbb, eq_self, if_pos hroom] at tree
     have pl : Cv.regR (mkC vs n op arg) (r + 1) i ⟨L, W, 0, stk, wa⟩ = (if 0 ≤ wa ∧ op i ≠ 20 ∧ Cv.pureR (op i) = false then none
         else if op i = 16 then Cv.regR (mkC vs n op arg) r (i + 1) ⟨Cv.upd L i (-1), Cv.upd W i wa, 0 + 1, Cv.upd stk 0 i, wa⟩
         else if op i = 17 then (if (-1) < 0 ∨ arg i ≠ (-1) + 1 then none else Cv.regR (mkC vs n op arg) r (i + 1) ⟨Cv.upd L i (-1), Cv.upd W i wa, 0 - 1, stk, wa⟩)
         else if op i = 19 then Cv.regR (mkC vs n op arg) r (i + 1) ⟨Cv.upd L i (-1), Cv.upd W i wa, 0, stk, i⟩
         else if op i = 20 then (if wa < 0 ∨ arg i ≠ wa + 1 then none else Cv.regR (mkC vs n op arg) r (i + 1) ⟨Cv.upd L i (-1), Cv.upd W i wa, 0, stk, -1⟩)
         else Cv.regR (mkC vs n op arg) r (i + 1) ⟨Cv.upd L i (-1), Cv.upd W i wa, 0, stk, wa⟩) := by
       have := Cv.regR.eq_2 (mkC vs n op arg) i ⟨L, W, 0, stk, wa⟩ r
       rw [show Cv.Rg.top ⟨L, W, 0, stk, wa⟩ = -1 from rfl] at this
       exact this
     have htp : (-1 : Int) < 0 := by omega
     by_cases hw : 0 ≤ wa
     · by_cases h20 : op i = 20
       · have hA : ¬ (0 ≤ wa ∧ op i ≠ 20 ∧ Cv.pureR (op i) = false) := fun h => h.2.1 h20
         by_cases h16 : op i = 16
         · have t := tree
           simp only [dT (show wa ≥ 0 from hw), neF h20, eqT h16, if_true, if_false, Bool.false_eq_true, reduceIte] at t
           exact ends79_next (ih.2 (i + 1) _ _ (0 + 1) (0 + 1) _ _ (by omega) (Nat.le_refl _) hv.push) (by rw [pl, if_neg hA, if_pos h16]) t (LeSt.mk' (LeL.refl _) ⟨ChLe.row (join1 _ _ _), ChLe.row (join1 _ _ _), ChLe.row (get1 _ _), trivial⟩)
         by_cases h17 : op i = 17
         · have t := tree
           simp only [dT (show wa ≥ 0 from hw), neF h20, eqF h16, eqT h17, if_true, if_false, Bool.false_eq_true, reduceIte] at t
           exact ends79_ret (by rw [pl, if_neg hA, if_neg h16, if_pos h17, if_pos (.inl htp)]) t
         by_cases h19 : op i = 19
         · have t := tree
           simp only [dT (show wa ≥ 0 from hw), neF h20, eqF h16, eqF h17, eqT h19, if_true, if_false, Bool.false_eq_true, reduceIte] at t
           exact ends79_next (ih.1 (i + 1) _ _ stk _ (by omega) (hv.keep (.inr (by omega)))) (by rw [pl, if_neg hA, if_neg h16, if_neg h17, if_pos h19]) t (LeSt.mk' (LeL.refl _) ⟨ChLe.row (join1 _ _ _), ChLe.row (join1 _ _ _), trivial⟩)
         by_cases h20' : op i = 20
         · by_cases hw' : wa < 0
           · have t := tree
             simp only [dT (show wa ≥ 0 from hw), neF h20, eqF h16, eqF h17, eqF h19, eqT h20', dT hw', if_true, if_false, Bool.false_eq_true, reduceIte] at t
             exact ends79_ret (by rw [pl, if_neg hA, if_neg h16, if_neg h17, if_neg h19, if_pos h20', if_pos (.inl hw')]) t
           have ewa : w (wa + 1) = wa + 1 := w_in (by have := hv.wa; unfold inR; omega)
           by_cases ha : arg i = wa + 1
           · have t := tree
             simp only [dT (show wa ≥ 0 from hw), neF h20, eqF h16, eqF h17, eqF h19, eqT h20', dF hw', ewa, neF ha, if_true, if_false, Bool.false_eq_true, reduceIte] at t
             exact ends79_next (ih.1 (i + 1) _ _ stk _ (by omega) (hv.keep (.inl rfl))) (by rw [pl, if_neg hA, if_neg h16, if_neg h17, if_neg h19, if_pos h20', if_neg (by omega)]) t (LeSt.mk' (LeL.refl _) ⟨ChLe.row (join1 _ _ _), ChLe.row (join1 _ _ _), trivial⟩)
           · have t := tree
             simp only [dT (show wa ≥ 0 from hw), neF h20, eqF h16, eqF h17, eqF h19, eqT h20', dF hw', ewa, neT ha, if_true, if_false, Bool.false_eq_true, reduceIte] at t
             exact ends79_ret (by rw [pl, if_neg hA, if_neg h16, if_neg h17, if_neg h19, if_pos h20', if_pos (.inr ha)]) t
         have t := tree
         simp only [dT (show wa ≥ 0 from hw), neF h20, eqF h16, eqF h17, eqF h19, eqF h20', if_true, if_false, Bool.false_eq_true, reduceIte] at t
         exact ends79_next (ih.1 (i + 1) _ _ stk _ (by omega) (hv.keep (by have := hv.wa; omega))) (by rw [pl, if_neg hA, if_neg h16, if_neg h17, if_neg h19, if_neg h20']) t (LeSt.mk' (LeL.refl _) ⟨ChLe.row (join1 _ _ _), ChLe.row (join1 _ _ _), trivial⟩)
       · cases hpu : Cv.pureR (op i) with
         | false =>
           have t := tree
           simp only [dT (show wa ≥ 0 from hw), neT h20, cl_pos hq, hpu, Bool.not_false, if_true] at t
           exact ends79_ret (by rw [pl, if_pos ⟨hw, h20, hpu⟩]) t
         | true =>
           have hA : ¬ (0 ≤ wa ∧ op i ≠ 20 ∧ Cv.pureR (op i) = false) := fun h => by rw [hpu] at h; exact absurd h.2.2 (by decide)
           by_cases h16 : op i = 16
           · have t := tree
             simp only [dT (show wa ≥ 0 from hw), neT h20, cl_pos hq, hpu, Bool.not_true, eqT h16, if_true, if_false, Bool.false_eq_true, reduceIte] at t
             exact ends79_next (ih.2 (i + 1) _ _ (0 + 1) (0 + 1) _ _ (by omega) (Nat.le_refl _) hv.push) (by rw [pl, if_neg hA, if_pos h16]) t (LeSt.mk' (LeL.refl _) ⟨ChLe.row (join1 _ _ _), ChLe.row (join1 _ _ _), ChLe.row (get1 _ _), trivial⟩)
           by_cases h17 : op i = 17
           · have t := tree
             simp only [dT (show wa ≥ 0 from hw), neT h20, cl_pos hq, hpu, Bool.not_true, eqF h16, eqT h17, if_true, if_false, Bool.false_eq_true, reduceIte] at t
             exact ends79_ret (by rw [pl, if_neg hA, if_neg h16, if_pos h17, if_pos (.inl htp)]) t
           by_cases h19 : op i = 19
           · have t := tree
             simp only [dT (show wa ≥ 0 from hw), neT h20, cl_pos hq, hpu, Bool.not_true, eqF h16, eqF h17, eqT h19, if_true, if_false, Bool.false_eq_true, reduceIte] at t
             exact ends79_next (ih.1 (i + 1) _ _ stk _ (by omega) (hv.keep (.inr (by omega)))) (by rw [pl, if_neg hA, if_neg h16, if_neg h17, if_pos h19]) t (LeSt.mk' (LeL.refl _) ⟨ChLe.row (join1 _ _ _), ChLe.row (join1 _ _ _), trivial⟩)
           by_cases h20' : op i = 20
           · by_cases hw' : wa < 0
             · have t := tree
               simp only [dT (show wa ≥ 0 from hw), neT h20, cl_pos hq, hpu, Bool.not_true, eqF h16, eqF h17, eqF h19, eqT h20', dT hw', if_true, if_false, Bool.false_eq_true, reduceIte] at t
               exact ends79_ret (by rw [pl, if_neg hA, if_neg h16, if_neg h17, if_neg h19, if_pos h20', if_pos (.inl hw')]) t
             have ewa : w (wa + 1) = wa + 1 := w_in (by have := hv.wa; unfold inR; omega)
             by_cases ha : arg i = wa + 1
             · have t := tree
               simp only [dT (show wa ≥ 0 from hw), neT h20, cl_pos hq, hpu, Bool.not_true, eqF h16, eqF h17, eqF h19, eqT h20', dF hw', ewa, neF ha, if_true, if_false, Bool.false_eq_true, reduceIte] at t
               exact ends79_next (ih.1 (i + 1) _ _ stk _ (by omega) (hv.keep (.inl rfl))) (by rw [pl, if_neg hA, if_neg h16, if_neg h17, if_neg h19, if_pos h20', if_neg (by omega)]) t (LeSt.mk' (LeL.refl _) ⟨ChLe.row (join1 _ _ _), ChLe.row (join1 _ _ _), trivial⟩)
             · have t := tree
               simp only [dT (show wa ≥ 0 from hw), neT h20, cl_pos hq, hpu, Bool.not_true, eqF h16, eqF h17, eqF h19, eqT h20', dF hw', ewa, neT ha, if_true, if_false, Bool.false_eq_true, reduceIte] at t
               exact ends79_ret (by rw [pl, if_neg hA, if_neg h16, if_neg h17, if_neg h19, if_pos h20', if_pos (.inr ha)]) t
           have t := tree
           simp only [dT (show wa ≥ 0 from hw), neT h20, cl_pos hq, hpu, Bool.not_true, eqF h16, eqF h17, eqF h19, eqF h20', if_true, if_false, Bool.false_eq_true, reduceIte] at t
           exact ends79_next (ih.1 (i + 1) _ _ stk _ (by omega) (hv.keep (by have := hv.wa; omega))) (by rw [pl, if_neg hA, if_neg h16, if_neg h17, if_neg h19, if_neg h20']) t (LeSt.mk' (LeL.refl _) ⟨ChLe.row (join1 _ _ _), ChLe.row (join1 _ _ _), trivial⟩)
     · have hA : ¬ (0 ≤ wa ∧ op i ≠ 20 ∧ Cv.pureR (op i) = false) := fun h => hw h.1
       by_cases h16 : op i = 16
       · have t := tree
         simp only [dF (show ¬ wa ≥ 0 from hw), eqT h16, if_true, if_false, Bool.false_eq_true, reduceIte] at t
         exact ends79_next (ih.2 (i + 1) _ _ (0 + 1) (0 + 1) _ _ (by omega) (Nat.le_refl _) hv.push) (by rw [pl, if_neg hA, if_pos h16]) t (LeSt.mk' (LeL.refl _) ⟨ChLe.row (join1 _ _ _), ChLe.row (join1 _ _ _), ChLe.row (get1 _ _), trivial⟩)
       by_cases h17 : op i = 17
       · have t := tree
         simp only [dF (show ¬ wa ≥ 0 from hw), eqF h16, eqT h17, if_true, if_false, Bool.false_eq_true, reduceIte] at t
         exact ends79_ret (by rw [pl, if_neg hA, if_neg h16, if_pos h17, if_pos (.inl htp)]) t
       by_cases h19 : op i = 19
       · have t := tree
         simp only [dF (show ¬ wa ≥ 0 from hw), eqF h16, eqF h17, eqT h19, if_true, if_false, Bool.false_eq_true, reduceIte] at t
         exact ends79_next (ih.1 (i + 1) _ _ stk _ (by omega) (hv.keep (.inr (by omega)))) (by rw [pl, if_neg hA, if_neg h16, if_neg h17, if_pos h19]) t (LeSt.mk' (LeL.refl _) ⟨ChLe.row (join1 _ _ _), ChLe.row (join1 _ _ _), trivial⟩)
       by_cases h20' : op i = 20
       · by_cases hw' : wa < 0
         · have t := tree
           simp only [dF (show ¬ wa ≥ 0 from hw), eqF h16, eqF h17, eqF h19, eqT h20', dT hw', if_true, if_false, Bool.false_eq_true, reduceIte] at t
           exact ends79_ret (by rw [pl, if_neg hA, if_neg h16, if_neg h17, if_neg h19, if_pos h20', if_pos (.inl hw')]) t
         have ewa : w (wa + 1) = wa + 1 := w_in (by have := hv.wa; unfold inR; omega)
         by_cases ha : arg i = wa + 1
         · have t := tree
           simp only [dF (show ¬ wa ≥ 0 from hw), eqF h16, eqF h17, eqF h19, eqT h20', dF hw', ewa, neF ha, if_true, if_false, Bool.false_eq_true, reduceIte] at t
           exact ends79_next (ih.1 (i + 1) _ _ stk _ (by omega) (hv.keep (.inl rfl))) (by rw [pl, if_neg hA, if_neg h16, if_neg h17, if_neg h19, if_pos h20', if_neg (by omega)]) t (LeSt.mk' (LeL.refl _) ⟨ChLe.row (join1 _ _ _), ChLe.row (join1 _ _ _), trivial⟩)
         · have t := tree
           simp only [dF (show ¬ wa ≥ 0 from hw), eqF h16, eqF h17, eqF h19, eqT h20', dF hw', ewa, neT ha, if_true, if_false, Bool.false_eq_true, reduceIte] at t
           exact ends79_ret (by rw [pl, if_neg hA, if_neg h16, if_neg h17, if_neg h19, if_pos h20', if_pos (.inr ha)]) t
       have t := tree
       simp only [dF (show ¬ wa ≥ 0 from hw), eqF h16, eqF h17, eqF h19, eqF h20', if_true, if_false, Bool.false_eq_true, reduceIte] at t
       exact ends79_next (ih.1 (i + 1) _ _ stk _ (by omega) (hv.keep (by have := hv.wa; omega))) (by rw [pl, if_neg hA, if_neg h16, if_neg h17, if_neg h19, if_neg h20']) t (LeSt.mk' (LeL.refl _) ⟨ChLe.row (join1 _ _ _), ChLe.row (join1 _ _ _), trivial⟩)
   · have hi' : i < n := by omega
     have hid : decide ((i : Int) < (n : Int)) = true := by simpa using hi'
     have hbb : (0 : Int) ≤ (i : Int) ∧ (i : Int) < (n : Int) := by omega
     have hq : QI1 [i64 (op i)] ∧ True := ⟨⟨_, rfl⟩, trivial⟩
     have ew : w ((i : Int) + 1) = ((i + 1 : Nat) : Int) := by rw [w_in (by unfold inR; omega)]; omega
     have hroom : (i + 1) * 8 ≤ roomBound ∧ i + 1 ≤ Go.maxLen ∧ i ≤ i := by unfold roomBound Go.maxLen; omega
     have hmi := hv.m
     have hroom2 : (m + 1) * 8 ≤ roomBound ∧ m + 1 ≤ Go.maxLen ∧ m ≤ cp := by unfold roomBound Go.maxLen; omega
     have tree := fun lo => r79c n op arg i L W m cp stk wa lo
     by_cases hm : 0 < m
     · have em : w ((m : Int) - 1) = ((m - 1 : Nat) : Int) := by rw [w_in (by unfold inR; omega)]; omega
       have hb1 : (0 : Int) ≤ ((m - 1 : Nat) : Int) ∧ ((m - 1 : Nat) : Int) < (m : Int) := by omega
       have hb2 : m - 1 < cp ∧ True := ⟨by omega, trivial⟩
       have hb3 : (0 : Int) ≤ (0 : Int) ∧ (0 : Int) ≤ ((m - 1 : Nat) : Int) ∧ ((m - 1 : Nat) : Int) ≤ (m : Int) := by omega
       have hlt := hv.lt (m - 1) (by omega)
       have hneg : ¬ stk (m - 1) < 0 := by omega
       have es : w (stk (m - 1) + 1) = stk (m - 1) + 1 := w_in (by unfold inR; omega)
       have hgt : decide ((m : Int) > (0 : Int)) = true := by simpa using hm
       have e00 : Int.toNat 0 = 0 := rfl
       simp only [em, Int.toNat_natCast, Nat.zero_add, ew, if_pos hid, if_pos hbb, eq_self, if_pos hroom, if_pos hroom2, if_pos hgt, if_pos hb1, if_pos hb2, if_pos hb3, es, e00, Nat.sub_zero] at tree
       have pl : Cv.regR (mkC vs n op arg) (r + 1) i ⟨L, W, m, stk, wa⟩ = (if 0 ≤ wa ∧ op i ≠ 20 ∧ Cv.pureR (op i) = false then none
           else if op i = 16 then Cv.regR (mkC vs n op arg) r (i + 1) ⟨Cv.upd L i (stk (m - 1)), Cv.upd W i wa, m + 1, Cv.upd stk m i, wa⟩
           else if op i = 17 then (if (stk (m - 1)) < 0 ∨ arg i ≠ (stk (m - 1)) + 1 then none else Cv.regR (mkC vs n op arg) r (i + 1) ⟨Cv.upd L i (stk (m - 1)), Cv.upd W i wa, m - 1, stk, wa⟩)
           else if op i = 19 then Cv.regR (mkC vs n op arg) r (i + 1) ⟨Cv.upd L i (stk (m - 1)), Cv.upd W i wa, m, stk, i⟩
           else if op i = 20 then (if wa < 0 ∨ arg i ≠ wa + 1 then none else Cv.regR (mkC vs n op arg) r (i + 1) ⟨Cv.upd L i (stk (m - 1)), Cv.upd W i wa, m, stk, -1⟩)
           else Cv.regR (mkC vs n op arg) r (i + 1) ⟨Cv.upd L i (stk (m - 1)), Cv.upd W i wa, m, stk, wa⟩) := by
         have := Cv.regR.eq_2 (mkC vs n op arg) i ⟨L, W, m, stk, wa⟩ r
         rw [show Cv.Rg.top ⟨L, W, m, stk, wa⟩ = stk (m - 1) from if_pos hm] at this
         exact this
       by_cases hw : 0 ≤ wa
       · by_cases h20 : op i = 20
         · have hA : ¬ (0 ≤ wa ∧ op i ≠ 20 ∧ Cv.pureR (op i) = false) := fun h => h.2.1 h20
           by_cases h16 : op i = 16
           · have t := tree
             simp only [dT (show wa ≥ 0 from hw), neF h20, eqT h16, if_true, if_false, Bool.false_eq_true, reduceIte] at t
             exact ends79_next (ih.2 (i + 1) _ _ (m + 1) (m + 1) _ _ (by omega) (Nat.le_refl _) hv.push) (by rw [pl, if_neg hA, if_pos h16]) t (LeSt.mk' (LeL.refl _) ⟨ChLe.row (join1 _ _ _), ChLe.row (join1 _ _ _), ChLe.row (join1 _ _ _), trivial⟩)
           by_cases h17 : op i = 17
           · by_cases ha : arg i = stk (m - 1) + 1
             · have t := tree
               simp only [dT (show wa ≥ 0 from hw), neF h20, eqF h16, eqT h17, dF hneg, neF ha, if_true, if_false, Bool.false_eq_true, reduceIte] at t
               exact ends79_next (ih.2 (i + 1) _ _ (m - 1) cp stk _ (by omega) (by omega) hv.pop) (by rw [pl, if_neg hA, if_neg h16, if_pos h17, if_neg (by omega)]) t (LeSt.mk' (LeL.refl _) ⟨ChLe.row (join1 _ _ _), ChLe.row (join1 _ _ _), ChLe.refl _, trivial⟩)
             · have t := tree
               simp only [dT (show wa ≥ 0 from hw), neF h20, eqF h16, eqT h17, dF hneg, neT ha, if_true, if_false, Bool.false_eq_true, reduceIte] at t
               exact ends79_ret (by rw [pl, if_neg hA, if_neg h16, if_pos h17, if_pos (.inr ha)]) t
           by_cases h19 : op i = 19
           · have t := tree
             simp only [dT (show wa ≥ 0 from hw), neF h20, eqF h16, eqF h17, eqT h19, if_true, if_false, Bool.false_eq_true, reduceIte] at t
             exact ends79_next (ih.2 (i + 1) _ _ m cp stk _ (by omega) hcp (hv.keep (.inr (by omega)))) (by rw [pl, if_neg hA, if_neg h16, if_neg h17, if_pos h19]) t (LeSt.mk' (LeL.refl _) ⟨ChLe.row (join1 _ _ _), ChLe.row (join1 _ _ _), ChLe.refl _, trivial⟩)
           by_cases h20' : op i = 20
           · by_cases hw' : wa < 0
             · have t := tree
               simp only [dT (show wa ≥ 0 from hw), neF h20, eqF h16, eqF h17, eqF h19, eqT h20', dT hw', if_true, if_false, Bool.false_eq_true, reduceIte] at t
               exact ends79_ret (by rw [pl, if_neg hA, if_neg h16, if_neg h17, if_neg h19, if_pos h20', if_pos (.inl hw')]) t
             have ewa : w (wa + 1) = wa + 1 := w_in (by have := hv.wa; unfold inR; omega)
             by_cases ha : arg i = wa + 1
             · have t := tree
               simp only [dT (show wa ≥ 0 from hw), neF h20, eqF h16, eqF h17, eqF h19, eqT h20', dF hw', ewa, neF ha, if_true, if_false, Bool.false_eq_true, reduceIte] at t
               exact ends79_next (ih.2 (i + 1) _ _ m cp stk _ (by omega) hcp (hv.keep (.inl rfl))) (by rw [pl, if_neg hA, if_neg h16, if_neg h17, if_neg h19, if_pos h20', if_neg (by omega)]) t (LeSt.mk' (LeL.refl _) ⟨ChLe.row (join1 _ _ _), ChLe.row (join1 _ _ _), ChLe.refl _, trivial⟩)
             · have t := tree
               simp only [dT (show wa ≥ 0 from hw), neF h20, eqF h16, eqF h17, eqF h19, eqT h20', dF hw', ewa, neT ha, if_true, if_false, Bool.false_eq_true, reduceIte] at t
               exact ends79_ret (by rw [pl, if_neg hA, if_neg h16, if_neg h17, if_neg h19, if_pos h20', if_pos (.inr ha)]) t
           have t := tree
           simp only [dT (show wa ≥ 0 from hw), neF h20, eqF h16, eqF h17, eqF h19, eqF h20', if_true, if_false, Bool.false_eq_true, reduceIte] at t
           exact ends79_next (ih.2 (i + 1) _ _ m cp stk _ (by omega) hcp (hv.keep (by have := hv.wa; omega))) (by rw [pl, if_neg hA, if_neg h16, if_neg h17, if_neg h19, if_neg h20']) t (LeSt.mk' (LeL.refl _) ⟨ChLe.row (join1 _ _ _), ChLe.row (join1 _ _ _), ChLe.refl _, trivial⟩)
         · cases hpu : Cv.pureR (op i) with
           | false =>
             have t := tree
             simp only [dT (show wa ≥ 0 from hw), neT h20, cl_pos hq, hpu, Bool.not_false, if_true] at t
             exact ends79_ret (by rw [pl, if_pos ⟨hw, h20, hpu⟩]) t
           | true =>
             have hA : ¬ (0 ≤ wa ∧ op i ≠ 20 ∧ Cv.pureR (op i) = false) := fun h => by rw [hpu] at h; exact absurd h.2.2 (by decide)
             by_cases h16 : op i = 16
             · have t := tree
               simp only [dT (show wa ≥ 0 from hw), neT h20, cl_pos hq, hpu, Bool.not_true, eqT h16, if_true, if_false, Bool.false_eq_true, reduceIte] at t
               exact ends79_next (ih.2 (i + 1) _ _ (m + 1) (m + 1) _ _ (by omega) (Nat.le_refl _) hv.push) (by rw [pl, if_neg hA, if_pos h16]) t (LeSt.mk' (LeL.refl _) ⟨ChLe.row (join1 _ _ _), ChLe.row (join1 _ _ _), ChLe.row (join1 _ _ _), trivial⟩)
             by_cases h17 : op i = 17
             · by_cases ha : arg i = stk (m - 1) + 1
               · have t := tree
                 simp only [dT (show wa ≥ 0 from hw), neT h20, cl_pos hq, hpu, Bool.not_true, eqF h16, eqT h17, dF hneg, neF ha, if_true, if_false, Bool.false_eq_true, reduceIte] at t
                 exact ends79_next (ih.2 (i + 1) _ _ (m - 1) cp stk _ (by omega) (by omega) hv.pop) (by rw [pl, if_neg hA, if_neg h16, if_pos h17, if_neg (by omega)]) t (LeSt.mk' (LeL.refl _) ⟨ChLe.row (join1 _ _ _), ChLe.row (join1 _ _ _), ChLe.refl _, trivial⟩)
               · have t := tree
                 simp only [dT (show wa ≥ 0 from hw), neT h20, cl_pos hq, hpu, Bool.not_true, eqF h16, eqT h17, dF hneg, neT ha, if_true, if_false, Bool.false_eq_true, reduceIte] at t
                 exact ends79_ret (by rw [pl, if_neg hA, if_neg h16, if_pos h17, if_pos (.inr ha)]) t
             by_cases h19 : op i = 19
             · have t := tree
               simp only [dT (show wa ≥ 0 from hw), neT h20, cl_pos hq, hpu, Bool.not_true, eqF h16, eqF h17, eqT h19, if_true, if_false, Bool.false_eq_true, reduceIte] at t
               exact ends79_next (ih.2 (i + 1) _ _ m cp stk _ (by omega) hcp (hv.keep (.inr (by omega)))) (by rw [pl, if_neg hA, if_neg h16, if_neg h17, if_pos h19]) t (LeSt.mk' (LeL.refl _) ⟨ChLe.row (join1 _ _ _), ChLe.row (join1 _ _ _), ChLe.refl _, trivial⟩)
             by_cases h20' : op i = 20
             · by_cases hw' : wa < 0
               · have t := tree
                 simp only [dT (show wa ≥ 0 from hw), neT h20, cl_pos hq, hpu, Bool.not_true, eqF h16, eqF h17, eqF h19, eqT h20', dT hw', if_true, if_false, Bool.false_eq_true, reduceIte] at t
                 exact ends79_ret (by rw [pl, if_neg hA, if_neg h16, if_neg h17, if_neg h19, if_pos h20', if_pos (.inl hw')]) t
               have ewa : w (wa + 1) = wa + 1 := w_in (by have := hv.wa; unfold inR; omega)
               by_cases ha : arg i = wa + 1
               · have t := tree
                 simp only [dT (show wa ≥ 0 from hw), neT h20, cl_pos hq, hpu, Bool.not_true, eqF h16, eqF h17, eqF h19, eqT h20', dF hw', ewa, neF ha, if_true, if_false, Bool.false_eq_true, reduceIte] at t
                 exact ends79_next (ih.2 (i + 1) _ _ m cp stk _ (by omega) hcp (hv.keep (.inl rfl))) (by rw [pl, if_neg hA, if_neg h16, if_neg h17, if_neg h19, if_pos h20', if_neg (by omega)]) t (LeSt.mk' (LeL.refl _) ⟨ChLe.row (join1 _ _ _), ChLe.row (join1 _ _ _), ChLe.refl _, trivial⟩)
               · have t := tree
                 simp only [dT (show wa ≥ 0 from hw), neT h20, cl_pos hq, hpu, Bool.not_true, eqF h16, eqF h17, eqF h19, eqT h20', dF hw', ewa, neT ha, if_true, if_false, Bool.false_eq_true, reduceIte] at t
                 exact ends79_ret (by rw [pl, if_neg hA, if_neg h16, if_neg h17, if_neg h19, if_pos h20', if_pos (.inr ha)]) t
             have t := tree
             simp only [dT (show wa ≥ 0 from hw), neT h20, cl_pos hq, hpu, Bool.not_true, eqF h16, eqF h17, eqF h19, eqF h20', if_true, if_false, Bool.false_eq_true, reduceIte] at t
             exact ends79_next (ih.2 (i + 1) _ _ m cp stk _ (by omega) hcp (hv.keep (by have := hv.wa; omega))) (by rw [pl, if_neg hA, if_neg h16, if_neg h17, if_neg h19, if_neg h20']) t (LeSt.mk' (LeL.refl _) ⟨ChLe.row (join1 _ _ _), ChLe.row (join1 _ _ _), ChLe.refl _, trivial⟩)
       · have hA : ¬ (0 ≤ wa ∧ op i ≠ 20 ∧ Cv.pureR (op i) = false) := fun h => hw h.1
         by_cases h16 : op i = 16
         · have t := tree
           simp only [dF (show ¬ wa ≥ 0 from hw), eqT h16, if_true, if_false, Bool.false_eq_true, reduceIte] at t
           exact ends79_next (ih.2 (i + 1) _ _ (m + 1) (m + 1) _ _ (by omega) (Nat.le_refl _) hv.push) (by rw [pl, if_neg hA, if_pos h16]) t (LeSt.mk' (LeL.refl _) ⟨ChLe.row (join1 _ _ _), ChLe.row (join1 _ _ _), ChLe.row (join1 _ _ _), trivial⟩)
         by_cases h17 : op i = 17
         · by_cases ha : arg i = stk (m - 1) + 1
           · have t := tree
             simp only [dF (show ¬ wa ≥ 0 from hw), eqF h16, eqT h17, dF hneg, neF ha, if_true, if_false, Bool.false_eq_true, reduceIte] at t
             exact ends79_next (ih.2 (i + 1) _ _ (m - 1) cp stk _ (by omega) (by omega) hv.pop) (by rw [pl, if_neg hA, if_neg h16, if_pos h17, if_neg (by omega)]) t (LeSt.mk' (LeL.refl _) ⟨ChLe.row (join1 _ _ _), ChLe.row (join1 _ _ _), ChLe.refl _, trivial⟩)
           · have t := tree
             simp only [dF (show ¬ wa ≥ 0 from hw), eqF h16, eqT h17, dF hneg, neT ha, if_true, if_false, Bool.false_eq_true, reduceIte] at t
             exact ends79_ret (by rw [pl, if_neg hA, if_neg h16, if_pos h17, if_pos (.inr ha)]) t
         by_cases h19 : op i = 19
         · have t := tree
           simp only [dF (show ¬ wa ≥ 0 from hw), eqF h16, eqF h17, eqT h19, if_true, if_false, Bool.false_eq_true, reduceIte] at t
           exact ends79_next (ih.2 (i + 1) _ _ m cp stk _ (by omega) hcp (hv.keep (.inr (by omega)))) (by rw [pl, if_neg hA, if_neg h16, if_neg h17, if_pos h19]) t (LeSt.mk' (LeL.refl _) ⟨ChLe.row (join1 _ _ _), ChLe.row (join1 _ _ _), ChLe.refl _, trivial⟩)
         by_cases h20' : op i = 20
         · by_cases hw' : wa < 0
           · have t := tree
             simp only [dF (show ¬ wa ≥ 0 from hw), eqF h16, eqF h17, eqF h19, eqT h20', dT hw', if_true, if_false, Bool.false_eq_true, reduceIte] at t
             exact ends79_ret (by rw [pl, if_neg hA, if_neg h16, if_neg h17, if_neg h19, if_pos h20', if_pos (.inl hw')]) t
           have ewa : w (wa + 1) = wa + 1 := w_in (by have := hv.wa; unfold inR; omega)
           by_cases ha : arg i = wa + 1
           · have t := tree
             simp only [dF (show ¬ wa ≥ 0 from hw), eqF h16, eqF h17, eqF h19, eqT h20', dF hw', ewa, neF ha, if_true, if_false, Bool.false_eq_true, reduceIte] at t
             exact ends79_next (ih.2 (i + 1) _ _ m cp stk _ (by omega) hcp (hv.keep (.inl rfl))) (by rw [pl, if_neg hA, if_neg h16, if_neg h17, if_neg h19, if_pos h20', if_neg (by omega)]) t (LeSt.mk' (LeL.refl _) ⟨ChLe.row (join1 _ _ _), ChLe.row (join1 _ _ _), ChLe.refl _, trivial⟩)
           · have t := tree
             simp only [dF (show ¬ wa ≥ 0 from hw), eqF h16, eqF h17, eqF h19, eqT h20', dF hw', ewa, neT ha, if_true, if_false, Bool.false_eq_true, reduceIte] at t
             exact ends79_ret (by rw [pl, if_neg hA, if_neg h16, if_neg h17, if_neg h19, if_pos h20', if_pos (.inr ha)]) t
         have t := tree
         simp only [dF (show ¬ wa ≥ 0 from hw), eqF h16, eqF h17, eqF h19, eqF h20', if_true, if_false, Bool.false_eq_true, reduceIte] at t
         exact ends79_next (ih.2 (i + 1) _ _ m cp stk _ (by omega) hcp (hv.keep (by have := hv.wa; omega))) (by rw [pl, if_neg hA, if_neg h16, if_neg h17, if_neg h19, if_neg h20']) t (LeSt.mk' (LeL.refl _) ⟨ChLe.row (join1 _ _ _), ChLe.row (join1 _ _ _), ChLe.refl _, trivial⟩)
     · have hm0 : m = 0 := by omega
       subst hm0
       have hgt : decide (((0 : Nat) : Int) > (0 : Int)) = false := by decide
       simp only [hgt, Bool.false_eq_true, if_false, Int.toNat_natCast, Nat.zero_add, ew, if_pos hid, if_pos hbb, eq_self, if_pos hroom, if_pos hroom2] at tree
       have pl : Cv.regR (mkC vs n op arg) (r + 1) i ⟨L, W, 0, stk, wa⟩ = (if 0 ≤ wa ∧ op i ≠ 20 ∧ Cv.pureR (op i) = false then none
           else if op i = 16 then Cv.regR (mkC vs n op arg) r (i + 1) ⟨Cv.upd L i (-1), Cv.upd W i wa, 0 + 1, Cv.upd stk 0 i, wa⟩
           else if op i = 17 then (if (-1) < 0 ∨ arg i ≠ (-1) + 1 then none else Cv.regR (mkC vs n op arg) r (i + 1) ⟨Cv.upd L i (-1), Cv.upd W i wa, 0 - 1, stk, wa⟩)
           else if op i = 19 then Cv.regR (mkC vs n op arg) r (i + 1) ⟨Cv.upd L i (-1), Cv.upd W i wa, 0, stk, i⟩
           else if op i = 20 then (if wa < 0 ∨ arg i ≠ wa + 1 then none else Cv.regR (mkC vs n op arg) r (i + 1) ⟨Cv.upd L i (-1), Cv.upd W i wa, 0, stk, -1⟩)
           else Cv.regR (mkC vs n op arg) r (i + 1) ⟨Cv.upd L i (-1), Cv.upd W i wa, 0, stk, wa⟩) := by
         have := Cv.regR.eq_2 (mkC vs n op arg) i ⟨L, W, 0, stk, wa⟩ r
         rw [show Cv.Rg.top ⟨L, W, 0, stk, wa⟩ = -1 from rfl] at this
         exact this
       have htp : (-1 : Int) < 0 := by omega
       by_cases hw : 0 ≤ wa
       · by_cases h20 : op i = 20
         · have hA : ¬ (0 ≤ wa ∧ op i ≠ 20 ∧ Cv.pureR (op i) = false) := fun h => h.2.1 h20
           by_cases h16 : op i = 16
           · have t := tree
             simp only [dT (show wa ≥ 0 from hw), neF h20, eqT h16, if_true, if_false, Bool.false_eq_true, reduceIte] at t
             exact ends79_next (ih.2 (i + 1) _ _ (0 + 1) (0 + 1) _ _ (by omega) (Nat.le_refl _) hv.push) (by rw [pl, if_neg hA, if_pos h16]) t (LeSt.mk' (LeL.refl _) ⟨ChLe.row (join1 _ _ _), ChLe.row (join1 _ _ _), ChLe.row (join1 _ _ _), trivial⟩)
           by_cases h17 : op i = 17
           · have t := tree
             simp only [dT (show wa ≥ 0 from hw), neF h20, eqF h16, eqT h17, if_true, if_false, Bool.false_eq_true, reduceIte] at t
             exact ends79_ret (by rw [pl, if_neg hA, if_neg h16, if_pos h17, if_pos (.inl htp)]) t
           by_cases h19 : op i = 19
           · have t := tree
             simp only [dT (show wa ≥ 0 from hw), neF h20, eqF h16, eqF h17, eqT h19, if_true, if_false, Bool.false_eq_true, reduceIte] at t
             exact ends79_next (ih.2 (i + 1) _ _ 0 cp stk _ (by omega) hcp (hv.keep (.inr (by omega)))) (by rw [pl, if_neg hA, if_neg h16, if_neg h17, if_pos h19]) t (LeSt.mk' (LeL.refl _) ⟨ChLe.row (join1 _ _ _), ChLe.row (join1 _ _ _), ChLe.refl _, trivial⟩)
           by_cases h20' : op i = 20
           · by_cases hw' : wa < 0
             · have t := tree
               simp only [dT (show wa ≥ 0 from hw), neF h20, eqF h16, eqF h17, eqF h19, eqT h20', dT hw', if_true, if_false, Bool.false_eq_true, reduceIte] at t
               exact ends79_ret (by rw [pl, if_neg hA, if_neg h16, if_neg h17, if_neg h19, if_pos h20', if_pos (.inl hw')]) t
             have ewa : w (wa + 1) = wa + 1 := w_in (by have := hv.wa; unfold inR; omega)
             by_cases ha : arg i = wa + 1
             · have t := tree
               simp only [dT (show wa ≥ 0 from hw), neF h20, eqF h16, eqF h17, eqF h19, eqT h20', dF hw', ewa, neF ha, if_true, if_false, Bool.false_eq_true, reduceIte] at t
               exact ends79_next (ih.2 (i + 1) _ _ 0 cp stk _ (by omega) hcp (hv.keep (.inl rfl))) (by rw [pl, if_neg hA, if_neg h16, if_neg h17, if_neg h19, if_pos h20', if_neg (by omega)]) t (LeSt.mk' (LeL.refl _) ⟨ChLe.row (join1 _ _ _), ChLe.row (join1 _ _ _), ChLe.refl _, trivial⟩)
             · have t := tree
               simp only [dT (show wa ≥ 0 from hw), neF h20, eqF h16, eqF h17, eqF h19, eqT h20', dF hw', ewa, neT ha, if_true, if_false, Bool.false_eq_true, reduceIte] at t
               exact ends79_ret (by rw [pl, if_neg hA, if_neg h16, if_neg h17, if_neg h19, if_pos h20', if_pos (.inr ha)]) t
           have t := tree
           simp only [dT (show wa ≥ 0 from hw), neF h20, eqF h16, eqF h17, eqF h19, eqF h20', if_true, if_false, Bool.false_eq_true, reduceIte] at t
           exact ends79_next (ih.2 (i + 1) _ _ 0 cp stk _ (by omega) hcp (hv.keep (by have := hv.wa; omega))) (by rw [pl, if_neg hA, if_neg h16, if_neg h17, if_neg h19, if_neg h20']) t (LeSt.mk' (LeL.refl _) ⟨ChLe.row (join1 _ _ _), ChLe.row (join1 _ _ _), ChLe.refl _, trivial⟩)
         · cases hpu : Cv.pureR (op i) with
           | false =>
             have t := tree
             simp only [dT (show wa ≥ 0 from hw), neT h20, cl_pos hq, hpu, Bool.not_false, if_true] at t
             exact ends79_ret (by rw [pl, if_pos ⟨hw, h20, hpu⟩]) t
           | true =>
             have hA : ¬ (0 ≤ wa ∧ op i ≠ 20 ∧ Cv.pureR (op i) = false) := fun h => by rw [hpu] at h; exact absurd h.2.2 (by decide)
             by_cases h16 : op i = 16
             · have t := tree
               simp only [dT (show wa ≥ 0 from hw), neT h20, cl_pos hq, hpu, Bool.not_true, eqT h16, if_true, if_false, Bool.false_eq_true, reduceIte] at t
               exact ends79_next (ih.2 (i + 1) _ _ (0 + 1) (0 + 1) _ _ (by omega) (Nat.le_refl _) hv.push) (by rw [pl, if_neg hA, if_pos h16]) t (LeSt.mk' (LeL.refl _) ⟨ChLe.row (join1 _ _ _), ChLe.row (join1 _ _ _), ChLe.row (join1 _ _ _), trivial⟩)
             by_cases h17 : op i = 17
             · have t := tree
               simp only [dT (show wa ≥ 0 from hw), neT h20, cl_pos hq, hpu, Bool.not_true, eqF h16, eqT h17, if_true, if_false, Bool.false_eq_true, reduceIte] at t
               exact ends79_ret (by rw [pl, if_neg hA, if_neg h16, if_pos h17, if_pos (.inl htp)]) t
             by_cases h19 : op i = 19
             · have t := tree
               simp only [dT (show wa ≥ 0 from hw), neT h20, cl_pos hq, hpu, Bool.not_true, eqF h16, eqF h17, eqT h19, if_true, if_false, Bool.false_eq_true, reduceIte] at t
               exact ends79_next (ih.2 (i + 1) _ _ 0 cp stk _ (by omega) hcp (hv.keep (.inr (by omega)))) (by rw [pl, if_neg hA, if_neg h16, if_neg h17, if_pos h19]) t (LeSt.mk' (LeL.refl _) ⟨ChLe.row (join1 _ _ _), ChLe.row (join1 _ _ _), ChLe.refl _, trivial⟩)
             by_cases h20' : op i = 20
             · by_cases hw' : wa < 0
               · have t := tree
                 simp only [dT (show wa ≥ 0 from hw), neT h20, cl_pos hq, hpu, Bool.not_true, eqF h16, eqF h17, eqF h19, eqT h20', dT hw', if_true, if_false, Bool.false_eq_true, reduceIte] at t
                 exact ends79_ret (by rw [pl, if_neg hA, if_neg h16, if_neg h17, if_neg h19, if_pos h20', if_pos (.inl hw')]) t
               have ewa : w (wa + 1) = wa + 1 := w_in (by have := hv.wa; unfold inR; omega)
               by_cases ha : arg i = wa + 1
               · have t := tree
                 simp only [dT (show wa ≥ 0 from hw), neT h20, cl_pos hq, hpu, Bool.not_true, eqF h16, eqF h17, eqF h19, eqT h20', dF hw', ewa, neF ha, if_true, if_false, Bool.false_eq_true, reduceIte] at t
                 exact ends79_next (ih.2 (i + 1) _ _ 0 cp stk _ (by omega) hcp (hv.keep (.inl rfl))) (by rw [pl, if_neg hA, if_neg h16, if_neg h17, if_neg h19, if_pos h20', if_neg (by omega)]) t (LeSt.mk' (LeL.refl _) ⟨ChLe.row (join1 _ _ _), ChLe.row (join1 _ _ _), ChLe.refl _, trivial⟩)
               · have t := tree
                 simp only [dT (show wa ≥ 0 from hw), neT h20, cl_pos hq, hpu, Bool.not_true, eqF h16, eqF h17, eqF h19, eqT h20', dF hw', ewa, neT ha, if_true, if_false, Bool.false_eq_true, reduceIte] at t
                 exact ends79_ret (by rw [pl, if_neg hA, if_neg h16, if_neg h17, if_neg h19, if_pos h20', if_pos (.inr ha)]) t
             have t := tree
             simp only [dT (show wa ≥ 0 from hw), neT h20, cl_pos hq, hpu, Bool.not_true, eqF h16, eqF h17, eqF h19, eqF h20', if_true, if_false, Bool.false_eq_true, reduceIte] at t
             exact ends79_next (ih.2 (i + 1) _ _ 0 cp stk _ (by omega) hcp (hv.keep (by have := hv.wa; omega))) (by rw [pl, if_neg hA, if_neg h16, if_neg h17, if_neg h19, if_neg h20']) t (LeSt.mk' (LeL.refl _) ⟨ChLe.row (join1 _ _ _), ChLe.row (join1 _ _ _), ChLe.refl _, trivial⟩)
       · have hA : ¬ (0 ≤ wa ∧ op i ≠ 20 ∧ Cv.pureR (op i) = false) := fun h => hw h.1
         by_cases h16 : op i = 16
         · have t := tree
           simp only [dF (show ¬ wa ≥ 0 from hw), eqT h16, if_true, if_false, Bool.false_eq_true, reduceIte] at t
           exact ends79_next (ih.2 (i + 1) _ _ (0 + 1) (0 + 1) _ _ (by omega) (Nat.le_refl _) hv.push) (by rw [pl, if_neg hA, if_pos h16]) t (LeSt.mk' (LeL.refl _) ⟨ChLe.row (join1 _ _ _), ChLe.row (join1 _ _ _), ChLe.row (join1 _ _ _), trivial⟩)
         by_cases h17 : op i = 17
         · have t := tree
           simp only [dF (show ¬ wa ≥ 0 from hw), eqF h16, eqT h17, if_true, if_false, Bool.false_eq_true, reduceIte] at t
           exact ends79_ret (by rw [pl, if_neg hA, if_neg h16, if_pos h17, if_pos (.inl htp)]) t
         by_cases h19 : op i = 19
         · have t := tree
           simp only [dF (show ¬ wa ≥ 0 from hw), eqF h16, eqF h17, eqT h19, if_true, if_false, Bool.false_eq_true, reduceIte] at t
           exact ends79_next (ih.2 (i + 1) _ _ 0 cp stk _ (by omega) hcp (hv.keep (.inr (by omega)))) (by rw [pl, if_neg hA, if_neg h16, if_neg h17, if_pos h19]) t (LeSt.mk' (LeL.refl _) ⟨ChLe.row (join1 _ _ _), ChLe.row (join1 _ _ _), ChLe.refl _, trivial⟩)
         by_cases h20' : op i = 20
         · by_cases hw' : wa < 0
           · have t := tree
             simp only [dF (show ¬ wa ≥ 0 from hw), eqF h16, eqF h17, eqF h19, eqT h20', dT hw', if_true, if_false, Bool.false_eq_true, reduceIte] at t
             exact ends79_ret (by rw [pl, if_neg hA, if_neg h16, if_neg h17, if_neg h19, if_pos h20', if_pos (.inl hw')]) t
           have ewa : w (wa + 1) = wa + 1 := w_in (by have := hv.wa; unfold inR; omega)
           by_cases ha : arg i = wa + 1
           · have t := tree
             simp only [dF (show ¬ wa ≥ 0 from hw), eqF h16, eqF h17, eqF h19, eqT h20', dF hw', ewa, neF ha, if_true, if_false, Bool.false_eq_true, reduceIte] at t
             exact ends79_next (ih.2 (i + 1) _ _ 0 cp stk _ (by omega) hcp (hv.keep (.inl rfl))) (by rw [pl, if_neg hA, if_neg h16, if_neg h17, if_neg h19, if_pos h20', if_neg (by omega)]) t (LeSt.mk' (LeL.refl _) ⟨ChLe.row (join1 _ _ _), ChLe.row (join1 _ _ _), ChLe.refl _, trivial⟩)
           · have t := tree
             simp only [dF (show ¬ wa ≥ 0 from hw), eqF h16, eqF h17, eqF h19, eqT h20', dF hw', ewa, neT ha, if_true, if_false, Bool.false_eq_true, reduceIte] at t
             exact ends79_ret (by rw [pl, if_neg hA, if_neg h16, if_neg h17, if_neg h19, if_pos h20', if_pos (.inr ha)]) t
         have t := tree
         simp only [dF (show ¬ wa ≥ 0 from hw), eqF h16, eqF h17, eqF h19, eqF h20', if_true, if_false, Bool.false_eq_true, reduceIte] at t
         exact ends79_next (ih.2 (i + 1) _ _ 0 cp stk _ (by omega) hcp (hv.keep (by have := hv.wa; omega))) (by rw [pl, if_neg hA, if_neg h16, if_neg h17, if_neg h19, if_neg h20']) t (LeSt.mk' (LeL.refl _) ⟨ChLe.row (join1 _ _ _), ChLe.row (join1 _ _ _), ChLe.refl _, trivial⟩)

set_option maxRecDepth 100000 in
theorem start79 {n : Nat} {op arg : Nat → Int} (vs : Int) (hn : n ≤ 300) (h1 : 1 ≤ n) : ends79 n (Cv.regR (mkC vs n op arg) n 0 ⟨Cv.zero, Cv.zero, 0, Cv.zero, -1⟩) (S79a n op arg) := by
  obtain ⟨r, rfl⟩ : ∃ r, n = r + 1 := ⟨n - 1, by omega⟩
  have ih := loop79 (n := r + 1) (op := op) (arg := arg) vs hn r
  have hid : decide ((0 : Int) < ((r + 1 : Nat) : Int)) = true := decide_eq_true (by omega)
  have hbb : (0 : Int) ≤ (0 : Int) ∧ (0 : Int) < ((r + 1 : Nat) : Int) := by omega
  have ew : w ((0 : Int) + 1) = ((0 + 1 : Nat) : Int) := by rw [w_in (by unfold inR; omega)]; omega
  have tree := fun lo => r79a (r + 1) op arg lo
  simp only [ew, if_pos hid, if_pos hbb, Nat.zero_add] at tree
  have hv : Inv79 0 0 Cv.zero (-1) := ⟨fun k hk => by omega, .inl rfl, Nat.le_refl _⟩
  generalize Cv.zero = L at *
  have pl : Cv.regR (mkC vs (r + 1) op arg) (r + 1) 0 ⟨L, L, 0, L, (-1)⟩ = (if 0 ≤ (-1) ∧ op 0 ≠ 20 ∧ Cv.pureR (op 0) = false then none
      else if op 0 = 16 then Cv.regR (mkC vs (r + 1) op arg) r (0 + 1) ⟨Cv.upd L 0 (-1), Cv.upd L 0 (-1), 0 + 1, Cv.upd L 0 0, (-1)⟩
      else if op 0 = 17 then (if (-1) < 0 ∨ arg 0 ≠ (-1) + 1 then none else Cv.regR (mkC vs (r + 1) op arg) r (0 + 1) ⟨Cv.upd L 0 (-1), Cv.upd L 0 (-1), 0 - 1, L, (-1)⟩)
      else if op 0 = 19 then Cv.regR (mkC vs (r + 1) op arg) r (0 + 1) ⟨Cv.upd L 0 (-1), Cv.upd L 0 (-1), 0, L, 0⟩
      else if op 0 = 20 then (if (-1) < 0 ∨ arg 0 ≠ (-1) + 1 then none else Cv.regR (mkC vs (r + 1) op arg) r (0 + 1) ⟨Cv.upd L 0 (-1), Cv.upd L 0 (-1), 0, L, -1⟩)
      else Cv.regR (mkC vs (r + 1) op arg) r (0 + 1) ⟨Cv.upd L 0 (-1), Cv.upd L 0 (-1), 0, L, (-1)⟩) := by
    have := Cv.regR.eq_2 (mkC vs (r + 1) op arg) 0 ⟨L, L, 0, L, (-1)⟩ r
    rw [show Cv.Rg.top ⟨L, L, 0, L, (-1)⟩ = -1 from rfl] at this
    exact this
  have htp : (-1 : Int) < 0 := by omega
  have hA : ¬ (0 ≤ (-1) ∧ op 0 ≠ 20 ∧ Cv.pureR (op 0) = false) := fun h => by omega
  by_cases h16 : op 0 = 16
  · have t := tree
    simp only [eqT h16, if_true, if_false, Bool.false_eq_true, reduceIte] at t
    exact ends79_next (ih.2 (0 + 1) _ _ (0 + 1) (0 + 1) _ _ (by omega) (Nat.le_refl _) hv.push) (by rw [pl, if_neg hA, if_pos h16]; try rfl) t (LeSt.mk' (LeL.refl _) ⟨ChLe.row (get1 _ _), ChLe.row (get1 _ _), ChLe.row (get1 _ _), trivial⟩)
  by_cases h17 : op 0 = 17
  · have t := tree
    simp only [eqF h16, eqT h17, if_true, if_false, Bool.false_eq_true, reduceIte] at t
    exact ends79_ret (by rw [pl, if_neg hA, if_neg h16, if_pos h17, if_pos (.inl htp)]; try rfl) t
  by_cases h19 : op 0 = 19
  · have t := tree
    simp only [eqF h16, eqF h17, eqT h19, if_true, if_false, Bool.false_eq_true, reduceIte] at t
    exact ends79_next (ih.1 (0 + 1) _ _ L _ (by omega) (hv.keep (.inr (by omega)))) (by rw [pl, if_neg hA, if_neg h16, if_neg h17, if_pos h19]; try rfl) t (LeSt.mk' (LeL.refl _) ⟨ChLe.row (get1 _ _), ChLe.row (get1 _ _), trivial⟩)
  by_cases h20' : op 0 = 20
  · have t := tree
    simp only [eqF h16, eqF h17, eqF h19, eqT h20', if_true, if_false, Bool.false_eq_true, reduceIte] at t
    exact ends79_ret (by rw [pl, if_neg hA, if_neg h16, if_neg h17, if_neg h19, if_pos h20', if_pos (.inl (by omega))]; try rfl) t
  have t := tree
  simp only [eqF h16, eqF h17, eqF h19, eqF h20', if_true, if_false, Bool.false_eq_true, reduceIte] at t
  exact ends79_next (ih.1 (0 + 1) _ _ L _ (by omega) (hv.keep (by have := hv.wa; omega))) (by rw [pl, if_neg hA, if_neg h16, if_neg h17, if_neg h19, if_neg h20']; try rfl) t (LeSt.mk' (LeL.refl _) ⟨ChLe.row (get1 _ _), ChLe.row (get1 _ _), trivial⟩)
end Go.Proofs.YtcljccpddodckaaGreatDoor
/- Depths (80), Valid (73), the reference's Verify (60), walked. -/
namespace Go.Proofs.YtcljccpddodckaaGreatDoor
open Go Go.Am Go.Proofs
set_option linter.unusedSimpArgs false
set_option linter.unusedVariables false
set_option maxRecDepth 100000
def rgN : V := .tup [.sc (.slice none 0 0), .sc (.slice none 0 0), bo false]
def rgS (n : Nat) (L W : Nat → Int) (b : Bool) : V := .tup [.ro 1 n (r1 L), .ro 1 n (r1 W), bo b]
def rg0 : Cv.Rg := ⟨Cv.zero, Cv.zero, 0, Cv.zero, -1⟩
def rgV (n : Nat) (x : Option Cv.Rg) : V := match x with
  | none => rgN
  | some q => rgS n q.L q.W (decide (q.m = 0 ∧ q.wa < 0))
theorem bw_row2 {n : Nat} {f g : Nat → List V} {b : Bool} : V.bw (hp [some (Chunk.row 3 1 n f), some (Chunk.row 3 1 n g)]) (.tup [.sl 0 1 0 n, .sl 1 1 0 n, bo b]) = .tup [.ro 1 n (fun j => f (0 + j)), .ro 1 n (fun j => g (0 + j)), bo b] := by
  simp [V.bw, V.bw2, V.bw1, hp]
set_option maxRecDepth 100000 in
theorem regions_sc {n : Nat} {op arg : Nat → Int} (vs : Int) (hn : n ≤ 300) (h1 : 1 ≤ n) : SC E2 10 [cd n op arg] [] (.ret (rgV n (Cv.regR (mkC vs n op arg) n 0 rg0)) []) := by
  have key := start79 (op := op) (arg := arg) vs hn h1
  have fin : ∀ {L W : Nat → Int} {b : Bool}, SC E2 10 [cd n op arg] [] (.ret (.tup [.sl 0 1 0 n, .sl 1 1 0 n, bo b]) [some (Chunk.row 3 1 n (r1 L)), some (Chunk.row 3 1 n (r1 W))]) → SC E2 10 [cd n op arg] [] (.ret (rgS n L W b) []) := by
    intro L W b h
    refine (SC.give h (by rw [bw_row2]; rfl)).le ?_
    rw [bw_row2]
    exact Le.tup (LeL.cons (Le.ro_eq fun j hj => ⟨by rw [Nat.zero_add], rfl⟩) (LeL.cons (Le.ro_eq fun j hj => ⟨by rw [Nat.zero_add], rfl⟩) (LeL.refl _)))
  have e0 : Cv.regR (mkC vs n op arg) n 0 ⟨Cv.zero, Cv.zero, 0, Cv.zero, -1⟩ = Cv.regR (mkC vs n op arg) n 0 rg0 := rfl
  rw [e0] at key
  revert key
  cases hx : Cv.regR (mkC vs n op arg) n 0 rg0 with
  | none =>
    intro key
    refine SC.of hW2 hX2 sC79 (oneF2 0 (e := .exit 0) (T := T79b n Cv.zero Cv.zero 0) key) ((f79b n op arg Cv.zero Cv.zero 0 _ _).trans ?_)
    rw [cl_pos ⟨rfl, LeSt.refl _⟩, cl_neg (fun h => h)]
    rfl
  | some q =>
    intro key
    rcases key with ⟨h0, key⟩ | ⟨cp, key⟩
    · have hb : decide (q.m = 0 ∧ q.wa < 0) = decide (q.wa < 0) := by rw [Bool.eq_iff_iff, decide_eq_true_eq, decide_eq_true_eq]; exact ⟨fun h => h.2, fun h => ⟨h0, h⟩⟩
      show SC E2 10 _ _ (.ret (rgS n q.L q.W (decide (q.m = 0 ∧ q.wa < 0))) [])
      rw [hb]
      refine fin (SC.of hW2 hX2 sC79 (one2 0 (e' := .ret) (T' := T79r) key) ((f79b n op arg q.L q.W q.wa _ _).trans ?_))
      rw [cl_pos ⟨rfl, LeSt.refl _⟩, cl_pos trivial]
    · show SC E2 10 _ _ (.ret (rgS n q.L q.W (decide (q.m = 0 ∧ q.wa < 0))) [])
      by_cases h0 : q.m = 0
      · have hb : decide (q.m = 0 ∧ q.wa < 0) = decide (q.wa < 0) := by rw [Bool.eq_iff_iff, decide_eq_true_eq, decide_eq_true_eq]; exact ⟨fun h => h.2, fun h => ⟨h0, h⟩⟩
        rw [hb]
        refine fin (SC.of hW2 hX2 sC79 (one2 0 (e' := .ret) (T' := T79r) key) ((f79c n op arg q.L q.W q.m cp q.stk q.wa _ _).trans ?_))
        rw [cl_pos ⟨rfl, LeSt.refl _⟩, cl_pos trivial, if_pos (by simp [h0])]
      · have hb : decide (q.m = 0 ∧ q.wa < 0) = false := decide_eq_false fun h => h0 h.1
        rw [hb]
        refine fin (SC.of hW2 hX2 sC79 (one2 0 (e' := .ret) (T' := T79r) key) ((f79c n op arg q.L q.W q.m cp q.stk q.wa _ _).trans ?_))
        rw [cl_pos ⟨rfl, LeSt.refl _⟩, cl_pos trivial, if_neg (by simp [h0])]
noncomputable def vLeftN : List V → V
  | [.sc (.int .i64 o), .sc (.int .i64 d)] => .tup [i64 (Cv.leftV o d), bo (leftD o d)]
  | _ => .junk
def QLeft (args : List V) : Prop := ∃ o d : Int, args = [i64 o, i64 d] ∧ -1 ≤ d ∧ d ≤ 16
noncomputable def C80 : CallT := ptab 59 QLeft vLeftN (tab [])
theorem sC80 : SoundC E2 C80 := ptab_cons (fun args h => by obtain ⟨o, d, rfl, h1, h2⟩ := h; exact left_sc h1 h2) tab_nil
def S80a (n : Nat) (op arg : Nat → Int) (k : Nat) (dp : Nat → Int) : St := { fr := [cd n op arg, .junk, .junk, .sl 0 1 0 n, i64 k] ++ jk 117, H := hp [some (.row 3 1 n (r1 dp))], nx := 1, rt := 0, me := 47 }
def T80a (n : Nat) (op arg : Nat → Int) (dp : Nat → Int) : St := { fr := [cd n op arg, .junk, .junk, .sl 0 1 0 n] ++ jk 118, H := hp [some (.row 3 1 n (r1 dp))], nx := 1, rt := 0, me := 47 }
def S80b (n : Nat) (op arg : Nat → Int) (i : Nat) (dp : Nat → Int) : St := { fr := [cd n op arg, .junk, .junk, .sl 0 1 0 n, .junk, i64 i] ++ jk 116, H := hp [some (.row 3 1 n (r1 dp))], nx := 1, rt := 0, me := 47 }
def T80e : St := { fr := jk 122, H := hp [], nx := 0, rt := 0, me := 47 }
def T80r : St := { fr := [.junk, .junk, bo false] ++ jk 119, H := hp [], nx := 0, rt := 0, me := 47 }
def S80c (n : Nat) (op arg : Nat → Int) (i : Nat) (dp : Nat → Int) (d : Int) (l : Nat) (f : Nat → Int) (j : Nat) : St := { fr := [cd n op arg, .junk, .junk, .sl 0 1 0 n, .junk, i64 i, i64 d, .junk, .sl 1 1 0 l, i64 j] ++ jk 112, H := hp [some (.row 3 1 n (r1 dp)), some (.row 3 1 l (r1 f))], nx := 2, rt := 0, me := 47 }
def S80n (n : Nat) (op arg : Nat → Int) (i : Nat) (dp : Nat → Int) (d : Int) : St := { fr := [cd n op arg, .junk, .junk, .sl 0 1 0 n, .junk, i64 i, i64 d, .junk, .sc (.slice none 0 0), i64 0] ++ jk 112, H := hp [some (.row 3 1 n (r1 dp))], nx := 1, rt := 0, me := 47 }
def T80i (n : Nat) (op arg : Nat → Int) (i : Nat) (dp : Nat → Int) : St := { fr := [cd n op arg, .junk, .junk, .sl 0 1 0 n, .junk, i64 i] ++ jk 116, H := hp [some (.row 3 1 n (r1 dp))], nx := 1, rt := 0, me := 47 }
theorem r80i (n : Nat) (op arg : Nat → Int) (i : Nat) (dp : Nat → Int) (d : Int) (l : Nat) (f : Nat → Int) (j : Nat) (lo : LoopT) : loopK E2 C80 lo 4 873 (bodyOf E2 47 4) (S80c n op arg i dp d l f j) (KC2 41 4) =
  if decide ((j : Int) < (l : Int)) = true then
   if (0 : Int) ≤ (j : Int) ∧ (j : Int) < (l : Int) then
    if 0 + Int.toNat (j : Int) < l ∧ 1 = 1 then
     if (0 : Int) ≤ f (0 + Int.toNat (j : Int)) ∧ f (0 + Int.toNat (j : Int)) < (n : Int) then
      if 0 + Int.toNat (f (0 + Int.toNat (j : Int))) < n ∧ 1 = 1 then
       if decide (dp (0 + Int.toNat (f (0 + Int.toNat (j : Int)))) ≥ (0 : Int)) = true then
        if (0 : Int) ≤ (j : Int) ∧ (j : Int) < (l : Int) then
         if 0 + Int.toNat (j : Int) < l ∧ 1 = 1 then
          if (0 : Int) ≤ f (0 + Int.toNat (j : Int)) ∧ f (0 + Int.toNat (j : Int)) < (n : Int) then
           if 0 + Int.toNat (f (0 + Int.toNat (j : Int))) < n ∧ 1 = 1 then
            if (dp (0 + Int.toNat (f (0 + Int.toNat (j : Int)))) != d) = true then
             some (Ans.l Ex.ret { fr := [V.junk, V.junk, bo false] ++ jk 119, H := hp [], nx := 0, rt := 0, me := 47 })
            else
             if (0 : Int) ≤ (j : Int) ∧ (j : Int) < (l : Int) then
              if 0 + Int.toNat (j : Int) < l ∧ 1 = 1 then
               if (0 : Int) ≤ f (0 + Int.toNat (j : Int)) ∧ f (0 + Int.toNat (j : Int)) < (n : Int) then
                if 0 + Int.toNat (f (0 + Int.toNat (j : Int))) < n ∧ 1 = 1 then
                 lo 4 873 (bodyOf E2 47 4) ({ fr := [V.ro 2 n (ins op arg), V.junk, V.junk, V.sl 0 1 0 n, V.junk, i64 (i : Int), i64 d, V.junk, V.sl 1 1 0 l, i64 (w ((j : Int) + (1 : Int)))] ++ jk 112, H := hp [some (Chunk.row 3 1 n (putF true (0 + Int.toNat (f (0 + Int.toNat (j : Int)))) 0 [i64 d] (r1 dp))), some (Chunk.row 3 1 l (r1 f))], nx := 2, rt := 0, me := 47 }) (KC2 41 4)
                else
                 none
               else
                none
              else
               none
             else
              none
           else
            none
          else
           none
         else
          none
        else
         none
       else
        if (0 : Int) ≤ (j : Int) ∧ (j : Int) < (l : Int) then
         if 0 + Int.toNat (j : Int) < l ∧ 1 = 1 then
          if (0 : Int) ≤ f (0 + Int.toNat (j : Int)) ∧ f (0 + Int.toNat (j : Int)) < (n : Int) then
           if 0 + Int.toNat (f (0 + Int.toNat (j : Int))) < n ∧ 1 = 1 then
            lo 4 873 (bodyOf E2 47 4) ({ fr := [V.ro 2 n (ins op arg), V.junk, V.junk, V.sl 0 1 0 n, V.junk, i64 (i : Int), i64 d, V.junk, V.sl 1 1 0 l, i64 (w ((j : Int) + (1 : Int)))] ++ jk 112, H := hp [some (Chunk.row 3 1 n (putF true (0 + Int.toNat (f (0 + Int.toNat (j : Int)))) 0 [i64 d] (r1 dp))), some (Chunk.row 3 1 l (r1 f))], nx := 2, rt := 0, me := 47 }) (KC2 41 4)
           else
            none
          else
           none
         else
          none
        else
         none
      else
       none
     else
      none
    else
     none
   else
    none
  else
   some (Ans.l (Ex.exit 4) { fr := [V.ro 2 n (ins op arg), V.junk, V.junk, V.sl 0 1 0 n, V.junk, i64 (i : Int)] ++ jk 116, H := hp [some (Chunk.row 3 1 n (r1 dp))], nx := 1, rt := 0, me := 47 }) := by kernel_rfl

theorem r80n (n : Nat) (op arg : Nat → Int) (i : Nat) (dp : Nat → Int) (d : Int) (lo : LoopT) : loopK E2 C80 lo 4 873 (bodyOf E2 47 4) (S80n n op arg i dp d) (KC2 41 4) =
  some (Ans.l (Ex.exit 4) { fr := [V.ro 2 n (ins op arg), V.junk, V.junk, V.sl 0 1 0 n, V.junk, i64 (i : Int)] ++ jk 116, H := hp [some (Chunk.row 3 1 n (r1 dp))], nx := 1, rt := 0, me := 47 }) := by kernel_rfl

theorem r80c (n : Nat) (op arg : Nat → Int) (k : Nat) (dp : Nat → Int) (lo : LoopT) : loopK E2 C80 lo 0 25 (bodyOf E2 47 0) (S80a n op arg k dp) (KC2 9 4) =
  if decide ((k : Int) < (n : Int)) = true then
   if (0 : Int) ≤ (k : Int) ∧ (k : Int) < (n : Int) then
    if 0 + Int.toNat (k : Int) < n ∧ 1 = 1 then
     lo 0 25 (bodyOf E2 47 0) ({ fr := [V.ro 2 n (ins op arg), V.junk, V.junk, V.sl 0 1 0 n, i64 (w ((k : Int) + (1 : Int)))] ++ jk 117, H := hp [some (Chunk.row 3 1 n (putF true (0 + Int.toNat (k : Int)) 0 [i64 (-1)] (r1 dp)))], nx := 1, rt := 0, me := 47 }) (KC2 9 4)
    else
     none
   else
    none
  else
   some (Ans.l (Ex.exit 0) { fr := [V.ro 2 n (ins op arg), V.junk, V.junk, V.sl 0 1 0 n] ++ jk 118, H := hp [some (Chunk.row 3 1 n (r1 dp))], nx := 1, rt := 0, me := 47 }) := by kernel_rfl

theorem r80b (n : Nat) (op arg : Nat → Int) (i : Nat) (dp dpN : Nat → Int) (S1 S2 : St) (P P2 : Prop) : loopK E2 C80 (ltab2 [⟨4, bodyOf E2 47 4, S1, P, .exit 4, T80i n op arg i dpN, .ret, T80r⟩, ⟨2, bodyOf E2 47 2, S2, P2, .exit 2, T80e, .ret, T80r⟩]) 2 41 (bodyOf E2 47 2) (S80b n op arg i dp) (KC2 0 4) =
  if decide ((i : Int) < (n : Int)) = true then
   if (0 : Int) ≤ (i : Int) ∧ (i : Int) < (n : Int) then
    if (0 : Int) ≤ (i : Int) ∧ (i : Int) < (n : Int) then
     if 0 + Int.toNat (i : Int) < n ∧ 1 = 1 then
      cl (QLeft ([i64 (op (Int.toNat (i : Int))), i64 (dp (0 + Int.toNat (i : Int)))]) ∧ ([] : List (Option Chunk)) = []) (
       if (0 : Int) ≤ (i : Int) ∧ (i : Int) < (n : Int) then
        if 0 + Int.toNat (i : Int) < n ∧ 1 = 1 then
         if decide (dp (0 + Int.toNat (i : Int)) < (0 : Int)) = true then
          some (Ans.l Ex.ret { fr := [V.junk, V.junk, bo false] ++ jk 119, H := hp [], nx := 0, rt := 0, me := 47 })
         else
          if (!leftD (op (Int.toNat (i : Int))) (dp (0 + Int.toNat (i : Int)))) = true then
           some (Ans.l Ex.ret { fr := [V.junk, V.junk, bo false] ++ jk 119, H := hp [], nx := 0, rt := 0, me := 47 })
          else
           if (0 : Int) ≤ (i : Int) ∧ (i : Int) < (n : Int) then
            if (op (Int.toNat (i : Int)) != (14 : Int)) = true then
             if decide (w ((i : Int) + (1 : Int)) < (n : Int)) = true then
              if (0 : Int) ≤ (i : Int) ∧ (i : Int) < (n : Int) then
               if (op (Int.toNat (i : Int)) == (14 : Int)) = true then
                if (0 : Int) ≤ (i : Int) ∧ (i : Int) < (n : Int) then
                 cl ((bodyOf E2 47 4) = (bodyOf E2 47 4) ∧ LeSt ({ fr := [V.ro 2 n (ins op arg), V.junk, V.junk, V.sl 0 1 0 n, V.junk, i64 (i : Int), i64 (Cv.leftV (op (Int.toNat (i : Int))) (dp (0 + Int.toNat (i : Int)))), V.junk, V.sl 1 1 0 2, i64 0] ++ jk 112, H := hp [some (Chunk.row 3 1 n (r1 dp)), some (Chunk.row 3 1 2 (joinF 1 (fun (j : Nat) => List.getD [[i64 (w ((i : Int) + (1 : Int)))]] (0 + j) []) fun (j : Nat) => List.getD [[i64 (arg (Int.toNat (i : Int)))]] (0 + j) []))], nx := 2, rt := 0, me := 47 }) (S1)) (
                  cl (P) (
                   cl ((bodyOf E2 47 2) = (bodyOf E2 47 2) ∧ LeSt ({ fr := [V.ro 2 n (ins op arg), V.junk, V.junk, V.sl 0 1 0 n, V.junk, i64 (w ((i : Int) + (1 : Int)))] ++ jk 116, H := hp [some (Chunk.row 3 1 n (r1 dpN))], nx := 1, rt := 0, me := 47 }) (S2)) (
                    cl (P2) (
                     some (Ans.l (Ex.exit 2) { fr := [V.junk] ++ jk 121, H := hp [], nx := 0, rt := 0, me := 47 })) (
                     some (Ans.l Ex.ret { fr := [V.junk, V.junk, bo false] ++ jk 119, H := hp [], nx := 0, rt := 0, me := 47 }))) (
                    none)) (
                   some (Ans.l Ex.ret { fr := [V.junk, V.junk, bo false] ++ jk 119, H := hp [], nx := 0, rt := 0, me := 47 }))) (
                  none)
                else
                 none
               else
                if (0 : Int) ≤ (i : Int) ∧ (i : Int) < (n : Int) then
                 if (op (Int.toNat (i : Int)) == (15 : Int)) = true then
                  if (0 : Int) ≤ (i : Int) ∧ (i : Int) < (n : Int) then
                   cl ((bodyOf E2 47 4) = (bodyOf E2 47 4) ∧ LeSt ({ fr := [V.ro 2 n (ins op arg), V.junk, V.junk, V.sl 0 1 0 n, V.junk, i64 (i : Int), i64 (Cv.leftV (op (Int.toNat (i : Int))) (dp (0 + Int.toNat (i : Int)))), V.junk, V.sl 1 1 0 2, i64 0] ++ jk 112, H := hp [some (Chunk.row 3 1 n (r1 dp)), some (Chunk.row 3 1 2 (joinF 1 (fun (j : Nat) => List.getD [[i64 (w ((i : Int) + (1 : Int)))]] (0 + j) []) fun (j : Nat) => List.getD [[i64 (arg (Int.toNat (i : Int)))]] (0 + j) []))], nx := 2, rt := 0, me := 47 }) (S1)) (
                    cl (P) (
                     cl ((bodyOf E2 47 2) = (bodyOf E2 47 2) ∧ LeSt ({ fr := [V.ro 2 n (ins op arg), V.junk, V.junk, V.sl 0 1 0 n, V.junk, i64 (w ((i : Int) + (1 : Int)))] ++ jk 116, H := hp [some (Chunk.row 3 1 n (r1 dpN))], nx := 1, rt := 0, me := 47 }) (S2)) (
                      cl (P2) (
                       some (Ans.l (Ex.exit 2) { fr := [V.junk] ++ jk 121, H := hp [], nx := 0, rt := 0, me := 47 })) (
                       some (Ans.l Ex.ret { fr := [V.junk, V.junk, bo false] ++ jk 119, H := hp [], nx := 0, rt := 0, me := 47 }))) (
                      none)) (
                     some (Ans.l Ex.ret { fr := [V.junk, V.junk, bo false] ++ jk 119, H := hp [], nx := 0, rt := 0, me := 47 }))) (
                    none)
                  else
                   none
                 else
                  cl ((bodyOf E2 47 4) = (bodyOf E2 47 4) ∧ LeSt ({ fr := [V.ro 2 n (ins op arg), V.junk, V.junk, V.sl 0 1 0 n, V.junk, i64 (i : Int), i64 (Cv.leftV (op (Int.toNat (i : Int))) (dp (0 + Int.toNat (i : Int)))), V.junk, V.sl 1 1 0 1, i64 0] ++ jk 112, H := hp [some (Chunk.row 3 1 n (r1 dp)), some (Chunk.row 3 1 1 fun (j : Nat) => List.getD [[i64 (w ((i : Int) + (1 : Int)))]] (0 + j) [])], nx := 2, rt := 0, me := 47 }) (S1)) (
                   cl (P) (
                    cl ((bodyOf E2 47 2) = (bodyOf E2 47 2) ∧ LeSt ({ fr := [V.ro 2 n (ins op arg), V.junk, V.junk, V.sl 0 1 0 n, V.junk, i64 (w ((i : Int) + (1 : Int)))] ++ jk 116, H := hp [some (Chunk.row 3 1 n (r1 dpN))], nx := 1, rt := 0, me := 47 }) (S2)) (
                     cl (P2) (
                      some (Ans.l (Ex.exit 2) { fr := [V.junk] ++ jk 121, H := hp [], nx := 0, rt := 0, me := 47 })) (
                      some (Ans.l Ex.ret { fr := [V.junk, V.junk, bo false] ++ jk 119, H := hp [], nx := 0, rt := 0, me := 47 }))) (
                     none)) (
                    some (Ans.l Ex.ret { fr := [V.junk, V.junk, bo false] ++ jk 119, H := hp [], nx := 0, rt := 0, me := 47 }))) (
                   none)
                else
                 none
              else
               none
             else
              if (0 : Int) ≤ (i : Int) ∧ (i : Int) < (n : Int) then
               if (op (Int.toNat (i : Int)) == (14 : Int)) = true then
                if (0 : Int) ≤ (i : Int) ∧ (i : Int) < (n : Int) then
                 cl ((bodyOf E2 47 4) = (bodyOf E2 47 4) ∧ LeSt ({ fr := [V.ro 2 n (ins op arg), V.junk, V.junk, V.sl 0 1 0 n, V.junk, i64 (i : Int), i64 (Cv.leftV (op (Int.toNat (i : Int))) (dp (0 + Int.toNat (i : Int)))), V.junk, V.sl 1 1 0 1, i64 0] ++ jk 112, H := hp [some (Chunk.row 3 1 n (r1 dp)), some (Chunk.row 3 1 1 fun (j : Nat) => List.getD [[i64 (arg (Int.toNat (i : Int)))]] (0 + j) [])], nx := 2, rt := 0, me := 47 }) (S1)) (
                  cl (P) (
                   cl ((bodyOf E2 47 2) = (bodyOf E2 47 2) ∧ LeSt ({ fr := [V.ro 2 n (ins op arg), V.junk, V.junk, V.sl 0 1 0 n, V.junk, i64 (w ((i : Int) + (1 : Int)))] ++ jk 116, H := hp [some (Chunk.row 3 1 n (r1 dpN))], nx := 1, rt := 0, me := 47 }) (S2)) (
                    cl (P2) (
                     some (Ans.l (Ex.exit 2) { fr := [V.junk] ++ jk 121, H := hp [], nx := 0, rt := 0, me := 47 })) (
                     some (Ans.l Ex.ret { fr := [V.junk, V.junk, bo false] ++ jk 119, H := hp [], nx := 0, rt := 0, me := 47 }))) (
                    none)) (
                   some (Ans.l Ex.ret { fr := [V.junk, V.junk, bo false] ++ jk 119, H := hp [], nx := 0, rt := 0, me := 47 }))) (
                  none)
                else
                 none
               else
                if (0 : Int) ≤ (i : Int) ∧ (i : Int) < (n : Int) then
                 if (op (Int.toNat (i : Int)) == (15 : Int)) = true then
                  if (0 : Int) ≤ (i : Int) ∧ (i : Int) < (n : Int) then
                   cl ((bodyOf E2 47 4) = (bodyOf E2 47 4) ∧ LeSt ({ fr := [V.ro 2 n (ins op arg), V.junk, V.junk, V.sl 0 1 0 n, V.junk, i64 (i : Int), i64 (Cv.leftV (op (Int.toNat (i : Int))) (dp (0 + Int.toNat (i : Int)))), V.junk, V.sl 1 1 0 1, i64 0] ++ jk 112, H := hp [some (Chunk.row 3 1 n (r1 dp)), some (Chunk.row 3 1 1 fun (j : Nat) => List.getD [[i64 (arg (Int.toNat (i : Int)))]] (0 + j) [])], nx := 2, rt := 0, me := 47 }) (S1)) (
                    cl (P) (
                     cl ((bodyOf E2 47 2) = (bodyOf E2 47 2) ∧ LeSt ({ fr := [V.ro 2 n (ins op arg), V.junk, V.junk, V.sl 0 1 0 n, V.junk, i64 (w ((i : Int) + (1 : Int)))] ++ jk 116, H := hp [some (Chunk.row 3 1 n (r1 dpN))], nx := 1, rt := 0, me := 47 }) (S2)) (
                      cl (P2) (
                       some (Ans.l (Ex.exit 2) { fr := [V.junk] ++ jk 121, H := hp [], nx := 0, rt := 0, me := 47 })) (
                       some (Ans.l Ex.ret { fr := [V.junk, V.junk, bo false] ++ jk 119, H := hp [], nx := 0, rt := 0, me := 47 }))) (
                      none)) (
                     some (Ans.l Ex.ret { fr := [V.junk, V.junk, bo false] ++ jk 119, H := hp [], nx := 0, rt := 0, me := 47 }))) (
                    none)
                  else
                   none
                 else
                  cl ((bodyOf E2 47 4) = (bodyOf E2 47 4) ∧ LeSt ({ fr := [V.ro 2 n (ins op arg), V.junk, V.junk, V.sl 0 1 0 n, V.junk, i64 (i : Int), i64 (Cv.leftV (op (Int.toNat (i : Int))) (dp (0 + Int.toNat (i : Int)))), V.junk, V.sc (Value.slice none 0 0), i64 0] ++ jk 112, H := hp [some (Chunk.row 3 1 n (r1 dp))], nx := 1, rt := 0, me := 47 }) (S1)) (
                   cl (P) (
                    cl ((bodyOf E2 47 2) = (bodyOf E2 47 2) ∧ LeSt ({ fr := [V.ro 2 n (ins op arg), V.junk, V.junk, V.sl 0 1 0 n, V.junk, i64 (w ((i : Int) + (1 : Int)))] ++ jk 116, H := hp [some (Chunk.row 3 1 n (r1 dpN))], nx := 1, rt := 0, me := 47 }) (S2)) (
                     cl (P2) (
                      some (Ans.l (Ex.exit 2) { fr := [V.junk] ++ jk 121, H := hp [], nx := 0, rt := 0, me := 47 })) (
                      some (Ans.l Ex.ret { fr := [V.junk, V.junk, bo false] ++ jk 119, H := hp [], nx := 0, rt := 0, me := 47 }))) (
                     none)) (
                    some (Ans.l Ex.ret { fr := [V.junk, V.junk, bo false] ++ jk 119, H := hp [], nx := 0, rt := 0, me := 47 }))) (
                   none)
                else
                 none
              else
               none
            else
             if (0 : Int) ≤ (i : Int) ∧ (i : Int) < (n : Int) then
              if (op (Int.toNat (i : Int)) == (14 : Int)) = true then
               if (0 : Int) ≤ (i : Int) ∧ (i : Int) < (n : Int) then
                cl ((bodyOf E2 47 4) = (bodyOf E2 47 4) ∧ LeSt ({ fr := [V.ro 2 n (ins op arg), V.junk, V.junk, V.sl 0 1 0 n, V.junk, i64 (i : Int), i64 (Cv.leftV (op (Int.toNat (i : Int))) (dp (0 + Int.toNat (i : Int)))), V.junk, V.sl 1 1 0 1, i64 0] ++ jk 112, H := hp [some (Chunk.row 3 1 n (r1 dp)), some (Chunk.row 3 1 1 fun (j : Nat) => List.getD [[i64 (arg (Int.toNat (i : Int)))]] (0 + j) [])], nx := 2, rt := 0, me := 47 }) (S1)) (
                 cl (P) (
                  cl ((bodyOf E2 47 2) = (bodyOf E2 47 2) ∧ LeSt ({ fr := [V.ro 2 n (ins op arg), V.junk, V.junk, V.sl 0 1 0 n, V.junk, i64 (w ((i : Int) + (1 : Int)))] ++ jk 116, H := hp [some (Chunk.row 3 1 n (r1 dpN))], nx := 1, rt := 0, me := 47 }) (S2)) (
                   cl (P2) (
                    some (Ans.l (Ex.exit 2) { fr := [V.junk] ++ jk 121, H := hp [], nx := 0, rt := 0, me := 47 })) (
                    some (Ans.l Ex.ret { fr := [V.junk, V.junk, bo false] ++ jk 119, H := hp [], nx := 0, rt := 0, me := 47 }))) (
                   none)) (
                  some (Ans.l Ex.ret { fr := [V.junk, V.junk, bo false] ++ jk 119, H := hp [], nx := 0, rt := 0, me := 47 }))) (
                 none)
               else
                none
              else
               if (0 : Int) ≤ (i : Int) ∧ (i : Int) < (n : Int) then
                if (op (Int.toNat (i : Int)) == (15 : Int)) = true then
                 if (0 : Int) ≤ (i : Int) ∧ (i : Int) < (n : Int) then
                  cl ((bodyOf E2 47 4) = (bodyOf E2 47 4) ∧ LeSt ({ fr := [V.ro 2 n (ins op arg), V.junk, V.junk, V.sl 0 1 0 n, V.junk, i64 (i : Int), i64 (Cv.leftV (op (Int.toNat (i : Int))) (dp (0 + Int.toNat (i : Int)))), V.junk, V.sl 1 1 0 1, i64 0] ++ jk 112, H := hp [some (Chunk.row 3 1 n (r1 dp)), some (Chunk.row 3 1 1 fun (j : Nat) => List.getD [[i64 (arg (Int.toNat (i : Int)))]] (0 + j) [])], nx := 2, rt := 0, me := 47 }) (S1)) (
                   cl (P) (
                    cl ((bodyOf E2 47 2) = (bodyOf E2 47 2) ∧ LeSt ({ fr := [V.ro 2 n (ins op arg), V.junk, V.junk, V.sl 0 1 0 n, V.junk, i64 (w ((i : Int) + (1 : Int)))] ++ jk 116, H := hp [some (Chunk.row 3 1 n (r1 dpN))], nx := 1, rt := 0, me := 47 }) (S2)) (
                     cl (P2) (
                      some (Ans.l (Ex.exit 2) { fr := [V.junk] ++ jk 121, H := hp [], nx := 0, rt := 0, me := 47 })) (
                      some (Ans.l Ex.ret { fr := [V.junk, V.junk, bo false] ++ jk 119, H := hp [], nx := 0, rt := 0, me := 47 }))) (
                     none)) (
                    some (Ans.l Ex.ret { fr := [V.junk, V.junk, bo false] ++ jk 119, H := hp [], nx := 0, rt := 0, me := 47 }))) (
                   none)
                 else
                  none
                else
                 cl ((bodyOf E2 47 4) = (bodyOf E2 47 4) ∧ LeSt ({ fr := [V.ro 2 n (ins op arg), V.junk, V.junk, V.sl 0 1 0 n, V.junk, i64 (i : Int), i64 (Cv.leftV (op (Int.toNat (i : Int))) (dp (0 + Int.toNat (i : Int)))), V.junk, V.sc (Value.slice none 0 0), i64 0] ++ jk 112, H := hp [some (Chunk.row 3 1 n (r1 dp))], nx := 1, rt := 0, me := 47 }) (S1)) (
                  cl (P) (
                   cl ((bodyOf E2 47 2) = (bodyOf E2 47 2) ∧ LeSt ({ fr := [V.ro 2 n (ins op arg), V.junk, V.junk, V.sl 0 1 0 n, V.junk, i64 (w ((i : Int) + (1 : Int)))] ++ jk 116, H := hp [some (Chunk.row 3 1 n (r1 dpN))], nx := 1, rt := 0, me := 47 }) (S2)) (
                    cl (P2) (
                     some (Ans.l (Ex.exit 2) { fr := [V.junk] ++ jk 121, H := hp [], nx := 0, rt := 0, me := 47 })) (
                     some (Ans.l Ex.ret { fr := [V.junk, V.junk, bo false] ++ jk 119, H := hp [], nx := 0, rt := 0, me := 47 }))) (
                    none)) (
                   some (Ans.l Ex.ret { fr := [V.junk, V.junk, bo false] ++ jk 119, H := hp [], nx := 0, rt := 0, me := 47 }))) (
                  none)
               else
                none
             else
              none
           else
            none
        else
         none
       else
        none) (
       none)
     else
      none
    else
     none
   else
    none
  else
   some (Ans.l (Ex.exit 2) { fr := [V.junk] ++ jk 121, H := hp [], nx := 0, rt := 0, me := 47 }) := by kernel_rfl

theorem r80z_e (n : Nat) (op arg : Nat → Int) (i : Nat) (dp : Nat → Int) : loopK E2 C80 (ltab2 []) 2 41 (bodyOf E2 47 2) (S80b n op arg i dp) (KC2 0 4) =
  if decide ((i : Int) < (n : Int)) = true then
   if (0 : Int) ≤ (i : Int) ∧ (i : Int) < (n : Int) then
    if (0 : Int) ≤ (i : Int) ∧ (i : Int) < (n : Int) then
     if 0 + Int.toNat (i : Int) < n ∧ 1 = 1 then
      cl (QLeft ([i64 (op (Int.toNat (i : Int))), i64 (dp (0 + Int.toNat (i : Int)))]) ∧ ([] : List (Option Chunk)) = []) (
       if (0 : Int) ≤ (i : Int) ∧ (i : Int) < (n : Int) then
        if 0 + Int.toNat (i : Int) < n ∧ 1 = 1 then
         if decide (dp (0 + Int.toNat (i : Int)) < (0 : Int)) = true then
          some (Ans.l Ex.ret { fr := [V.junk, V.junk, bo false] ++ jk 119, H := hp [], nx := 0, rt := 0, me := 47 })
         else
          if (!leftD (op (Int.toNat (i : Int))) (dp (0 + Int.toNat (i : Int)))) = true then
           some (Ans.l Ex.ret { fr := [V.junk, V.junk, bo false] ++ jk 119, H := hp [], nx := 0, rt := 0, me := 47 })
          else
           if (0 : Int) ≤ (i : Int) ∧ (i : Int) < (n : Int) then
            if (op (Int.toNat (i : Int)) != (14 : Int)) = true then
             if decide (w ((i : Int) + (1 : Int)) < (n : Int)) = true then
              if (0 : Int) ≤ (i : Int) ∧ (i : Int) < (n : Int) then
               if (op (Int.toNat (i : Int)) == (14 : Int)) = true then
                if (0 : Int) ≤ (i : Int) ∧ (i : Int) < (n : Int) then
                 none
                else
                 none
               else
                if (0 : Int) ≤ (i : Int) ∧ (i : Int) < (n : Int) then
                 if (op (Int.toNat (i : Int)) == (15 : Int)) = true then
                  if (0 : Int) ≤ (i : Int) ∧ (i : Int) < (n : Int) then
                   none
                  else
                   none
                 else
                  none
                else
                 none
              else
               none
             else
              if (0 : Int) ≤ (i : Int) ∧ (i : Int) < (n : Int) then
               if (op (Int.toNat (i : Int)) == (14 : Int)) = true then
                if (0 : Int) ≤ (i : Int) ∧ (i : Int) < (n : Int) then
                 none
                else
                 none
               else
                if (0 : Int) ≤ (i : Int) ∧ (i : Int) < (n : Int) then
                 if (op (Int.toNat (i : Int)) == (15 : Int)) = true then
                  if (0 : Int) ≤ (i : Int) ∧ (i : Int) < (n : Int) then
                   none
                  else
                   none
                 else
                  none
                else
                 none
              else
               none
            else
             if (0 : Int) ≤ (i : Int) ∧ (i : Int) < (n : Int) then
              if (op (Int.toNat (i : Int)) == (14 : Int)) = true then
               if (0 : Int) ≤ (i : Int) ∧ (i : Int) < (n : Int) then
                none
               else
                none
              else
               if (0 : Int) ≤ (i : Int) ∧ (i : Int) < (n : Int) then
                if (op (Int.toNat (i : Int)) == (15 : Int)) = true then
                 if (0 : Int) ≤ (i : Int) ∧ (i : Int) < (n : Int) then
                  none
                 else
                  none
                else
                 none
               else
                none
             else
              none
           else
            none
        else
         none
       else
        none) (
       none)
     else
      none
    else
     none
   else
    none
  else
   some (Ans.l (Ex.exit 2) { fr := [V.junk] ++ jk 121, H := hp [], nx := 0, rt := 0, me := 47 }) := by kernel_rfl

theorem f80 (n : Nat) (op arg dp : Nat → Int) (S1 S2 : St) (P P2 : Prop) : callK E2 C80 (ltab2 [⟨0, bodyOf E2 47 0, S1, P, .exit 0, T80a n op arg dp, .ret, T80r⟩, ⟨2, bodyOf E2 47 2, S2, P2, .exit 2, T80e, .ret, T80r⟩]) 47 [cd n op arg] [] K =
  if (n : Int) = (n : Int) ∧ (0 : Int) ≤ (n : Int) ∧ 0 < 1 ∧ 1 = 1 ∧ Int.toNat (n : Int) * 8 ≤ 281474976710656 ∧ Int.toNat (n : Int) ≤ maxLen ∧ (allOk 1 1 fun (x : Nat) => List.map V.sc (Array.toList (Value.cells (Value.int IntKind.i64 0)))) = true then
   cl ((bodyOf E2 47 0) = (bodyOf E2 47 0) ∧ LeSt ({ fr := [V.ro 2 n (ins op arg), V.junk, V.junk, V.sl 0 1 0 (Int.toNat (n : Int)), i64 1] ++ jk 117, H := hp [some (Chunk.row 3 1 (Int.toNat (n : Int)) fun (x : Nat) => List.map V.sc (Array.toList (Value.cells (Value.int IntKind.i64 0))))], nx := 1, rt := 0, me := 47 }) (S1)) (
    cl (P) (
     cl ((bodyOf E2 47 2) = (bodyOf E2 47 2) ∧ LeSt ({ fr := [V.ro 2 n (ins op arg), V.junk, V.junk, V.sl 0 1 0 n, V.junk, i64 0] ++ jk 116, H := hp [some (Chunk.row 3 1 n (r1 dp))], nx := 1, rt := 0, me := 47 }) (S2)) (
      cl (P2) (
       some (Ans.c (CRes.ret (bo true) []))) (
       some (Ans.c (CRes.ret (bo false) [])))) (
      none)) (
     some (Ans.c (CRes.ret (bo false) [])))) (
    none)
  else
   none := by kernel_rfl

theorem k80i (n : Nat) (op arg : Nat → Int) (i : Nat) (dp : Nat → Int) : KC2 41 4 (.exit 4) (T80i n op arg i dp) = some (.l (.exit 4) (T80i n op arg i dp)) := by kernel_rfl
theorem k80r : KC2 41 4 .ret T80r = some (.l .ret T80r) := by kernel_rfl
theorem k80a (n : Nat) (op arg : Nat → Int) (dp : Nat → Int) : KC2 9 4 (.exit 0) (T80a n op arg dp) = some (.l (.exit 0) (T80a n op arg dp)) := by kernel_rfl
theorem k80ar : KC2 9 4 .ret T80r = some (.l .ret T80r) := by kernel_rfl
theorem in_end {n i l : Nat} {op arg dp f : Nat → Int} {d : Int} : Ends (bodyOf E2 47 4) True (S80c n op arg i dp d l f l) (.exit 4) (T80i n op arg i dp) .ret T80r :=
  Ends.fin (m := 41) (r := 4) sC80 trivial fun lo => (r80i _ _ _ _ _ _ _ _ _ _).trans (by rw [if_neg (by simp)]; rfl)
theorem in_nil {n i : Nat} {op arg dp : Nat → Int} {d : Int} : Ends (bodyOf E2 47 4) True (S80n n op arg i dp d) (.exit 4) (T80i n op arg i dp) .ret T80r :=
  Ends.fin (m := 41) (r := 4) sC80 trivial fun lo => (r80n _ _ _ _ _ _ _).trans rfl
set_option maxRecDepth 100000 in
theorem in_step {n i l j : Nat} {op arg dp f dpN : Nat → Int} {d : Int} {P : Prop} (hl : l ≤ 2) (hj : j < l) (h0 : 0 ≤ f j) (hn : f j < n) (h : Ends (bodyOf E2 47 4) P (S80c n op arg i (Cv.upd dp (f j).toNat d) d l f (j + 1)) (.exit 4) (T80i n op arg i dpN) .ret T80r) : Ends (bodyOf E2 47 4) (¬ Cv.bad dp (f j).toNat d ∧ P) (S80c n op arg i dp d l f j) (.exit 4) (T80i n op arg i dpN) .ret T80r := by
  have hid : decide ((j : Int) < (l : Int)) = true := decide_eq_true (by omega)
  have hbb : (0 : Int) ≤ (j : Int) ∧ (j : Int) < (l : Int) := by omega
  have hcc : j < l ∧ True := ⟨hj, trivial⟩
  have hff : (0 : Int) ≤ f j ∧ f j < (n : Int) := ⟨h0, hn⟩
  have hgg : (f j).toNat < n ∧ True := ⟨by omega, trivial⟩
  have ew : w ((j : Int) + 1) = ((j + 1 : Nat) : Int) := by rw [w_in (by unfold inR; omega)]; omega
  have tree := fun lo => r80i n op arg i dp d l f j lo
  simp only [Int.toNat_natCast, Nat.zero_add, ew, if_pos hid, if_pos hbb, eq_self, if_pos hcc, if_pos hff, if_pos hgg] at tree
  have hle : LeSt ({ fr := [V.ro 2 n (ins op arg), V.junk, V.junk, V.sl 0 1 0 n, V.junk, i64 (i : Int), i64 d, V.junk, V.sl 1 1 0 l, i64 ((j + 1 : Nat) : Int)] ++ jk 112, H := hp [some (Chunk.row 3 1 n (putF true (f j).toNat 0 [i64 d] (r1 dp))), some (Chunk.row 3 1 l (r1 f))], nx := 2, rt := 0, me := 47 }) (S80c n op arg i (Cv.upd dp (f j).toNat d) d l f (j + 1)) :=
    LeSt.mk' (LeL.refl _) ⟨ChLe.row fun j' _ => row_put1 _ _ _ _, ChLe.refl _, trivial⟩
  by_cases hg : dp (f j).toNat ≥ 0
  · by_cases hd : dp (f j).toNat = d
    · have hb : ¬ Cv.bad dp (f j).toNat d := fun h => h.2 hd
      refine (Ends.next sC80 h (k80i _ _ _ _ _) k80r hle fun lo => (tree lo).trans ?_).iff ⟨fun h => h.2, fun h => ⟨hb, h⟩⟩
      simp only [dT hg, neF hd, if_true, if_false, Bool.false_eq_true, reduceIte]
    · have hb : Cv.bad dp (f j).toNat d := ⟨hg, hd⟩
      refine Ends.ret sC80 (fun h => h.1 hb) fun lo => (tree lo).trans ?_
      simp only [dT hg, neT hd, if_true, if_false, Bool.false_eq_true, reduceIte]
      rfl
  · have hb : ¬ Cv.bad dp (f j).toNat d := fun h => hg h.1
    refine (Ends.next sC80 h (k80i _ _ _ _ _) k80r hle fun lo => (tree lo).trans ?_).iff ⟨fun h => h.2, fun h => ⟨hb, h⟩⟩
    simp only [dF hg, if_true, if_false, Bool.false_eq_true, reduceIte]
def dq (k : Nat) : Nat → Int := fun j => if j = 0 then 0 else if j < k then -1 else 0
theorem dq_next (k : Nat) (h : 1 ≤ k) : Cv.upd (dq k) k (-1) = dq (k + 1) := by
  funext j
  unfold Cv.upd dq
  by_cases h0 : j = 0
  · subst h0; rw [if_neg (by omega), if_pos rfl, if_pos rfl]
  · by_cases hk : j = k
    · rw [if_pos hk, if_neg h0, if_pos (by omega)]
    · rw [if_neg hk, if_neg h0, if_neg h0]
      by_cases h2 : j < k
      · rw [if_pos h2, if_pos (by omega)]
      · rw [if_neg h2, if_neg (by omega)]
set_option maxRecDepth 100000 in
theorem loop80a {n : Nat} {op arg : Nat → Int} (hn : n ≤ 300) : ∀ (r k : Nat), k + r = n → 1 ≤ k → Ends (bodyOf E2 47 0) True (S80a n op arg k (dq k)) (.exit 0) (T80a n op arg (dq n)) .ret T80r := by
  intro r
  induction r with
  | zero =>
    intro k hk h1
    have : k = n := by omega
    subst this
    exact Ends.fin (m := 9) (r := 4) sC80 trivial fun lo => (r80c _ _ _ _ _ _).trans (by rw [if_neg (by simp)]; rfl)
  | succ r ih =>
    intro k hk h1
    have hid : decide ((k : Int) < (n : Int)) = true := decide_eq_true (by omega)
    have hbb : (0 : Int) ≤ (k : Int) ∧ (k : Int) < (n : Int) := by omega
    have hcc : k < n ∧ True := ⟨by omega, trivial⟩
    have ew : w ((k : Int) + 1) = ((k + 1 : Nat) : Int) := by rw [w_in (by unfold inR; omega)]; omega
    have tree := fun lo => r80c n op arg k (dq k) lo
    simp only [Int.toNat_natCast, Nat.zero_add, ew, if_pos hid, if_pos hbb, eq_self, if_pos hcc] at tree
    have hle : LeSt ({ fr := [V.ro 2 n (ins op arg), V.junk, V.junk, V.sl 0 1 0 n, i64 ((k + 1 : Nat) : Int)] ++ jk 117, H := hp [some (Chunk.row 3 1 n (putF true k 0 [i64 (-1)] (r1 (dq k))))], nx := 1, rt := 0, me := 47 }) (S80a n op arg (k + 1) (dq (k + 1))) :=
      LeSt.mk' (LeL.refl _) ⟨ChLe.row fun j _ => by rw [row_put1, dq_next k h1], trivial⟩
    exact Ends.next sC80 (ih (k + 1) (by omega) (by omega)) (k80a _ _ _ _) k80ar hle tree
theorem one_list (v : Int) : ∀ j, j < 1 → (fun (j : Nat) => List.getD [[i64 v]] j []) j = r1 (fun _ => v) j := by
  intro j hj
  have : j = 0 := by omega
  subst this
  rfl
def two (a b : Int) : Nat → Int := fun j => if j = 0 then a else b
theorem two_list (a b : Int) : ∀ j, j < 2 → joinF 1 (fun (j : Nat) => List.getD [[i64 a]] j []) (fun (j : Nat) => List.getD [[i64 b]] j []) j = r1 (two a b) j := by
  intro j hj
  have : j = 0 ∨ j = 1 := by omega
  rcases this with h | h <;> subst h <;> rfl
theorem round80 {n i : Nat} {op arg dp dpN : Nat → Int} {P P2 Q : Prop} {S1 : St} (h4 : Ends (bodyOf E2 47 4) P S1 (.exit 4) (T80i n op arg i dpN) .ret T80r) (h2 : Ends (bodyOf E2 47 2) P2 (S80b n op arg (i + 1) dpN) (.exit 2) T80e .ret T80r) (hQ : Q ↔ (P ∧ P2))
    (hn : loopK E2 C80 (ltab2 [⟨4, bodyOf E2 47 4, S1, P, .exit 4, T80i n op arg i dpN, .ret, T80r⟩, ⟨2, bodyOf E2 47 2, S80b n op arg (i + 1) dpN, P2, .exit 2, T80e, .ret, T80r⟩]) 2 41 (bodyOf E2 47 2) (S80b n op arg i dp) (KC2 0 4) = cl P (cl P2 (some (.l (.exit 2) T80e)) (some (.l .ret T80r))) (some (.l .ret T80r))) : Ends (bodyOf E2 47 2) Q (S80b n op arg i dp) (.exit 2) T80e .ret T80r := by
  have hs := ltab2_cons (x := ⟨4, bodyOf E2 47 4, S1, P, .exit 4, T80i n op arg i dpN, .ret, T80r⟩) h4 (ltab2_cons (x := ⟨2, bodyOf E2 47 2, S80b n op arg (i + 1) dpN, P2, .exit 2, T80e, .ret, T80r⟩) h2 ltab2_nil)
  refine ⟨fun q => SL.by2 sC80 hX2 hs (hn.trans ?_), fun q => SL.by2 sC80 hX2 hs (hn.trans ?_)⟩
  · rw [cl_pos (hQ.1 q).1, cl_pos (hQ.1 q).2]
  · by_cases hp : P
    · rw [cl_pos hp, cl_neg (fun h => q (hQ.2 ⟨hp, h⟩))]
    · rw [cl_neg hp]
theorem Ends.ret0 {C : CallT} (hC : SoundC E2 C) {lo : LoopT} {id live m r : Nat} {c : ACode} {P : Prop} {S : St} {e1 e2 : Ex} {T1 T2 : St} (hp : ¬ P) (hL : SoundL E2 lo) (hn : loopK E2 C lo id live c S (KC2 m r) = some (.l e2 T2)) : Ends c P S e1 T1 e2 T2 :=
  ⟨fun p => absurd p hp, fun _ => SL.by2 hC hX2 hL hn⟩
theorem le80 {n i : Nat} {op arg dp : Nat → Int} : LeSt ({ fr := [V.ro 2 n (ins op arg), V.junk, V.junk, V.sl 0 1 0 n, V.junk, i64 ((i + 1 : Nat) : Int)] ++ jk 116, H := hp [some (Chunk.row 3 1 n (r1 dp))], nx := 1, rt := 0, me := 47 }) (S80b n op arg (i + 1) dp) := LeSt.refl _
theorem le80n {n i : Nat} {op arg dp : Nat → Int} {d : Int} : LeSt ({ fr := [V.ro 2 n (ins op arg), V.junk, V.junk, V.sl 0 1 0 n, V.junk, i64 (i : Int), i64 d, V.junk, V.sc (Value.slice none 0 0), i64 0] ++ jk 112, H := hp [some (Chunk.row 3 1 n (r1 dp))], nx := 1, rt := 0, me := 47 }) (S80n n op arg i dp d) := LeSt.refl _
theorem le80one {n i : Nat} {op arg dp : Nat → Int} {d v : Int} : LeSt ({ fr := [V.ro 2 n (ins op arg), V.junk, V.junk, V.sl 0 1 0 n, V.junk, i64 (i : Int), i64 d, V.junk, V.sl 1 1 0 1, i64 0] ++ jk 112, H := hp [some (Chunk.row 3 1 n (r1 dp)), some (Chunk.row 3 1 1 fun (j : Nat) => List.getD [[i64 v]] j [])], nx := 2, rt := 0, me := 47 }) (S80c n op arg i dp d 1 (fun _ => v) 0) :=
  LeSt.mk' (LeL.refl _) ⟨ChLe.refl _, ChLe.row (one_list _), trivial⟩
theorem le80two {n i : Nat} {op arg dp : Nat → Int} {d a b : Int} : LeSt ({ fr := [V.ro 2 n (ins op arg), V.junk, V.junk, V.sl 0 1 0 n, V.junk, i64 (i : Int), i64 d, V.junk, V.sl 1 1 0 2, i64 0] ++ jk 112, H := hp [some (Chunk.row 3 1 n (r1 dp)), some (Chunk.row 3 1 2 (joinF 1 (fun (j : Nat) => List.getD [[i64 a]] j []) fun (j : Nat) => List.getD [[i64 b]] j []))], nx := 2, rt := 0, me := 47 }) (S80c n op arg i dp d 2 (two a b) 0) :=
  LeSt.mk' (LeL.refl _) ⟨ChLe.refl _, ChLe.row (two_list _ _), trivial⟩
theorem leftD_true (o d : Int) : leftD o d = true ↔ Cv.leftB o d := by unfold leftD; exact @decide_eq_true_iff _ (Classical.propDecidable _)
def sm16 (dp : Nat → Int) : Prop := ∀ j, -1 ≤ dp j ∧ dp j ≤ 16
theorem sm16.upd {dp : Nat → Int} (h : sm16 dp) {t : Nat} {d : Int} (h0 : 0 ≤ d) (h1 : d ≤ 16) : sm16 (Cv.upd dp t d) := by
  intro j
  unfold Cv.upd
  split
  · omega
  · exact h j
set_option maxRecDepth 100000 in
theorem loop80b {n : Nat} {op arg : Nat → Int} (vs : Int) (hn : n ≤ 300) (hok : ∀ i, i < n → Cv.okOp (op i)) (harg : ∀ i, i < n → Cv.jmp (op i) → 0 ≤ arg i ∧ arg i < n) : ∀ (r i : Nat) (dp : Nat → Int), i + r = n → sm16 dp → Ends (bodyOf E2 47 2) (Cv.depR (mkC vs n op arg) r i dp) (S80b n op arg i dp) (.exit 2) T80e .ret T80r := by
  intro r
  induction r with
  | zero =>
    intro i dp hi hs
    have : i = n := by omega
    subst this
    exact ⟨fun _ => SL.by2 (m := 0) (r := 4) sC80 hX2 ltab2_nil ((r80z_e _ _ _ _ _).trans (by rw [if_neg (by simp)]; rfl)), fun h => absurd trivial h⟩
  | succ r ih =>
    intro i dp hi hs
    have hi' : i < n := by omega
    have hsi := hs i
    have hid : decide ((i : Int) < (n : Int)) = true := decide_eq_true (by omega)
    have hbb : (0 : Int) ≤ (i : Int) ∧ (i : Int) < (n : Int) := by omega
    have hcc : i < n ∧ True := ⟨hi', trivial⟩
    have hq : QLeft [i64 (op i), i64 (dp i)] ∧ True := ⟨⟨_, _, rfl, hsi⟩, trivial⟩
    have ew : w ((i : Int) + 1) = ((i + 1 : Nat) : Int) := by rw [w_in (by unfold inR; omega)]; omega
    have tree := fun (dpN : Nat → Int) S1 S2 P P2 => r80b n op arg i dp dpN S1 S2 P P2
    simp only [Int.toNat_natCast, Nat.zero_add, ew, if_pos hid, if_pos hbb, eq_self, if_pos hcc, cl_pos hq, true_and] at tree
    have tree0 := r80z_e n op arg i dp
    simp only [Int.toNat_natCast, Nat.zero_add, ew, if_pos hid, if_pos hbb, eq_self, if_pos hcc, cl_pos hq, true_and] at tree0
    have bl := iff_of_eq (Cv.depR.eq_2 (mkC vs n op arg) i dp r)
    have hop : Cv.Cd.op (mkC vs n op arg) i = op i := rfl
    have har : Cv.Cd.arg (mkC vs n op arg) i = arg i := rfl
    have hnn : Cv.Cd.n (mkC vs n op arg) = n := rfl
    rw [hop, har, hnn] at bl
    by_cases hneg : dp i < 0
    · refine Ends.ret0 sC80 (fun h => by have := (bl.1 h).1.1; omega) ltab2_nil (tree0.trans ?_)
      simp only [dT hneg, if_true]
      rfl
    by_cases hl' : ¬ Cv.leftB (op i) (dp i)
    · have hlf : leftD (op i) (dp i) = false := by cases hb : leftD (op i) (dp i) with | false => rfl | true => exact absurd ((leftD_true _ _).1 hb) hl'
      refine Ends.ret0 sC80 (fun h => hl' (bl.1 h).1.2) ltab2_nil (tree0.trans ?_)
      simp only [dF hneg, hlf, Bool.not_false, if_true, if_false, Bool.false_eq_true, reduceIte]
      rfl
    have hl := Classical.not_not.1 hl'
    have hlt : leftD (op i) (dp i) = true := (leftD_true _ _).2 hl
    obtain ⟨v1, v2, v3⟩ := Cv.eff_val (hok i hi') (by omega) hsi.2 hl
    have hA : 0 ≤ dp i ∧ Cv.leftB (op i) (dp i) := ⟨by omega, hl⟩
    simp only [dF hneg, hlt, Bool.not_true, if_true, if_false, Bool.false_eq_true, reduceIte] at tree
    generalize Cv.leftV (op i) (dp i) = d at *
    by_cases h14 : op i = 14
    · have hj : Cv.jmp (op i) := .inl h14
      have ha := harg i hi' hj
      have hin : ¬ (op i ≠ 14 ∧ i + 1 < n) := fun h => h.1 h14
      simp only [hin, hj, if_true, if_false, true_implies, false_implies, true_and] at bl
      simp only [neF h14, eqT h14, if_true, if_false, Bool.false_eq_true, reduceIte] at tree
      refine round80 (in_step (j := 0) (l := 1) (f := fun _ => arg i) (d := d) (by omega) (by omega) ha.1 ha.2 in_end) (ih (i + 1) (Cv.upd dp (arg i).toNat d) (by omega) (hs.upd v2 v3)) (bl.trans ⟨fun h => ⟨⟨h.2.1, trivial⟩, h.2.2⟩, fun h => ⟨hA, h.1.1, h.2⟩⟩) ((tree _ _ _ _ _).trans ?_)
      rw [cl_pos le80one, cl_pos le80]
      rfl
    by_cases hin1 : i + 1 < n
    · have hin : (op i ≠ 14 ∧ i + 1 < n) = True := eq_true ⟨h14, hin1⟩
      have hlt1 : decide (((i + 1 : Nat) : Int) < (n : Int)) = true := decide_eq_true (by omega)
      by_cases h15 : op i = 15
      · have hj : Cv.jmp (op i) := .inr h15
        have ha := harg i hi' hj
        simp only [hin, hj, if_true, if_false, true_implies, false_implies, true_and, and_self] at bl
        simp only [neT h14, hlt1, eqF h14, eqT h15, if_true, if_false, Bool.false_eq_true, reduceIte] at tree
        refine round80 (in_step (j := 0) (l := 2) (f := two ((i + 1 : Nat) : Int) (arg i)) (d := d) (by omega) (by omega) (show (0 : Int) ≤ ((i + 1 : Nat) : Int) by omega) (show ((i + 1 : Nat) : Int) < n by omega) (in_step (j := 1) (l := 2) (f := two ((i + 1 : Nat) : Int) (arg i)) (d := d) (by omega) (by omega) ha.1 ha.2 in_end)) (ih (i + 1) (Cv.upd (Cv.upd dp (i + 1) d) (arg i).toNat d) (by omega) ((hs.upd v2 v3).upd v2 v3)) (bl.trans ⟨fun h => ⟨⟨h.2.1, h.2.2.1, trivial⟩, h.2.2.2⟩, fun h => ⟨hA, h.1.1, h.1.2.1, h.2⟩⟩) ((tree _ _ _ _ _).trans ?_)
        rw [cl_pos le80two, cl_pos le80]
        rfl
      · have hj : ¬ Cv.jmp (op i) := fun h => h.elim h14 h15
        simp only [hin, hj, if_true, if_false, true_implies, false_implies, true_and, and_self] at bl
        simp only [neT h14, hlt1, eqF h14, eqF h15, if_true, if_false, Bool.false_eq_true, reduceIte] at tree
        refine round80 (in_step (j := 0) (l := 1) (f := fun _ => ((i + 1 : Nat) : Int)) (d := d) (by omega) (by omega) (show (0 : Int) ≤ ((i + 1 : Nat) : Int) by omega) (show ((i + 1 : Nat) : Int) < n by omega) in_end) (ih (i + 1) (Cv.upd dp (i + 1) d) (by omega) (hs.upd v2 v3)) (bl.trans ⟨fun h => ⟨⟨h.2.1, trivial⟩, h.2.2⟩, fun h => ⟨hA, h.1.1, h.2⟩⟩) ((tree _ _ _ _ _).trans ?_)
        rw [cl_pos le80one, cl_pos le80]
        rfl
    · have hin : ¬ (op i ≠ 14 ∧ i + 1 < n) := fun h => hin1 h.2
      have hlt1 : decide (((i + 1 : Nat) : Int) < (n : Int)) = false := decide_eq_false (by omega)
      by_cases h15 : op i = 15
      · have hj : Cv.jmp (op i) := .inr h15
        have ha := harg i hi' hj
        simp only [hin, hj, if_true, if_false, true_implies, false_implies, true_and, and_self] at bl
        simp only [neT h14, hlt1, eqF h14, eqT h15, if_true, if_false, Bool.false_eq_true, reduceIte] at tree
        refine round80 (in_step (j := 0) (l := 1) (f := fun _ => arg i) (d := d) (by omega) (by omega) ha.1 ha.2 in_end) (ih (i + 1) (Cv.upd dp (arg i).toNat d) (by omega) (hs.upd v2 v3)) (bl.trans ⟨fun h => ⟨⟨h.2.1, trivial⟩, h.2.2⟩, fun h => ⟨hA, h.1.1, h.2⟩⟩) ((tree _ _ _ _ _).trans ?_)
        rw [cl_pos le80one, cl_pos le80]
        rfl
      · have hj : ¬ Cv.jmp (op i) := fun h => h.elim h14 h15
        simp only [hin, hj, if_true, if_false, true_implies, false_implies, true_and, and_self] at bl
        simp only [neT h14, hlt1, eqF h14, eqF h15, if_true, if_false, Bool.false_eq_true, reduceIte] at tree
        refine round80 (in_nil (d := d)) (ih (i + 1) dp (by omega) hs) (bl.trans ⟨fun h => ⟨trivial, h.2⟩, fun h => ⟨hA, h.2⟩⟩) ((tree _ _ _ _ _).trans ?_)
        rw [cl_pos le80n, cl_pos le80]
        rfl
open Classical in
noncomputable def depD (c : Cv.Cd) : Bool := decide (Cv.depR c c.n 0 Cv.dp0)
open Classical in
theorem depD_iff (c : Cv.Cd) : depD c = true ↔ Cv.depR c c.n 0 Cv.dp0 := by unfold depD; rw [decide_eq_true_eq]
set_option maxRecDepth 100000 in
theorem dep_sc {n : Nat} {op arg : Nat → Int} (vs : Int) (hn : n ≤ 300) (h1 : 1 ≤ n) (hok : ∀ i, i < n → Cv.okOp (op i)) (harg : ∀ i, i < n → Cv.jmp (op i) → 0 ≤ arg i ∧ arg i < n) : SC E2 47 [cd n op arg] [] (.ret (bo (depD (mkC vs n op arg))) []) := by
  have l1 := loop80a (op := op) (arg := arg) hn (n - 1) 1 (by omega) (Nat.le_refl _)
  have hs0 : sm16 Cv.dp0 := fun j => by unfold Cv.dp0; split <;> omega
  have l2 := loop80b vs hn hok harg n 0 Cv.dp0 (by omega) hs0
  have hc : (n : Int) = (n : Int) ∧ (0 : Int) ≤ (n : Int) ∧ 0 < 1 ∧ 1 = 1 ∧ Int.toNat (n : Int) * 8 ≤ 281474976710656 ∧ Int.toNat (n : Int) ≤ Go.maxLen ∧ (allOk 1 1 fun (x : Nat) => List.map V.sc (Array.toList (Value.cells (Value.int IntKind.i64 0)))) = true := by
    refine ⟨rfl, by omega, by decide, rfl, by rw [Int.toNat_natCast]; omega, by rw [Int.toNat_natCast]; unfold Go.maxLen; omega, by kernel_rfl⟩
  refine SC.of hW2 hX2 sC80 (ltab2_cons (x := ⟨0, _, _, _, _, _, _, _⟩) l1 (ltab2_cons (x := ⟨2, _, _, _, _, _, _, _⟩) l2 ltab2_nil)) ((f80 n op arg (dq n) _ _ _ _).trans ?_)
  rw [if_pos hc, cl_pos ⟨rfl, (by
    rw [Int.toNat_natCast]
    refine LeSt.mk' (LeL.refl _) ⟨ChLe.row fun j _ => ?_, trivial⟩
    show [i64 0] = [i64 (dq 1 j)]
    unfold dq
    by_cases h : j = 0
    · rw [if_pos h]
    · rw [if_neg h, if_neg (by omega)])⟩, cl_pos trivial]
  rw [cl_pos ⟨rfl, (by
    refine LeSt.mk' (LeL.refl _) ⟨ChLe.row fun j hj => ?_, trivial⟩
    show [i64 (dq n j)] = [i64 (Cv.dp0 j)]
    unfold dq Cv.dp0
    by_cases h : j = 0
    · rw [if_pos h, if_pos h]
    · rw [if_neg h, if_neg h, if_pos hj])⟩]
  by_cases hb : Cv.depR (mkC vs n op arg) n 0 Cv.dp0
  · rw [cl_pos hb]
    have : depD (mkC vs n op arg) = true := (depD_iff _).2 hb
    rw [this]
  · rw [cl_neg hb]
    have : depD (mkC vs n op arg) = false := by cases h : depD (mkC vs n op arg) with | false => rfl | true => exact absurd ((depD_iff _).1 h) hb
    rw [this]
end Go.Proofs.YtcljccpddodckaaGreatDoor
/- Valid (73) and the reference's Verify (60), walked. -/
namespace Go.Proofs.YtcljccpddodckaaGreatDoor
open Go Go.Am Go.Proofs
set_option linter.unusedSimpArgs false
set_option linter.unusedVariables false
set_option maxRecDepth 100000
def opOf (g : Nat → List V) : Nat → Int := fun j => match g j with | [.sc (.int _ o), .sc (.int _ a)] => o | _ => 0
def argOf (g : Nat → List V) : Nat → Int := fun j => match g j with | [.sc (.int _ o), .sc (.int _ a)] => a | _ => 0
def QOpnd (args : List V) : Prop := ∃ (nm : ByteArray) (ps vs : Int) (n : Nat) (op arg : Nat → Int) (i : Nat), args = [codV nm ps vs n op arg, i64 i] ∧ i < n ∧ n ≤ 300 ∧ 0 ≤ vs ∧ vs ≤ 12
noncomputable def vOpnd : List V → V
  | [.agg [.sc (.string _), .sc (.int .i64 ps), .sc (.int .i64 vs), .ro 2 n g], .sc (.int .i64 i)] => bo (opndD (mkC vs n (opOf g) (argOf g)) i.toNat)
  | _ => .junk
def QReg (n : Nat) (op arg : Nat → Int) (args : List V) : Prop := args = [cd n op arg]
def QDep (n : Nat) (op arg : Nat → Int) (args : List V) : Prop := args = [cd n op arg] ∧ (∀ i, i < n → Cv.okOp (op i)) ∧ ∀ i, i < n → Cv.jmp (op i) → 0 ≤ arg i ∧ arg i < n
noncomputable def C73 (n : Nat) (op arg : Nat → Int) (F : V) (B : Bool) : CallT := ptab 46 QOpnd vOpnd (ptab 10 (QReg n op arg) (fun _ => F) (ptab 47 (QDep n op arg) (fun _ => bo B) (tab [])))
theorem sC73 {n : Nat} {op arg : Nat → Int} (vs : Int) (hn : n ≤ 300) (h1 : 1 ≤ n) {F : V} (hF : F = rgV n (Cv.regR (mkC vs n op arg) n 0 rg0)) : SoundC E2 (C73 n op arg F (depD (mkC vs n op arg))) := by
  subst hF
  refine ptab_cons (fun args h => ?_) (ptab_cons (fun args h => ?_) (ptab_cons (fun args h => ?_) tab_nil))
  · obtain ⟨nm, ps, vs, n, op, arg, i, rfl, g1, g2, g3, g4⟩ := h
    exact opnd_sc g1 g2 g3 g4
  · cases h
    exact regions_sc vs hn h1
  · obtain ⟨rfl, g1, g2⟩ := h
    exact dep_sc vs hn h1 g1 g2
def S73a (nm : ByteArray) (ps vs : Int) (n : Nat) (op arg : Nat → Int) (i : Nat) : St := { fr := [.junk, .ptr 0 0, .junk, i64 i] ++ jk 115, H := hp [some (.blk [st nm, i64 ps, i64 vs, cd n op arg])], nx := 1, rt := 0, me := 20 }
def T73a (nm : ByteArray) (ps vs : Int) (n : Nat) (op arg : Nat → Int) : St := { fr := [.junk, .ptr 0 0] ++ jk 117, H := hp [some (.blk [st nm, i64 ps, i64 vs, cd n op arg])], nx := 1, rt := 0, me := 20 }
def T73r : St := { fr := [.junk, .junk, bo false] ++ jk 116, H := hp [], nx := 0, rt := 0, me := 20 }
def S73b (nm : ByteArray) (ps vs : Int) (n : Nat) (op arg : Nat → Int) (L W : Nat → Int) (i : Nat) : St := { fr := [.junk, .ptr 0 0, .junk, .junk, .ro 1 n (r1 L), .ro 1 n (r1 W), .junk, i64 i] ++ jk 111, H := hp [some (.blk [st nm, i64 ps, i64 vs, cd n op arg])], nx := 1, rt := 0, me := 20 }
theorem r73a (nm : ByteArray) (B : Bool) (ps vs : Int) (n : Nat) (op arg : Nat → Int) (i : Nat) (F : V) (lo : LoopT) : loopK E2 (C73 n op arg F B) lo 0 10 (bodyOf E2 20 0) (S73a nm ps vs n op arg i) (KC2 2 4) =
  if decide ((i : Int) < (n : Int)) = true then
   if (0 : Int) ≤ (i : Int) ∧ (i : Int) < (n : Int) then
    if (!(op (Int.toNat (i : Int)) == (28 : Int)) == ((i : Int) == w ((n : Int) - (1 : Int)))) = true then
     some (Ans.l Ex.ret { fr := [V.junk, V.junk, bo false] ++ jk 116, H := hp [], nx := 0, rt := 0, me := 20 })
    else
     cl (QOpnd ([V.agg [V.sc (Value.string nm), i64 ps, i64 vs, V.ro 2 n (ins op arg)], i64 (i : Int)]) ∧ ([] : List (Option Chunk)) = []) (
      if (!opndD (mkC vs n op arg) (Int.toNat (i : Int))) = true then
       some (Ans.l Ex.ret { fr := [V.junk, V.junk, bo false] ++ jk 116, H := hp [], nx := 0, rt := 0, me := 20 })
      else
       lo 0 10 (bodyOf E2 20 0) ({ fr := [V.junk, V.ptr 0 0, V.junk, i64 (w ((i : Int) + (1 : Int)))] ++ jk 115, H := hp [some (Chunk.blk [V.sc (Value.string nm), i64 ps, i64 vs, V.ro 2 n (ins op arg)])], nx := 1, rt := 0, me := 20 }) (KC2 2 4)) (
      none)
   else
    none
  else
   some (Ans.l (Ex.exit 0) { fr := [V.junk, V.ptr 0 0] ++ jk 117, H := hp [some (Chunk.blk [V.sc (Value.string nm), i64 ps, i64 vs, V.ro 2 n (ins op arg)])], nx := 1, rt := 0, me := 20 }) := by kernel_rfl

theorem r73b (nm : ByteArray) (B : Bool) (ps vs : Int) (n : Nat) (op arg L W : Nat → Int) (i : Nat) (F : V) (lo : LoopT) : loopK E2 (C73 n op arg F B) lo 2 178 (bodyOf E2 20 2) (S73b nm ps vs n op arg L W i) (KC2 2 4) =
  if decide ((i : Int) < (n : Int)) = true then
   if (0 : Int) ≤ (i : Int) ∧ (i : Int) < (n : Int) then
    if (op (Int.toNat (i : Int)) == (14 : Int)) = true then
     if (0 : Int) ≤ arg (Int.toNat (i : Int)) ∧ arg (Int.toNat (i : Int)) < (n : Int) then
      if (0 : Int) ≤ (i : Int) ∧ (i : Int) < (n : Int) then
       if (L (Int.toNat (arg (Int.toNat (i : Int)))) != L (Int.toNat (i : Int))) = true then
        some (Ans.l Ex.ret { fr := [V.junk, V.junk, bo false] ++ jk 116, H := hp [], nx := 0, rt := 0, me := 20 })
       else
        if (0 : Int) ≤ arg (Int.toNat (i : Int)) ∧ arg (Int.toNat (i : Int)) < (n : Int) then
         if (0 : Int) ≤ (i : Int) ∧ (i : Int) < (n : Int) then
          if (W (Int.toNat (arg (Int.toNat (i : Int)))) != W (Int.toNat (i : Int))) = true then
           some (Ans.l Ex.ret { fr := [V.junk, V.junk, bo false] ++ jk 116, H := hp [], nx := 0, rt := 0, me := 20 })
          else
           lo 2 178 (bodyOf E2 20 2) ({ fr := [V.junk, V.ptr 0 0, V.junk, V.junk, V.ro 1 n (r1 L), V.ro 1 n (r1 W), V.junk, i64 (w ((i : Int) + (1 : Int)))] ++ jk 111, H := hp [some (Chunk.blk [V.sc (Value.string nm), i64 ps, i64 vs, V.ro 2 n (ins op arg)])], nx := 1, rt := 0, me := 20 }) (KC2 2 4)
         else
          none
        else
         none
      else
       none
     else
      none
    else
     if (op (Int.toNat (i : Int)) == (15 : Int)) = true then
      if (0 : Int) ≤ arg (Int.toNat (i : Int)) ∧ arg (Int.toNat (i : Int)) < (n : Int) then
       if (0 : Int) ≤ (i : Int) ∧ (i : Int) < (n : Int) then
        if (L (Int.toNat (arg (Int.toNat (i : Int)))) != L (Int.toNat (i : Int))) = true then
         some (Ans.l Ex.ret { fr := [V.junk, V.junk, bo false] ++ jk 116, H := hp [], nx := 0, rt := 0, me := 20 })
        else
         if (0 : Int) ≤ arg (Int.toNat (i : Int)) ∧ arg (Int.toNat (i : Int)) < (n : Int) then
          if (0 : Int) ≤ (i : Int) ∧ (i : Int) < (n : Int) then
           if (W (Int.toNat (arg (Int.toNat (i : Int)))) != W (Int.toNat (i : Int))) = true then
            some (Ans.l Ex.ret { fr := [V.junk, V.junk, bo false] ++ jk 116, H := hp [], nx := 0, rt := 0, me := 20 })
           else
            lo 2 178 (bodyOf E2 20 2) ({ fr := [V.junk, V.ptr 0 0, V.junk, V.junk, V.ro 1 n (r1 L), V.ro 1 n (r1 W), V.junk, i64 (w ((i : Int) + (1 : Int)))] ++ jk 111, H := hp [some (Chunk.blk [V.sc (Value.string nm), i64 ps, i64 vs, V.ro 2 n (ins op arg)])], nx := 1, rt := 0, me := 20 }) (KC2 2 4)
          else
           none
         else
          none
       else
        none
      else
       none
     else
      lo 2 178 (bodyOf E2 20 2) ({ fr := [V.junk, V.ptr 0 0, V.junk, V.junk, V.ro 1 n (r1 L), V.ro 1 n (r1 W), V.junk, i64 (w ((i : Int) + (1 : Int)))] ++ jk 111, H := hp [some (Chunk.blk [V.sc (Value.string nm), i64 ps, i64 vs, V.ro 2 n (ins op arg)])], nx := 1, rt := 0, me := 20 }) (KC2 2 4)
   else
    none
  else
   some (Ans.l (Ex.exit 2) { fr := [V.junk, V.ptr 0 0] ++ jk 117, H := hp [some (Chunk.blk [V.sc (Value.string nm), i64 ps, i64 vs, V.ro 2 n (ins op arg)])], nx := 1, rt := 0, me := 20 }) := by kernel_rfl

theorem f73s (nm : ByteArray) (B : Bool) (ps vs : Int) (n : Nat) (op arg L W : Nat → Int) (b : Bool) (S1 S2 : St) (P P2 : Prop) : callK E2 (C73 n op arg (rgS n L W b) B) (ltab2 [⟨0, bodyOf E2 20 0, S1, P, .exit 0, T73a nm ps vs n op arg, .ret, T73r⟩, ⟨2, bodyOf E2 20 2, S2, P2, .exit 2, T73a nm ps vs n op arg, .ret, T73r⟩]) 20 [codV nm ps vs n op arg] [] K =
  if decide (ps < (0 : Int)) = true then
   some (Ans.c (CRes.ret (bo false) []))
  else
   if decide (ps > vs) = true then
    some (Ans.c (CRes.ret (bo false) []))
   else
    if decide (vs > (12 : Int)) = true then
     some (Ans.c (CRes.ret (bo false) []))
    else
     if decide ((n : Int) < (1 : Int)) = true then
      some (Ans.c (CRes.ret (bo false) []))
     else
      if decide ((n : Int) > (300 : Int)) = true then
       some (Ans.c (CRes.ret (bo false) []))
      else
       cl ((bodyOf E2 20 0) = (bodyOf E2 20 0) ∧ LeSt ({ fr := [V.junk, V.ptr 0 0, V.junk, i64 0] ++ jk 115, H := hp [some (Chunk.blk [V.sc (Value.string nm), i64 ps, i64 vs, V.ro 2 n (ins op arg)])], nx := 1, rt := 0, me := 20 }) (S1)) (
        cl (P) (
         cl ((QReg n op arg) ([V.ro 2 n (ins op arg)]) ∧ ([] : List (Option Chunk)) = []) (
          if (!b) = true then
           some (Ans.c (CRes.ret (bo false) []))
          else
           cl ((bodyOf E2 20 2) = (bodyOf E2 20 2) ∧ LeSt ({ fr := [V.junk, V.ptr 0 0, V.junk, V.junk, V.ro 1 n (r1 L), V.ro 1 n (r1 W), V.junk, i64 0] ++ jk 111, H := hp [some (Chunk.blk [V.sc (Value.string nm), i64 ps, i64 vs, V.ro 2 n (ins op arg)])], nx := 1, rt := 0, me := 20 }) (S2)) (
            cl (P2) (
             cl ((QDep n op arg) ([V.ro 2 n (ins op arg)]) ∧ ([] : List (Option Chunk)) = []) (
              some (Ans.c (CRes.ret (bo (B)) []))) (
              none)) (
             some (Ans.c (CRes.ret (bo false) [])))) (
            none)) (
          none)) (
         some (Ans.c (CRes.ret (bo false) [])))) (
        none) := by kernel_rfl

theorem f73n (nm : ByteArray) (B : Bool) (ps vs : Int) (n : Nat) (op arg : Nat → Int) (S1 : St) (P : Prop) : callK E2 (C73 n op arg rgN B) (ltab2 [⟨0, bodyOf E2 20 0, S1, P, .exit 0, T73a nm ps vs n op arg, .ret, T73r⟩]) 20 [codV nm ps vs n op arg] [] K =
  if decide (ps < (0 : Int)) = true then
   some (Ans.c (CRes.ret (bo false) []))
  else
   if decide (ps > vs) = true then
    some (Ans.c (CRes.ret (bo false) []))
   else
    if decide (vs > (12 : Int)) = true then
     some (Ans.c (CRes.ret (bo false) []))
    else
     if decide ((n : Int) < (1 : Int)) = true then
      some (Ans.c (CRes.ret (bo false) []))
     else
      if decide ((n : Int) > (300 : Int)) = true then
       some (Ans.c (CRes.ret (bo false) []))
      else
       cl ((bodyOf E2 20 0) = (bodyOf E2 20 0) ∧ LeSt ({ fr := [V.junk, V.ptr 0 0, V.junk, i64 0] ++ jk 115, H := hp [some (Chunk.blk [V.sc (Value.string nm), i64 ps, i64 vs, V.ro 2 n (ins op arg)])], nx := 1, rt := 0, me := 20 }) (S1)) (
        cl (P) (
         cl ((QReg n op arg) ([V.ro 2 n (ins op arg)]) ∧ ([] : List (Option Chunk)) = []) (
          some (Ans.c (CRes.ret (bo false) []))) (
          none)) (
         some (Ans.c (CRes.ret (bo false) [])))) (
        none) := by kernel_rfl

theorem f73_e (nm : ByteArray) (ps vs : Int) (n : Nat) (op arg : Nat → Int) : callK E2 (tab []) (ltab2 []) 20 [codV nm ps vs n op arg] [] K =
  if decide (ps < (0 : Int)) = true then
   some (Ans.c (CRes.ret (bo false) []))
  else
   if decide (ps > vs) = true then
    some (Ans.c (CRes.ret (bo false) []))
   else
    if decide (vs > (12 : Int)) = true then
     some (Ans.c (CRes.ret (bo false) []))
    else
     if decide ((n : Int) < (1 : Int)) = true then
      some (Ans.c (CRes.ret (bo false) []))
     else
      if decide ((n : Int) > (300 : Int)) = true then
       some (Ans.c (CRes.ret (bo false) []))
      else
       none := by kernel_rfl

theorem k73a (nm : ByteArray) (ps vs : Int) (n : Nat) (op arg : Nat → Int) : KC2 2 4 (.exit 0) (T73a nm ps vs n op arg) = some (.l (.exit 0) (T73a nm ps vs n op arg)) := by kernel_rfl
theorem k73b (nm : ByteArray) (ps vs : Int) (n : Nat) (op arg : Nat → Int) : KC2 2 4 (.exit 2) (T73a nm ps vs n op arg) = some (.l (.exit 2) (T73a nm ps vs n op arg)) := by kernel_rfl
theorem k73r : KC2 2 4 .ret T73r = some (.l .ret T73r) := by kernel_rfl
theorem opndD_true (c : Cv.Cd) (i : Nat) : opndD c i = true ↔ Cv.opnd c i := by unfold opndD; exact @decide_eq_true_iff _ (Classical.propDecidable _)
set_option maxRecDepth 100000 in
theorem loop73a {nm : ByteArray} {ps vs : Int} {n : Nat} {op arg : Nat → Int} {F : V} {B : Bool} (hC : SoundC E2 (C73 n op arg F B)) (hn : n ≤ 300) (h0 : 0 ≤ vs) (hv : vs ≤ 12) : ∀ (r i : Nat), i + r = n → Ends (bodyOf E2 20 0) (∀ j, i ≤ j → j < n → Cv.stopOk (mkC vs n op arg) j ∧ Cv.opnd (mkC vs n op arg) j) (S73a nm ps vs n op arg i) (.exit 0) (T73a nm ps vs n op arg) .ret T73r := by
  intro r
  induction r with
  | zero =>
    intro i hi
    exact Ends.fin hC (fun j h1 h2 => by omega) fun lo => (r73a _ _ _ _ _ _ _ _ _ _).trans (by rw [if_neg (by simp; omega)]; rfl)
  | succ r ih =>
    intro i hi
    have hi' : i < n := by omega
    have hid : decide ((i : Int) < (n : Int)) = true := by simpa using hi'
    have hbb : (0 : Int) ≤ (i : Int) ∧ (i : Int) < (n : Int) := by omega
    have hq : QOpnd [V.agg [V.sc (Value.string nm), i64 ps, i64 vs, V.ro 2 n (ins op arg)], i64 (i : Int)] ∧ True := ⟨⟨nm, ps, vs, n, op, arg, i, rfl, hi', hn, h0, hv⟩, trivial⟩
    have ew : w ((i : Int) + 1) = ((i + 1 : Nat) : Int) := by rw [w_in (by unfold inR; omega)]; omega
    have en : w ((n : Int) - 1) = (n : Int) - 1 := w_in (by unfold inR; omega)
    have tree := fun lo => r73a nm B ps vs n op arg i F lo
    simp only [if_pos hid, if_pos hbb, eq_self, cl_pos hq, Int.toNat_natCast, ew, en] at tree
    refine Ends.iff ?_ (all_from hi)
    have es : Cv.stopOk (mkC vs n op arg) i ↔ (op i = 28 ↔ i + 1 = n) := Iff.rfl
    rw [es]
    have e28 : (!(op i == (28 : Int)) == ((i : Int) == (n : Int) - 1)) = true ↔ ¬ (op i = 28 ↔ i + 1 = n) := by
      have eb1 : ((i : Int) == (n : Int) - 1) = decide (i + 1 = n) := by rw [Bool.eq_iff_iff, beq_iff_eq, decide_eq_true_eq]; omega
      have eb2 : (op i == (28 : Int)) = decide (op i = 28) := rfl
      rw [eb1, eb2]
      by_cases a : op i = 28 <;> by_cases b : i + 1 = n
      · rw [decide_eq_true a, decide_eq_true b]; simp [a, b]
      · rw [decide_eq_true a, decide_eq_false b]; simp [a, b]
      · rw [decide_eq_false a, decide_eq_true b]; simp [a, b]
      · rw [decide_eq_false a, decide_eq_false b]; simp [a, b]
    by_cases hs : (op i = 28 ↔ i + 1 = n)
    · by_cases ho : Cv.opnd (mkC vs n op arg) i
      · have hb : opndD (mkC vs n op arg) i = true := (opndD_true _ _).2 ho
        refine Ends.iff (Ends.next hC (ih (i + 1) (by omega)) (k73a _ _ _ _ _ _) k73r (LeSt.refl _) fun lo => (tree lo).trans ?_) ⟨fun h => h.2, fun h => ⟨⟨hs, ho⟩, h⟩⟩
        rw [if_neg (fun h => e28.1 h hs), if_neg (by rw [hb]; decide)]; rfl
      · have hb : opndD (mkC vs n op arg) i = false := by cases h : opndD (mkC vs n op arg) i with | false => rfl | true => exact absurd ((opndD_true _ _).1 h) ho
        refine Ends.ret hC (fun h => ho h.1.2) fun lo => (tree lo).trans ?_
        rw [if_neg (fun h => e28.1 h hs), if_pos (by rw [hb]; decide)]; rfl
    · refine Ends.ret hC (fun h => hs h.1.1) fun lo => (tree lo).trans ?_
      rw [if_pos (e28.2 hs)]; rfl
theorem end73b {nm : ByteArray} {ps vs : Int} {n : Nat} {op arg L W : Nat → Int} {F : V} {B : Bool} (hC : SoundC E2 (C73 n op arg F B)) : Ends (bodyOf E2 20 2) True (S73b nm ps vs n op arg L W n) (.exit 2) (T73a nm ps vs n op arg) .ret T73r :=
  Ends.fin hC trivial fun lo => (r73b _ _ _ _ _ _ _ _ _ _ _ _).trans (by rw [if_neg (by simp)]; rfl)
set_option maxRecDepth 100000 in
theorem loop73b {nm : ByteArray} {ps vs : Int} {n : Nat} {op arg L W : Nat → Int} {F : V} {B : Bool} (hC : SoundC E2 (C73 n op arg F B)) (hn : n ≤ 300) (harg : ∀ i, i < n → Cv.jmp (op i) → 0 ≤ arg i ∧ arg i < n) : ∀ (r i : Nat), i + r = n → Ends (bodyOf E2 20 2) (∀ j, i ≤ j → j < n → jump1 (mkC vs n op arg) L W j) (S73b nm ps vs n op arg L W i) (.exit 2) (T73a nm ps vs n op arg) .ret T73r := by
  intro r
  induction r with
  | zero =>
    intro i hi
    exact Ends.fin hC (fun j h1 h2 => by omega) fun lo => (r73b _ _ _ _ _ _ _ _ _ _ _ _).trans (by rw [if_neg (by simp; omega)]; rfl)
  | succ r ih =>
    intro i hi
    have hi' : i < n := by omega
    have hid : decide ((i : Int) < (n : Int)) = true := by simpa using hi'
    have hbb : (0 : Int) ≤ (i : Int) ∧ (i : Int) < (n : Int) := by omega
    have ew : w ((i : Int) + 1) = ((i + 1 : Nat) : Int) := by rw [w_in (by unfold inR; omega)]; omega
    have tree := fun lo => r73b nm B ps vs n op arg L W i F lo
    simp only [if_pos hid, if_pos hbb, Int.toNat_natCast, ew, if_true] at tree
    refine Ends.iff ?_ (all_from hi)
    have ej : jump1 (mkC vs n op arg) L W i ↔ (Cv.jmp (op i) → L (arg i).toNat = L i ∧ W (arg i).toNat = W i) := Iff.rfl
    rw [ej]
    by_cases h14 : op i = 14
    · have hj : Cv.jmp (op i) := .inl h14
      have ha := harg i hi' hj
      by_cases hs : L (arg i).toNat = L i
      · by_cases hs2 : W (arg i).toNat = W i
        · refine Ends.iff (Ends.next hC (ih (i + 1) (by omega)) (k73b _ _ _ _ _ _) k73r (LeSt.refl _) fun lo => (tree lo).trans ?_) ⟨fun h => h.2, fun h => ⟨fun _ => ⟨hs, hs2⟩, h⟩⟩
          simp only [eqT h14, if_pos ha, neF hs, neF hs2, if_true, if_false, Bool.false_eq_true, reduceIte]; rfl
        · refine Ends.ret hC (fun h => hs2 (h.1 hj).2) fun lo => (tree lo).trans ?_
          simp only [eqT h14, if_pos ha, neF hs, neT hs2, if_true, if_false, Bool.false_eq_true, reduceIte]; rfl
      · refine Ends.ret hC (fun h => hs (h.1 hj).1) fun lo => (tree lo).trans ?_
        simp only [eqT h14, if_pos ha, neT hs, if_true, if_false, Bool.false_eq_true, reduceIte]; rfl
    by_cases h15 : op i = 15
    · have hj : Cv.jmp (op i) := .inr h15
      have ha := harg i hi' hj
      by_cases hs : L (arg i).toNat = L i
      · by_cases hs2 : W (arg i).toNat = W i
        · refine Ends.iff (Ends.next hC (ih (i + 1) (by omega)) (k73b _ _ _ _ _ _) k73r (LeSt.refl _) fun lo => (tree lo).trans ?_) ⟨fun h => h.2, fun h => ⟨fun _ => ⟨hs, hs2⟩, h⟩⟩
          simp only [eqF h14, eqT h15, if_pos ha, neF hs, neF hs2, if_true, if_false, Bool.false_eq_true, reduceIte]; rfl
        · refine Ends.ret hC (fun h => hs2 (h.1 hj).2) fun lo => (tree lo).trans ?_
          simp only [eqF h14, eqT h15, if_pos ha, neF hs, neT hs2, if_true, if_false, Bool.false_eq_true, reduceIte]; rfl
      · refine Ends.ret hC (fun h => hs (h.1 hj).1) fun lo => (tree lo).trans ?_
        simp only [eqF h14, eqT h15, if_pos ha, neT hs, if_true, if_false, Bool.false_eq_true, reduceIte]; rfl
    refine Ends.iff (Ends.next hC (ih (i + 1) (by omega)) (k73b _ _ _ _ _ _) k73r (LeSt.refl _) fun lo => (tree lo).trans ?_) ⟨fun h => h.2, fun h => ⟨fun hj => (hj.elim h14 h15).elim, h⟩⟩
    simp only [eqF h14, eqF h15, if_true, if_false, Bool.false_eq_true, reduceIte]; rfl
open Classical in
noncomputable def valD (ps : Int) (c : Cv.Cd) : Bool := decide (¬ (c.n > 300 ∨ c.vars > 12) ∧ ¬ (ps < 0 ∨ ps > c.vars ∨ c.n = 0 ∨ ¬ Cv.VP c))
open Classical in
theorem valD_t {ps : Int} {c : Cv.Cd} (h : ¬ (c.n > 300 ∨ c.vars > 12) ∧ ¬ (ps < 0 ∨ ps > c.vars ∨ c.n = 0 ∨ ¬ Cv.VP c)) : valD ps c = true := by unfold valD; exact decide_eq_true h
open Classical in
theorem valD_f {ps : Int} {c : Cv.Cd} (h : ¬ (¬ (c.n > 300 ∨ c.vars > 12) ∧ ¬ (ps < 0 ∨ ps > c.vars ∨ c.n = 0 ∨ ¬ Cv.VP c))) : valD ps c = false := by unfold valD; exact decide_eq_false h
set_option maxRecDepth 100000 in
theorem valid_sc (nm : ByteArray) (ps vs : Int) (n : Nat) (op arg : Nat → Int) : SC E2 20 [codV nm ps vs n op arg] [] (.ret (bo (valD ps (mkC vs n op arg))) []) := by
  have hcn : (mkC vs n op arg).n = n := rfl
  have hcv : (mkC vs n op arg).vars = vs := rfl
  by_cases hp : ps < 0
  · rw [valD_f (fun h => h.2 (.inl hp))]
    refine SC.of hW2 hX2 tab_nil ltab2_nil ((f73_e ..).trans ?_)
    rw [if_pos (by simpa using hp)]
  have hpp : ¬ decide (ps < (0 : Int)) = true := by simpa using hp
  by_cases hp2 : ps > vs
  · rw [valD_f (fun h => h.2 (.inr (.inl hp2)))]
    refine SC.of hW2 hX2 tab_nil ltab2_nil ((f73_e ..).trans ?_)
    rw [if_neg hpp, if_pos (by simpa using hp2)]
  have hpp2 : ¬ decide (ps > vs) = true := by simpa using hp2
  by_cases hv : vs > 12
  · rw [valD_f (fun h => h.1 (.inr hv))]
    refine SC.of hW2 hX2 tab_nil ltab2_nil ((f73_e ..).trans ?_)
    rw [if_neg hpp, if_neg hpp2, if_pos (by simpa using hv)]
  have hvv : ¬ decide (vs > (12 : Int)) = true := by simpa using hv
  by_cases hz : n = 0
  · rw [valD_f (fun h => h.2 (.inr (.inr (.inl hz))))]
    refine SC.of hW2 hX2 tab_nil ltab2_nil ((f73_e ..).trans ?_)
    rw [if_neg hpp, if_neg hpp2, if_neg hvv, if_pos (by simp; omega)]
  have hzz : ¬ decide ((n : Int) < (1 : Int)) = true := by simp; omega
  by_cases hn : n > 300
  · rw [valD_f (fun h => h.1 (.inl hn))]
    refine SC.of hW2 hX2 tab_nil ltab2_nil ((f73_e ..).trans ?_)
    rw [if_neg hpp, if_neg hpp2, if_neg hvv, if_neg hzz, if_pos (by simp; omega)]
  have hnn : ¬ decide ((n : Int) > (300 : Int)) = true := by simp; omega
  have hn3 : n ≤ 300 := by omega
  have h0 : 0 ≤ vs := by omega
  have hv12 : vs ≤ 12 := by omega
  have bad : ¬ Cv.VP (mkC vs n op arg) → valD ps (mkC vs n op arg) = false := fun h => valD_f fun g => g.2 (.inr (.inr (.inr h)))
  have good : Cv.VP (mkC vs n op arg) → valD ps (mkC vs n op arg) = true := fun h => valD_t ⟨by rw [hcn, hcv]; omega, fun g => by rcases g with g | g | g | g; exact hp g; exact hp2 g; exact hz g; exact g h⟩
  have hpl : ∀ q, Cv.regR (mkC vs n op arg) n 0 rg0 = q → Cv.regR (mkC vs n op arg) (mkC vs n op arg).n 0 ⟨Cv.zero, Cv.zero, 0, Cv.zero, -1⟩ = q := fun q h => h
  rw [Cv.VP_VR] at bad good
  cases hx : Cv.regR (mkC vs n op arg) n 0 rg0 with
  | none =>
    have hC := sC73 (F := rgN) vs hn3 (by omega) (by rw [hx]; rfl)
    have l1 := loop73a (nm := nm) (ps := ps) (vs := vs) hC hn3 h0 hv12 n 0 (by omega)
    have hnv : ¬ Cv.VR (mkC vs n op arg) := by
      rintro ⟨_, ⟨q, hq, _⟩, _⟩
      rw [hpl _ hx] at hq
      cases hq
    rw [bad hnv]
    refine SC.of hW2 hX2 hC (ltab2_cons (x := ⟨0, _, _, _, _, _, _, _⟩) l1 ltab2_nil) ((f73n _ _ _ _ _ _ _ _ _).trans ?_)
    rw [if_neg hpp, if_neg hpp2, if_neg hvv, if_neg hzz, if_neg hnn, cl_pos ⟨rfl, LeSt.refl _⟩]
    by_cases hP : (∀ j, 0 ≤ j → j < n → Cv.stopOk (mkC vs n op arg) j ∧ Cv.opnd (mkC vs n op arg) j)
    · rw [cl_pos hP, cl_pos ⟨rfl, rfl⟩]
    · rw [cl_neg hP]
  | some q =>
    have hC := sC73 (F := rgS n q.L q.W (decide (q.m = 0 ∧ q.wa < 0))) vs hn3 (by omega) (by rw [hx]; rfl)
    have l1 := loop73a (nm := nm) (ps := ps) (vs := vs) hC hn3 h0 hv12 n 0 (by omega)
    by_cases hP : (∀ j, 0 ≤ j → j < n → Cv.stopOk (mkC vs n op arg) j ∧ Cv.opnd (mkC vs n op arg) j)
    · have hok : ∀ i, i < n → Cv.okOp (op i) := fun i hi => Cv.opnd_ok (c := mkC vs n op arg) (hP i (Nat.zero_le _) hi).2
      have harg : ∀ i, i < n → Cv.jmp (op i) → 0 ≤ arg i ∧ arg i < n := by
        intro i hi hj
        have h17 : ¬ (op i = 17) := fun h => by rcases hj with hj | hj <;> omega
        have h20 : ¬ (op i = 20) := fun h => by rcases hj with hj | hj <;> omega
        have h1 := Cv.rng_jump (c := mkC vs n op arg) (i := i) hj ((Cv.opnd_rng (c := mkC vs n op arg) (hok i hi) h17 h20).1 (hP i (Nat.zero_le _) hi).2)
        have e1 : (mkC vs n op arg).arg i = arg i := rfl
        rw [e1, hcn] at h1
        omega
      have l2 := loop73b (nm := nm) (ps := ps) (vs := vs) (L := q.L) (W := q.W) hC hn3 harg n 0 (by omega)
      refine SC.of hW2 hX2 hC (ltab2_cons (x := ⟨0, _, _, _, _, _, _, _⟩) l1 (ltab2_cons (x := ⟨2, _, _, _, _, _, _, _⟩) l2 ltab2_nil)) ((f73s _ _ _ _ _ _ _ _ _ _ _ _ _ _).trans ?_)
      rw [if_neg hpp, if_neg hpp2, if_neg hvv, if_neg hzz, if_neg hnn, cl_pos ⟨rfl, LeSt.refl _⟩, cl_pos hP, cl_pos ⟨rfl, rfl⟩]
      have hvp : Cv.VR (mkC vs n op arg) ↔ ((q.m = 0 ∧ q.wa < 0) ∧ (∀ j, 0 ≤ j → j < n → jump1 (mkC vs n op arg) q.L q.W j) ∧ depD (mkC vs n op arg) = true) := by
        rw [depD_iff]
        constructor
        · rintro ⟨g1, ⟨q', g2, g3, g4⟩, g5⟩
          rw [hpl _ hx] at g2
          cases g2
          exact ⟨g3, (jmps_all _ _ _).1 g4, g5⟩
        · rintro ⟨g1, g2, g3⟩
          exact ⟨fun i hi => hP i (Nat.zero_le _) hi, ⟨q, hpl _ hx, g1, (jmps_all _ _ _).2 g2⟩, g3⟩
      by_cases hb : q.m = 0 ∧ q.wa < 0
      · rw [if_neg (by rw [decide_eq_true hb]; decide), cl_pos ⟨rfl, LeSt.refl _⟩]
        by_cases hJ : ∀ j, 0 ≤ j → j < n → jump1 (mkC vs n op arg) q.L q.W j
        · rw [cl_pos hJ, cl_pos ⟨⟨rfl, hok, harg⟩, rfl⟩]
          cases hB : depD (mkC vs n op arg) with
          | true => rw [good (hvp.2 ⟨hb, hJ, hB⟩)]
          | false => rw [bad (fun h => by have := (hvp.1 h).2.2; rw [hB] at this; cases this)]
        · rw [cl_neg hJ, bad (fun h => hJ (hvp.1 h).2.1)]
      · rw [if_pos (by rw [decide_eq_false hb]; decide), bad (fun h => hb (hvp.1 h).1)]
    · refine SC.of hW2 hX2 hC (ltab2_cons (x := ⟨0, _, _, _, _, _, _, _⟩) l1 (ltab2_cons (x := ⟨2, _, S73b nm ps vs n op arg q.L q.W n, True, _, _, _, _⟩) (end73b (nm := nm) (ps := ps) (vs := vs) (L := q.L) (W := q.W) hC) ltab2_nil)) ((f73s _ _ _ _ _ _ _ _ _ _ _ _ _ _).trans ?_)
      rw [if_neg hpp, if_neg hpp2, if_neg hvv, if_neg hzz, if_neg hnn, cl_pos ⟨rfl, LeSt.refl _⟩, cl_neg hP, bad (fun h => hP fun j _ hj => h.1 j hj)]
def QVal (nm : ByteArray) (ps vs : Int) (n : Nat) (op arg : Nat → Int) (args : List V) : Prop := args = [codV nm ps vs n op arg]
noncomputable def C60 (nm : ByteArray) (ps vs : Int) (n : Nat) (op arg : Nat → Int) (B : Bool) : CallT := ptab 20 (QVal nm ps vs n op arg) (fun _ => bo B) (tab [])
theorem f60 (nm : ByteArray) (B : Bool) (ps vs : Int) (n : Nat) (op arg : Nat → Int) : callK E2 (C60 nm ps vs n op arg B) (ltab2 []) 8 [codV nm ps vs n op arg] [] K =
  if decide ((n : Int) > (300 : Int)) = true then
   some (Ans.c (CRes.ret (i64 2) []))
  else
   if decide (vs > (12 : Int)) = true then
    some (Ans.c (CRes.ret (i64 2) []))
   else
    cl ((QVal nm ps vs n op arg) ([V.agg [V.sc (Value.string nm), i64 ps, i64 vs, V.ro 2 n (ins op arg)]]) ∧ ([] : List (Option Chunk)) = []) (
     if (!B) = true then
      some (Ans.c (CRes.ret (i64 13) []))
     else
      some (Ans.c (CRes.ret (i64 0) []))) (
     none) := by kernel_rfl

theorem refVerify_sc (nm : ByteArray) (ps vs : Int) (n : Nat) (op arg : Nat → Int) : SC E2 8 [codV nm ps vs n op arg] [] (.ret (i64 (verV ps (mkC vs n op arg))) []) := by
  have hcn : (mkC vs n op arg).n = n := rfl
  have hcv : (mkC vs n op arg).vars = vs := rfl
  have hC : SoundC E2 (C60 nm ps vs n op arg (valD ps (mkC vs n op arg))) := ptab_cons (fun args h => by cases h; exact valid_sc nm ps vs n op arg) tab_nil
  refine SC.of hW2 hX2 hC ltab2_nil ((f60 _ _ _ _ _ _ _).trans ?_)
  by_cases hn : n > 300
  · rw [verV_2 (.inl hn), if_pos (by simp; omega)]
  by_cases hv : vs > 12
  · rw [verV_2 (.inr hv), if_neg (by simp; omega), if_pos (by simpa using hv)]
  have h2 : ¬ ((mkC vs n op arg).n > 300 ∨ (mkC vs n op arg).vars > 12) := by rw [hcn, hcv]; omega
  rw [if_neg (by simp; omega), if_neg (by simpa using hv), cl_pos ⟨rfl, rfl⟩]
  by_cases hV : (ps < 0 ∨ ps > (mkC vs n op arg).vars ∨ (mkC vs n op arg).n = 0 ∨ ¬ Cv.VP (mkC vs n op arg))
  · rw [verV_13 h2 hV, valD_f (fun h => h.2 hV), if_pos (by decide)]
  · rw [verV_0 h2 hV, valD_t ⟨h2, hV⟩, if_neg (by decide)]
end Go.Proofs.YtcljccpddodckaaGreatDoor
/- An example of the chapter, run. -/
set_option linter.unusedSimpArgs false
set_option linter.unusedVariables false
namespace Go.Proofs.YtcljccpddodckaaGreatDoor
open Go Go.Am
def src1 : ByteArray := ⟨#[112, 114, 111, 99, 101, 100, 117, 114, 101, 32, 112, 40, 120, 41, 32, 123, 32, 105, 102, 32, 120, 32, 62, 32, 49, 32, 123, 32, 101, 109, 105, 116, 32, 52, 59, 32, 125, 32, 119, 97, 105, 116, 32, 50, 32, 109, 105, 110, 59, 32, 125]⟩
def ins1 : List (List V) := [[i64 2, i64 0], [i64 1, i64 1], [i64 11, i64 0], [i64 13, i64 0], [i64 15, i64 6], [i64 26, i64 4], [i64 18, i64 120], [i64 28, i64 0]]
def cod1 : V := .tup [.ro 4 1 (fun j => [[st ⟨#[112]⟩, i64 1, i64 1, .ro 2 8 (fun j => ins1.getD j [])]].getD j []), i64 0]
theorem bld1 : SC E 21 [st src1] [] (.ret cod1 []) := scL (SC.closedEnd hWL hXL 80 20 _ (by kernel_rfl))
end Go.Proofs.YtcljccpddodckaaGreatDoor
/- An example of the chapter, run. -/
set_option linter.unusedSimpArgs false
set_option linter.unusedVariables false
namespace Go.Proofs.YtcljccpddodckaaGreatDoor
open Go Go.Am
def src2 : ByteArray := ⟨#[112, 114, 111, 99, 101, 100, 117, 114, 101, 32, 113, 40, 41, 32, 123, 32, 114, 101, 112, 101, 97, 116, 32, 51, 32, 123, 32, 117, 115, 101, 32, 50, 32, 102, 111, 114, 32, 53, 32, 115, 59, 32, 125, 32, 125]⟩
def ins2 : List (List V) := [[i64 16, i64 3], [i64 23, i64 2000005], [i64 17, i64 1], [i64 28, i64 0]]
def cod2 : V := .tup [.ro 4 1 (fun j => [[st ⟨#[113]⟩, i64 0, i64 0, .ro 2 4 (fun j => ins2.getD j [])]].getD j []), i64 0]
theorem bld2 : SC E 21 [st src2] [] (.ret cod2 []) := scL (SC.closedEnd hWL hXL 80 20 _ (by kernel_rfl))
end Go.Proofs.YtcljccpddodckaaGreatDoor
/- The examples of the chapter hold. -/
set_option linter.unusedSimpArgs false
set_option linter.unusedVariables false
namespace Go.Proofs.YtcljccpddodckaaGreatDoor
open Go Go.Am Go.RowKit
theorem sc_toX {E : Env} {f : FuncId} {args : List V} {v : V} (h : SC E f args [] (.ret v [])) (hp' : v.pure = true) (ha : pureL args = true) (β : Bt) (S D : Pr) (w : World) (us : List Value) (hd : denL β S w D args us) (hG : Glob E S w) (hS : ∀ b, S b → b < w.heap.size) :
    Calls E.P f us.toArray w fun e w' => ∃ u S', e = .returned u ∧ Below w.heap.size w w' ∧ den (fun _ => none) S' w' (fun _ => False) v u ∧ (∀ b, S b → S' b) ∧ ∀ b, S' b → S b ∨ (w.heap.size ≤ b ∧ b < w'.heap.size) := by
  refine (h.2 (fun _ => none) S w us (denL_pure (fun _ h => h) (fun _ _ => rfl) _ _ ha hd) ⟨fun i c hc => (by simp [hp] at hc), fun _ _ => rfl, fun i b m h => (by cases h), fun i b m h => (by cases h), fun i j b m m' h => (by cases h), hS⟩ hG).mono ?_
  rintro e w' ⟨u, β', S', rfl, g1, g2, g3, g4⟩
  refine ⟨u, S', rfl, below_of_evo g3, den_pure (fun _ h => h) (fun _ _ => rfl) _ _ hp' g2, g3.sub, fun b hb => ?_⟩
  rcases g3.newS b hb with h | h | ⟨i, m, h⟩
  · exact .inl h
  · exact .inr ⟨h, g1.st b hb⟩
  · cases h
noncomputable def extG (f : FuncId) (args : List V) : Option V :=
  if f = 21 then match args with
    | [.sc (.string s)] => if s = src1 then some cod1 else if s = src2 then some cod2 else none
    | _ => none
  else extF f args
noncomputable def EM : Env := { P := Tryz.prog, glob := globF, ext := extG, way := way, lit := litF, code := annFL maskTab Tryz.prog, inv := [(1, intCell .i64)], dfn := dfnF, idle := idleF, push := false }
theorem hXM : SoundX EM := fun f args v h => by
  have h' : extG f args = some v := h
  unfold extG at h'
  split at h'
  · rename_i hf; subst hf
    have hcal : callable EM.P 21 := ⟨_, Tryz.func21, by kernel_rfl, by intro e; exact absurd e (by decide +kernel)⟩
    have key : ∀ (s : ByteArray) (x : V), x.pure = true → SC E 21 [st s] [] (.ret x []) → some x = some v → args = [.sc (.string s)] → callable EM.P 21 ∧ v.pure = true ∧ ∀ (β : Bt) (S D : Pr) (w : World) (us : List Value), denL β S w D args us → Glob EM S w → (∀ b, S b → b < w.heap.size) →
        Calls EM.P 21 us.toArray w fun e w' => ∃ u S', e = .returned u ∧ Below w.heap.size w w' ∧ den (fun _ => none) S' w' (fun _ => False) v u ∧ (∀ b, S b → S' b) ∧ ∀ b, S' b → S b ∨ (w.heap.size ≤ b ∧ b < w'.heap.size) := by
      rintro s x hx hs hv rfl
      cases hv
      exact ⟨hcal, hx, fun β S D w us hd hG hS => sc_toX hs hx rfl β S D w us hd ⟨hG.rd, hG.inv⟩ hS⟩
    split at h'
    · rename_i s
      split at h'
      · rename_i e; subst e; exact key _ _ rfl bld1 h' rfl
      split at h'
      · rename_i e; subst e; exact key _ _ rfl bld2 h' rfl
      · cases h'
    · cases h'
  · obtain ⟨g1, g2, g3⟩ := hX f args v h'
    exact ⟨g1, g2, fun β S D w us a b c => g3 β S D w us a ⟨b.rd, b.inv⟩ c⟩
set_option maxRecDepth 100000 in
theorem hWM : WF EM := hWL
theorem scM {f : FuncId} {args : List V} {L : List (Option Chunk)} {cr : CRes} (h : SC EM f args L cr) : SC E f args L cr :=
  ⟨h.1, fun β S w us h1 h2 h3 => h.2 β S w us h1 h2 ⟨h3.rd, h3.inv⟩⟩
theorem lives_true : SC E 9 [] [] (.ret (bo true) []) := scM (SC.closedQ hWM hXM 80 (by kernel_rfl))
end Go.Proofs.YtcljccpddodckaaGreatDoor
/- CompileVerify. -/
namespace Go.Proofs.YtcljccpddodckaaGreatDoor
open Go Go.Am Go.Proofs
set_option linter.unusedSimpArgs false
set_option linter.unusedVariables false
set_option maxRecDepth 100000
theorem wt3 {d : Nat} {vs : List V} (h : WT E.P d 3 vs) : ∃ a, vs = [i64 a] ∧ inR a := h.i64 (by kernel_rfl)
theorem in_code {v : V} (h : WTV E.P 24 v) : ∃ (nm : ByteArray) (ps vs : Int) (n : Nat) (op ar : Nat → Int), Le v (.agg [st nm, i64 ps, i64 vs, .ro 2 n (fun j => [i64 (op j), i64 (ar j)])]) ∧ n ≤ Go.maxLen ∧ nm.size ≤ Go.maxLen ∧ inR ps ∧ inR vs ∧ ∀ j, j < n → inR (op j) ∧ inR (ar j) := by
  obtain ⟨d, vs, rfl, g⟩ := h.struct (l := [9, 3, 3, 22]) (by kernel_rfl)
  obtain ⟨d, c1, r1, rfl, g1, c2, r2, rfl, g2, c3, r3, rfl, g3, c4, r4, rfl, g4, rfl⟩ := g.struct (l := [9, 3, 3, 22]) (by kernel_rfl)
  obtain ⟨s, rfl, hs⟩ := g1.str (by kernel_rfl)
  obtain ⟨u, rfl, ru⟩ := wt3 g2
  obtain ⟨w, rfl, rw⟩ := wt3 g3
  obtain ⟨n, f, rfl, hn, d, h⟩ := g4.slice (e := 34) (c := 2) (by kernel_rfl) (by kernel_rfl) (by omega)
  have key : ∀ j, ∃ x : Int × Int, j < n → f j = [i64 x.1, i64 x.2] ∧ inR x.1 ∧ inR x.2 := fun j => by
    by_cases hj : j < n
    · obtain ⟨d, c1, r1, hf, g1, c2, r2, rfl, g2, rfl⟩ := (h j hj).struct (l := [3, 3]) (by kernel_rfl)
      obtain ⟨a, rfl, ha⟩ := wt3 g1
      obtain ⟨b, rfl, hb⟩ := wt3 g2
      exact ⟨(a, b), fun _ => ⟨hf, ha, hb⟩⟩
    · exact ⟨(0, 0), fun h => absurd h hj⟩
  obtain ⟨g, hg⟩ := Classical.axiomOfChoice key
  exact ⟨s, u, w, n, fun j => (g j).1, fun j => (g j).2, Le.agg (LeL.cons (Le.refl _) (LeL.cons (Le.refl _) (LeL.cons (Le.refl _) (LeL.cons (Le.ro_eq fun j hj => ⟨(hg j hj).1, rfl⟩) LeL.nil)))), hn, hs, ru, rw, fun j hj => ⟨(hg j hj).2.1, (hg j hj).2.2⟩⟩
end Go.Proofs.YtcljccpddodckaaGreatDoor
