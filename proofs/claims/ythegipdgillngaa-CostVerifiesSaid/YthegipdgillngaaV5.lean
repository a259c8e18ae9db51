/- Regions (79), walked. -/
import Derived.Test.YthegipdgillngaaV4
namespace Go.Proofs.Ythegipdgillngaa
open Go Go.Am Go.Proofs
set_option linter.unusedSimpArgs false
set_option linter.unusedVariables false
def vPuR : List V → V
  | [.sc (.int .i64 o)] => bo (Cv.pureR o)
  | _ => .junk
noncomputable def C79 : CallT := ptab 82 QI1 vPuR (tab [])
theorem sC79 : SoundC E2 C79 := ptab_cons (fun args h => by obtain ⟨o, rfl⟩ := h; exact pureR_sc o) tab_nil
def S79a (n : Nat) (op arg : Nat → Int) : St := { fr := [cd n op arg, .junk, .junk, .junk, .junk, .sc (.slice none 0 0), .sc (.slice none 0 0), .sc (.slice none 0 0), i64 (-1), i64 0] ++ jk 93, H := hp [], nx := 0, rt := 0, me := 79 }
def S79b (n : Nat) (op arg : Nat → Int) (i : Nat) (L W : Nat → Int) (wa : Int) : St := { fr := [cd n op arg, .junk, .junk, .junk, .junk, .sl 0 1 0 i, .sl 1 1 0 i, .sc (.slice none 0 0), i64 wa, i64 i] ++ jk 93, H := hp [some (.row 3 1 i (r1 L)), some (.row 3 1 i (r1 W))], nx := 2, rt := 0, me := 79 }
def S79c (n : Nat) (op arg : Nat → Int) (i : Nat) (L W : Nat → Int) (m cp : Nat) (stk : Nat → Int) (wa : Int) : St := { fr := [cd n op arg, .junk, .junk, .junk, .junk, .sl 0 1 0 i, .sl 1 1 0 i, .sl 2 1 0 m, i64 wa, i64 i] ++ jk 93, H := hp [some (.row 3 1 i (r1 L)), some (.row 3 1 i (r1 W)), some (.row 3 1 cp (r1 stk))], nx := 3, rt := 0, me := 79 }
def T79b (n : Nat) (L W : Nat → Int) (wa : Int) : St := { fr := jk 5 ++ [.sl 0 1 0 n, .sl 1 1 0 n, .sc (.slice none 0 0), i64 wa] ++ jk 94, H := hp [some (.row 3 1 n (r1 L)), some (.row 3 1 n (r1 W))], nx := 2, rt := 0, me := 79 }
def T79c (n : Nat) (L W : Nat → Int) (m cp : Nat) (stk : Nat → Int) (wa : Int) : St := { fr := jk 5 ++ [.sl 0 1 0 n, .sl 1 1 0 n, .sl 2 1 0 m, i64 wa] ++ jk 94, H := hp [some (.row 3 1 n (r1 L)), some (.row 3 1 n (r1 W)), some (.row 3 1 cp (r1 stk))], nx := 3, rt := 0, me := 79 }
def T79r : St := { fr := [.junk, .junk, .sc (.slice none 0 0), .sc (.slice none 0 0), bo false] ++ jk 98, H := hp [], nx := 0, rt := 0, me := 79 }
theorem r79a (n : Nat) (op arg : Nat → Int) (lo : LoopT) : loopK E2 C79 lo 0 993 (bodyOf E2 79 0) (S79a n op arg) (KC2 480 28) =
  if decide ((0 : Int) < (n : Int)) = true then
   if (0 : Int) ≤ (0 : Int) ∧ (0 : Int) < (n : Int) then
    if (op 0 == (16 : Int)) = true then
     lo 0 993 (bodyOf E2 79 0) ({ fr := [V.ro 2 n (ins op arg), V.junk, V.junk, V.junk, V.junk, V.sl 0 1 0 1, V.sl 1 1 0 1, V.sl 2 1 0 1, i64 (-1), i64 (w ((0 : Int) + (1 : Int)))] ++ jk 93, H := hp [some (Chunk.row 3 1 1 fun (j : Nat) => List.getD [[i64 (-1)]] (0 + j) []), some (Chunk.row 3 1 1 fun (j : Nat) => List.getD [[i64 (-1)]] (0 + j) []), some (Chunk.row 3 1 1 fun (j : Nat) => List.getD [[i64 0]] (0 + j) [])], nx := 3, rt := 0, me := 79 }) (KC2 480 28)
    else
     if (op 0 == (17 : Int)) = true then
      some (Ans.l Ex.ret { fr := [V.junk, V.junk, V.sc (Value.slice none 0 0), V.sc (Value.slice none 0 0), bo false] ++ jk 98, H := hp [], nx := 0, rt := 0, me := 79 })
     else
      if (op 0 == (19 : Int)) = true then
       lo 0 993 (bodyOf E2 79 0) ({ fr := [V.ro 2 n (ins op arg), V.junk, V.junk, V.junk, V.junk, V.sl 0 1 0 1, V.sl 1 1 0 1, V.sc (Value.slice none 0 0), i64 0, i64 (w ((0 : Int) + (1 : Int)))] ++ jk 93, H := hp [some (Chunk.row 3 1 1 fun (j : Nat) => List.getD [[i64 (-1)]] (0 + j) []), some (Chunk.row 3 1 1 fun (j : Nat) => List.getD [[i64 (-1)]] (0 + j) [])], nx := 2, rt := 0, me := 79 }) (KC2 480 28)
      else
       if (op 0 == (20 : Int)) = true then
        some (Ans.l Ex.ret { fr := [V.junk, V.junk, V.sc (Value.slice none 0 0), V.sc (Value.slice none 0 0), bo false] ++ jk 98, H := hp [], nx := 0, rt := 0, me := 79 })
       else
        lo 0 993 (bodyOf E2 79 0) ({ fr := [V.ro 2 n (ins op arg), V.junk, V.junk, V.junk, V.junk, V.sl 0 1 0 1, V.sl 1 1 0 1, V.sc (Value.slice none 0 0), i64 (-1), i64 (w ((0 : Int) + (1 : Int)))] ++ jk 93, H := hp [some (Chunk.row 3 1 1 fun (j : Nat) => List.getD [[i64 (-1)]] (0 + j) []), some (Chunk.row 3 1 1 fun (j : Nat) => List.getD [[i64 (-1)]] (0 + j) [])], nx := 2, rt := 0, me := 79 }) (KC2 480 28)
   else
    none
  else
   some (Ans.l (Ex.exit 0) { fr := [V.junk, V.junk, V.junk, V.junk, V.junk, V.sc (Value.slice none 0 0), V.sc (Value.slice none 0 0), V.sc (Value.slice none 0 0), i64 (-1)] ++ jk 94, H := hp [], nx := 0, rt := 0, me := 79 }) := by kernel_rfl

theorem r79b (n : Nat) (op arg : Nat → Int) (i : Nat) (L W : Nat → Int) (wa : Int) (lo : LoopT) : loopK E2 C79 lo 0 993 (bodyOf E2 79 0) (S79b n op arg i L W wa) (KC2 480 28) =
  if decide ((i : Int) < (n : Int)) = true then
   if (0 : Int) ≤ (i : Int) ∧ (i : Int) < (n : Int) then
    if decide (wa ≥ (0 : Int)) = true then
     if (op (Int.toNat (i : Int)) != (20 : Int)) = true then
      cl (QI1 ([i64 (op (Int.toNat (i : Int)))]) ∧ ([] : List (Option Chunk)) = []) (
       if (!Cv.pureR (op (Int.toNat (i : Int)))) = true then
        some (Ans.l Ex.ret { fr := [V.junk, V.junk, V.sc (Value.slice none 0 0), V.sc (Value.slice none 0 0), bo false] ++ jk 98, H := hp [], nx := 0, rt := 0, me := 79 })
       else
        if (i + 1) * 8 ≤ roomBound ∧ i + 1 ≤ maxLen ∧ i ≤ i then
         if (i + 1) * 8 ≤ roomBound ∧ i + 1 ≤ maxLen ∧ i ≤ i then
          if (op (Int.toNat (i : Int)) == (16 : Int)) = true then
           lo 0 993 (bodyOf E2 79 0) ({ fr := [V.ro 2 n (ins op arg), V.junk, V.junk, V.junk, V.junk, V.sl 0 1 0 (i + 1), V.sl 1 1 0 (i + 1), V.sl 2 1 0 1, i64 wa, i64 (w ((i : Int) + (1 : Int)))] ++ jk 93, H := hp [some (Chunk.row 3 1 (i + 1) (joinF i (r1 L) fun (j : Nat) => List.getD [[i64 (-1)]] (0 + j) [])), some (Chunk.row 3 1 (i + 1) (joinF i (r1 W) fun (j : Nat) => List.getD [[i64 wa]] (0 + j) [])), some (Chunk.row 3 1 1 fun (j : Nat) => List.getD [[i64 (i : Int)]] (0 + j) [])], nx := 3, rt := 0, me := 79 }) (KC2 480 28)
          else
           if (op (Int.toNat (i : Int)) == (17 : Int)) = true then
            some (Ans.l Ex.ret { fr := [V.junk, V.junk, V.sc (Value.slice none 0 0), V.sc (Value.slice none 0 0), bo false] ++ jk 98, H := hp [], nx := 0, rt := 0, me := 79 })
           else
            if (op (Int.toNat (i : Int)) == (19 : Int)) = true then
             lo 0 993 (bodyOf E2 79 0) ({ fr := [V.ro 2 n (ins op arg), V.junk, V.junk, V.junk, V.junk, V.sl 0 1 0 (i + 1), V.sl 1 1 0 (i + 1), V.sc (Value.slice none 0 0), i64 (i : Int), i64 (w ((i : Int) + (1 : Int)))] ++ jk 93, H := hp [some (Chunk.row 3 1 (i + 1) (joinF i (r1 L) fun (j : Nat) => List.getD [[i64 (-1)]] (0 + j) [])), some (Chunk.row 3 1 (i + 1) (joinF i (r1 W) fun (j : Nat) => List.getD [[i64 wa]] (0 + j) []))], nx := 2, rt := 0, me := 79 }) (KC2 480 28)
            else
             if (op (Int.toNat (i : Int)) == (20 : Int)) = true then
              if decide (wa < (0 : Int)) = true then
               some (Ans.l Ex.ret { fr := [V.junk, V.junk, V.sc (Value.slice none 0 0), V.sc (Value.slice none 0 0), bo false] ++ jk 98, H := hp [], nx := 0, rt := 0, me := 79 })
              else
               if (0 : Int) ≤ (i : Int) ∧ (i : Int) < (n : Int) then
                if (arg (Int.toNat (i : Int)) != w (wa + (1 : Int))) = true then
                 some (Ans.l Ex.ret { fr := [V.junk, V.junk, V.sc (Value.slice none 0 0), V.sc (Value.slice none 0 0), bo false] ++ jk 98, H := hp [], nx := 0, rt := 0, me := 79 })
                else
                 lo 0 993 (bodyOf E2 79 0) ({ fr := [V.ro 2 n (ins op arg), V.junk, V.junk, V.junk, V.junk, V.sl 0 1 0 (i + 1), V.sl 1 1 0 (i + 1), V.sc (Value.slice none 0 0), i64 (-1), i64 (w ((i : Int) + (1 : Int)))] ++ jk 93, H := hp [some (Chunk.row 3 1 (i + 1) (joinF i (r1 L) fun (j : Nat) => List.getD [[i64 (-1)]] (0 + j) [])), some (Chunk.row 3 1 (i + 1) (joinF i (r1 W) fun (j : Nat) => List.getD [[i64 wa]] (0 + j) []))], nx := 2, rt := 0, me := 79 }) (KC2 480 28)
               else
                none
             else
              lo 0 993 (bodyOf E2 79 0) ({ fr := [V.ro 2 n (ins op arg), V.junk, V.junk, V.junk, V.junk, V.sl 0 1 0 (i + 1), V.sl 1 1 0 (i + 1), V.sc (Value.slice none 0 0), i64 wa, i64 (w ((i : Int) + (1 : Int)))] ++ jk 93, H := hp [some (Chunk.row 3 1 (i + 1) (joinF i (r1 L) fun (j : Nat) => List.getD [[i64 (-1)]] (0 + j) [])), some (Chunk.row 3 1 (i + 1) (joinF i (r1 W) fun (j : Nat) => List.getD [[i64 wa]] (0 + j) []))], nx := 2, rt := 0, me := 79 }) (KC2 480 28)
         else
          none
        else
         none) (
       none)
     else
      if (i + 1) * 8 ≤ roomBound ∧ i + 1 ≤ maxLen ∧ i ≤ i then
       if (i + 1) * 8 ≤ roomBound ∧ i + 1 ≤ maxLen ∧ i ≤ i then
        if (op (Int.toNat (i : Int)) == (16 : Int)) = true then
         lo 0 993 (bodyOf E2 79 0) ({ fr := [V.ro 2 n (ins op arg), V.junk, V.junk, V.junk, V.junk, V.sl 0 1 0 (i + 1), V.sl 1 1 0 (i + 1), V.sl 2 1 0 1, i64 wa, i64 (w ((i : Int) + (1 : Int)))] ++ jk 93, H := hp [some (Chunk.row 3 1 (i + 1) (joinF i (r1 L) fun (j : Nat) => List.getD [[i64 (-1)]] (0 + j) [])), some (Chunk.row 3 1 (i + 1) (joinF i (r1 W) fun (j : Nat) => List.getD [[i64 wa]] (0 + j) [])), some (Chunk.row 3 1 1 fun (j : Nat) => List.getD [[i64 (i : Int)]] (0 + j) [])], nx := 3, rt := 0, me := 79 }) (KC2 480 28)
        else
         if (op (Int.toNat (i : Int)) == (17 : Int)) = true then
          some (Ans.l Ex.ret { fr := [V.junk, V.junk, V.sc (Value.slice none 0 0), V.sc (Value.slice none 0 0), bo false] ++ jk 98, H := hp [], nx := 0, rt := 0, me := 79 })
         else
          if (op (Int.toNat (i : Int)) == (19 : Int)) = true then
           lo 0 993 (bodyOf E2 79 0) ({ fr := [V.ro 2 n (ins op arg), V.junk, V.junk, V.junk, V.junk, V.sl 0 1 0 (i + 1), V.sl 1 1 0 (i + 1), V.sc (Value.slice none 0 0), i64 (i : Int), i64 (w ((i : Int) + (1 : Int)))] ++ jk 93, H := hp [some (Chunk.row 3 1 (i + 1) (joinF i (r1 L) fun (j : Nat) => List.getD [[i64 (-1)]] (0 + j) [])), some (Chunk.row 3 1 (i + 1) (joinF i (r1 W) fun (j : Nat) => List.getD [[i64 wa]] (0 + j) []))], nx := 2, rt := 0, me := 79 }) (KC2 480 28)
          else
           if (op (Int.toNat (i : Int)) == (20 : Int)) = true then
            if decide (wa < (0 : Int)) = true then
             some (Ans.l Ex.ret { fr := [V.junk, V.junk, V.sc (Value.slice none 0 0), V.sc (Value.slice none 0 0), bo false] ++ jk 98, H := hp [], nx := 0, rt := 0, me := 79 })
            else
             if (0 : Int) ≤ (i : Int) ∧ (i : Int) < (n : Int) then
              if (arg (Int.toNat (i : Int)) != w (wa + (1 : Int))) = true then
               some (Ans.l Ex.ret { fr := [V.junk, V.junk, V.sc (Value.slice none 0 0), V.sc (Value.slice none 0 0), bo false] ++ jk 98, H := hp [], nx := 0, rt := 0, me := 79 })
              else
               lo 0 993 (bodyOf E2 79 0) ({ fr := [V.ro 2 n (ins op arg), V.junk, V.junk, V.junk, V.junk, V.sl 0 1 0 (i + 1), V.sl 1 1 0 (i + 1), V.sc (Value.slice none 0 0), i64 (-1), i64 (w ((i : Int) + (1 : Int)))] ++ jk 93, H := hp [some (Chunk.row 3 1 (i + 1) (joinF i (r1 L) fun (j : Nat) => List.getD [[i64 (-1)]] (0 + j) [])), some (Chunk.row 3 1 (i + 1) (joinF i (r1 W) fun (j : Nat) => List.getD [[i64 wa]] (0 + j) []))], nx := 2, rt := 0, me := 79 }) (KC2 480 28)
             else
              none
           else
            lo 0 993 (bodyOf E2 79 0) ({ fr := [V.ro 2 n (ins op arg), V.junk, V.junk, V.junk, V.junk, V.sl 0 1 0 (i + 1), V.sl 1 1 0 (i + 1), V.sc (Value.slice none 0 0), i64 wa, i64 (w ((i : Int) + (1 : Int)))] ++ jk 93, H := hp [some (Chunk.row 3 1 (i + 1) (joinF i (r1 L) fun (j : Nat) => List.getD [[i64 (-1)]] (0 + j) [])), some (Chunk.row 3 1 (i + 1) (joinF i (r1 W) fun (j : Nat) => List.getD [[i64 wa]] (0 + j) []))], nx := 2, rt := 0, me := 79 }) (KC2 480 28)
       else
        none
      else
       none
    else
     if (i + 1) * 8 ≤ roomBound ∧ i + 1 ≤ maxLen ∧ i ≤ i then
      if (i + 1) * 8 ≤ roomBound ∧ i + 1 ≤ maxLen ∧ i ≤ i then
       if (op (Int.toNat (i : Int)) == (16 : Int)) = true then
        lo 0 993 (bodyOf E2 79 0) ({ fr := [V.ro 2 n (ins op arg), V.junk, V.junk, V.junk, V.junk, V.sl 0 1 0 (i + 1), V.sl 1 1 0 (i + 1), V.sl 2 1 0 1, i64 wa, i64 (w ((i : Int) + (1 : Int)))] ++ jk 93, H := hp [some (Chunk.row 3 1 (i + 1) (joinF i (r1 L) fun (j : Nat) => List.getD [[i64 (-1)]] (0 + j) [])), some (Chunk.row 3 1 (i + 1) (joinF i (r1 W) fun (j : Nat) => List.getD [[i64 wa]] (0 + j) [])), some (Chunk.row 3 1 1 fun (j : Nat) => List.getD [[i64 (i : Int)]] (0 + j) [])], nx := 3, rt := 0, me := 79 }) (KC2 480 28)
       else
        if (op (Int.toNat (i : Int)) == (17 : Int)) = true then
         some (Ans.l Ex.ret { fr := [V.junk, V.junk, V.sc (Value.slice none 0 0), V.sc (Value.slice none 0 0), bo false] ++ jk 98, H := hp [], nx := 0, rt := 0, me := 79 })
        else
         if (op (Int.toNat (i : Int)) == (19 : Int)) = true then
          lo 0 993 (bodyOf E2 79 0) ({ fr := [V.ro 2 n (ins op arg), V.junk, V.junk, V.junk, V.junk, V.sl 0 1 0 (i + 1), V.sl 1 1 0 (i + 1), V.sc (Value.slice none 0 0), i64 (i : Int), i64 (w ((i : Int) + (1 : Int)))] ++ jk 93, H := hp [some (Chunk.row 3 1 (i + 1) (joinF i (r1 L) fun (j : Nat) => List.getD [[i64 (-1)]] (0 + j) [])), some (Chunk.row 3 1 (i + 1) (joinF i (r1 W) fun (j : Nat) => List.getD [[i64 wa]] (0 + j) []))], nx := 2, rt := 0, me := 79 }) (KC2 480 28)
         else
          if (op (Int.toNat (i : Int)) == (20 : Int)) = true then
           if decide (wa < (0 : Int)) = true then
            some (Ans.l Ex.ret { fr := [V.junk, V.junk, V.sc (Value.slice none 0 0), V.sc (Value.slice none 0 0), bo false] ++ jk 98, H := hp [], nx := 0, rt := 0, me := 79 })
           else
            if (0 : Int) ≤ (i : Int) ∧ (i : Int) < (n : Int) then
             if (arg (Int.toNat (i : Int)) != w (wa + (1 : Int))) = true then
              some (Ans.l Ex.ret { fr := [V.junk, V.junk, V.sc (Value.slice none 0 0), V.sc (Value.slice none 0 0), bo false] ++ jk 98, H := hp [], nx := 0, rt := 0, me := 79 })
             else
              lo 0 993 (bodyOf E2 79 0) ({ fr := [V.ro 2 n (ins op arg), V.junk, V.junk, V.junk, V.junk, V.sl 0 1 0 (i + 1), V.sl 1 1 0 (i + 1), V.sc (Value.slice none 0 0), i64 (-1), i64 (w ((i : Int) + (1 : Int)))] ++ jk 93, H := hp [some (Chunk.row 3 1 (i + 1) (joinF i (r1 L) fun (j : Nat) => List.getD [[i64 (-1)]] (0 + j) [])), some (Chunk.row 3 1 (i + 1) (joinF i (r1 W) fun (j : Nat) => List.getD [[i64 wa]] (0 + j) []))], nx := 2, rt := 0, me := 79 }) (KC2 480 28)
            else
             none
          else
           lo 0 993 (bodyOf E2 79 0) ({ fr := [V.ro 2 n (ins op arg), V.junk, V.junk, V.junk, V.junk, V.sl 0 1 0 (i + 1), V.sl 1 1 0 (i + 1), V.sc (Value.slice none 0 0), i64 wa, i64 (w ((i : Int) + (1 : Int)))] ++ jk 93, H := hp [some (Chunk.row 3 1 (i + 1) (joinF i (r1 L) fun (j : Nat) => List.getD [[i64 (-1)]] (0 + j) [])), some (Chunk.row 3 1 (i + 1) (joinF i (r1 W) fun (j : Nat) => List.getD [[i64 wa]] (0 + j) []))], nx := 2, rt := 0, me := 79 }) (KC2 480 28)
      else
       none
     else
      none
   else
    none
  else
   some (Ans.l (Ex.exit 0) { fr := [V.junk, V.junk, V.junk, V.junk, V.junk, V.sl 0 1 0 i, V.sl 1 1 0 i, V.sc (Value.slice none 0 0), i64 wa] ++ jk 94, H := hp [some (Chunk.row 3 1 i (r1 L)), some (Chunk.row 3 1 i (r1 W))], nx := 2, rt := 0, me := 79 }) := by kernel_rfl

theorem r79c (n : Nat) (op arg : Nat → Int) (i : Nat) (L W : Nat → Int) (m cp : Nat) (stk : Nat → Int) (wa : Int) (lo : LoopT) : loopK E2 C79 lo 0 993 (bodyOf E2 79 0) (S79c n op arg i L W m cp stk wa) (KC2 480 28) =
  if decide ((i : Int) < (n : Int)) = true then
   if (0 : Int) ≤ (i : Int) ∧ (i : Int) < (n : Int) then
    if decide (wa ≥ (0 : Int)) = true then
     if (op (Int.toNat (i : Int)) != (20 : Int)) = true then
      cl (QI1 ([i64 (op (Int.toNat (i : Int)))]) ∧ ([] : List (Option Chunk)) = []) (
       if (!Cv.pureR (op (Int.toNat (i : Int)))) = true then
        some (Ans.l Ex.ret { fr := [V.junk, V.junk, V.sc (Value.slice none 0 0), V.sc (Value.slice none 0 0), bo false] ++ jk 98, H := hp [], nx := 0, rt := 0, me := 79 })
       else
        if decide ((m : Int) > (0 : Int)) = true then
         if (0 : Int) ≤ w ((m : Int) - (1 : Int)) ∧ w ((m : Int) - (1 : Int)) < (m : Int) then
          if 0 + Int.toNat (w ((m : Int) - (1 : Int))) < cp ∧ 1 = 1 then
           if (i + 1) * 8 ≤ roomBound ∧ i + 1 ≤ maxLen ∧ i ≤ i then
            if (i + 1) * 8 ≤ roomBound ∧ i + 1 ≤ maxLen ∧ i ≤ i then
             if (op (Int.toNat (i : Int)) == (16 : Int)) = true then
              if (m + 1) * 8 ≤ roomBound ∧ m + 1 ≤ maxLen ∧ m ≤ cp then
               lo 0 993 (bodyOf E2 79 0) ({ fr := [V.ro 2 n (ins op arg), V.junk, V.junk, V.junk, V.junk, V.sl 0 1 0 (i + 1), V.sl 1 1 0 (i + 1), V.sl 2 1 0 (m + 1), i64 wa, i64 (w ((i : Int) + (1 : Int)))] ++ jk 93, H := hp [some (Chunk.row 3 1 (i + 1) (joinF i (r1 L) fun (j : Nat) => List.getD [[i64 (stk (0 + Int.toNat (w ((m : Int) - (1 : Int)))))]] (0 + j) [])), some (Chunk.row 3 1 (i + 1) (joinF i (r1 W) fun (j : Nat) => List.getD [[i64 wa]] (0 + j) [])), some (Chunk.row 3 1 (m + 1) (joinF m (r1 stk) fun (j : Nat) => List.getD [[i64 (i : Int)]] (0 + j) []))], nx := 3, rt := 0, me := 79 }) (KC2 480 28)
              else
               none
             else
              if (op (Int.toNat (i : Int)) == (17 : Int)) = true then
               if decide (stk (0 + Int.toNat (w ((m : Int) - (1 : Int)))) < (0 : Int)) = true then
                some (Ans.l Ex.ret { fr := [V.junk, V.junk, V.sc (Value.slice none 0 0), V.sc (Value.slice none 0 0), bo false] ++ jk 98, H := hp [], nx := 0, rt := 0, me := 79 })
               else
                if (0 : Int) ≤ (i : Int) ∧ (i : Int) < (n : Int) then
                 if (arg (Int.toNat (i : Int)) != w (stk (0 + Int.toNat (w ((m : Int) - (1 : Int)))) + (1 : Int))) = true then
                  some (Ans.l Ex.ret { fr := [V.junk, V.junk, V.sc (Value.slice none 0 0), V.sc (Value.slice none 0 0), bo false] ++ jk 98, H := hp [], nx := 0, rt := 0, me := 79 })
                 else
                  if (0 : Int) ≤ (0 : Int) ∧ (0 : Int) ≤ w ((m : Int) - (1 : Int)) ∧ w ((m : Int) - (1 : Int)) ≤ (m : Int) then
                   lo 0 993 (bodyOf E2 79 0) ({ fr := [V.ro 2 n (ins op arg), V.junk, V.junk, V.junk, V.junk, V.sl 0 1 0 (i + 1), V.sl 1 1 0 (i + 1), V.sl 2 1 0 (Int.toNat (w ((m : Int) - (1 : Int))) - Int.toNat (0 : Int)), i64 wa, i64 (w ((i : Int) + (1 : Int)))] ++ jk 93, H := hp [some (Chunk.row 3 1 (i + 1) (joinF i (r1 L) fun (j : Nat) => List.getD [[i64 (stk (0 + Int.toNat (w ((m : Int) - (1 : Int)))))]] (0 + j) [])), some (Chunk.row 3 1 (i + 1) (joinF i (r1 W) fun (j : Nat) => List.getD [[i64 wa]] (0 + j) [])), some (Chunk.row 3 1 cp (r1 stk))], nx := 3, rt := 0, me := 79 }) (KC2 480 28)
                  else
                   none
                else
                 none
              else
               if (op (Int.toNat (i : Int)) == (19 : Int)) = true then
                lo 0 993 (bodyOf E2 79 0) ({ fr := [V.ro 2 n (ins op arg), V.junk, V.junk, V.junk, V.junk, V.sl 0 1 0 (i + 1), V.sl 1 1 0 (i + 1), V.sl 2 1 0 m, i64 (i : Int), i64 (w ((i : Int) + (1 : Int)))] ++ jk 93, H := hp [some (Chunk.row 3 1 (i + 1) (joinF i (r1 L) fun (j : Nat) => List.getD [[i64 (stk (0 + Int.toNat (w ((m : Int) - (1 : Int)))))]] (0 + j) [])), some (Chunk.row 3 1 (i + 1) (joinF i (r1 W) fun (j : Nat) => List.getD [[i64 wa]] (0 + j) [])), some (Chunk.row 3 1 cp (r1 stk))], nx := 3, rt := 0, me := 79 }) (KC2 480 28)
               else
                if (op (Int.toNat (i : Int)) == (20 : Int)) = true then
                 if decide (wa < (0 : Int)) = true then
                  some (Ans.l Ex.ret { fr := [V.junk, V.junk, V.sc (Value.slice none 0 0), V.sc (Value.slice none 0 0), bo false] ++ jk 98, H := hp [], nx := 0, rt := 0, me := 79 })
                 else
                  if (0 : Int) ≤ (i : Int) ∧ (i : Int) < (n : Int) then
                   if (arg (Int.toNat (i : Int)) != w (wa + (1 : Int))) = true then
                    some (Ans.l Ex.ret { fr := [V.junk, V.junk, V.sc (Value.slice none 0 0), V.sc (Value.slice none 0 0), bo false] ++ jk 98, H := hp [], nx := 0, rt := 0, me := 79 })
                   else
                    lo 0 993 (bodyOf E2 79 0) ({ fr := [V.ro 2 n (ins op arg), V.junk, V.junk, V.junk, V.junk, V.sl 0 1 0 (i + 1), V.sl 1 1 0 (i + 1), V.sl 2 1 0 m, i64 (-1), i64 (w ((i : Int) + (1 : Int)))] ++ jk 93, H := hp [some (Chunk.row 3 1 (i + 1) (joinF i (r1 L) fun (j : Nat) => List.getD [[i64 (stk (0 + Int.toNat (w ((m : Int) - (1 : Int)))))]] (0 + j) [])), some (Chunk.row 3 1 (i + 1) (joinF i (r1 W) fun (j : Nat) => List.getD [[i64 wa]] (0 + j) [])), some (Chunk.row 3 1 cp (r1 stk))], nx := 3, rt := 0, me := 79 }) (KC2 480 28)
                  else
                   none
                else
                 lo 0 993 (bodyOf E2 79 0) ({ fr := [V.ro 2 n (ins op arg), V.junk, V.junk, V.junk, V.junk, V.sl 0 1 0 (i + 1), V.sl 1 1 0 (i + 1), V.sl 2 1 0 m, i64 wa, i64 (w ((i : Int) + (1 : Int)))] ++ jk 93, H := hp [some (Chunk.row 3 1 (i + 1) (joinF i (r1 L) fun (j : Nat) => List.getD [[i64 (stk (0 + Int.toNat (w ((m : Int) - (1 : Int)))))]] (0 + j) [])), some (Chunk.row 3 1 (i + 1) (joinF i (r1 W) fun (j : Nat) => List.getD [[i64 wa]] (0 + j) [])), some (Chunk.row 3 1 cp (r1 stk))], nx := 3, rt := 0, me := 79 }) (KC2 480 28)
            else
             none
           else
            none
          else
           none
         else
          none
        else
         if (i + 1) * 8 ≤ roomBound ∧ i + 1 ≤ maxLen ∧ i ≤ i then
          if (i + 1) * 8 ≤ roomBound ∧ i + 1 ≤ maxLen ∧ i ≤ i then
           if (op (Int.toNat (i : Int)) == (16 : Int)) = true then
            if (m + 1) * 8 ≤ roomBound ∧ m + 1 ≤ maxLen ∧ m ≤ cp then
             lo 0 993 (bodyOf E2 79 0) ({ fr := [V.ro 2 n (ins op arg), V.junk, V.junk, V.junk, V.junk, V.sl 0 1 0 (i + 1), V.sl 1 1 0 (i + 1), V.sl 2 1 0 (m + 1), i64 wa, i64 (w ((i : Int) + (1 : Int)))] ++ jk 93, H := hp [some (Chunk.row 3 1 (i + 1) (joinF i (r1 L) fun (j : Nat) => List.getD [[i64 (-1)]] (0 + j) [])), some (Chunk.row 3 1 (i + 1) (joinF i (r1 W) fun (j : Nat) => List.getD [[i64 wa]] (0 + j) [])), some (Chunk.row 3 1 (m + 1) (joinF m (r1 stk) fun (j : Nat) => List.getD [[i64 (i : Int)]] (0 + j) []))], nx := 3, rt := 0, me := 79 }) (KC2 480 28)
            else
             none
           else
            if (op (Int.toNat (i : Int)) == (17 : Int)) = true then
             some (Ans.l Ex.ret { fr := [V.junk, V.junk, V.sc (Value.slice none 0 0), V.sc (Value.slice none 0 0), bo false] ++ jk 98, H := hp [], nx := 0, rt := 0, me := 79 })
            else
             if (op (Int.toNat (i : Int)) == (19 : Int)) = true then
              lo 0 993 (bodyOf E2 79 0) ({ fr := [V.ro 2 n (ins op arg), V.junk, V.junk, V.junk, V.junk, V.sl 0 1 0 (i + 1), V.sl 1 1 0 (i + 1), V.sl 2 1 0 m, i64 (i : Int), i64 (w ((i : Int) + (1 : Int)))] ++ jk 93, H := hp [some (Chunk.row 3 1 (i + 1) (joinF i (r1 L) fun (j : Nat) => List.getD [[i64 (-1)]] (0 + j) [])), some (Chunk.row 3 1 (i + 1) (joinF i (r1 W) fun (j : Nat) => List.getD [[i64 wa]] (0 + j) [])), some (Chunk.row 3 1 cp (r1 stk))], nx := 3, rt := 0, me := 79 }) (KC2 480 28)
             else
              if (op (Int.toNat (i : Int)) == (20 : Int)) = true then
               if decide (wa < (0 : Int)) = true then
                some (Ans.l Ex.ret { fr := [V.junk, V.junk, V.sc (Value.slice none 0 0), V.sc (Value.slice none 0 0), bo false] ++ jk 98, H := hp [], nx := 0, rt := 0, me := 79 })
               else
                if (0 : Int) ≤ (i : Int) ∧ (i : Int) < (n : Int) then
                 if (arg (Int.toNat (i : Int)) != w (wa + (1 : Int))) = true then
                  some (Ans.l Ex.ret { fr := [V.junk, V.junk, V.sc (Value.slice none 0 0), V.sc (Value.slice none 0 0), bo false] ++ jk 98, H := hp [], nx := 0, rt := 0, me := 79 })
                 else
                  lo 0 993 (bodyOf E2 79 0) ({ fr := [V.ro 2 n (ins op arg), V.junk, V.junk, V.junk, V.junk, V.sl 0 1 0 (i + 1), V.sl 1 1 0 (i + 1), V.sl 2 1 0 m, i64 (-1), i64 (w ((i : Int) + (1 : Int)))] ++ jk 93, H := hp [some (Chunk.row 3 1 (i + 1) (joinF i (r1 L) fun (j : Nat) => List.getD [[i64 (-1)]] (0 + j) [])), some (Chunk.row 3 1 (i + 1) (joinF i (r1 W) fun (j : Nat) => List.getD [[i64 wa]] (0 + j) [])), some (Chunk.row 3 1 cp (r1 stk))], nx := 3, rt := 0, me := 79 }) (KC2 480 28)
                else
                 none
              else
               lo 0 993 (bodyOf E2 79 0) ({ fr := [V.ro 2 n (ins op arg), V.junk, V.junk, V.junk, V.junk, V.sl 0 1 0 (i + 1), V.sl 1 1 0 (i + 1), V.sl 2 1 0 m, i64 wa, i64 (w ((i : Int) + (1 : Int)))] ++ jk 93, H := hp [some (Chunk.row 3 1 (i + 1) (joinF i (r1 L) fun (j : Nat) => List.getD [[i64 (-1)]] (0 + j) [])), some (Chunk.row 3 1 (i + 1) (joinF i (r1 W) fun (j : Nat) => List.getD [[i64 wa]] (0 + j) [])), some (Chunk.row 3 1 cp (r1 stk))], nx := 3, rt := 0, me := 79 }) (KC2 480 28)
          else
           none
         else
          none) (
       none)
     else
      if decide ((m : Int) > (0 : Int)) = true then
       if (0 : Int) ≤ w ((m : Int) - (1 : Int)) ∧ w ((m : Int) - (1 : Int)) < (m : Int) then
        if 0 + Int.toNat (w ((m : Int) - (1 : Int))) < cp ∧ 1 = 1 then
         if (i + 1) * 8 ≤ roomBound ∧ i + 1 ≤ maxLen ∧ i ≤ i then
          if (i + 1) * 8 ≤ roomBound ∧ i + 1 ≤ maxLen ∧ i ≤ i then
           if (op (Int.toNat (i : Int)) == (16 : Int)) = true then
            if (m + 1) * 8 ≤ roomBound ∧ m + 1 ≤ maxLen ∧ m ≤ cp then
             lo 0 993 (bodyOf E2 79 0) ({ fr := [V.ro 2 n (ins op arg), V.junk, V.junk, V.junk, V.junk, V.sl 0 1 0 (i + 1), V.sl 1 1 0 (i + 1), V.sl 2 1 0 (m + 1), i64 wa, i64 (w ((i : Int) + (1 : Int)))] ++ jk 93, H := hp [some (Chunk.row 3 1 (i + 1) (joinF i (r1 L) fun (j : Nat) => List.getD [[i64 (stk (0 + Int.toNat (w ((m : Int) - (1 : Int)))))]] (0 + j) [])), some (Chunk.row 3 1 (i + 1) (joinF i (r1 W) fun (j : Nat) => List.getD [[i64 wa]] (0 + j) [])), some (Chunk.row 3 1 (m + 1) (joinF m (r1 stk) fun (j : Nat) => List.getD [[i64 (i : Int)]] (0 + j) []))], nx := 3, rt := 0, me := 79 }) (KC2 480 28)
            else
             none
           else
            if (op (Int.toNat (i : Int)) == (17 : Int)) = true then
             if decide (stk (0 + Int.toNat (w ((m : Int) - (1 : Int)))) < (0 : Int)) = true then
              some (Ans.l Ex.ret { fr := [V.junk, V.junk, V.sc (Value.slice none 0 0), V.sc (Value.slice none 0 0), bo false] ++ jk 98, H := hp [], nx := 0, rt := 0, me := 79 })
             else
              if (0 : Int) ≤ (i : Int) ∧ (i : Int) < (n : Int) then
               if (arg (Int.toNat (i : Int)) != w (stk (0 + Int.toNat (w ((m : Int) - (1 : Int)))) + (1 : Int))) = true then
                some (Ans.l Ex.ret { fr := [V.junk, V.junk, V.sc (Value.slice none 0 0), V.sc (Value.slice none 0 0), bo false] ++ jk 98, H := hp [], nx := 0, rt := 0, me := 79 })
               else
                if (0 : Int) ≤ (0 : Int) ∧ (0 : Int) ≤ w ((m : Int) - (1 : Int)) ∧ w ((m : Int) - (1 : Int)) ≤ (m : Int) then
                 lo 0 993 (bodyOf E2 79 0) ({ fr := [V.ro 2 n (ins op arg), V.junk, V.junk, V.junk, V.junk, V.sl 0 1 0 (i + 1), V.sl 1 1 0 (i + 1), V.sl 2 1 0 (Int.toNat (w ((m : Int) - (1 : Int))) - Int.toNat (0 : Int)), i64 wa, i64 (w ((i : Int) + (1 : Int)))] ++ jk 93, H := hp [some (Chunk.row 3 1 (i + 1) (joinF i (r1 L) fun (j : Nat) => List.getD [[i64 (stk (0 + Int.toNat (w ((m : Int) - (1 : Int)))))]] (0 + j) [])), some (Chunk.row 3 1 (i + 1) (joinF i (r1 W) fun (j : Nat) => List.getD [[i64 wa]] (0 + j) [])), some (Chunk.row 3 1 cp (r1 stk))], nx := 3, rt := 0, me := 79 }) (KC2 480 28)
                else
                 none
              else
               none
            else
             if (op (Int.toNat (i : Int)) == (19 : Int)) = true then
              lo 0 993 (bodyOf E2 79 0) ({ fr := [V.ro 2 n (ins op arg), V.junk, V.junk, V.junk, V.junk, V.sl 0 1 0 (i + 1), V.sl 1 1 0 (i + 1), V.sl 2 1 0 m, i64 (i : Int), i64 (w ((i : Int) + (1 : Int)))] ++ jk 93, H := hp [some (Chunk.row 3 1 (i + 1) (joinF i (r1 L) fun (j : Nat) => List.getD [[i64 (stk (0 + Int.toNat (w ((m : Int) - (1 : Int)))))]] (0 + j) [])), some (Chunk.row 3 1 (i + 1) (joinF i (r1 W) fun (j : Nat) => List.getD [[i64 wa]] (0 + j) [])), some (Chunk.row 3 1 cp (r1 stk))], nx := 3, rt := 0, me := 79 }) (KC2 480 28)
             else
              if (op (Int.toNat (i : Int)) == (20 : Int)) = true then
               if decide (wa < (0 : Int)) = true then
                some (Ans.l Ex.ret { fr := [V.junk, V.junk, V.sc (Value.slice none 0 0), V.sc (Value.slice none 0 0), bo false] ++ jk 98, H := hp [], nx := 0, rt := 0, me := 79 })
               else
                if (0 : Int) ≤ (i : Int) ∧ (i : Int) < (n : Int) then
                 if (arg (Int.toNat (i : Int)) != w (wa + (1 : Int))) = true then
                  some (Ans.l Ex.ret { fr := [V.junk, V.junk, V.sc (Value.slice none 0 0), V.sc (Value.slice none 0 0), bo false] ++ jk 98, H := hp [], nx := 0, rt := 0, me := 79 })
                 else
                  lo 0 993 (bodyOf E2 79 0) ({ fr := [V.ro 2 n (ins op arg), V.junk, V.junk, V.junk, V.junk, V.sl 0 1 0 (i + 1), V.sl 1 1 0 (i + 1), V.sl 2 1 0 m, i64 (-1), i64 (w ((i : Int) + (1 : Int)))] ++ jk 93, H := hp [some (Chunk.row 3 1 (i + 1) (joinF i (r1 L) fun (j : Nat) => List.getD [[i64 (stk (0 + Int.toNat (w ((m : Int) - (1 : Int)))))]] (0 + j) [])), some (Chunk.row 3 1 (i + 1) (joinF i (r1 W) fun (j : Nat) => List.getD [[i64 wa]] (0 + j) [])), some (Chunk.row 3 1 cp (r1 stk))], nx := 3, rt := 0, me := 79 }) (KC2 480 28)
                else
                 none
              else
               lo 0 993 (bodyOf E2 79 0) ({ fr := [V.ro 2 n (ins op arg), V.junk, V.junk, V.junk, V.junk, V.sl 0 1 0 (i + 1), V.sl 1 1 0 (i + 1), V.sl 2 1 0 m, i64 wa, i64 (w ((i : Int) + (1 : Int)))] ++ jk 93, H := hp [some (Chunk.row 3 1 (i + 1) (joinF i (r1 L) fun (j : Nat) => List.getD [[i64 (stk (0 + Int.toNat (w ((m : Int) - (1 : Int)))))]] (0 + j) [])), some (Chunk.row 3 1 (i + 1) (joinF i (r1 W) fun (j : Nat) => List.getD [[i64 wa]] (0 + j) [])), some (Chunk.row 3 1 cp (r1 stk))], nx := 3, rt := 0, me := 79 }) (KC2 480 28)
          else
           none
         else
          none
        else
         none
       else
        none
      else
       if (i + 1) * 8 ≤ roomBound ∧ i + 1 ≤ maxLen ∧ i ≤ i then
        if (i + 1) * 8 ≤ roomBound ∧ i + 1 ≤ maxLen ∧ i ≤ i then
         if (op (Int.toNat (i : Int)) == (16 : Int)) = true then
          if (m + 1) * 8 ≤ roomBound ∧ m + 1 ≤ maxLen ∧ m ≤ cp then
           lo 0 993 (bodyOf E2 79 0) ({ fr := [V.ro 2 n (ins op arg), V.junk, V.junk, V.junk, V.junk, V.sl 0 1 0 (i + 1), V.sl 1 1 0 (i + 1), V.sl 2 1 0 (m + 1), i64 wa, i64 (w ((i : Int) + (1 : Int)))] ++ jk 93, H := hp [some (Chunk.row 3 1 (i + 1) (joinF i (r1 L) fun (j : Nat) => List.getD [[i64 (-1)]] (0 + j) [])), some (Chunk.row 3 1 (i + 1) (joinF i (r1 W) fun (j : Nat) => List.getD [[i64 wa]] (0 + j) [])), some (Chunk.row 3 1 (m + 1) (joinF m (r1 stk) fun (j : Nat) => List.getD [[i64 (i : Int)]] (0 + j) []))], nx := 3, rt := 0, me := 79 }) (KC2 480 28)
          else
           none
         else
          if (op (Int.toNat (i : Int)) == (17 : Int)) = true then
           some (Ans.l Ex.ret { fr := [V.junk, V.junk, V.sc (Value.slice none 0 0), V.sc (Value.slice none 0 0), bo false] ++ jk 98, H := hp [], nx := 0, rt := 0, me := 79 })
          else
           if (op (Int.toNat (i : Int)) == (19 : Int)) = true then
            lo 0 993 (bodyOf E2 79 0) ({ fr := [V.ro 2 n (ins op arg), V.junk, V.junk, V.junk, V.junk, V.sl 0 1 0 (i + 1), V.sl 1 1 0 (i + 1), V.sl 2 1 0 m, i64 (i : Int), i64 (w ((i : Int) + (1 : Int)))] ++ jk 93, H := hp [some (Chunk.row 3 1 (i + 1) (joinF i (r1 L) fun (j : Nat) => List.getD [[i64 (-1)]] (0 + j) [])), some (Chunk.row 3 1 (i + 1) (joinF i (r1 W) fun (j : Nat) => List.getD [[i64 wa]] (0 + j) [])), some (Chunk.row 3 1 cp (r1 stk))], nx := 3, rt := 0, me := 79 }) (KC2 480 28)
           else
            if (op (Int.toNat (i : Int)) == (20 : Int)) = true then
             if decide (wa < (0 : Int)) = true then
              some (Ans.l Ex.ret { fr := [V.junk, V.junk, V.sc (Value.slice none 0 0), V.sc (Value.slice none 0 0), bo false] ++ jk 98, H := hp [], nx := 0, rt := 0, me := 79 })
             else
              if (0 : Int) ≤ (i : Int) ∧ (i : Int) < (n : Int) then
               if (arg (Int.toNat (i : Int)) != w (wa + (1 : Int))) = true then
                some (Ans.l Ex.ret { fr := [V.junk, V.junk, V.sc (Value.slice none 0 0), V.sc (Value.slice none 0 0), bo false] ++ jk 98, H := hp [], nx := 0, rt := 0, me := 79 })
               else
                lo 0 993 (bodyOf E2 79 0) ({ fr := [V.ro 2 n (ins op arg), V.junk, V.junk, V.junk, V.junk, V.sl 0 1 0 (i + 1), V.sl 1 1 0 (i + 1), V.sl 2 1 0 m, i64 (-1), i64 (w ((i : Int) + (1 : Int)))] ++ jk 93, H := hp [some (Chunk.row 3 1 (i + 1) (joinF i (r1 L) fun (j : Nat) => List.getD [[i64 (-1)]] (0 + j) [])), some (Chunk.row 3 1 (i + 1) (joinF i (r1 W) fun (j : Nat) => List.getD [[i64 wa]] (0 + j) [])), some (Chunk.row 3 1 cp (r1 stk))], nx := 3, rt := 0, me := 79 }) (KC2 480 28)
              else
               none
            else
             lo 0 993 (bodyOf E2 79 0) ({ fr := [V.ro 2 n (ins op arg), V.junk, V.junk, V.junk, V.junk, V.sl 0 1 0 (i + 1), V.sl 1 1 0 (i + 1), V.sl 2 1 0 m, i64 wa, i64 (w ((i : Int) + (1 : Int)))] ++ jk 93, H := hp [some (Chunk.row 3 1 (i + 1) (joinF i (r1 L) fun (j : Nat) => List.getD [[i64 (-1)]] (0 + j) [])), some (Chunk.row 3 1 (i + 1) (joinF i (r1 W) fun (j : Nat) => List.getD [[i64 wa]] (0 + j) [])), some (Chunk.row 3 1 cp (r1 stk))], nx := 3, rt := 0, me := 79 }) (KC2 480 28)
        else
         none
       else
        none
    else
     if decide ((m : Int) > (0 : Int)) = true then
      if (0 : Int) ≤ w ((m : Int) - (1 : Int)) ∧ w ((m : Int) - (1 : Int)) < (m : Int) then
       if 0 + Int.toNat (w ((m : Int) - (1 : Int))) < cp ∧ 1 = 1 then
        if (i + 1) * 8 ≤ roomBound ∧ i + 1 ≤ maxLen ∧ i ≤ i then
         if (i + 1) * 8 ≤ roomBound ∧ i + 1 ≤ maxLen ∧ i ≤ i then
          if (op (Int.toNat (i : Int)) == (16 : Int)) = true then
           if (m + 1) * 8 ≤ roomBound ∧ m + 1 ≤ maxLen ∧ m ≤ cp then
            lo 0 993 (bodyOf E2 79 0) ({ fr := [V.ro 2 n (ins op arg), V.junk, V.junk, V.junk, V.junk, V.sl 0 1 0 (i + 1), V.sl 1 1 0 (i + 1), V.sl 2 1 0 (m + 1), i64 wa, i64 (w ((i : Int) + (1 : Int)))] ++ jk 93, H := hp [some (Chunk.row 3 1 (i + 1) (joinF i (r1 L) fun (j : Nat) => List.getD [[i64 (stk (0 + Int.toNat (w ((m : Int) - (1 : Int)))))]] (0 + j) [])), some (Chunk.row 3 1 (i + 1) (joinF i (r1 W) fun (j : Nat) => List.getD [[i64 wa]] (0 + j) [])), some (Chunk.row 3 1 (m + 1) (joinF m (r1 stk) fun (j : Nat) => List.getD [[i64 (i : Int)]] (0 + j) []))], nx := 3, rt := 0, me := 79 }) (KC2 480 28)
           else
            none
          else
           if (op (Int.toNat (i : Int)) == (17 : Int)) = true then
            if decide (stk (0 + Int.toNat (w ((m : Int) - (1 : Int)))) < (0 : Int)) = true then
             some (Ans.l Ex.ret { fr := [V.junk, V.junk, V.sc (Value.slice none 0 0), V.sc (Value.slice none 0 0), bo false] ++ jk 98, H := hp [], nx := 0, rt := 0, me := 79 })
            else
             if (0 : Int) ≤ (i : Int) ∧ (i : Int) < (n : Int) then
              if (arg (Int.toNat (i : Int)) != w (stk (0 + Int.toNat (w ((m : Int) - (1 : Int)))) + (1 : Int))) = true then
               some (Ans.l Ex.ret { fr := [V.junk, V.junk, V.sc (Value.slice none 0 0), V.sc (Value.slice none 0 0), bo false] ++ jk 98, H := hp [], nx := 0, rt := 0, me := 79 })
              else
               if (0 : Int) ≤ (0 : Int) ∧ (0 : Int) ≤ w ((m : Int) - (1 : Int)) ∧ w ((m : Int) - (1 : Int)) ≤ (m : Int) then
                lo 0 993 (bodyOf E2 79 0) ({ fr := [V.ro 2 n (ins op arg), V.junk, V.junk, V.junk, V.junk, V.sl 0 1 0 (i + 1), V.sl 1 1 0 (i + 1), V.sl 2 1 0 (Int.toNat (w ((m : Int) - (1 : Int))) - Int.toNat (0 : Int)), i64 wa, i64 (w ((i : Int) + (1 : Int)))] ++ jk 93, H := hp [some (Chunk.row 3 1 (i + 1) (joinF i (r1 L) fun (j : Nat) => List.getD [[i64 (stk (0 + Int.toNat (w ((m : Int) - (1 : Int)))))]] (0 + j) [])), some (Chunk.row 3 1 (i + 1) (joinF i (r1 W) fun (j : Nat) => List.getD [[i64 wa]] (0 + j) [])), some (Chunk.row 3 1 cp (r1 stk))], nx := 3, rt := 0, me := 79 }) (KC2 480 28)
               else
                none
             else
              none
           else
            if (op (Int.toNat (i : Int)) == (19 : Int)) = true then
             lo 0 993 (bodyOf E2 79 0) ({ fr := [V.ro 2 n (ins op arg), V.junk, V.junk, V.junk, V.junk, V.sl 0 1 0 (i + 1), V.sl 1 1 0 (i + 1), V.sl 2 1 0 m, i64 (i : Int), i64 (w ((i : Int) + (1 : Int)))] ++ jk 93, H := hp [some (Chunk.row 3 1 (i + 1) (joinF i (r1 L) fun (j : Nat) => List.getD [[i64 (stk (0 + Int.toNat (w ((m : Int) - (1 : Int)))))]] (0 + j) [])), some (Chunk.row 3 1 (i + 1) (joinF i (r1 W) fun (j : Nat) => List.getD [[i64 wa]] (0 + j) [])), some (Chunk.row 3 1 cp (r1 stk))], nx := 3, rt := 0, me := 79 }) (KC2 480 28)
            else
             if (op (Int.toNat (i : Int)) == (20 : Int)) = true then
              if decide (wa < (0 : Int)) = true then
               some (Ans.l Ex.ret { fr := [V.junk, V.junk, V.sc (Value.slice none 0 0), V.sc (Value.slice none 0 0), bo false] ++ jk 98, H := hp [], nx := 0, rt := 0, me := 79 })
              else
               if (0 : Int) ≤ (i : Int) ∧ (i : Int) < (n : Int) then
                if (arg (Int.toNat (i : Int)) != w (wa + (1 : Int))) = true then
                 some (Ans.l Ex.ret { fr := [V.junk, V.junk, V.sc (Value.slice none 0 0), V.sc (Value.slice none 0 0), bo false] ++ jk 98, H := hp [], nx := 0, rt := 0, me := 79 })
                else
                 lo 0 993 (bodyOf E2 79 0) ({ fr := [V.ro 2 n (ins op arg), V.junk, V.junk, V.junk, V.junk, V.sl 0 1 0 (i + 1), V.sl 1 1 0 (i + 1), V.sl 2 1 0 m, i64 (-1), i64 (w ((i : Int) + (1 : Int)))] ++ jk 93, H := hp [some (Chunk.row 3 1 (i + 1) (joinF i (r1 L) fun (j : Nat) => List.getD [[i64 (stk (0 + Int.toNat (w ((m : Int) - (1 : Int)))))]] (0 + j) [])), some (Chunk.row 3 1 (i + 1) (joinF i (r1 W) fun (j : Nat) => List.getD [[i64 wa]] (0 + j) [])), some (Chunk.row 3 1 cp (r1 stk))], nx := 3, rt := 0, me := 79 }) (KC2 480 28)
               else
                none
             else
              lo 0 993 (bodyOf E2 79 0) ({ fr := [V.ro 2 n (ins op arg), V.junk, V.junk, V.junk, V.junk, V.sl 0 1 0 (i + 1), V.sl 1 1 0 (i + 1), V.sl 2 1 0 m, i64 wa, i64 (w ((i : Int) + (1 : Int)))] ++ jk 93, H := hp [some (Chunk.row 3 1 (i + 1) (joinF i (r1 L) fun (j : Nat) => List.getD [[i64 (stk (0 + Int.toNat (w ((m : Int) - (1 : Int)))))]] (0 + j) [])), some (Chunk.row 3 1 (i + 1) (joinF i (r1 W) fun (j : Nat) => List.getD [[i64 wa]] (0 + j) [])), some (Chunk.row 3 1 cp (r1 stk))], nx := 3, rt := 0, me := 79 }) (KC2 480 28)
         else
          none
        else
         none
       else
        none
      else
       none
     else
      if (i + 1) * 8 ≤ roomBound ∧ i + 1 ≤ maxLen ∧ i ≤ i then
       if (i + 1) * 8 ≤ roomBound ∧ i + 1 ≤ maxLen ∧ i ≤ i then
        if (op (Int.toNat (i : Int)) == (16 : Int)) = true then
         if (m + 1) * 8 ≤ roomBound ∧ m + 1 ≤ maxLen ∧ m ≤ cp then
          lo 0 993 (bodyOf E2 79 0) ({ fr := [V.ro 2 n (ins op arg), V.junk, V.junk, V.junk, V.junk, V.sl 0 1 0 (i + 1), V.sl 1 1 0 (i + 1), V.sl 2 1 0 (m + 1), i64 wa, i64 (w ((i : Int) + (1 : Int)))] ++ jk 93, H := hp [some (Chunk.row 3 1 (i + 1) (joinF i (r1 L) fun (j : Nat) => List.getD [[i64 (-1)]] (0 + j) [])), some (Chunk.row 3 1 (i + 1) (joinF i (r1 W) fun (j : Nat) => List.getD [[i64 wa]] (0 + j) [])), some (Chunk.row 3 1 (m + 1) (joinF m (r1 stk) fun (j : Nat) => List.getD [[i64 (i : Int)]] (0 + j) []))], nx := 3, rt := 0, me := 79 }) (KC2 480 28)
         else
          none
        else
         if (op (Int.toNat (i : Int)) == (17 : Int)) = true then
          some (Ans.l Ex.ret { fr := [V.junk, V.junk, V.sc (Value.slice none 0 0), V.sc (Value.slice none 0 0), bo false] ++ jk 98, H := hp [], nx := 0, rt := 0, me := 79 })
         else
          if (op (Int.toNat (i : Int)) == (19 : Int)) = true then
           lo 0 993 (bodyOf E2 79 0) ({ fr := [V.ro 2 n (ins op arg), V.junk, V.junk, V.junk, V.junk, V.sl 0 1 0 (i + 1), V.sl 1 1 0 (i + 1), V.sl 2 1 0 m, i64 (i : Int), i64 (w ((i : Int) + (1 : Int)))] ++ jk 93, H := hp [some (Chunk.row 3 1 (i + 1) (joinF i (r1 L) fun (j : Nat) => List.getD [[i64 (-1)]] (0 + j) [])), some (Chunk.row 3 1 (i + 1) (joinF i (r1 W) fun (j : Nat) => List.getD [[i64 wa]] (0 + j) [])), some (Chunk.row 3 1 cp (r1 stk))], nx := 3, rt := 0, me := 79 }) (KC2 480 28)
          else
           if (op (Int.toNat (i : Int)) == (20 : Int)) = true then
            if decide (wa < (0 : Int)) = true then
             some (Ans.l Ex.ret { fr := [V.junk, V.junk, V.sc (Value.slice none 0 0), V.sc (Value.slice none 0 0), bo false] ++ jk 98, H := hp [], nx := 0, rt := 0, me := 79 })
            else
             if (0 : Int) ≤ (i : Int) ∧ (i : Int) < (n : Int) then
              if (arg (Int.toNat (i : Int)) != w (wa + (1 : Int))) = true then
               some (Ans.l Ex.ret { fr := [V.junk, V.junk, V.sc (Value.slice none 0 0), V.sc (Value.slice none 0 0), bo false] ++ jk 98, H := hp [], nx := 0, rt := 0, me := 79 })
              else
               lo 0 993 (bodyOf E2 79 0) ({ fr := [V.ro 2 n (ins op arg), V.junk, V.junk, V.junk, V.junk, V.sl 0 1 0 (i + 1), V.sl 1 1 0 (i + 1), V.sl 2 1 0 m, i64 (-1), i64 (w ((i : Int) + (1 : Int)))] ++ jk 93, H := hp [some (Chunk.row 3 1 (i + 1) (joinF i (r1 L) fun (j : Nat) => List.getD [[i64 (-1)]] (0 + j) [])), some (Chunk.row 3 1 (i + 1) (joinF i (r1 W) fun (j : Nat) => List.getD [[i64 wa]] (0 + j) [])), some (Chunk.row 3 1 cp (r1 stk))], nx := 3, rt := 0, me := 79 }) (KC2 480 28)
             else
              none
           else
            lo 0 993 (bodyOf E2 79 0) ({ fr := [V.ro 2 n (ins op arg), V.junk, V.junk, V.junk, V.junk, V.sl 0 1 0 (i + 1), V.sl 1 1 0 (i + 1), V.sl 2 1 0 m, i64 wa, i64 (w ((i : Int) + (1 : Int)))] ++ jk 93, H := hp [some (Chunk.row 3 1 (i + 1) (joinF i (r1 L) fun (j : Nat) => List.getD [[i64 (-1)]] (0 + j) [])), some (Chunk.row 3 1 (i + 1) (joinF i (r1 W) fun (j : Nat) => List.getD [[i64 wa]] (0 + j) [])), some (Chunk.row 3 1 cp (r1 stk))], nx := 3, rt := 0, me := 79 }) (KC2 480 28)
       else
        none
      else
       none
   else
    none
  else
   some (Ans.l (Ex.exit 0) { fr := [V.junk, V.junk, V.junk, V.junk, V.junk, V.sl 0 1 0 i, V.sl 1 1 0 i, V.sl 2 1 0 m, i64 wa] ++ jk 94, H := hp [some (Chunk.row 3 1 i (r1 L)), some (Chunk.row 3 1 i (r1 W)), some (Chunk.row 3 1 cp (r1 stk))], nx := 3, rt := 0, me := 79 }) := by kernel_rfl

theorem f79b (n : Nat) (op arg L W : Nat → Int) (wa : Int) (S1 : St) (P : Prop) : callK E2 C79 (ltab2 [⟨0, bodyOf E2 79 0, S1, P, .exit 0, T79b n L W wa, .ret, T79r⟩]) 79 [cd n op arg] [] K =
  cl ((bodyOf E2 79 0) = (bodyOf E2 79 0) ∧ LeSt ({ fr := [V.ro 2 n (ins op arg), V.junk, V.junk, V.junk, V.junk, V.sc (Value.slice none 0 0), V.sc (Value.slice none 0 0), V.sc (Value.slice none 0 0), i64 (-1), i64 0] ++ jk 93, H := hp [], nx := 0, rt := 0, me := 79 }) (S1)) (
   cl (P) (
    some (Ans.c (CRes.ret (V.tup [V.sl 0 1 0 n, V.sl 1 1 0 n, bo ((decide (wa < (0 : Int))))]) [some (Chunk.row 3 1 n (r1 L)), some (Chunk.row 3 1 n (r1 W))]))) (
    some (Ans.c (CRes.ret (V.tup [V.sc (Value.slice none 0 0), V.sc (Value.slice none 0 0), bo false]) [])))) (
   none) := by kernel_rfl

theorem f79c (n : Nat) (op arg L W : Nat → Int) (m cp : Nat) (stk : Nat → Int) (wa : Int) (S1 : St) (P : Prop) : callK E2 C79 (ltab2 [⟨0, bodyOf E2 79 0, S1, P, .exit 0, T79c n L W m cp stk wa, .ret, T79r⟩]) 79 [cd n op arg] [] K =
  cl ((bodyOf E2 79 0) = (bodyOf E2 79 0) ∧ LeSt ({ fr := [V.ro 2 n (ins op arg), V.junk, V.junk, V.junk, V.junk, V.sc (Value.slice none 0 0), V.sc (Value.slice none 0 0), V.sc (Value.slice none 0 0), i64 (-1), i64 0] ++ jk 93, H := hp [], nx := 0, rt := 0, me := 79 }) (S1)) (
   cl (P) (
    if ((m : Int) == (0 : Int)) = true then
     some (Ans.c (CRes.ret (V.tup [V.sl 0 1 0 n, V.sl 1 1 0 n, bo ((decide (wa < (0 : Int))))]) [some (Chunk.row 3 1 n (r1 L)), some (Chunk.row 3 1 n (r1 W))]))
    else
     some (Ans.c (CRes.ret (V.tup [V.sl 0 1 0 n, V.sl 1 1 0 n, bo false]) [some (Chunk.row 3 1 n (r1 L)), some (Chunk.row 3 1 n (r1 W))]))) (
    some (Ans.c (CRes.ret (V.tup [V.sc (Value.slice none 0 0), V.sc (Value.slice none 0 0), bo false]) [])))) (
   none) := by kernel_rfl

theorem k79b (n : Nat) (L W : Nat → Int) (wa : Int) : KC2 480 28 (.exit 0) (T79b n L W wa) = some (.l (.exit 0) (T79b n L W wa)) := by kernel_rfl
theorem k79c (n : Nat) (L W : Nat → Int) (m cp : Nat) (stk : Nat → Int) (wa : Int) : KC2 480 28 (.exit 0) (T79c n L W m cp stk wa) = some (.l (.exit 0) (T79c n L W m cp stk wa)) := by kernel_rfl
theorem k79r : KC2 480 28 .ret T79r = some (.l .ret T79r) := by kernel_rfl
def ends79 (n : Nat) (x : Option Cv.Rg) (S : St) : Prop := match x with
  | none => SL E2 (bodyOf E2 79 0) S .ret T79r
  | some q => (q.m = 0 ∧ SL E2 (bodyOf E2 79 0) S (.exit 0) (T79b n q.L q.W q.wa)) ∨ ∃ cp, SL E2 (bodyOf E2 79 0) S (.exit 0) (T79c n q.L q.W q.m cp q.stk q.wa)
theorem ends79_next {n : Nat} {x y : Option Cv.Rg} {S S' S1 : St} (h : ends79 n y S1) (e : x = y) (hn : ∀ lo, loopK E2 C79 lo 0 993 (bodyOf E2 79 0) S (KC2 480 28) = lo 0 993 (bodyOf E2 79 0) S' (KC2 480 28)) (hle : LeSt S' S1) : ends79 n x S := by
  subst e
  cases x with
  | none => exact SL.by2 sC79 hX2 (oneF2 0 (e := .exit 0) (T := T79r) h) ((hn _).trans ((ltab2_hit hle).trans ((cl_neg (fun h => h)).trans k79r)))
  | some q =>
    rcases h with ⟨h0, h⟩ | ⟨cp, h⟩
    · exact .inl ⟨h0, SL.by2 sC79 hX2 (one2 0 (e' := .ret) (T' := T79r) h) ((hn _).trans ((ltab2_hit hle).trans ((cl_pos trivial).trans (k79b _ _ _ _))))⟩
    · exact .inr ⟨cp, SL.by2 sC79 hX2 (one2 0 (e' := .ret) (T' := T79r) h) ((hn _).trans ((ltab2_hit hle).trans ((cl_pos trivial).trans (k79c _ _ _ _ _ _ _))))⟩
theorem ends79_ret {n : Nat} {x : Option Cv.Rg} {S : St} (e : x = none) (hn : ∀ lo, loopK E2 C79 lo 0 993 (bodyOf E2 79 0) S (KC2 480 28) = some (.l .ret T79r)) : ends79 n x S := by
  subst e
  exact SL.by2 sC79 hX2 ltab2_nil (hn _)
theorem join1 (L : Nat → Int) (i : Nat) (v : Int) : ∀ j, j < i + 1 → joinF i (r1 L) (fun (j : Nat) => List.getD [[i64 v]] j []) j = r1 (Cv.upd L i v) j := by
  intro j hj
  unfold joinF r1 Cv.upd
  by_cases h : j < i
  · rw [if_pos h, if_neg (by omega)]
  · have : j = i := by omega
    subst this
    rw [if_neg h, if_pos rfl, Nat.sub_self]
    rfl
theorem get1 (L : Nat → Int) (v : Int) : ∀ j, j < 0 + 1 → (fun (j : Nat) => List.getD [[i64 v]] j []) j = r1 (Cv.upd L 0 v) j := by
  intro j hj
  have : j = 0 := by omega
  subst this
  unfold r1 Cv.upd
  rw [if_pos rfl]
  rfl
structure Inv79 (i m : Nat) (stk : Nat → Int) (wa : Int) : Prop where
  lt : ∀ k, k < m → 0 ≤ stk k ∧ stk k < i
  wa : wa = -1 ∨ (0 ≤ wa ∧ wa < i)
  m : m ≤ i
theorem Inv79.keep {i m : Nat} {stk : Nat → Int} {wa wa' : Int} (h : Inv79 i m stk wa) (hw : wa' = -1 ∨ (0 ≤ wa' ∧ wa' < (i + 1 : Nat))) : Inv79 (i + 1) m stk wa' :=
  ⟨fun k hk => by have := h.lt k hk; omega, hw, by have := h.m; omega⟩
theorem Inv79.push {i m : Nat} {stk : Nat → Int} {wa : Int} (h : Inv79 i m stk wa) : Inv79 (i + 1) (m + 1) (Cv.upd stk m i) wa := by
  refine ⟨fun k hk => ?_, by have := h.wa; omega, by have := h.m; omega⟩
  unfold Cv.upd
  split
  · omega
  · have := h.lt k (by omega); omega
theorem Inv79.pop {i m : Nat} {stk : Nat → Int} {wa : Int} (h : Inv79 i m stk wa) : Inv79 (i + 1) (m - 1) stk wa :=
  ⟨fun k hk => by have := h.lt k (by omega); omega, by have := h.wa; omega, by have := h.m; omega⟩
theorem ne20b {o : Int} (h : o ≠ 20) : (o != (20 : Int)) = true := by simpa using h
theorem eq20b {o : Int} (h : o = 20) : (o != (20 : Int)) = false := by simpa using h
theorem eqT {o k : Int} (h : o = k) : (o == k) = true := by simpa using h
theorem eqF {o k : Int} (h : o ≠ k) : (o == k) = false := by simpa using h
theorem neT {o k : Int} (h : o ≠ k) : (o != k) = true := by simpa using h
theorem neF {o k : Int} (h : o = k) : (o != k) = false := by simpa using h
theorem dT {p : Prop} [Decidable p] (h : p) : decide p = true := decide_eq_true h
theorem dF {p : Prop} [Decidable p] (h : ¬ p) : decide p = false := decide_eq_false h
set_option maxRecDepth 100000 in
theorem loop79 {n : Nat} {op arg : Nat → Int} (vs : Int) (hn : n ≤ 300) : ∀ r : Nat, (∀ (i : Nat) (L W stk : Nat → Int) (wa : Int), i + r = n → Inv79 i 0 stk wa → ends79 n (Cv.regR (mkC vs n op arg) r i ⟨L, W, 0, stk, wa⟩) (S79b n op arg i L W wa)) ∧ (∀ (i : Nat) (L W : Nat → Int) (m cp : Nat) (stk : Nat → Int) (wa : Int), i + r = n → m ≤ cp → Inv79 i m stk wa → ends79 n (Cv.regR (mkC vs n op arg) r i ⟨L, W, m, stk, wa⟩) (S79c n op arg i L W m cp stk wa)) := by
  intro r
  induction r with
  | zero =>
    refine ⟨fun i L W stk wa hi hv => .inl ⟨rfl, ?_⟩, fun i L W m cp stk wa hi hcp hv => .inr ⟨cp, ?_⟩⟩
    · have : i = n := by omega
      subst this
      exact SL.by2 (m := 480) (r := 28) sC79 hX2 ltab2_nil ((r79b _ _ _ _ _ _ _ _).trans (by rw [if_neg (by simp)]; rfl))
    · have : i = n := by omega
      subst this
      exact SL.by2 (m := 480) (r := 28) sC79 hX2 ltab2_nil ((r79c _ _ _ _ _ _ _ _ _ _ _).trans (by rw [if_neg (by simp)]; rfl))
  | succ r ih =>
   refine ⟨fun i L W stk wa hi hv => ?_, fun i L W m cp stk wa hi hcp hv => ?_⟩
   · have hi' : i < n := by omega
     have hid : decide ((i : Int) < (n : Int)) = true := by simpa using hi'
     have hbb : (0 : Int) ≤ (i : Int) ∧ (i : Int) < (n : Int) := by omega
     have hq : QI1 [i64 (op i)] ∧ True := ⟨⟨_, rfl⟩, trivial⟩
     have ew : w ((i : Int) + 1) = ((i + 1 : Nat) : Int) := by rw [w_in (by unfold inR; omega)]; omega
     have hroom : (i + 1) * 8 ≤ roomBound ∧ i + 1 ≤ Go.maxLen ∧ i ≤ i := by unfold roomBound Go.maxLen; omega
     have tree := fun lo => r79b n op arg i L W wa lo
     simp only [Int.toNat_natCast, Nat.zero_add, ew, if_pos hid, if_pos hbb, eq_self, if_pos hroom] at tree
     have pl : Cv.regR (mkC vs n op arg) (r + 1) i ⟨L, W, 0, stk, wa⟩ = (if 0 ≤ wa ∧ op i ≠ 20 ∧ Cv.pureR (op i) = false then none
         else if op i = 16 then Cv.regR (mkC vs n op arg) r (i + 1) ⟨Cv.upd L i (-1), Cv.upd W i wa, 0 + 1, Cv.upd stk 0 i, wa⟩
         else if op i = 17 then (if (-1) < 0 ∨ arg i ≠ (-1) + 1 then none else Cv.regR (mkC vs n op arg) r (i + 1) ⟨Cv.upd L i (-1), Cv.upd W i wa, 0 - 1, stk, wa⟩)
         else if op i = 19 then Cv.regR (mkC vs n op arg) r (i + 1) ⟨Cv.upd L i (-1), Cv.upd W i wa, 0, stk, i⟩
         else if op i = 20 then (if wa < 0 ∨ arg i ≠ wa + 1 then none else Cv.regR (mkC vs n op arg) r (i + 1) ⟨Cv.upd L i (-1), Cv.upd W i wa, 0, stk, -1⟩)
         else Cv.regR (mkC vs n op arg) r (i + 1) ⟨Cv.upd L i (-1), Cv.upd W i wa, 0, stk, wa⟩) := by
       have := Cv.regR.eq_2 (mkC vs n op arg) i ⟨L, W, 0, stk, wa⟩ r
       rw [show Cv.Rg.top ⟨L, W, 0, stk, wa⟩ = -1 from rfl] at this
       exact this
     have htp : (-1 : Int) < 0 := by omega
     by_cases hw : 0 ≤ wa
     · by_cases h20 : op i = 20
       · have hA : ¬ (0 ≤ wa ∧ op i ≠ 20 ∧ Cv.pureR (op i) = false) := fun h => h.2.1 h20
         by_cases h16 : op i = 16
         · have t := tree
           simp only [dT (show wa ≥ 0 from hw), neF h20, eqT h16, if_true, if_false, Bool.false_eq_true, reduceIte] at t
           exact ends79_next (ih.2 (i + 1) _ _ (0 + 1) (0 + 1) _ _ (by omega) (Nat.le_refl _) hv.push) (by rw [pl, if_neg hA, if_pos h16]) t (LeSt.mk' (LeL.refl _) ⟨ChLe.row (join1 _ _ _), ChLe.row (join1 _ _ _), ChLe.row (get1 _ _), trivial⟩)
         by_cases h17 : op i = 17
         · have t := tree
           simp only [dT (show wa ≥ 0 from hw), neF h20, eqF h16, eqT h17, if_true, if_false, Bool.false_eq_true, reduceIte] at t
           exact ends79_ret (by rw [pl, if_neg hA, if_neg h16, if_pos h17, if_pos (.inl htp)]) t
         by_cases h19 : op i = 19
         · have t := tree
           simp only [dT (show wa ≥ 0 from hw), neF h20, eqF h16, eqF h17, eqT h19, if_true, if_false, Bool.false_eq_true, reduceIte] at t
           exact ends79_next (ih.1 (i + 1) _ _ stk _ (by omega) (hv.keep (.inr (by omega)))) (by rw [pl, if_neg hA, if_neg h16, if_neg h17, if_pos h19]) t (LeSt.mk' (LeL.refl _) ⟨ChLe.row (join1 _ _ _), ChLe.row (join1 _ _ _), trivial⟩)
         by_cases h20' : op i = 20
         · by_cases hw' : wa < 0
           · have t := tree
             simp only [dT (show wa ≥ 0 from hw), neF h20, eqF h16, eqF h17, eqF h19, eqT h20', dT hw', if_true, if_false, Bool.false_eq_true, reduceIte] at t
             exact ends79_ret (by rw [pl, if_neg hA, if_neg h16, if_neg h17, if_neg h19, if_pos h20', if_pos (.inl hw')]) t
           have ewa : w (wa + 1) = wa + 1 := w_in (by have := hv.wa; unfold inR; omega)
           by_cases ha : arg i = wa + 1
           · have t := tree
             simp only [dT (show wa ≥ 0 from hw), neF h20, eqF h16, eqF h17, eqF h19, eqT h20', dF hw', ewa, neF ha, if_true, if_false, Bool.false_eq_true, reduceIte] at t
             exact ends79_next (ih.1 (i + 1) _ _ stk _ (by omega) (hv.keep (.inl rfl))) (by rw [pl, if_neg hA, if_neg h16, if_neg h17, if_neg h19, if_pos h20', if_neg (by omega)]) t (LeSt.mk' (LeL.refl _) ⟨ChLe.row (join1 _ _ _), ChLe.row (join1 _ _ _), trivial⟩)
           · have t := tree
             simp only [dT (show wa ≥ 0 from hw), neF h20, eqF h16, eqF h17, eqF h19, eqT h20', dF hw', ewa, neT ha, if_true, if_false, Bool.false_eq_true, reduceIte] at t
             exact ends79_ret (by rw [pl, if_neg hA, if_neg h16, if_neg h17, if_neg h19, if_pos h20', if_pos (.inr ha)]) t
         have t := tree
         simp only [dT (show wa ≥ 0 from hw), neF h20, eqF h16, eqF h17, eqF h19, eqF h20', if_true, if_false, Bool.false_eq_true, reduceIte] at t
         exact ends79_next (ih.1 (i + 1) _ _ stk _ (by omega) (hv.keep (by have := hv.wa; omega))) (by rw [pl, if_neg hA, if_neg h16, if_neg h17, if_neg h19, if_neg h20']) t (LeSt.mk' (LeL.refl _) ⟨ChLe.row (join1 _ _ _), ChLe.row (join1 _ _ _), trivial⟩)
       · cases hpu : Cv.pureR (op i) with
         | false =>
           have t := tree
           simp only [dT (show wa ≥ 0 from hw), neT h20, cl_pos hq, hpu, Bool.not_false, if_true] at t
           exact ends79_ret (by rw [pl, if_pos ⟨hw, h20, hpu⟩]) t
         | true =>
           have hA : ¬ (0 ≤ wa ∧ op i ≠ 20 ∧ Cv.pureR (op i) = false) := fun h => by rw [hpu] at h; exact absurd h.2.2 (by decide)
           by_cases h16 : op i = 16
           · have t := tree
             simp only [dT (show wa ≥ 0 from hw), neT h20, cl_pos hq, hpu, Bool.not_true, eqT h16, if_true, if_false, Bool.false_eq_true, reduceIte] at t
             exact ends79_next (ih.2 (i + 1) _ _ (0 + 1) (0 + 1) _ _ (by omega) (Nat.le_refl _) hv.push) (by rw [pl, if_neg hA, if_pos h16]) t (LeSt.mk' (LeL.refl _) ⟨ChLe.row (join1 _ _ _), ChLe.row (join1 _ _ _), ChLe.row (get1 _ _), trivial⟩)
           by_cases h17 : op i = 17
           · have t := tree
             simp only [dT (show wa ≥ 0 from hw), neT h20, cl_pos hq, hpu, Bool.not_true, eqF h16, eqT h17, if_true, if_false, Bool.false_eq_true, reduceIte] at t
             exact ends79_ret (by rw [pl, if_neg hA, if_neg h16, if_pos h17, if_pos (.inl htp)]) t
           by_cases h19 : op i = 19
           · have t := tree
             simp only [dT (show wa ≥ 0 from hw), neT h20, cl_pos hq, hpu, Bool.not_true, eqF h16, eqF h17, eqT h19, if_true, if_false, Bool.false_eq_true, reduceIte] at t
             exact ends79_next (ih.1 (i + 1) _ _ stk _ (by omega) (hv.keep (.inr (by omega)))) (by rw [pl, if_neg hA, if_neg h16, if_neg h17, if_pos h19]) t (LeSt.mk' (LeL.refl _) ⟨ChLe.row (join1 _ _ _), ChLe.row (join1 _ _ _), trivial⟩)
           by_cases h20' : op i = 20
           · by_cases hw' : wa < 0
             · have t := tree
               simp only [dT (show wa ≥ 0 from hw), neT h20, cl_pos hq, hpu, Bool.not_true, eqF h16, eqF h17, eqF h19, eqT h20', dT hw', if_true, if_false, Bool.false_eq_true, reduceIte] at t
               exact ends79_ret (by rw [pl, if_neg hA, if_neg h16, if_neg h17, if_neg h19, if_pos h20', if_pos (.inl hw')]) t
             have ewa : w (wa + 1) = wa + 1 := w_in (by have := hv.wa; unfold inR; omega)
             by_cases ha : arg i = wa + 1
             · have t := tree
               simp only [dT (show wa ≥ 0 from hw), neT h20, cl_pos hq, hpu, Bool.not_true, eqF h16, eqF h17, eqF h19, eqT h20', dF hw', ewa, neF ha, if_true, if_false, Bool.false_eq_true, reduceIte] at t
               exact ends79_next (ih.1 (i + 1) _ _ stk _ (by omega) (hv.keep (.inl rfl))) (by rw [pl, if_neg hA, if_neg h16, if_neg h17, if_neg h19, if_pos h20', if_neg (by omega)]) t (LeSt.mk' (LeL.refl _) ⟨ChLe.row (join1 _ _ _), ChLe.row (join1 _ _ _), trivial⟩)
             · have t := tree
               simp only [dT (show wa ≥ 0 from hw), neT h20, cl_pos hq, hpu, Bool.not_true, eqF h16, eqF h17, eqF h19, eqT h20', dF hw', ewa, neT ha, if_true, if_false, Bool.false_eq_true, reduceIte] at t
               exact ends79_ret (by rw [pl, if_neg hA, if_neg h16, if_neg h17, if_neg h19, if_pos h20', if_pos (.inr ha)]) t
           have t := tree
           simp only [dT (show wa ≥ 0 from hw), neT h20, cl_pos hq, hpu, Bool.not_true, eqF h16, eqF h17, eqF h19, eqF h20', if_true, if_false, Bool.false_eq_true, reduceIte] at t
           exact ends79_next (ih.1 (i + 1) _ _ stk _ (by omega) (hv.keep (by have := hv.wa; omega))) (by rw [pl, if_neg hA, if_neg h16, if_neg h17, if_neg h19, if_neg h20']) t (LeSt.mk' (LeL.refl _) ⟨ChLe.row (join1 _ _ _), ChLe.row (join1 _ _ _), trivial⟩)
     · have hA : ¬ (0 ≤ wa ∧ op i ≠ 20 ∧ Cv.pureR (op i) = false) := fun h => hw h.1
       by_cases h16 : op i = 16
       · have t := tree
         simp only [dF (show ¬ wa ≥ 0 from hw), eqT h16, if_true, if_false, Bool.false_eq_true, reduceIte] at t
         exact ends79_next (ih.2 (i + 1) _ _ (0 + 1) (0 + 1) _ _ (by omega) (Nat.le_refl _) hv.push) (by rw [pl, if_neg hA, if_pos h16]) t (LeSt.mk' (LeL.refl _) ⟨ChLe.row (join1 _ _ _), ChLe.row (join1 _ _ _), ChLe.row (get1 _ _), trivial⟩)
       by_cases h17 : op i = 17
       · have t := tree
         simp only [dF (show ¬ wa ≥ 0 from hw), eqF h16, eqT h17, if_true, if_false, Bool.false_eq_true, reduceIte] at t
         exact ends79_ret (by rw [pl, if_neg hA, if_neg h16, if_pos h17, if_pos (.inl htp)]) t
       by_cases h19 : op i = 19
       · have t := tree
         simp only [dF (show ¬ wa ≥ 0 from hw), eqF h16, eqF h17, eqT h19, if_true, if_false, Bool.false_eq_true, reduceIte] at t
         exact ends79_next (ih.1 (i + 1) _ _ stk _ (by omega) (hv.keep (.inr (by omega)))) (by rw [pl, if_neg hA, if_neg h16, if_neg h17, if_pos h19]) t (LeSt.mk' (LeL.refl _) ⟨ChLe.row (join1 _ _ _), ChLe.row (join1 _ _ _), trivial⟩)
       by_cases h20' : op i = 20
       · by_cases hw' : wa < 0
         · have t := tree
           simp only [dF (show ¬ wa ≥ 0 from hw), eqF h16, eqF h17, eqF h19, eqT h20', dT hw', if_true, if_false, Bool.false_eq_true, reduceIte] at t
           exact ends79_ret (by rw [pl, if_neg hA, if_neg h16, if_neg h17, if_neg h19, if_pos h20', if_pos (.inl hw')]) t
         have ewa : w (wa + 1) = wa + 1 := w_in (by have := hv.wa; unfold inR; omega)
         by_cases ha : arg i = wa + 1
         · have t := tree
           simp only [dF (show ¬ wa ≥ 0 from hw), eqF h16, eqF h17, eqF h19, eqT h20', dF hw', ewa, neF ha, if_true, if_false, Bool.false_eq_true, reduceIte] at t
           exact ends79_next (ih.1 (i + 1) _ _ stk _ (by omega) (hv.keep (.inl rfl))) (by rw [pl, if_neg hA, if_neg h16, if_neg h17, if_neg h19, if_pos h20', if_neg (by omega)]) t (LeSt.mk' (LeL.refl _) ⟨ChLe.row (join1 _ _ _), ChLe.row (join1 _ _ _), trivial⟩)
         · have t := tree
           simp only [dF (show ¬ wa ≥ 0 from hw), eqF h16, eqF h17, eqF h19, eqT h20', dF hw', ewa, neT ha, if_true, if_false, Bool.false_eq_true, reduceIte] at t
           exact ends79_ret (by rw [pl, if_neg hA, if_neg h16, if_neg h17, if_neg h19, if_pos h20', if_pos (.inr ha)]) t
       have t := tree
       simp only [dF (show ¬ wa ≥ 0 from hw), eqF h16, eqF h17, eqF h19, eqF h20', if_true, if_false, Bool.false_eq_true, reduceIte] at t
       exact ends79_next (ih.1 (i + 1) _ _ stk _ (by omega) (hv.keep (by have := hv.wa; omega))) (by rw [pl, if_neg hA, if_neg h16, if_neg h17, if_neg h19, if_neg h20']) t (LeSt.mk' (LeL.refl _) ⟨ChLe.row (join1 _ _ _), ChLe.row (join1 _ _ _), trivial⟩)
   · have hi' : i < n := by omega
     have hid : decide ((i : Int) < (n : Int)) = true := by simpa using hi'
     have hbb : (0 : Int) ≤ (i : Int) ∧ (i : Int) < (n : Int) := by omega
     have hq : QI1 [i64 (op i)] ∧ True := ⟨⟨_, rfl⟩, trivial⟩
     have ew : w ((i : Int) + 1) = ((i + 1 : Nat) : Int) := by rw [w_in (by unfold inR; omega)]; omega
     have hroom : (i + 1) * 8 ≤ roomBound ∧ i + 1 ≤ Go.maxLen ∧ i ≤ i := by unfold roomBound Go.maxLen; omega
     have hmi := hv.m
     have hroom2 : (m + 1) * 8 ≤ roomBound ∧ m + 1 ≤ Go.maxLen ∧ m ≤ cp := by unfold roomBound Go.maxLen; omega
     have tree := fun lo => r79c n op arg i L W m cp stk wa lo
     by_cases hm : 0 < m
     · have em : w ((m : Int) - 1) = ((m - 1 : Nat) : Int) := by rw [w_in (by unfold inR; omega)]; omega
       have hb1 : (0 : Int) ≤ ((m - 1 : Nat) : Int) ∧ ((m - 1 : Nat) : Int) < (m : Int) := by omega
       have hb2 : m - 1 < cp ∧ True := ⟨by omega, trivial⟩
       have hb3 : (0 : Int) ≤ (0 : Int) ∧ (0 : Int) ≤ ((m - 1 : Nat) : Int) ∧ ((m - 1 : Nat) : Int) ≤ (m : Int) := by omega
       have hlt := hv.lt (m - 1) (by omega)
       have hneg : ¬ stk (m - 1) < 0 := by omega
       have es : w (stk (m - 1) + 1) = stk (m - 1) + 1 := w_in (by unfold inR; omega)
       have hgt : decide ((m : Int) > (0 : Int)) = true := by simpa using hm
       have e00 : Int.toNat 0 = 0 := rfl
       simp only [em, Int.toNat_natCast, Nat.zero_add, ew, if_pos hid, if_pos hbb, eq_self, if_pos hroom, if_pos hroom2, if_pos hgt, if_pos hb1, if_pos hb2, if_pos hb3, es, e00, Nat.sub_zero] at tree
       have pl : Cv.regR (mkC vs n op arg) (r + 1) i ⟨L, W, m, stk, wa⟩ = (if 0 ≤ wa ∧ op i ≠ 20 ∧ Cv.pureR (op i) = false then none
           else if op i = 16 then Cv.regR (mkC vs n op arg) r (i + 1) ⟨Cv.upd L i (stk (m - 1)), Cv.upd W i wa, m + 1, Cv.upd stk m i, wa⟩
           else if op i = 17 then (if (stk (m - 1)) < 0 ∨ arg i ≠ (stk (m - 1)) + 1 then none else Cv.regR (mkC vs n op arg) r (i + 1) ⟨Cv.upd L i (stk (m - 1)), Cv.upd W i wa, m - 1, stk, wa⟩)
           else if op i = 19 then Cv.regR (mkC vs n op arg) r (i + 1) ⟨Cv.upd L i (stk (m - 1)), Cv.upd W i wa, m, stk, i⟩
           else if op i = 20 then (if wa < 0 ∨ arg i ≠ wa + 1 then none else Cv.regR (mkC vs n op arg) r (i + 1) ⟨Cv.upd L i (stk (m - 1)), Cv.upd W i wa, m, stk, -1⟩)
           else Cv.regR (mkC vs n op arg) r (i + 1) ⟨Cv.upd L i (stk (m - 1)), Cv.upd W i wa, m, stk, wa⟩) := by
         have := Cv.regR.eq_2 (mkC vs n op arg) i ⟨L, W, m, stk, wa⟩ r
         rw [show Cv.Rg.top ⟨L, W, m, stk, wa⟩ = stk (m - 1) from if_pos hm] at this
         exact this
       by_cases hw : 0 ≤ wa
       · by_cases h20 : op i = 20
         · have hA : ¬ (0 ≤ wa ∧ op i ≠ 20 ∧ Cv.pureR (op i) = false) := fun h => h.2.1 h20
           by_cases h16 : op i = 16
           · have t := tree
             simp only [dT (show wa ≥ 0 from hw), neF h20, eqT h16, if_true, if_false, Bool.false_eq_true, reduceIte] at t
             exact ends79_next (ih.2 (i + 1) _ _ (m + 1) (m + 1) _ _ (by omega) (Nat.le_refl _) hv.push) (by rw [pl, if_neg hA, if_pos h16]) t (LeSt.mk' (LeL.refl _) ⟨ChLe.row (join1 _ _ _), ChLe.row (join1 _ _ _), ChLe.row (join1 _ _ _), trivial⟩)
           by_cases h17 : op i = 17
           · by_cases ha : arg i = stk (m - 1) + 1
             · have t := tree
               simp only [dT (show wa ≥ 0 from hw), neF h20, eqF h16, eqT h17, dF hneg, neF ha, if_true, if_false, Bool.false_eq_true, reduceIte] at t
               exact ends79_next (ih.2 (i + 1) _ _ (m - 1) cp stk _ (by omega) (by omega) hv.pop) (by rw [pl, if_neg hA, if_neg h16, if_pos h17, if_neg (by omega)]) t (LeSt.mk' (LeL.refl _) ⟨ChLe.row (join1 _ _ _), ChLe.row (join1 _ _ _), ChLe.refl _, trivial⟩)
             · have t := tree
               simp only [dT (show wa ≥ 0 from hw), neF h20, eqF h16, eqT h17, dF hneg, neT ha, if_true, if_false, Bool.false_eq_true, reduceIte] at t
               exact ends79_ret (by rw [pl, if_neg hA, if_neg h16, if_pos h17, if_pos (.inr ha)]) t
           by_cases h19 : op i = 19
           · have t := tree
             simp only [dT (show wa ≥ 0 from hw), neF h20, eqF h16, eqF h17, eqT h19, if_true, if_false, Bool.false_eq_true, reduceIte] at t
             exact ends79_next (ih.2 (i + 1) _ _ m cp stk _ (by omega) hcp (hv.keep (.inr (by omega)))) (by rw [pl, if_neg hA, if_neg h16, if_neg h17, if_pos h19]) t (LeSt.mk' (LeL.refl _) ⟨ChLe.row (join1 _ _ _), ChLe.row (join1 _ _ _), ChLe.refl _, trivial⟩)
           by_cases h20' : op i = 20
           · by_cases hw' : wa < 0
             · have t := tree
               simp only [dT (show wa ≥ 0 from hw), neF h20, eqF h16, eqF h17, eqF h19, eqT h20', dT hw', if_true, if_false, Bool.false_eq_true, reduceIte] at t
               exact ends79_ret (by rw [pl, if_neg hA, if_neg h16, if_neg h17, if_neg h19, if_pos h20', if_pos (.inl hw')]) t
             have ewa : w (wa + 1) = wa + 1 := w_in (by have := hv.wa; unfold inR; omega)
             by_cases ha : arg i = wa + 1
             · have t := tree
               simp only [dT (show wa ≥ 0 from hw), neF h20, eqF h16, eqF h17, eqF h19, eqT h20', dF hw', ewa, neF ha, if_true, if_false, Bool.false_eq_true, reduceIte] at t
               exact ends79_next (ih.2 (i + 1) _ _ m cp stk _ (by omega) hcp (hv.keep (.inl rfl))) (by rw [pl, if_neg hA, if_neg h16, if_neg h17, if_neg h19, if_pos h20', if_neg (by omega)]) t (LeSt.mk' (LeL.refl _) ⟨ChLe.row (join1 _ _ _), ChLe.row (join1 _ _ _), ChLe.refl _, trivial⟩)
             · have t := tree
               simp only [dT (show wa ≥ 0 from hw), neF h20, eqF h16, eqF h17, eqF h19, eqT h20', dF hw', ewa, neT ha, if_true, if_false, Bool.false_eq_true, reduceIte] at t
               exact ends79_ret (by rw [pl, if_neg hA, if_neg h16, if_neg h17, if_neg h19, if_pos h20', if_pos (.inr ha)]) t
           have t := tree
           simp only [dT (show wa ≥ 0 from hw), neF h20, eqF h16, eqF h17, eqF h19, eqF h20', if_true, if_false, Bool.false_eq_true, reduceIte] at t
           exact ends79_next (ih.2 (i + 1) _ _ m cp stk _ (by omega) hcp (hv.keep (by have := hv.wa; omega))) (by rw [pl, if_neg hA, if_neg h16, if_neg h17, if_neg h19, if_neg h20']) t (LeSt.mk' (LeL.refl _) ⟨ChLe.row (join1 _ _ _), ChLe.row (join1 _ _ _), ChLe.refl _, trivial⟩)
         · cases hpu : Cv.pureR (op i) with
           | false =>
             have t := tree
             simp only [dT (show wa ≥ 0 from hw), neT h20, cl_pos hq, hpu, Bool.not_false, if_true] at t
             exact ends79_ret (by rw [pl, if_pos ⟨hw, h20, hpu⟩]) t
           | true =>
             have hA : ¬ (0 ≤ wa ∧ op i ≠ 20 ∧ Cv.pureR (op i) = false) := fun h => by rw [hpu] at h; exact absurd h.2.2 (by decide)
             by_cases h16 : op i = 16
             · have t := tree
               simp only [dT (show wa ≥ 0 from hw), neT h20, cl_pos hq, hpu, Bool.not_true, eqT h16, if_true, if_false, Bool.false_eq_true, reduceIte] at t
               exact ends79_next (ih.2 (i + 1) _ _ (m + 1) (m + 1) _ _ (by omega) (Nat.le_refl _) hv.push) (by rw [pl, if_neg hA, if_pos h16]) t (LeSt.mk' (LeL.refl _) ⟨ChLe.row (join1 _ _ _), ChLe.row (join1 _ _ _), ChLe.row (join1 _ _ _), trivial⟩)
             by_cases h17 : op i = 17
             · by_cases ha : arg i = stk (m - 1) + 1
               · have t := tree
                 simp only [dT (show wa ≥ 0 from hw), neT h20, cl_pos hq, hpu, Bool.not_true, eqF h16, eqT h17, dF hneg, neF ha, if_true, if_false, Bool.false_eq_true, reduceIte] at t
                 exact ends79_next (ih.2 (i + 1) _ _ (m - 1) cp stk _ (by omega) (by omega) hv.pop) (by rw [pl, if_neg hA, if_neg h16, if_pos h17, if_neg (by omega)]) t (LeSt.mk' (LeL.refl _) ⟨ChLe.row (join1 _ _ _), ChLe.row (join1 _ _ _), ChLe.refl _, trivial⟩)
               · have t := tree
                 simp only [dT (show wa ≥ 0 from hw), neT h20, cl_pos hq, hpu, Bool.not_true, eqF h16, eqT h17, dF hneg, neT ha, if_true, if_false, Bool.false_eq_true, reduceIte] at t
                 exact ends79_ret (by rw [pl, if_neg hA, if_neg h16, if_pos h17, if_pos (.inr ha)]) t
             by_cases h19 : op i = 19
             · have t := tree
               simp only [dT (show wa ≥ 0 from hw), neT h20, cl_pos hq, hpu, Bool.not_true, eqF h16, eqF h17, eqT h19, if_true, if_false, Bool.false_eq_true, reduceIte] at t
               exact ends79_next (ih.2 (i + 1) _ _ m cp stk _ (by omega) hcp (hv.keep (.inr (by omega)))) (by rw [pl, if_neg hA, if_neg h16, if_neg h17, if_pos h19]) t (LeSt.mk' (LeL.refl _) ⟨ChLe.row (join1 _ _ _), ChLe.row (join1 _ _ _), ChLe.refl _, trivial⟩)
             by_cases h20' : op i = 20
             · by_cases hw' : wa < 0
               · have t := tree
                 simp only [dT (show wa ≥ 0 from hw), neT h20, cl_pos hq, hpu, Bool.not_true, eqF h16, eqF h17, eqF h19, eqT h20', dT hw', if_true, if_false, Bool.false_eq_true, reduceIte] at t
                 exact ends79_ret (by rw [pl, if_neg hA, if_neg h16, if_neg h17, if_neg h19, if_pos h20', if_pos (.inl hw')]) t
               have ewa : w (wa + 1) = wa + 1 := w_in (by have := hv.wa; unfold inR; omega)
               by_cases ha : arg i = wa + 1
               · have t := tree
                 simp only [dT (show wa ≥ 0 from hw), neT h20, cl_pos hq, hpu, Bool.not_true, eqF h16, eqF h17, eqF h19, eqT h20', dF hw', ewa, neF ha, if_true, if_false, Bool.false_eq_true, reduceIte] at t
                 exact ends79_next (ih.2 (i + 1) _ _ m cp stk _ (by omega) hcp (hv.keep (.inl rfl))) (by rw [pl, if_neg hA, if_neg h16, if_neg h17, if_neg h19, if_pos h20', if_neg (by omega)]) t (LeSt.mk' (LeL.refl _) ⟨ChLe.row (join1 _ _ _), ChLe.row (join1 _ _ _), ChLe.refl _, trivial⟩)
               · have t := tree
                 simp only [dT (show wa ≥ 0 from hw), neT h20, cl_pos hq, hpu, Bool.not_true, eqF h16, eqF h17, eqF h19, eqT h20', dF hw', ewa, neT ha, if_true, if_false, Bool.false_eq_true, reduceIte] at t
                 exact ends79_ret (by rw [pl, if_neg hA, if_neg h16, if_neg h17, if_neg h19, if_pos h20', if_pos (.inr ha)]) t
             have t := tree
             simp only [dT (show wa ≥ 0 from hw), neT h20, cl_pos hq, hpu, Bool.not_true, eqF h16, eqF h17, eqF h19, eqF h20', if_true, if_false, Bool.false_eq_true, reduceIte] at t
             exact ends79_next (ih.2 (i + 1) _ _ m cp stk _ (by omega) hcp (hv.keep (by have := hv.wa; omega))) (by rw [pl, if_neg hA, if_neg h16, if_neg h17, if_neg h19, if_neg h20']) t (LeSt.mk' (LeL.refl _) ⟨ChLe.row (join1 _ _ _), ChLe.row (join1 _ _ _), ChLe.refl _, trivial⟩)
       · have hA : ¬ (0 ≤ wa ∧ op i ≠ 20 ∧ Cv.pureR (op i) = false) := fun h => hw h.1
         by_cases h16 : op i = 16
         · have t := tree
           simp only [dF (show ¬ wa ≥ 0 from hw), eqT h16, if_true, if_false, Bool.false_eq_true, reduceIte] at t
           exact ends79_next (ih.2 (i + 1) _ _ (m + 1) (m + 1) _ _ (by omega) (Nat.le_refl _) hv.push) (by rw [pl, if_neg hA, if_pos h16]) t (LeSt.mk' (LeL.refl _) ⟨ChLe.row (join1 _ _ _), ChLe.row (join1 _ _ _), ChLe.row (join1 _ _ _), trivial⟩)
         by_cases h17 : op i = 17
         · by_cases ha : arg i = stk (m - 1) + 1
           · have t := tree
             simp only [dF (show ¬ wa ≥ 0 from hw), eqF h16, eqT h17, dF hneg, neF ha, if_true, if_false, Bool.false_eq_true, reduceIte] at t
             exact ends79_next (ih.2 (i + 1) _ _ (m - 1) cp stk _ (by omega) (by omega) hv.pop) (by rw [pl, if_neg hA, if_neg h16, if_pos h17, if_neg (by omega)]) t (LeSt.mk' (LeL.refl _) ⟨ChLe.row (join1 _ _ _), ChLe.row (join1 _ _ _), ChLe.refl _, trivial⟩)
           · have t := tree
             simp only [dF (show ¬ wa ≥ 0 from hw), eqF h16, eqT h17, dF hneg, neT ha, if_true, if_false, Bool.false_eq_true, reduceIte] at t
             exact ends79_ret (by rw [pl, if_neg hA, if_neg h16, if_pos h17, if_pos (.inr ha)]) t
         by_cases h19 : op i = 19
         · have t := tree
           simp only [dF (show ¬ wa ≥ 0 from hw), eqF h16, eqF h17, eqT h19, if_true, if_false, Bool.false_eq_true, reduceIte] at t
           exact ends79_next (ih.2 (i + 1) _ _ m cp stk _ (by omega) hcp (hv.keep (.inr (by omega)))) (by rw [pl, if_neg hA, if_neg h16, if_neg h17, if_pos h19]) t (LeSt.mk' (LeL.refl _) ⟨ChLe.row (join1 _ _ _), ChLe.row (join1 _ _ _), ChLe.refl _, trivial⟩)
         by_cases h20' : op i = 20
         · by_cases hw' : wa < 0
           · have t := tree
             simp only [dF (show ¬ wa ≥ 0 from hw), eqF h16, eqF h17, eqF h19, eqT h20', dT hw', if_true, if_false, Bool.false_eq_true, reduceIte] at t
             exact ends79_ret (by rw [pl, if_neg hA, if_neg h16, if_neg h17, if_neg h19, if_pos h20', if_pos (.inl hw')]) t
           have ewa : w (wa + 1) = wa + 1 := w_in (by have := hv.wa; unfold inR; omega)
           by_cases ha : arg i = wa + 1
           · have t := tree
             simp only [dF (show ¬ wa ≥ 0 from hw), eqF h16, eqF h17, eqF h19, eqT h20', dF hw', ewa, neF ha, if_true, if_false, Bool.false_eq_true, reduceIte] at t
             exact ends79_next (ih.2 (i + 1) _ _ m cp stk _ (by omega) hcp (hv.keep (.inl rfl))) (by rw [pl, if_neg hA, if_neg h16, if_neg h17, if_neg h19, if_pos h20', if_neg (by omega)]) t (LeSt.mk' (LeL.refl _) ⟨ChLe.row (join1 _ _ _), ChLe.row (join1 _ _ _), ChLe.refl _, trivial⟩)
           · have t := tree
             simp only [dF (show ¬ wa ≥ 0 from hw), eqF h16, eqF h17, eqF h19, eqT h20', dF hw', ewa, neT ha, if_true, if_false, Bool.false_eq_true, reduceIte] at t
             exact ends79_ret (by rw [pl, if_neg hA, if_neg h16, if_neg h17, if_neg h19, if_pos h20', if_pos (.inr ha)]) t
         have t := tree
         simp only [dF (show ¬ wa ≥ 0 from hw), eqF h16, eqF h17, eqF h19, eqF h20', if_true, if_false, Bool.false_eq_true, reduceIte] at t
         exact ends79_next (ih.2 (i + 1) _ _ m cp stk _ (by omega) hcp (hv.keep (by have := hv.wa; omega))) (by rw [pl, if_neg hA, if_neg h16, if_neg h17, if_neg h19, if_neg h20']) t (LeSt.mk' (LeL.refl _) ⟨ChLe.row (join1 _ _ _), ChLe.row (join1 _ _ _), ChLe.refl _, trivial⟩)
     · have hm0 : m = 0 := by omega
       subst hm0
       have hgt : decide (((0 : Nat) : Int) > (0 : Int)) = false := by decide
       simp only [hgt, Bool.false_eq_true, if_false, Int.toNat_natCast, Nat.zero_add, ew, if_pos hid, if_pos hbb, eq_self, if_pos hroom, if_pos hroom2] at tree
       have pl : Cv.regR (mkC vs n op arg) (r + 1) i ⟨L, W, 0, stk, wa⟩ = (if 0 ≤ wa ∧ op i ≠ 20 ∧ Cv.pureR (op i) = false then none
           else if op i = 16 then Cv.regR (mkC vs n op arg) r (i + 1) ⟨Cv.upd L i (-1), Cv.upd W i wa, 0 + 1, Cv.upd stk 0 i, wa⟩
           else if op i = 17 then (if (-1) < 0 ∨ arg i ≠ (-1) + 1 then none else Cv.regR (mkC vs n op arg) r (i + 1) ⟨Cv.upd L i (-1), Cv.upd W i wa, 0 - 1, stk, wa⟩)
           else if op i = 19 then Cv.regR (mkC vs n op arg) r (i + 1) ⟨Cv.upd L i (-1), Cv.upd W i wa, 0, stk, i⟩
           else if op i = 20 then (if wa < 0 ∨ arg i ≠ wa + 1 then none else Cv.regR (mkC vs n op arg) r (i + 1) ⟨Cv.upd L i (-1), Cv.upd W i wa, 0, stk, -1⟩)
           else Cv.regR (mkC vs n op arg) r (i + 1) ⟨Cv.upd L i (-1), Cv.upd W i wa, 0, stk, wa⟩) := by
         have := Cv.regR.eq_2 (mkC vs n op arg) i ⟨L, W, 0, stk, wa⟩ r
         rw [show Cv.Rg.top ⟨L, W, 0, stk, wa⟩ = -1 from rfl] at this
         exact this
       have htp : (-1 : Int) < 0 := by omega
       by_cases hw : 0 ≤ wa
       · by_cases h20 : op i = 20
         · have hA : ¬ (0 ≤ wa ∧ op i ≠ 20 ∧ Cv.pureR (op i) = false) := fun h => h.2.1 h20
           by_cases h16 : op i = 16
           · have t := tree
             simp only [dT (show wa ≥ 0 from hw), neF h20, eqT h16, if_true, if_false, Bool.false_eq_true, reduceIte] at t
             exact ends79_next (ih.2 (i + 1) _ _ (0 + 1) (0 + 1) _ _ (by omega) (Nat.le_refl _) hv.push) (by rw [pl, if_neg hA, if_pos h16]) t (LeSt.mk' (LeL.refl _) ⟨ChLe.row (join1 _ _ _), ChLe.row (join1 _ _ _), ChLe.row (join1 _ _ _), trivial⟩)
           by_cases h17 : op i = 17
           · have t := tree
             simp only [dT (show wa ≥ 0 from hw), neF h20, eqF h16, eqT h17, if_true, if_false, Bool.false_eq_true, reduceIte] at t
             exact ends79_ret (by rw [pl, if_neg hA, if_neg h16, if_pos h17, if_pos (.inl htp)]) t
           by_cases h19 : op i = 19
           · have t := tree
             simp only [dT (show wa ≥ 0 from hw), neF h20, eqF h16, eqF h17, eqT h19, if_true, if_false, Bool.false_eq_true, reduceIte] at t
             exact ends79_next (ih.2 (i + 1) _ _ 0 cp stk _ (by omega) hcp (hv.keep (.inr (by omega)))) (by rw [pl, if_neg hA, if_neg h16, if_neg h17, if_pos h19]) t (LeSt.mk' (LeL.refl _) ⟨ChLe.row (join1 _ _ _), ChLe.row (join1 _ _ _), ChLe.refl _, trivial⟩)
           by_cases h20' : op i = 20
           · by_cases hw' : wa < 0
             · have t := tree
               simp only [dT (show wa ≥ 0 from hw), neF h20, eqF h16, eqF h17, eqF h19, eqT h20', dT hw', if_true, if_false, Bool.false_eq_true, reduceIte] at t
               exact ends79_ret (by rw [pl, if_neg hA, if_neg h16, if_neg h17, if_neg h19, if_pos h20', if_pos (.inl hw')]) t
             have ewa : w (wa + 1) = wa + 1 := w_in (by have := hv.wa; unfold inR; omega)
             by_cases ha : arg i = wa + 1
             · have t := tree
               simp only [dT (show wa ≥ 0 from hw), neF h20, eqF h16, eqF h17, eqF h19, eqT h20', dF hw', ewa, neF ha, if_true, if_false, Bool.false_eq_true, reduceIte] at t
               exact ends79_next (ih.2 (i + 1) _ _ 0 cp stk _ (by omega) hcp (hv.keep (.inl rfl))) (by rw [pl, if_neg hA, if_neg h16, if_neg h17, if_neg h19, if_pos h20', if_neg (by omega)]) t (LeSt.mk' (LeL.refl _) ⟨ChLe.row (join1 _ _ _), ChLe.row (join1 _ _ _), ChLe.refl _, trivial⟩)
             · have t := tree
               simp only [dT (show wa ≥ 0 from hw), neF h20, eqF h16, eqF h17, eqF h19, eqT h20', dF hw', ewa, neT ha, if_true, if_false, Bool.false_eq_true, reduceIte] at t
               exact ends79_ret (by rw [pl, if_neg hA, if_neg h16, if_neg h17, if_neg h19, if_pos h20', if_pos (.inr ha)]) t
           have t := tree
           simp only [dT (show wa ≥ 0 from hw), neF h20, eqF h16, eqF h17, eqF h19, eqF h20', if_true, if_false, Bool.false_eq_true, reduceIte] at t
           exact ends79_next (ih.2 (i + 1) _ _ 0 cp stk _ (by omega) hcp (hv.keep (by have := hv.wa; omega))) (by rw [pl, if_neg hA, if_neg h16, if_neg h17, if_neg h19, if_neg h20']) t (LeSt.mk' (LeL.refl _) ⟨ChLe.row (join1 _ _ _), ChLe.row (join1 _ _ _), ChLe.refl _, trivial⟩)
         · cases hpu : Cv.pureR (op i) with
           | false =>
             have t := tree
             simp only [dT (show wa ≥ 0 from hw), neT h20, cl_pos hq, hpu, Bool.not_false, if_true] at t
             exact ends79_ret (by rw [pl, if_pos ⟨hw, h20, hpu⟩]) t
           | true =>
             have hA : ¬ (0 ≤ wa ∧ op i ≠ 20 ∧ Cv.pureR (op i) = false) := fun h => by rw [hpu] at h; exact absurd h.2.2 (by decide)
             by_cases h16 : op i = 16
             · have t := tree
               simp only [dT (show wa ≥ 0 from hw), neT h20, cl_pos hq, hpu, Bool.not_true, eqT h16, if_true, if_false, Bool.false_eq_true, reduceIte] at t
               exact ends79_next (ih.2 (i + 1) _ _ (0 + 1) (0 + 1) _ _ (by omega) (Nat.le_refl _) hv.push) (by rw [pl, if_neg hA, if_pos h16]) t (LeSt.mk' (LeL.refl _) ⟨ChLe.row (join1 _ _ _), ChLe.row (join1 _ _ _), ChLe.row (join1 _ _ _), trivial⟩)
             by_cases h17 : op i = 17
             · have t := tree
               simp only [dT (show wa ≥ 0 from hw), neT h20, cl_pos hq, hpu, Bool.not_true, eqF h16, eqT h17, if_true, if_false, Bool.false_eq_true, reduceIte] at t
               exact ends79_ret (by rw [pl, if_neg hA, if_neg h16, if_pos h17, if_pos (.inl htp)]) t
             by_cases h19 : op i = 19
             · have t := tree
               simp only [dT (show wa ≥ 0 from hw), neT h20, cl_pos hq, hpu, Bool.not_true, eqF h16, eqF h17, eqT h19, if_true, if_false, Bool.false_eq_true, reduceIte] at t
               exact ends79_next (ih.2 (i + 1) _ _ 0 cp stk _ (by omega) hcp (hv.keep (.inr (by omega)))) (by rw [pl, if_neg hA, if_neg h16, if_neg h17, if_pos h19]) t (LeSt.mk' (LeL.refl _) ⟨ChLe.row (join1 _ _ _), ChLe.row (join1 _ _ _), ChLe.refl _, trivial⟩)
             by_cases h20' : op i = 20
             · by_cases hw' : wa < 0
               · have t := tree
                 simp only [dT (show wa ≥ 0 from hw), neT h20, cl_pos hq, hpu, Bool.not_true, eqF h16, eqF h17, eqF h19, eqT h20', dT hw', if_true, if_false, Bool.false_eq_true, reduceIte] at t
                 exact ends79_ret (by rw [pl, if_neg hA, if_neg h16, if_neg h17, if_neg h19, if_pos h20', if_pos (.inl hw')]) t
               have ewa : w (wa + 1) = wa + 1 := w_in (by have := hv.wa; unfold inR; omega)
               by_cases ha : arg i = wa + 1
               · have t := tree
                 simp only [dT (show wa ≥ 0 from hw), neT h20, cl_pos hq, hpu, Bool.not_true, eqF h16, eqF h17, eqF h19, eqT h20', dF hw', ewa, neF ha, if_true, if_false, Bool.false_eq_true, reduceIte] at t
                 exact ends79_next (ih.2 (i + 1) _ _ 0 cp stk _ (by omega) hcp (hv.keep (.inl rfl))) (by rw [pl, if_neg hA, if_neg h16, if_neg h17, if_neg h19, if_pos h20', if_neg (by omega)]) t (LeSt.mk' (LeL.refl _) ⟨ChLe.row (join1 _ _ _), ChLe.row (join1 _ _ _), ChLe.refl _, trivial⟩)
               · have t := tree
                 simp only [dT (show wa ≥ 0 from hw), neT h20, cl_pos hq, hpu, Bool.not_true, eqF h16, eqF h17, eqF h19, eqT h20', dF hw', ewa, neT ha, if_true, if_false, Bool.false_eq_true, reduceIte] at t
                 exact ends79_ret (by rw [pl, if_neg hA, if_neg h16, if_neg h17, if_neg h19, if_pos h20', if_pos (.inr ha)]) t
             have t := tree
             simp only [dT (show wa ≥ 0 from hw), neT h20, cl_pos hq, hpu, Bool.not_true, eqF h16, eqF h17, eqF h19, eqF h20', if_true, if_false, Bool.false_eq_true, reduceIte] at t
             exact ends79_next (ih.2 (i + 1) _ _ 0 cp stk _ (by omega) hcp (hv.keep (by have := hv.wa; omega))) (by rw [pl, if_neg hA, if_neg h16, if_neg h17, if_neg h19, if_neg h20']) t (LeSt.mk' (LeL.refl _) ⟨ChLe.row (join1 _ _ _), ChLe.row (join1 _ _ _), ChLe.refl _, trivial⟩)
       · have hA : ¬ (0 ≤ wa ∧ op i ≠ 20 ∧ Cv.pureR (op i) = false) := fun h => hw h.1
         by_cases h16 : op i = 16
         · have t := tree
           simp only [dF (show ¬ wa ≥ 0 from hw), eqT h16, if_true, if_false, Bool.false_eq_true, reduceIte] at t
           exact ends79_next (ih.2 (i + 1) _ _ (0 + 1) (0 + 1) _ _ (by omega) (Nat.le_refl _) hv.push) (by rw [pl, if_neg hA, if_pos h16]) t (LeSt.mk' (LeL.refl _) ⟨ChLe.row (join1 _ _ _), ChLe.row (join1 _ _ _), ChLe.row (join1 _ _ _), trivial⟩)
         by_cases h17 : op i = 17
         · have t := tree
           simp only [dF (show ¬ wa ≥ 0 from hw), eqF h16, eqT h17, if_true, if_false, Bool.false_eq_true, reduceIte] at t
           exact ends79_ret (by rw [pl, if_neg hA, if_neg h16, if_pos h17, if_pos (.inl htp)]) t
         by_cases h19 : op i = 19
         · have t := tree
           simp only [dF (show ¬ wa ≥ 0 from hw), eqF h16, eqF h17, eqT h19, if_true, if_false, Bool.false_eq_true, reduceIte] at t
           exact ends79_next (ih.2 (i + 1) _ _ 0 cp stk _ (by omega) hcp (hv.keep (.inr (by omega)))) (by rw [pl, if_neg hA, if_neg h16, if_neg h17, if_pos h19]) t (LeSt.mk' (LeL.refl _) ⟨ChLe.row (join1 _ _ _), ChLe.row (join1 _ _ _), ChLe.refl _, trivial⟩)
         by_cases h20' : op i = 20
         · by_cases hw' : wa < 0
           · have t := tree
             simp only [dF (show ¬ wa ≥ 0 from hw), eqF h16, eqF h17, eqF h19, eqT h20', dT hw', if_true, if_false, Bool.false_eq_true, reduceIte] at t
             exact ends79_ret (by rw [pl, if_neg hA, if_neg h16, if_neg h17, if_neg h19, if_pos h20', if_pos (.inl hw')]) t
           have ewa : w (wa + 1) = wa + 1 := w_in (by have := hv.wa; unfold inR; omega)
           by_cases ha : arg i = wa + 1
           · have t := tree
             simp only [dF (show ¬ wa ≥ 0 from hw), eqF h16, eqF h17, eqF h19, eqT h20', dF hw', ewa, neF ha, if_true, if_false, Bool.false_eq_true, reduceIte] at t
             exact ends79_next (ih.2 (i + 1) _ _ 0 cp stk _ (by omega) hcp (hv.keep (.inl rfl))) (by rw [pl, if_neg hA, if_neg h16, if_neg h17, if_neg h19, if_pos h20', if_neg (by omega)]) t (LeSt.mk' (LeL.refl _) ⟨ChLe.row (join1 _ _ _), ChLe.row (join1 _ _ _), ChLe.refl _, trivial⟩)
           · have t := tree
             simp only [dF (show ¬ wa ≥ 0 from hw), eqF h16, eqF h17, eqF h19, eqT h20', dF hw', ewa, neT ha, if_true, if_false, Bool.false_eq_true, reduceIte] at t
             exact ends79_ret (by rw [pl, if_neg hA, if_neg h16, if_neg h17, if_neg h19, if_pos h20', if_pos (.inr ha)]) t
         have t := tree
         simp only [dF (show ¬ wa ≥ 0 from hw), eqF h16, eqF h17, eqF h19, eqF h20', if_true, if_false, Bool.false_eq_true, reduceIte] at t
         exact ends79_next (ih.2 (i + 1) _ _ 0 cp stk _ (by omega) hcp (hv.keep (by have := hv.wa; omega))) (by rw [pl, if_neg hA, if_neg h16, if_neg h17, if_neg h19, if_neg h20']) t (LeSt.mk' (LeL.refl _) ⟨ChLe.row (join1 _ _ _), ChLe.row (join1 _ _ _), ChLe.refl _, trivial⟩)

set_option maxRecDepth 100000 in
theorem start79 {n : Nat} {op arg : Nat → Int} (vs : Int) (hn : n ≤ 300) (h1 : 1 ≤ n) : ends79 n (Cv.regR (mkC vs n op arg) n 0 ⟨Cv.zero, Cv.zero, 0, Cv.zero, -1⟩) (S79a n op arg) := by
  obtain ⟨r, rfl⟩ : ∃ r, n = r + 1 := ⟨n - 1, by omega⟩
  have ih := loop79 (n := r + 1) (op := op) (arg := arg) vs hn r
  have hid : decide ((0 : Int) < ((r + 1 : Nat) : Int)) = true := decide_eq_true (by omega)
  have hbb : (0 : Int) ≤ (0 : Int) ∧ (0 : Int) < ((r + 1 : Nat) : Int) := by omega
  have ew : w ((0 : Int) + 1) = ((0 + 1 : Nat) : Int) := by rw [w_in (by unfold inR; omega)]; omega
  have tree := fun lo => r79a (r + 1) op arg lo
  simp only [ew, if_pos hid, if_pos hbb, Nat.zero_add] at tree
  have hv : Inv79 0 0 Cv.zero (-1) := ⟨fun k hk => by omega, .inl rfl, Nat.le_refl _⟩
  generalize Cv.zero = L at *
  have pl : Cv.regR (mkC vs (r + 1) op arg) (r + 1) 0 ⟨L, L, 0, L, (-1)⟩ = (if 0 ≤ (-1) ∧ op 0 ≠ 20 ∧ Cv.pureR (op 0) = false then none
      else if op 0 = 16 then Cv.regR (mkC vs (r + 1) op arg) r (0 + 1) ⟨Cv.upd L 0 (-1), Cv.upd L 0 (-1), 0 + 1, Cv.upd L 0 0, (-1)⟩
      else if op 0 = 17 then (if (-1) < 0 ∨ arg 0 ≠ (-1) + 1 then none else Cv.regR (mkC vs (r + 1) op arg) r (0 + 1) ⟨Cv.upd L 0 (-1), Cv.upd L 0 (-1), 0 - 1, L, (-1)⟩)
      else if op 0 = 19 then Cv.regR (mkC vs (r + 1) op arg) r (0 + 1) ⟨Cv.upd L 0 (-1), Cv.upd L 0 (-1), 0, L, 0⟩
      else if op 0 = 20 then (if (-1) < 0 ∨ arg 0 ≠ (-1) + 1 then none else Cv.regR (mkC vs (r + 1) op arg) r (0 + 1) ⟨Cv.upd L 0 (-1), Cv.upd L 0 (-1), 0, L, -1⟩)
      else Cv.regR (mkC vs (r + 1) op arg) r (0 + 1) ⟨Cv.upd L 0 (-1), Cv.upd L 0 (-1), 0, L, (-1)⟩) := by
    have := Cv.regR.eq_2 (mkC vs (r + 1) op arg) 0 ⟨L, L, 0, L, (-1)⟩ r
    rw [show Cv.Rg.top ⟨L, L, 0, L, (-1)⟩ = -1 from rfl] at this
    exact this
  have htp : (-1 : Int) < 0 := by omega
  have hA : ¬ (0 ≤ (-1) ∧ op 0 ≠ 20 ∧ Cv.pureR (op 0) = false) := fun h => by omega
  by_cases h16 : op 0 = 16
  · have t := tree
    simp only [eqT h16, if_true, if_false, Bool.false_eq_true, reduceIte] at t
    exact ends79_next (ih.2 (0 + 1) _ _ (0 + 1) (0 + 1) _ _ (by omega) (Nat.le_refl _) hv.push) (by rw [pl, if_neg hA, if_pos h16]; try rfl) t (LeSt.mk' (LeL.refl _) ⟨ChLe.row (get1 _ _), ChLe.row (get1 _ _), ChLe.row (get1 _ _), trivial⟩)
  by_cases h17 : op 0 = 17
  · have t := tree
    simp only [eqF h16, eqT h17, if_true, if_false, Bool.false_eq_true, reduceIte] at t
    exact ends79_ret (by rw [pl, if_neg hA, if_neg h16, if_pos h17, if_pos (.inl htp)]; try rfl) t
  by_cases h19 : op 0 = 19
  · have t := tree
    simp only [eqF h16, eqF h17, eqT h19, if_true, if_false, Bool.false_eq_true, reduceIte] at t
    exact ends79_next (ih.1 (0 + 1) _ _ L _ (by omega) (hv.keep (.inr (by omega)))) (by rw [pl, if_neg hA, if_neg h16, if_neg h17, if_pos h19]; try rfl) t (LeSt.mk' (LeL.refl _) ⟨ChLe.row (get1 _ _), ChLe.row (get1 _ _), trivial⟩)
  by_cases h20' : op 0 = 20
  · have t := tree
    simp only [eqF h16, eqF h17, eqF h19, eqT h20', if_true, if_false, Bool.false_eq_true, reduceIte] at t
    exact ends79_ret (by rw [pl, if_neg hA, if_neg h16, if_neg h17, if_neg h19, if_pos h20', if_pos (.inl (by omega))]; try rfl) t
  have t := tree
  simp only [eqF h16, eqF h17, eqF h19, eqF h20', if_true, if_false, Bool.false_eq_true, reduceIte] at t
  exact ends79_next (ih.1 (0 + 1) _ _ L _ (by omega) (hv.keep (by have := hv.wa; omega))) (by rw [pl, if_neg hA, if_neg h16, if_neg h17, if_neg h19, if_neg h20']; try rfl) t (LeSt.mk' (LeL.refl _) ⟨ChLe.row (get1 _ _), ChLe.row (get1 _ _), trivial⟩)
end Go.Proofs.Ythegipdgillngaa
