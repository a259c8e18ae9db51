/- Depths of the stack (71), walked. -/
import Derived.Test.YthegipdgillngaaV2
namespace Go.Proofs.Ythegipdgillngaa
open Go Go.Am Go.Proofs
set_option linter.unusedSimpArgs false
set_option linter.unusedVariables false
open Classical in
noncomputable def rchBD (n : Nat) (dp : Nat → Int) (t d : Int) : Bool := decide (Cv.rchB n dp t d)
open Classical in
theorem rchBD_iff (n : Nat) (dp : Nat → Int) (t d : Int) : rchBD n dp t d = true ↔ Cv.rchB n dp t d := by unfold rchBD; rw [decide_eq_true_eq]
theorem rchBD_of {n : Nat} {dp : Nat → Int} {t d : Int} {b : Bool} (h : b = true ↔ Cv.rchB n dp t d) : b = rchBD n dp t d := by rw [Bool.eq_iff_iff, h, rchBD_iff]
def vEff : List V → V
  | [.sc (.int .i64 o)] => .tup [.agg [i64 (Cv.effLo o), i64 (Cv.effHi o), i64 (Cv.effBy o)], bo (okB o)]
  | _ => .junk
def dpOf (f : Nat → List V) : Nat → Int := fun j => match f j with | [.sc (.int _ x)] => x | _ => 0
theorem dpOf_r1 (x : Nat → Int) : dpOf (r1 x) = x := rfl
noncomputable def vRch : List V → List (Option Chunk) → CRes
  | [.sc (.int .i64 t), .sc (.int .i64 d), .ptr 0 0, .ptr 1 0], [some (.blk [.ro 2 n g]), some (.blk [.sl 2 1 0 n']), some (.row 3 1 m f)] => .ret (bo (rchBD m (dpOf f) t d)) [some (.blk [.ro 2 n g]), some (.blk [.sl 2 1 0 n']), some (.row 3 1 m (r1 (Cv.rchD m (dpOf f) t d)))]
  | _, _ => .ret .junk []
def QRch (args : List V) (L : List (Option Chunk)) : Prop := ∃ (t d : Int) (n : Nat) (op arg dp : Nat → Int), args = [i64 t, i64 d, .ptr 0 0, .ptr 1 0] ∧ L = [some (.blk [cd n op arg]), some (.blk [.sl 2 1 0 n]), some (.row 3 1 n (r1 dp))] ∧ 0 ≤ t
noncomputable def C71b : CallT := ptab 77 QI1 vEff (ptabL 76 QRch vRch (tab []))
def S71a (n : Nat) (op arg : Nat → Int) (k : Nat) (dp : Nat → Int) : St := { fr := [.junk, .ptr 0 0, .junk, .ptr 1 0] ++ jk 13 ++ [i64 ((n - 1 : Nat) : Int), i64 k] ++ jk 76, H := hp [some (.blk [cd n op arg]), some (.blk [.sl 2 1 0 n]), some (.row 3 1 n (r1 dp))], nx := 3, rt := 0, me := 71 }
def T71a (n : Nat) (op arg : Nat → Int) (dp : Nat → Int) : St := { fr := [.junk, .ptr 0 0, .junk, .ptr 1 0] ++ jk 91, H := hp [some (.blk [cd n op arg]), some (.blk [.sl 2 1 0 n]), some (.row 3 1 n (r1 dp))], nx := 3, rt := 0, me := 71 }
def S71b (n : Nat) (op arg : Nat → Int) (i : Nat) (dp : Nat → Int) : St := { fr := [.junk, .junk, .junk, .ptr 0 0, .junk, .fn 76 [.ptr 2 0, .ptr 0 0]] ++ jk 21 ++ [cd n op arg, i64 n, i64 i] ++ jk 65, H := hp [some (.blk [.sl 1 1 0 n]), some (.row 3 1 n (r1 dp)), some (.blk [cd n op arg])], nx := 3, rt := 0, me := 71 }
def T71b : St := { fr := jk 95, H := hp [], nx := 0, rt := 0, me := 71 }
def T71r : St := { fr := [.junk, .junk, bo false] ++ jk 92, H := hp [], nx := 0, rt := 0, me := 71 }
theorem g76 (n : Nat) (op arg dp : Nat → Int) (t d : Int) : callK E2 T0 L0 76 [i64 t, i64 d, .ptr 0 0, .ptr 1 0] [some (.blk [cd n op arg]), some (.blk [.sl 2 1 0 n]), some (.row 3 1 n (r1 dp))] K =
  if decide (t < (n : Int)) = true then
   if (0 : Int) ≤ t ∧ t < (n : Int) then
    if 0 + Int.toNat t < n ∧ 1 = 1 then
     if (dp (0 + Int.toNat t) == (-1 : Int)) = true then
      if (0 : Int) ≤ t ∧ t < (n : Int) then
       if 0 + Int.toNat t < n ∧ 1 = 1 then
        if decide (t ≥ (n : Int)) = true then
         some (Ans.c (CRes.ret (bo true) [some (Chunk.blk [V.ro 2 n (ins op arg)]), some (Chunk.blk [V.sl 2 1 0 n]), some (Chunk.row 3 1 n (putF true (0 + Int.toNat t) 0 [i64 d] (r1 dp)))]))
        else
         if (0 : Int) ≤ t ∧ t < (n : Int) then
          if 0 + Int.toNat t < n ∧ 1 = 1 then
           some (Ans.c (CRes.ret (bo (((if 0 + Int.toNat t = 0 + Int.toNat t then d else dp (0 + Int.toNat t)) == d))) [some (Chunk.blk [V.ro 2 n (ins op arg)]), some (Chunk.blk [V.sl 2 1 0 n]), some (Chunk.row 3 1 n (putF true (0 + Int.toNat t) 0 [i64 d] (r1 dp)))]))
          else
           none
         else
          none
       else
        none
      else
       none
     else
      if decide (t ≥ (n : Int)) = true then
       some (Ans.c (CRes.ret (bo true) [some (Chunk.blk [V.ro 2 n (ins op arg)]), some (Chunk.blk [V.sl 2 1 0 n]), some (Chunk.row 3 1 n (r1 dp))]))
      else
       if (0 : Int) ≤ t ∧ t < (n : Int) then
        if 0 + Int.toNat t < n ∧ 1 = 1 then
         some (Ans.c (CRes.ret (bo ((dp (0 + Int.toNat t) == d))) [some (Chunk.blk [V.ro 2 n (ins op arg)]), some (Chunk.blk [V.sl 2 1 0 n]), some (Chunk.row 3 1 n (r1 dp))]))
        else
         none
       else
        none
    else
     none
   else
    none
  else
   if decide (t ≥ (n : Int)) = true then
    some (Ans.c (CRes.ret (bo true) [some (Chunk.blk [V.ro 2 n (ins op arg)]), some (Chunk.blk [V.sl 2 1 0 n]), some (Chunk.row 3 1 n (r1 dp))]))
   else
    if (0 : Int) ≤ t ∧ t < (n : Int) then
     if 0 + Int.toNat t < n ∧ 1 = 1 then
      some (Ans.c (CRes.ret (bo ((dp (0 + Int.toNat t) == d))) [some (Chunk.blk [V.ro 2 n (ins op arg)]), some (Chunk.blk [V.sl 2 1 0 n]), some (Chunk.row 3 1 n (r1 dp))]))
     else
      none
    else
     none := by kernel_rfl

theorem r71a (n : Nat) (op arg : Nat → Int) (k : Nat) (dp : Nat → Int) (lo : LoopT) : loopK E2 C71b lo 0 393226 (bodyOf E2 71 0) (S71a n op arg k dp) (KC 10) =
  if decide ((k : Int) < ((n - 1 : Nat) : Int)) = true then
   if (0 : Int) ≤ w ((k : Int) + (1 : Int)) ∧ w ((k : Int) + (1 : Int)) < (n : Int) then
    if 0 + Int.toNat (w ((k : Int) + (1 : Int))) < n ∧ 1 = 1 then
     lo 0 393226 (bodyOf E2 71 0) ({ fr := [V.junk, V.ptr 0 0, V.junk, V.ptr 1 0, V.junk, V.junk, V.junk, V.junk, V.junk, V.junk, V.junk, V.junk, V.junk, V.junk, V.junk, V.junk, V.junk, i64 ((n - 1 : Nat) : Int), i64 (w ((k : Int) + (1 : Int)))] ++ jk 76, H := hp [some (Chunk.blk [V.ro 2 n (ins op arg)]), some (Chunk.blk [V.sl 2 1 0 n]), some (Chunk.row 3 1 n (putF true (0 + Int.toNat (w ((k : Int) + (1 : Int)))) 0 [i64 (-1)] (r1 dp)))], nx := 3, rt := 0, me := 71 }) (KC 10)
    else
     none
   else
    none
  else
   some (Ans.l (Ex.exit 0) { fr := [V.junk, V.ptr 0 0, V.junk, V.ptr 1 0] ++ jk 91, H := hp [some (Chunk.blk [V.ro 2 n (ins op arg)]), some (Chunk.blk [V.sl 2 1 0 n]), some (Chunk.row 3 1 n (r1 dp))], nx := 3, rt := 0, me := 71 }) := by kernel_rfl

theorem r71b (n : Nat) (op arg : Nat → Int) (i : Nat) (dp : Nat → Int) (lo : LoopT) : loopK E2 C71b lo 2 939524136 (bodyOf E2 71 2) (S71b n op arg i dp) (KC2 0 4) =
  if decide ((i : Int) < (n : Int)) = true then
   if (0 : Int) ≤ (i : Int) ∧ (i : Int) < (n : Int) then
    cl (QI1 ([i64 (op (Int.toNat (i : Int)))]) ∧ ([] : List (Option Chunk)) = []) (
     if (0 : Int) ≤ (i : Int) ∧ (i : Int) < (n : Int) then
      if 0 + Int.toNat (i : Int) < n ∧ 1 = 1 then
       if (!okB (op (Int.toNat (i : Int)))) = true then
        some (Ans.l Ex.ret { fr := [V.junk, V.junk, bo false] ++ jk 92, H := hp [], nx := 0, rt := 0, me := 71 })
       else
        if decide (dp (0 + Int.toNat (i : Int)) < Cv.effLo (op (Int.toNat (i : Int)))) = true then
         some (Ans.l Ex.ret { fr := [V.junk, V.junk, bo false] ++ jk 92, H := hp [], nx := 0, rt := 0, me := 71 })
        else
         if decide (dp (0 + Int.toNat (i : Int)) > Cv.effHi (op (Int.toNat (i : Int)))) = true then
          some (Ans.l Ex.ret { fr := [V.junk, V.junk, bo false] ++ jk 92, H := hp [], nx := 0, rt := 0, me := 71 })
         else
          if (op (Int.toNat (i : Int)) == (14 : Int)) = true then
           cl (QRch ([i64 (arg (Int.toNat (i : Int))), i64 (w (dp (0 + Int.toNat (i : Int)) + Cv.effBy (op (Int.toNat (i : Int))))), V.ptr 0 0, V.ptr 1 0]) ([some (Chunk.blk [V.ro 2 n (ins op arg)]), some (Chunk.blk [V.sl 2 1 0 n]), some (Chunk.row 3 1 n (r1 dp))])) (
            if (!rchBD n (dpOf (r1 dp)) (arg (Int.toNat (i : Int))) (w (dp (0 + Int.toNat (i : Int)) + Cv.effBy (op (Int.toNat (i : Int)))))) = true then
             some (Ans.l Ex.ret { fr := [V.junk, V.junk, bo false] ++ jk 92, H := hp [], nx := 0, rt := 0, me := 71 })
            else
             if (op (Int.toNat (i : Int)) != (14 : Int)) = true then
              cl (QRch ([i64 (w ((i : Int) + (1 : Int))), i64 (w (dp (0 + Int.toNat (i : Int)) + Cv.effBy (op (Int.toNat (i : Int))))), V.ptr 0 0, V.ptr 1 0]) ([some (Chunk.blk [V.ro 2 n (ins op arg)]), some (Chunk.blk [V.sl 2 1 0 n]), some (Chunk.row 3 1 n (r1 (Cv.rchD n (dpOf (r1 dp)) (arg (Int.toNat (i : Int))) (w (dp (0 + Int.toNat (i : Int)) + Cv.effBy (op (Int.toNat (i : Int))))))))])) (
               if (!rchBD n (dpOf (r1 (Cv.rchD n (dpOf (r1 dp)) (arg (Int.toNat (i : Int))) (w (dp (0 + Int.toNat (i : Int)) + Cv.effBy (op (Int.toNat (i : Int)))))))) (w ((i : Int) + (1 : Int))) (w (dp (0 + Int.toNat (i : Int)) + Cv.effBy (op (Int.toNat (i : Int)))))) = true then
                some (Ans.l Ex.ret { fr := [V.junk, V.junk, bo false] ++ jk 92, H := hp [], nx := 0, rt := 0, me := 71 })
               else
                lo 2 939524136 (bodyOf E2 71 2) ({ fr := [V.junk, V.junk, V.junk, V.ptr 0 0, V.junk, V.fn 76 [V.ptr 2 0, V.ptr 0 0], V.junk, V.junk, V.junk, V.junk, V.junk, V.junk, V.junk, V.junk, V.junk, V.junk, V.junk, V.junk, V.junk, V.junk, V.junk, V.junk, V.junk, V.junk, V.junk, V.junk, V.junk, V.ro 2 n (ins op arg), i64 (n : Int), i64 (w ((i : Int) + (1 : Int)))] ++ jk 65, H := hp [some (Chunk.blk [V.sl 1 1 0 n]), some (Chunk.row 3 1 n (r1 (Cv.rchD n (dpOf (r1 (Cv.rchD n (dpOf (r1 dp)) (arg (Int.toNat (i : Int))) (w (dp (0 + Int.toNat (i : Int)) + Cv.effBy (op (Int.toNat (i : Int)))))))) (w ((i : Int) + (1 : Int))) (w (dp (0 + Int.toNat (i : Int)) + Cv.effBy (op (Int.toNat (i : Int)))))))), some (Chunk.blk [V.ro 2 n (ins op arg)])], nx := 3, rt := 0, me := 71 }) (KC2 0 4)) (
               none)
             else
              lo 2 939524136 (bodyOf E2 71 2) ({ fr := [V.junk, V.junk, V.junk, V.ptr 0 0, V.junk, V.fn 76 [V.ptr 2 0, V.ptr 0 0], V.junk, V.junk, V.junk, V.junk, V.junk, V.junk, V.junk, V.junk, V.junk, V.junk, V.junk, V.junk, V.junk, V.junk, V.junk, V.junk, V.junk, V.junk, V.junk, V.junk, V.junk, V.ro 2 n (ins op arg), i64 (n : Int), i64 (w ((i : Int) + (1 : Int)))] ++ jk 65, H := hp [some (Chunk.blk [V.sl 1 1 0 n]), some (Chunk.row 3 1 n (r1 (Cv.rchD n (dpOf (r1 dp)) (arg (Int.toNat (i : Int))) (w (dp (0 + Int.toNat (i : Int)) + Cv.effBy (op (Int.toNat (i : Int)))))))), some (Chunk.blk [V.ro 2 n (ins op arg)])], nx := 3, rt := 0, me := 71 }) (KC2 0 4)) (
            none)
          else
           if (op (Int.toNat (i : Int)) == (15 : Int)) = true then
            cl (QRch ([i64 (arg (Int.toNat (i : Int))), i64 (w (dp (0 + Int.toNat (i : Int)) + Cv.effBy (op (Int.toNat (i : Int))))), V.ptr 0 0, V.ptr 1 0]) ([some (Chunk.blk [V.ro 2 n (ins op arg)]), some (Chunk.blk [V.sl 2 1 0 n]), some (Chunk.row 3 1 n (r1 dp))])) (
             if (!rchBD n (dpOf (r1 dp)) (arg (Int.toNat (i : Int))) (w (dp (0 + Int.toNat (i : Int)) + Cv.effBy (op (Int.toNat (i : Int)))))) = true then
              some (Ans.l Ex.ret { fr := [V.junk, V.junk, bo false] ++ jk 92, H := hp [], nx := 0, rt := 0, me := 71 })
             else
              if (op (Int.toNat (i : Int)) != (14 : Int)) = true then
               cl (QRch ([i64 (w ((i : Int) + (1 : Int))), i64 (w (dp (0 + Int.toNat (i : Int)) + Cv.effBy (op (Int.toNat (i : Int))))), V.ptr 0 0, V.ptr 1 0]) ([some (Chunk.blk [V.ro 2 n (ins op arg)]), some (Chunk.blk [V.sl 2 1 0 n]), some (Chunk.row 3 1 n (r1 (Cv.rchD n (dpOf (r1 dp)) (arg (Int.toNat (i : Int))) (w (dp (0 + Int.toNat (i : Int)) + Cv.effBy (op (Int.toNat (i : Int))))))))])) (
                if (!rchBD n (dpOf (r1 (Cv.rchD n (dpOf (r1 dp)) (arg (Int.toNat (i : Int))) (w (dp (0 + Int.toNat (i : Int)) + Cv.effBy (op (Int.toNat (i : Int)))))))) (w ((i : Int) + (1 : Int))) (w (dp (0 + Int.toNat (i : Int)) + Cv.effBy (op (Int.toNat (i : Int)))))) = true then
                 some (Ans.l Ex.ret { fr := [V.junk, V.junk, bo false] ++ jk 92, H := hp [], nx := 0, rt := 0, me := 71 })
                else
                 lo 2 939524136 (bodyOf E2 71 2) ({ fr := [V.junk, V.junk, V.junk, V.ptr 0 0, V.junk, V.fn 76 [V.ptr 2 0, V.ptr 0 0], V.junk, V.junk, V.junk, V.junk, V.junk, V.junk, V.junk, V.junk, V.junk, V.junk, V.junk, V.junk, V.junk, V.junk, V.junk, V.junk, V.junk, V.junk, V.junk, V.junk, V.junk, V.ro 2 n (ins op arg), i64 (n : Int), i64 (w ((i : Int) + (1 : Int)))] ++ jk 65, H := hp [some (Chunk.blk [V.sl 1 1 0 n]), some (Chunk.row 3 1 n (r1 (Cv.rchD n (dpOf (r1 (Cv.rchD n (dpOf (r1 dp)) (arg (Int.toNat (i : Int))) (w (dp (0 + Int.toNat (i : Int)) + Cv.effBy (op (Int.toNat (i : Int)))))))) (w ((i : Int) + (1 : Int))) (w (dp (0 + Int.toNat (i : Int)) + Cv.effBy (op (Int.toNat (i : Int)))))))), some (Chunk.blk [V.ro 2 n (ins op arg)])], nx := 3, rt := 0, me := 71 }) (KC2 0 4)) (
                none)
              else
               lo 2 939524136 (bodyOf E2 71 2) ({ fr := [V.junk, V.junk, V.junk, V.ptr 0 0, V.junk, V.fn 76 [V.ptr 2 0, V.ptr 0 0], V.junk, V.junk, V.junk, V.junk, V.junk, V.junk, V.junk, V.junk, V.junk, V.junk, V.junk, V.junk, V.junk, V.junk, V.junk, V.junk, V.junk, V.junk, V.junk, V.junk, V.junk, V.ro 2 n (ins op arg), i64 (n : Int), i64 (w ((i : Int) + (1 : Int)))] ++ jk 65, H := hp [some (Chunk.blk [V.sl 1 1 0 n]), some (Chunk.row 3 1 n (r1 (Cv.rchD n (dpOf (r1 dp)) (arg (Int.toNat (i : Int))) (w (dp (0 + Int.toNat (i : Int)) + Cv.effBy (op (Int.toNat (i : Int)))))))), some (Chunk.blk [V.ro 2 n (ins op arg)])], nx := 3, rt := 0, me := 71 }) (KC2 0 4)) (
             none)
           else
            if (op (Int.toNat (i : Int)) != (14 : Int)) = true then
             cl (QRch ([i64 (w ((i : Int) + (1 : Int))), i64 (w (dp (0 + Int.toNat (i : Int)) + Cv.effBy (op (Int.toNat (i : Int))))), V.ptr 0 0, V.ptr 1 0]) ([some (Chunk.blk [V.ro 2 n (ins op arg)]), some (Chunk.blk [V.sl 2 1 0 n]), some (Chunk.row 3 1 n (r1 dp))])) (
              if (!rchBD n (dpOf (r1 dp)) (w ((i : Int) + (1 : Int))) (w (dp (0 + Int.toNat (i : Int)) + Cv.effBy (op (Int.toNat (i : Int)))))) = true then
               some (Ans.l Ex.ret { fr := [V.junk, V.junk, bo false] ++ jk 92, H := hp [], nx := 0, rt := 0, me := 71 })
              else
               lo 2 939524136 (bodyOf E2 71 2) ({ fr := [V.junk, V.junk, V.junk, V.ptr 0 0, V.junk, V.fn 76 [V.ptr 2 0, V.ptr 0 0], V.junk, V.junk, V.junk, V.junk, V.junk, V.junk, V.junk, V.junk, V.junk, V.junk, V.junk, V.junk, V.junk, V.junk, V.junk, V.junk, V.junk, V.junk, V.junk, V.junk, V.junk, V.ro 2 n (ins op arg), i64 (n : Int), i64 (w ((i : Int) + (1 : Int)))] ++ jk 65, H := hp [some (Chunk.blk [V.sl 1 1 0 n]), some (Chunk.row 3 1 n (r1 (Cv.rchD n (dpOf (r1 dp)) (w ((i : Int) + (1 : Int))) (w (dp (0 + Int.toNat (i : Int)) + Cv.effBy (op (Int.toNat (i : Int)))))))), some (Chunk.blk [V.ro 2 n (ins op arg)])], nx := 3, rt := 0, me := 71 }) (KC2 0 4)) (
              none)
            else
             lo 2 939524136 (bodyOf E2 71 2) ({ fr := [V.junk, V.junk, V.junk, V.ptr 0 0, V.junk, V.fn 76 [V.ptr 2 0, V.ptr 0 0], V.junk, V.junk, V.junk, V.junk, V.junk, V.junk, V.junk, V.junk, V.junk, V.junk, V.junk, V.junk, V.junk, V.junk, V.junk, V.junk, V.junk, V.junk, V.junk, V.junk, V.junk, V.ro 2 n (ins op arg), i64 (n : Int), i64 (w ((i : Int) + (1 : Int)))] ++ jk 65, H := hp [some (Chunk.blk [V.sl 1 1 0 n]), some (Chunk.row 3 1 n (r1 dp)), some (Chunk.blk [V.ro 2 n (ins op arg)])], nx := 3, rt := 0, me := 71 }) (KC2 0 4)
      else
       none
     else
      none) (
     none)
   else
    none
  else
   some (Ans.l (Ex.exit 2) { fr := [V.junk] ++ jk 94, H := hp [], nx := 0, rt := 0, me := 71 }) := by kernel_rfl

theorem f71 (n : Nat) (op arg : Nat → Int) (dp : Nat → Int) (S1 S2 : St) (P : Prop) : callK E2 C71b (ltab2 [⟨0, bodyOf E2 71 0, S1, True, .exit 0, T71a n op arg dp, .ret, T71r⟩, ⟨2, bodyOf E2 71 2, S2, P, .exit 2, T71b, .ret, T71r⟩]) 71 [.ro 2 n (ins op arg)] [] K =
  if (n : Int) = (n : Int) ∧ (0 : Int) ≤ (n : Int) ∧ 0 < 1 ∧ 1 = 1 ∧ Int.toNat (n : Int) * 8 ≤ 281474976710656 ∧ Int.toNat (n : Int) ≤ maxLen ∧ (allOk 1 1 fun (x : Nat) => List.map V.sc (Array.toList (Value.cells (Value.int IntKind.i64 0)))) = true then
   if (0 : Int) ≤ (1 : Int) ∧ (1 : Int) ≤ ((Int.toNat (n : Int) : Nat) : Int) ∧ ((Int.toNat (n : Int) : Nat) : Int) ≤ ((Int.toNat (n : Int) : Nat) : Int) then
    cl ((bodyOf E2 71 0) = (bodyOf E2 71 0) ∧ LeSt ({ fr := [V.junk, V.ptr 0 0, V.junk, V.ptr 1 0, V.junk, V.junk, V.junk, V.junk, V.junk, V.junk, V.junk, V.junk, V.junk, V.junk, V.junk, V.junk, V.junk, i64 ((Int.toNat ((Int.toNat (n : Int) : Nat) : Int) - 1 : Nat) : Int), i64 0] ++ jk 76, H := hp [some (Chunk.blk [V.ro 2 n (ins op arg)]), some (Chunk.blk [V.sl 2 1 0 (Int.toNat (n : Int))]), some (Chunk.row 3 1 (Int.toNat (n : Int)) fun (x : Nat) => List.map V.sc (Array.toList (Value.cells (Value.int IntKind.i64 0))))], nx := 3, rt := 0, me := 71 }) (S1)) (
     cl (True) (
      cl ((bodyOf E2 71 2) = (bodyOf E2 71 2) ∧ LeSt ({ fr := [V.junk, V.junk, V.junk, V.ptr 0 0, V.junk, V.fn 76 [V.ptr 2 0, V.ptr 0 0], V.junk, V.junk, V.junk, V.junk, V.junk, V.junk, V.junk, V.junk, V.junk, V.junk, V.junk, V.junk, V.junk, V.junk, V.junk, V.junk, V.junk, V.junk, V.junk, V.junk, V.junk, V.ro 2 n (ins op arg), i64 (n : Int), i64 0] ++ jk 65, H := hp [some (Chunk.blk [V.sl 1 1 0 n]), some (Chunk.row 3 1 n (r1 dp)), some (Chunk.blk [V.ro 2 n (ins op arg)])], nx := 3, rt := 0, me := 71 }) (S2)) (
       cl (P) (
        some (Ans.c (CRes.ret (bo true) []))) (
        some (Ans.c (CRes.ret (bo false) [])))) (
       none)) (
      some (Ans.c (CRes.ret (bo false) [])))) (
     none)
   else
    none
  else
   none := by kernel_rfl

theorem row_put1 (x : Nat → Int) (i : Nat) (a : Int) (j : Nat) : putF true i 0 [i64 a] (r1 x) j = r1 (Cv.upd x i a) j := by
  rw [putF_eq]
  by_cases h : j = i
  · subst h; simp only [if_true]; unfold r1; rw [Cv.upd_same]; rfl
  · simp only [if_neg h]; unfold r1; rw [Cv.upd_ne h]
theorem putF_r1 (x : Nat → Int) (i : Nat) (a : Int) : putF true i 0 [i64 a] (r1 x) = r1 (Cv.upd x i a) := funext fun j => row_put1 x i a j
theorem rch_sc : ∀ args L, QRch args L → SC E2 76 args L (vRch args L) := by
  rintro _ _ ⟨t, d, n, op, arg, dp, rfl, rfl, h0⟩
  refine SC.of hW2 hX2 (sound_none E2) (soundL_none E2) ((g76 n op arg dp t d).trans ?_)
  show _ = some (Ans.c (CRes.ret (bo (rchBD n dp t d)) [some (Chunk.blk [V.ro 2 n (ins op arg)]), some (Chunk.blk [V.sl 2 1 0 n]), some (Chunk.row 3 1 n (r1 (Cv.rchD n dp t d)))]))
  simp only [Nat.zero_add, if_true]
  by_cases ht : t < n
  · have hb : (0 : Int) ≤ t ∧ t < (n : Int) := ⟨h0, ht⟩
    have hc : t.toNat < n ∧ True := ⟨by omega, trivial⟩
    have hg : ¬ decide (t ≥ (n : Int)) = true := by simp; omega
    rw [if_pos (show decide (t < (n : Int)) = true by simpa using ht), if_pos hb, if_pos hc]
    by_cases hm : dp t.toNat = -1
    · rw [if_pos (by simpa using hm), if_pos hb, if_pos hc, if_neg hg, if_pos hb, if_pos hc, putF_r1]
      have e1 : Cv.rchD n dp t d = Cv.upd dp t.toNat d := if_pos ⟨ht, hm⟩
      have e2 : (d == d) = rchBD n dp t d := rchBD_of (by simp [Cv.rchB, e1, Cv.upd_same])
      rw [e1, e2]
    · rw [if_neg (by simpa using hm), if_neg hg, if_pos hb, if_pos hc]
      have e1 : Cv.rchD n dp t d = dp := if_neg (fun h => hm h.2)
      have e2 : (dp t.toNat == d) = rchBD n dp t d := rchBD_of (by rw [beq_iff_eq]; unfold Cv.rchB; rw [e1]; constructor; exact .inr; exact fun h => h.resolve_left (by omega))
      rw [e1, e2]
  · have hg : decide (t ≥ (n : Int)) = true := by simp; omega
    rw [if_neg (show ¬ decide (t < (n : Int)) = true by simpa using ht), if_pos hg]
    have e1 : Cv.rchD n dp t d = dp := if_neg (fun h => ht h.1)
    have e2 : true = rchBD n dp t d := rchBD_of (by simp only [true_iff]; exact .inl (by omega))
    rw [e1, ← e2]
theorem sC71b : SoundC E2 C71b := ptab_cons (fun args h => by obtain ⟨o, rfl⟩ := h; exact eff_sc o) (ptabL_cons rch_sc tab_nil)
/-! ### The first loop -/
theorem k71a (n : Nat) (op arg dp : Nat → Int) : KC 10 (.exit 0) (T71a n op arg dp) = some (.l (.exit 0) (T71a n op arg dp)) := by kernel_rfl
def dpk (k : Nat) : Nat → Int := fun j => if j = 0 then 0 else if j ≤ k then -1 else 0
theorem dpk_next (k j : Nat) : Cv.upd (dpk k) (k + 1) (-1) j = dpk (k + 1) j := by
  unfold Cv.upd dpk
  by_cases h : j = k + 1
  · subst h; simp
  · rw [if_neg h]
    by_cases h0 : j = 0
    · simp [h0]
    · simp only [h0, if_false]
      by_cases h1 : j ≤ k
      · rw [if_pos h1, if_pos (by omega)]
      · rw [if_neg h1, if_neg (by omega)]
set_option maxRecDepth 100000 in
theorem loop71a {n : Nat} {op arg : Nat → Int} (hn : n ≤ 300) (h1 : 1 ≤ n) : ∀ (r k : Nat), k + r = n - 1 → SL E2 (bodyOf E2 71 0) (S71a n op arg k (dpk k)) (.exit 0) (T71a n op arg (dpk (n - 1))) := by
  intro r
  induction r with
  | zero =>
    intro k hk
    have : k = n - 1 := by omega
    subst this
    exact SL.by (m := 10) sC71b hX2 ltab2_nil ((r71a _ _ _ _ _ _).trans (by rw [if_neg (by simp)]; rfl))
  | succ r ih =>
    intro k hk
    have ew : w ((k : Int) + 1) = ((k + 1 : Nat) : Int) := by rw [w_in (by unfold inR; omega)]; omega
    refine SL.by (m := 10) sC71b hX2 (one2 0 (e' := .ret) (T' := T71r) (ih (k + 1) (by omega))) ((r71a _ _ _ _ _ _).trans ?_)
    rw [if_pos (by simp; omega), ew, if_pos (by omega), Int.toNat_natCast, Nat.zero_add, if_pos ⟨by omega, rfl⟩, putF_r1]
    refine (ltab2_hit ?_).trans ((cl_pos trivial).trans (k71a _ _ _ _))
    exact LeSt.mk' (LeL.refl _) ⟨ChLe.refl _, ChLe.refl _, ChLe.row fun j _ => (by unfold r1; rw [dpk_next]), trivial⟩
/-! ### The second loop -/
theorem k71b : KC2 0 4 (.exit 2) T71b = some (.l (.exit 2) T71b) := by kernel_rfl
theorem k71r : KC2 0 4 .ret T71r = some (.l .ret T71r) := by kernel_rfl
def ends71 (P : Prop) (S : St) : Prop := (P → SL E2 (bodyOf E2 71 2) S (.exit 2) T71b) ∧ (¬ P → SL E2 (bodyOf E2 71 2) S .ret T71r)
theorem ends71_next {P : Prop} {S S1 : St} (h : ends71 P S1) (hn : ∀ lo, loopK E2 C71b lo 2 939524136 (bodyOf E2 71 2) S (KC2 0 4) = lo 2 939524136 (bodyOf E2 71 2) S1 (KC2 0 4)) : ends71 P S := by
  have h0 : loopK E2 C71b (ltab2 [⟨2, bodyOf E2 71 2, S1, P, .exit 2, T71b, .ret, T71r⟩]) 2 939524136 (bodyOf E2 71 2) S (KC2 0 4) = cl P (some (.l (.exit 2) T71b)) (some (.l .ret T71r)) := by
    refine (hn _).trans ((ltab2_hit (LeSt.refl _)).trans ?_)
    rw [k71b, k71r]
  have hs := ltab2_cons (x := ⟨2, bodyOf E2 71 2, S1, P, .exit 2, T71b, .ret, T71r⟩) h ltab2_nil
  exact ⟨fun p => SL.by2 sC71b hX2 hs (h0.trans (cl_pos p)), fun p => SL.by2 sC71b hX2 hs (h0.trans (cl_neg p))⟩
theorem ends71_ret {P : Prop} {S : St} (hp : ¬ P) (hn : ∀ lo, loopK E2 C71b lo 2 939524136 (bodyOf E2 71 2) S (KC2 0 4) = some (.l .ret T71r)) : ends71 P S :=
  ⟨fun p => absurd p hp, fun _ => SL.by2 sC71b hX2 ltab2_nil (hn _)⟩
theorem ends71_iff {P P' : Prop} {S : St} (h : ends71 P S) (e : P' ↔ P) : ends71 P' S := ⟨fun p => h.1 (e.1 p), fun p => h.2 (fun q => p (e.2 q))⟩
def sml (dp : Nat → Int) : Prop := ∀ j, -1 ≤ dp j ∧ dp j ≤ 17
theorem sml.rch {dp : Nat → Int} (h : sml dp) {n : Nat} {t d : Int} (hd : -1 ≤ d ∧ d ≤ 17) : sml (Cv.rchD n dp t d) := by
  intro j
  unfold Cv.rchD
  split
  · unfold Cv.upd
    split
    · exact hd
    · exact h j
  · exact h j
theorem eff_range {o d : Int} (h1 : Cv.effLo o ≤ d) (h2 : d ≤ Cv.effHi o) : -1 ≤ d + Cv.effBy o ∧ d + Cv.effBy o ≤ 17 := by
  unfold Cv.effLo at h1
  unfold Cv.effHi at h2
  unfold Cv.effBy
  by_cases a1 : o = 1 ∨ o = 2 ∨ o = 4
  · simp only [if_pos a1] at *; omega
  by_cases a3 : o = 3 ∨ o = 21 ∨ o = 22 ∨ o = 20
  · simp only [if_neg a1, if_pos a3] at *; omega
  by_cases a9 : o = 9 ∨ o = 13
  · simp only [if_neg a1, if_neg a3, if_pos a9] at *; omega
  by_cases a5 : 5 ≤ o ∧ o ≤ 12
  · simp only [if_neg a1, if_neg a3, if_neg a9, if_pos a5] at *; omega
  by_cases a14 : o = 14
  · simp only [if_neg a1, if_neg a3, if_neg a9, if_neg a5, if_pos a14] at *; omega
  by_cases a15 : o = 15
  · simp only [if_neg a1, if_neg a3, if_neg a9, if_neg a5, if_neg a14, if_pos a15] at *; omega
  simp only [if_neg a1, if_neg a3, if_neg a9, if_neg a5, if_neg a14, if_neg a15] at *; omega
theorem okB_iff (o : Int) : okB o = true ↔ Cv.okOp o := by unfold okB Cv.okOp; simp
set_option maxRecDepth 100000 in
theorem loop71b {n : Nat} {op arg : Nat → Int} (vs : Int) (hn : n ≤ 300) (harg : ∀ i, i < n → Cv.jmp (op i) → 0 ≤ arg i) : ∀ (r i : Nat) (dp : Nat → Int), i + r = n → sml dp → ends71 (Cv.balP (mkC vs n op arg) r i dp) (S71b n op arg i dp) := by
  intro r
  induction r with
  | zero =>
    intro i dp hi _
    exact ⟨fun _ => SL.by2 (m := 0) (r := 4) sC71b hX2 ltab2_nil ((r71b _ _ _ _ _ _).trans (by rw [if_neg (by simp; omega)]; rfl)), fun h => absurd trivial h⟩
  | succ r ih =>
    intro i dp hi hs
    have hi' : i < n := by omega
    have hsi := hs i
    have hid : decide ((i : Int) < (n : Int)) = true := by simpa using hi'
    have hbb : (0 : Int) ≤ (i : Int) ∧ (i : Int) < (n : Int) := by omega
    have hcc : i < n ∧ True := ⟨hi', trivial⟩
    have hq : QI1 [i64 (op i)] ∧ True := ⟨⟨_, rfl⟩, trivial⟩
    have ew : w ((i : Int) + 1) = ((i + 1 : Nat) : Int) := by rw [w_in (by unfold inR; omega)]; omega
    have tree := fun lo => r71b n op arg i dp lo
    simp only [Int.toNat_natCast, Nat.zero_add, ew, if_pos hid, if_pos hbb, eq_self, if_pos hcc, cl_pos hq, dpOf_r1] at tree
    have bl := iff_of_eq (Cv.balP.eq_2 (mkC vs n op arg) i dp r)
    have hop : Cv.Cd.op (mkC vs n op arg) i = op i := rfl
    have har : Cv.Cd.arg (mkC vs n op arg) i = arg i := rfl
    have hnn : Cv.Cd.n (mkC vs n op arg) = n := rfl
    rw [hop, har, hnn] at bl
    by_cases hok' : ¬ Cv.okOp (op i)
    · refine ends71_ret (fun h => hok' (bl.1 h).1.1) fun lo => (tree lo).trans ?_
      have : okB (op i) = false := by cases hb : okB (op i) with | false => rfl | true => exact absurd ((okB_iff _).1 hb) hok'
      rw [if_pos (by rw [this]; rfl)]
      rfl
    have hok := Classical.not_not.1 hok'
    have hokb : ¬ (!okB (op i)) = true := by rw [(okB_iff _).2 hok]; decide
    by_cases hlo' : ¬ Cv.effLo (op i) ≤ dp i
    · refine ends71_ret (fun h => hlo' (bl.1 h).1.2.1) fun lo => (tree lo).trans ?_
      rw [if_neg hokb, if_pos (by simp; omega)]
      rfl
    have hlo := Classical.not_not.1 hlo'
    have hlob : ¬ decide (dp i < Cv.effLo (op i)) = true := by simp; omega
    by_cases hhi' : ¬ dp i ≤ Cv.effHi (op i)
    · refine ends71_ret (fun h => hhi' (bl.1 h).1.2.2) fun lo => (tree lo).trans ?_
      rw [if_neg hokb, if_neg hlob, if_pos (by simp; omega)]
      rfl
    have hhi := Classical.not_not.1 hhi'
    have hhib : ¬ decide (dp i > Cv.effHi (op i)) = true := by simp; omega
    have hd := eff_range hlo hhi
    have ed : w (dp i + Cv.effBy (op i)) = dp i + Cv.effBy (op i) := w_in (by unfold inR; omega)
    simp only [if_neg hokb, if_neg hlob, if_neg hhib, ed] at tree
    generalize dp i + Cv.effBy (op i) = d at *
    have QR : ∀ (t : Int) (x : Nat → Int), 0 ≤ t → QRch [i64 t, i64 d, V.ptr 0 0, V.ptr 1 0] [some (Chunk.blk [V.ro 2 n (ins op arg)]), some (Chunk.blk [V.sl 2 1 0 n]), some (Chunk.row 3 1 n (r1 x))] := fun t x h => ⟨t, d, n, op, arg, x, rfl, rfl, h⟩
    have neg : ∀ {x : Nat → Int} {t : Int}, ¬ Cv.rchB n x t d → (!rchBD n x t d) = true := by
      intro x t h
      have : rchBD n x t d = false := by cases hb : rchBD n x t d with | false => rfl | true => exact absurd ((rchBD_iff _ _ _ _).1 hb) h
      rw [this]; rfl
    have pos : ∀ {x : Nat → Int} {t : Int}, Cv.rchB n x t d → ¬ (!rchBD n x t d) = true := by
      intro x t h
      rw [(rchBD_iff _ _ _ _).2 h]; decide
    by_cases h14 : op i = 14
    · have hj : Cv.jmp (op i) := .inl h14
      have ha := harg i hi' hj
      have bl' : Cv.balP (mkC vs n op arg) (r + 1) i dp ↔ (Cv.rchB n dp (arg i) d ∧ Cv.balP (mkC vs n op arg) r (i + 1) (Cv.rchD n dp (arg i) d)) := by
        rw [bl]
        have hj' : Cv.jmp (14 : Int) := .inl rfl
        rw [h14] at hok hlo hhi
        simp only [hj', if_true, true_implies, h14, ne_eq, not_true_eq_false, false_implies, if_false, true_and]
        exact ⟨fun h => h.2, fun h => ⟨⟨hok, hlo, hhi⟩, h⟩⟩
      by_cases hr : Cv.rchB n dp (arg i) d
      · refine ends71_iff (ends71_next (ih (i + 1) _ (by omega) (hs.rch hd)) fun lo => (tree lo).trans ?_) (bl'.trans ⟨fun h => h.2, fun h => ⟨hr, h⟩⟩)
        rw [if_pos (by simpa using h14), cl_pos (QR _ _ ha), if_neg (pos hr), if_neg (show ¬ (op i != (14 : Int)) = true by simpa using h14)]
        rfl
      · refine ends71_ret (fun h => hr (bl'.1 h).1) fun lo => (tree lo).trans ?_
        rw [if_pos (by simpa using h14), cl_pos (QR _ _ ha), if_pos (neg hr)]
        rfl
    have h14b : (op i != (14 : Int)) = true := by simpa using h14
    have h14n : ¬ (op i == (14 : Int)) = true := by simpa using h14
    by_cases h15 : op i = 15
    · have hj : Cv.jmp (op i) := .inr h15
      have ha := harg i hi' hj
      have bl' : Cv.balP (mkC vs n op arg) (r + 1) i dp ↔ (Cv.rchB n dp (arg i) d ∧ Cv.rchB n (Cv.rchD n dp (arg i) d) ((i + 1 : Nat) : Int) d ∧ Cv.balP (mkC vs n op arg) r (i + 1) (Cv.rchD n (Cv.rchD n dp (arg i) d) ((i + 1 : Nat) : Int) d)) := by
        rw [bl]
        simp only [hj, if_true, true_implies, h14, ne_eq, not_false_eq_true]
        exact ⟨fun h => h.2, fun h => ⟨⟨hok, hlo, hhi⟩, h⟩⟩
      by_cases hr : Cv.rchB n dp (arg i) d
      · by_cases hr2 : Cv.rchB n (Cv.rchD n dp (arg i) d) ((i + 1 : Nat) : Int) d
        · refine ends71_iff (ends71_next (ih (i + 1) _ (by omega) ((hs.rch hd).rch hd)) fun lo => (tree lo).trans ?_) (bl'.trans ⟨fun h => h.2.2, fun h => ⟨hr, hr2, h⟩⟩)
          rw [if_neg h14n, if_pos (by simpa using h15), cl_pos (QR _ _ ha), if_neg (pos hr), if_pos h14b, cl_pos (QR _ _ (by omega)), if_neg (pos hr2)]
          rfl
        · refine ends71_ret (fun h => hr2 (bl'.1 h).2.1) fun lo => (tree lo).trans ?_
          rw [if_neg h14n, if_pos (by simpa using h15), cl_pos (QR _ _ ha), if_neg (pos hr), if_pos h14b, cl_pos (QR _ _ (by omega)), if_pos (neg hr2)]
          rfl
      · refine ends71_ret (fun h => hr (bl'.1 h).1) fun lo => (tree lo).trans ?_
        rw [if_neg h14n, if_pos (by simpa using h15), cl_pos (QR _ _ ha), if_pos (neg hr)]
        rfl
    have h15n : ¬ (op i == (15 : Int)) = true := by simpa using h15
    have hj : ¬ Cv.jmp (op i) := fun h => h.elim h14 h15
    have bl' : Cv.balP (mkC vs n op arg) (r + 1) i dp ↔ (Cv.rchB n dp ((i + 1 : Nat) : Int) d ∧ Cv.balP (mkC vs n op arg) r (i + 1) (Cv.rchD n dp ((i + 1 : Nat) : Int) d)) := by
      rw [bl]
      simp only [hj, if_false, false_implies, true_and, h14, ne_eq, not_false_eq_true, if_true, true_implies]
      exact ⟨fun h => h.2, fun h => ⟨⟨hok, hlo, hhi⟩, h⟩⟩
    by_cases hr : Cv.rchB n dp ((i + 1 : Nat) : Int) d
    · refine ends71_iff (ends71_next (ih (i + 1) _ (by omega) (hs.rch hd)) fun lo => (tree lo).trans ?_) (bl'.trans ⟨fun h => h.2, fun h => ⟨hr, h⟩⟩)
      rw [if_neg h14n, if_neg h15n, if_pos h14b, cl_pos (QR _ _ (by omega)), if_neg (pos hr)]
      rfl
    · refine ends71_ret (fun h => hr (bl'.1 h).1) fun lo => (tree lo).trans ?_
      rw [if_neg h14n, if_neg h15n, if_pos h14b, cl_pos (QR _ _ (by omega)), if_pos (neg hr)]
      rfl
open Classical in
noncomputable def balD (c : Cv.Cd) : Bool := decide (Cv.balP c c.n 0 Cv.dp0)
open Classical in
theorem balD_iff (c : Cv.Cd) : balD c = true ↔ Cv.balP c c.n 0 Cv.dp0 := by unfold balD; rw [decide_eq_true_eq]
set_option maxRecDepth 100000 in
theorem bal_sc {n : Nat} {op arg : Nat → Int} (vs : Int) (hn : n ≤ 300) (h1 : 1 ≤ n) (harg : ∀ i, i < n → Cv.jmp (op i) → 0 ≤ arg i) : SC E2 71 [cd n op arg] [] (.ret (bo (balD (mkC vs n op arg))) []) := by
  have l1 := loop71a (op := op) (arg := arg) hn h1 (n - 1) 0 (by omega)
  have hs0 : sml Cv.dp0 := fun j => by unfold Cv.dp0; split <;> omega
  have l2 := loop71b (arg := arg) vs hn harg n 0 Cv.dp0 (by omega) hs0
  have hc : (n : Int) = (n : Int) ∧ (0 : Int) ≤ (n : Int) ∧ 0 < 1 ∧ 1 = 1 ∧ Int.toNat (n : Int) * 8 ≤ 281474976710656 ∧ Int.toNat (n : Int) ≤ Go.maxLen ∧ (allOk 1 1 fun (x : Nat) => List.map V.sc (Array.toList (Value.cells (Value.int IntKind.i64 0)))) = true := by
    refine ⟨rfl, by omega, by decide, rfl, by rw [Int.toNat_natCast]; omega, by rw [Int.toNat_natCast]; unfold Go.maxLen; omega, by kernel_rfl⟩
  have hsnd : SoundL E2 (ltab2 [⟨0, bodyOf E2 71 0, S71a n op arg 0 (dpk 0), True, .exit 0, T71a n op arg (dpk (n - 1)), .ret, T71r⟩, ⟨2, bodyOf E2 71 2, S71b n op arg 0 Cv.dp0, Cv.balP (mkC vs n op arg) n 0 Cv.dp0, .exit 2, T71b, .ret, T71r⟩]) :=
    ltab2_cons ⟨fun _ => l1, fun h => absurd trivial h⟩ (ltab2_cons l2 ltab2_nil)
  refine SC.of hW2 hX2 sC71b hsnd ((f71 n op arg (dpk (n - 1)) _ _ _).trans ?_)
  have e0 : ∀ j, (fun (x : Nat) => List.map V.sc (Array.toList (Value.cells (Value.int IntKind.i64 0)))) j = r1 (dpk 0) j := by
    intro j
    show [i64 0] = [i64 (dpk 0 j)]
    unfold dpk
    by_cases h : j = 0
    · rw [if_pos h]
    · rw [if_neg h, if_neg (by omega)]
  rw [if_pos hc, if_pos (by rw [Int.toNat_natCast]; omega)]
  rw [cl_pos ⟨rfl, (by
    rw [Int.toNat_natCast, Int.toNat_natCast]
    exact LeSt.mk' (LeL.refl _) ⟨ChLe.refl _, ChLe.refl _, ChLe.row fun j _ => e0 j, trivial⟩)⟩, cl_pos trivial]
  rw [cl_pos ⟨rfl, (by
    refine LeSt.mk' (LeL.refl _) ⟨ChLe.refl _, ChLe.row fun j hj => ?_, ChLe.refl _, trivial⟩
    show [i64 (dpk (n - 1) j)] = [i64 (Cv.dp0 j)]
    unfold dpk Cv.dp0
    by_cases h : j = 0
    · rw [if_pos h, if_pos h]
    · rw [if_neg h, if_neg h, if_pos (by omega)])⟩]
  by_cases hb : Cv.balP (mkC vs n op arg) n 0 Cv.dp0
  · rw [cl_pos hb]
    have : balD (mkC vs n op arg) = true := (balD_iff _).2 hb
    rw [this]
  · rw [cl_neg hb]
    have : balD (mkC vs n op arg) = false := by cases h : balD (mkC vs n op arg) with | false => rfl | true => exact absurd ((balD_iff _).1 h) hb
    rw [this]
end Go.Proofs.Ythegipdgillngaa
