/- The places of instructions (70), walked. -/
import Derived.Test.YthegipdgillngaaV1
namespace Go.Proofs.Ythegipdgillngaa
open Go Go.Am Go.Proofs
set_option linter.unusedSimpArgs false
set_option linter.unusedVariables false
def QI1 (args : List V) : Prop := ∃ o : Int, args = [i64 o]
def vPuP : List V → V
  | [.sc (.int .i64 o)] => bo (Cv.pureP o)
  | _ => .junk
noncomputable def C70 : CallT := ptab 75 QI1 vPuP (tab [])
theorem sC70 : SoundC E2 C70 := ptab_cons (fun args h => by obtain ⟨o, rfl⟩ := h; exact pureP_sc o) tab_nil
def r2 (x y : Nat → Int) : Nat → List V := fun j => [i64 (x j), i64 (y j)]
def r1 (x : Nat → Int) : Nat → List V := fun j => [i64 (x j)]
def cd (n : Nat) (op arg : Nat → Int) : V := .ro 2 n (ins op arg)
def S70 (n : Nat) (op arg : Nat → Int) (i : Nat) (oL oW : Nat → Int) (lo wa : Int) : St := { fr := [.junk, .junk, .junk, .junk, .sl 0 2 0 n, .ptr 1 0] ++ jk 6 ++ [cd n op arg, i64 n, i64 i] ++ jk 69, H := hp [some (.row 104 2 n (r2 oL oW)), some (.blk [i64 lo, i64 wa])], nx := 2, rt := 0, me := 70 }
def T70 (n : Nat) (oL oW : Nat → Int) (lo wa : Int) : St := { fr := [.junk, .junk, .junk, .junk, .sl 0 2 0 n, .ptr 1 0] ++ jk 78, H := hp [some (.row 104 2 n (r2 oL oW)), some (.blk [i64 lo, i64 wa])], nx := 2, rt := 0, me := 70 }
def T70r : St := { fr := [.junk, .junk, .sc (.slice none 0 0), bo false] ++ jk 80, H := hp [], nx := 0, rt := 0, me := 70 }
theorem r70 (n : Nat) (op arg : Nat → Int) (i : Nat) (oL oW : Nat → Int) (lo_ wa : Int) (lo : LoopT) : loopK E2 C70 lo 0 28720 (bodyOf E2 70 0) (S70 n op arg i oL oW lo_ wa) (KC2 48 12) =
  if decide ((i : Int) < (n : Int)) = true then
   if (0 : Int) ≤ (i : Int) ∧ (i : Int) < (n : Int) then
    if (0 : Int) ≤ (i : Int) ∧ (i : Int) < (n : Int) then
     if 0 + Int.toNat (i : Int) < n ∧ 2 = 2 then
      if (wa != (-1 : Int)) = true then
       if (op (Int.toNat (i : Int)) != (20 : Int)) = true then
        cl (QI1 ([i64 (op (Int.toNat (i : Int)))]) ∧ ([] : List (Option Chunk)) = []) (
         if (!Cv.pureP (op (Int.toNat (i : Int)))) = true then
          some (Ans.l Ex.ret { fr := [V.junk, V.junk, V.sc (Value.slice none 0 0), bo false] ++ jk 80, H := hp [], nx := 0, rt := 0, me := 70 })
         else
          if (op (Int.toNat (i : Int)) == (16 : Int)) = true then
           lo 0 28720 (bodyOf E2 70 0) ({ fr := [V.junk, V.junk, V.junk, V.junk, V.sl 0 2 0 n, V.ptr 1 0, V.junk, V.junk, V.junk, V.junk, V.junk, V.junk, V.ro 2 n (ins op arg), i64 (n : Int), i64 (w ((i : Int) + (1 : Int)))] ++ jk 69, H := hp [some (Chunk.row 104 2 n (putF true (0 + Int.toNat (i : Int)) 0 [i64 lo_, i64 wa] (r2 oL oW))), some (Chunk.blk [i64 (i : Int), i64 wa])], nx := 2, rt := 0, me := 70 }) (KC2 48 12)
          else
           if (op (Int.toNat (i : Int)) == (19 : Int)) = true then
            lo 0 28720 (bodyOf E2 70 0) ({ fr := [V.junk, V.junk, V.junk, V.junk, V.sl 0 2 0 n, V.ptr 1 0, V.junk, V.junk, V.junk, V.junk, V.junk, V.junk, V.ro 2 n (ins op arg), i64 (n : Int), i64 (w ((i : Int) + (1 : Int)))] ++ jk 69, H := hp [some (Chunk.row 104 2 n (putF true (0 + Int.toNat (i : Int)) 0 [i64 lo_, i64 wa] (r2 oL oW))), some (Chunk.blk [i64 lo_, i64 (i : Int)])], nx := 2, rt := 0, me := 70 }) (KC2 48 12)
           else
            if (op (Int.toNat (i : Int)) == (17 : Int)) = true then
             if (lo_ == (-1 : Int)) = true then
              some (Ans.l Ex.ret { fr := [V.junk, V.junk, V.sc (Value.slice none 0 0), bo false] ++ jk 80, H := hp [], nx := 0, rt := 0, me := 70 })
             else
              if (arg (Int.toNat (i : Int)) != w (lo_ + (1 : Int))) = true then
               some (Ans.l Ex.ret { fr := [V.junk, V.junk, V.sc (Value.slice none 0 0), bo false] ++ jk 80, H := hp [], nx := 0, rt := 0, me := 70 })
              else
               if (0 : Int) ≤ lo_ ∧ lo_ < (n : Int) then
                if 0 + Int.toNat lo_ < n ∧ 2 = 2 then
                 lo 0 28720 (bodyOf E2 70 0) ({ fr := [V.junk, V.junk, V.junk, V.junk, V.sl 0 2 0 n, V.ptr 1 0, V.junk, V.junk, V.junk, V.junk, V.junk, V.junk, V.ro 2 n (ins op arg), i64 (n : Int), i64 (w ((i : Int) + (1 : Int)))] ++ jk 69, H := hp [some (Chunk.row 104 2 n (putF true (0 + Int.toNat (i : Int)) 0 [i64 lo_, i64 wa] (r2 oL oW))), some (Chunk.blk [i64 (if 0 + Int.toNat lo_ = 0 + Int.toNat (i : Int) then lo_ else oL (0 + Int.toNat lo_)), i64 (if 0 + Int.toNat lo_ = 0 + Int.toNat (i : Int) then wa else oW (0 + Int.toNat lo_))])], nx := 2, rt := 0, me := 70 }) (KC2 48 12)
                else
                 none
               else
                none
            else
             if (op (Int.toNat (i : Int)) == (20 : Int)) = true then
              if (wa == (-1 : Int)) = true then
               some (Ans.l Ex.ret { fr := [V.junk, V.junk, V.sc (Value.slice none 0 0), bo false] ++ jk 80, H := hp [], nx := 0, rt := 0, me := 70 })
              else
               if (arg (Int.toNat (i : Int)) != w (wa + (1 : Int))) = true then
                some (Ans.l Ex.ret { fr := [V.junk, V.junk, V.sc (Value.slice none 0 0), bo false] ++ jk 80, H := hp [], nx := 0, rt := 0, me := 70 })
               else
                lo 0 28720 (bodyOf E2 70 0) ({ fr := [V.junk, V.junk, V.junk, V.junk, V.sl 0 2 0 n, V.ptr 1 0, V.junk, V.junk, V.junk, V.junk, V.junk, V.junk, V.ro 2 n (ins op arg), i64 (n : Int), i64 (w ((i : Int) + (1 : Int)))] ++ jk 69, H := hp [some (Chunk.row 104 2 n (putF true (0 + Int.toNat (i : Int)) 0 [i64 lo_, i64 wa] (r2 oL oW))), some (Chunk.blk [i64 lo_, i64 (-1)])], nx := 2, rt := 0, me := 70 }) (KC2 48 12)
             else
              lo 0 28720 (bodyOf E2 70 0) ({ fr := [V.junk, V.junk, V.junk, V.junk, V.sl 0 2 0 n, V.ptr 1 0, V.junk, V.junk, V.junk, V.junk, V.junk, V.junk, V.ro 2 n (ins op arg), i64 (n : Int), i64 (w ((i : Int) + (1 : Int)))] ++ jk 69, H := hp [some (Chunk.row 104 2 n (putF true (0 + Int.toNat (i : Int)) 0 [i64 lo_, i64 wa] (r2 oL oW))), some (Chunk.blk [i64 lo_, i64 wa])], nx := 2, rt := 0, me := 70 }) (KC2 48 12)) (
         none)
       else
        if (op (Int.toNat (i : Int)) == (16 : Int)) = true then
         lo 0 28720 (bodyOf E2 70 0) ({ fr := [V.junk, V.junk, V.junk, V.junk, V.sl 0 2 0 n, V.ptr 1 0, V.junk, V.junk, V.junk, V.junk, V.junk, V.junk, V.ro 2 n (ins op arg), i64 (n : Int), i64 (w ((i : Int) + (1 : Int)))] ++ jk 69, H := hp [some (Chunk.row 104 2 n (putF true (0 + Int.toNat (i : Int)) 0 [i64 lo_, i64 wa] (r2 oL oW))), some (Chunk.blk [i64 (i : Int), i64 wa])], nx := 2, rt := 0, me := 70 }) (KC2 48 12)
        else
         if (op (Int.toNat (i : Int)) == (19 : Int)) = true then
          lo 0 28720 (bodyOf E2 70 0) ({ fr := [V.junk, V.junk, V.junk, V.junk, V.sl 0 2 0 n, V.ptr 1 0, V.junk, V.junk, V.junk, V.junk, V.junk, V.junk, V.ro 2 n (ins op arg), i64 (n : Int), i64 (w ((i : Int) + (1 : Int)))] ++ jk 69, H := hp [some (Chunk.row 104 2 n (putF true (0 + Int.toNat (i : Int)) 0 [i64 lo_, i64 wa] (r2 oL oW))), some (Chunk.blk [i64 lo_, i64 (i : Int)])], nx := 2, rt := 0, me := 70 }) (KC2 48 12)
         else
          if (op (Int.toNat (i : Int)) == (17 : Int)) = true then
           if (lo_ == (-1 : Int)) = true then
            some (Ans.l Ex.ret { fr := [V.junk, V.junk, V.sc (Value.slice none 0 0), bo false] ++ jk 80, H := hp [], nx := 0, rt := 0, me := 70 })
           else
            if (arg (Int.toNat (i : Int)) != w (lo_ + (1 : Int))) = true then
             some (Ans.l Ex.ret { fr := [V.junk, V.junk, V.sc (Value.slice none 0 0), bo false] ++ jk 80, H := hp [], nx := 0, rt := 0, me := 70 })
            else
             if (0 : Int) ≤ lo_ ∧ lo_ < (n : Int) then
              if 0 + Int.toNat lo_ < n ∧ 2 = 2 then
               lo 0 28720 (bodyOf E2 70 0) ({ fr := [V.junk, V.junk, V.junk, V.junk, V.sl 0 2 0 n, V.ptr 1 0, V.junk, V.junk, V.junk, V.junk, V.junk, V.junk, V.ro 2 n (ins op arg), i64 (n : Int), i64 (w ((i : Int) + (1 : Int)))] ++ jk 69, H := hp [some (Chunk.row 104 2 n (putF true (0 + Int.toNat (i : Int)) 0 [i64 lo_, i64 wa] (r2 oL oW))), some (Chunk.blk [i64 (if 0 + Int.toNat lo_ = 0 + Int.toNat (i : Int) then lo_ else oL (0 + Int.toNat lo_)), i64 (if 0 + Int.toNat lo_ = 0 + Int.toNat (i : Int) then wa else oW (0 + Int.toNat lo_))])], nx := 2, rt := 0, me := 70 }) (KC2 48 12)
              else
               none
             else
              none
          else
           if (op (Int.toNat (i : Int)) == (20 : Int)) = true then
            if (wa == (-1 : Int)) = true then
             some (Ans.l Ex.ret { fr := [V.junk, V.junk, V.sc (Value.slice none 0 0), bo false] ++ jk 80, H := hp [], nx := 0, rt := 0, me := 70 })
            else
             if (arg (Int.toNat (i : Int)) != w (wa + (1 : Int))) = true then
              some (Ans.l Ex.ret { fr := [V.junk, V.junk, V.sc (Value.slice none 0 0), bo false] ++ jk 80, H := hp [], nx := 0, rt := 0, me := 70 })
             else
              lo 0 28720 (bodyOf E2 70 0) ({ fr := [V.junk, V.junk, V.junk, V.junk, V.sl 0 2 0 n, V.ptr 1 0, V.junk, V.junk, V.junk, V.junk, V.junk, V.junk, V.ro 2 n (ins op arg), i64 (n : Int), i64 (w ((i : Int) + (1 : Int)))] ++ jk 69, H := hp [some (Chunk.row 104 2 n (putF true (0 + Int.toNat (i : Int)) 0 [i64 lo_, i64 wa] (r2 oL oW))), some (Chunk.blk [i64 lo_, i64 (-1)])], nx := 2, rt := 0, me := 70 }) (KC2 48 12)
           else
            lo 0 28720 (bodyOf E2 70 0) ({ fr := [V.junk, V.junk, V.junk, V.junk, V.sl 0 2 0 n, V.ptr 1 0, V.junk, V.junk, V.junk, V.junk, V.junk, V.junk, V.ro 2 n (ins op arg), i64 (n : Int), i64 (w ((i : Int) + (1 : Int)))] ++ jk 69, H := hp [some (Chunk.row 104 2 n (putF true (0 + Int.toNat (i : Int)) 0 [i64 lo_, i64 wa] (r2 oL oW))), some (Chunk.blk [i64 lo_, i64 wa])], nx := 2, rt := 0, me := 70 }) (KC2 48 12)
      else
       if (op (Int.toNat (i : Int)) == (16 : Int)) = true then
        lo 0 28720 (bodyOf E2 70 0) ({ fr := [V.junk, V.junk, V.junk, V.junk, V.sl 0 2 0 n, V.ptr 1 0, V.junk, V.junk, V.junk, V.junk, V.junk, V.junk, V.ro 2 n (ins op arg), i64 (n : Int), i64 (w ((i : Int) + (1 : Int)))] ++ jk 69, H := hp [some (Chunk.row 104 2 n (putF true (0 + Int.toNat (i : Int)) 0 [i64 lo_, i64 wa] (r2 oL oW))), some (Chunk.blk [i64 (i : Int), i64 wa])], nx := 2, rt := 0, me := 70 }) (KC2 48 12)
       else
        if (op (Int.toNat (i : Int)) == (19 : Int)) = true then
         lo 0 28720 (bodyOf E2 70 0) ({ fr := [V.junk, V.junk, V.junk, V.junk, V.sl 0 2 0 n, V.ptr 1 0, V.junk, V.junk, V.junk, V.junk, V.junk, V.junk, V.ro 2 n (ins op arg), i64 (n : Int), i64 (w ((i : Int) + (1 : Int)))] ++ jk 69, H := hp [some (Chunk.row 104 2 n (putF true (0 + Int.toNat (i : Int)) 0 [i64 lo_, i64 wa] (r2 oL oW))), some (Chunk.blk [i64 lo_, i64 (i : Int)])], nx := 2, rt := 0, me := 70 }) (KC2 48 12)
        else
         if (op (Int.toNat (i : Int)) == (17 : Int)) = true then
          if (lo_ == (-1 : Int)) = true then
           some (Ans.l Ex.ret { fr := [V.junk, V.junk, V.sc (Value.slice none 0 0), bo false] ++ jk 80, H := hp [], nx := 0, rt := 0, me := 70 })
          else
           if (arg (Int.toNat (i : Int)) != w (lo_ + (1 : Int))) = true then
            some (Ans.l Ex.ret { fr := [V.junk, V.junk, V.sc (Value.slice none 0 0), bo false] ++ jk 80, H := hp [], nx := 0, rt := 0, me := 70 })
           else
            if (0 : Int) ≤ lo_ ∧ lo_ < (n : Int) then
             if 0 + Int.toNat lo_ < n ∧ 2 = 2 then
              lo 0 28720 (bodyOf E2 70 0) ({ fr := [V.junk, V.junk, V.junk, V.junk, V.sl 0 2 0 n, V.ptr 1 0, V.junk, V.junk, V.junk, V.junk, V.junk, V.junk, V.ro 2 n (ins op arg), i64 (n : Int), i64 (w ((i : Int) + (1 : Int)))] ++ jk 69, H := hp [some (Chunk.row 104 2 n (putF true (0 + Int.toNat (i : Int)) 0 [i64 lo_, i64 wa] (r2 oL oW))), some (Chunk.blk [i64 (if 0 + Int.toNat lo_ = 0 + Int.toNat (i : Int) then lo_ else oL (0 + Int.toNat lo_)), i64 (if 0 + Int.toNat lo_ = 0 + Int.toNat (i : Int) then wa else oW (0 + Int.toNat lo_))])], nx := 2, rt := 0, me := 70 }) (KC2 48 12)
             else
              none
            else
             none
         else
          if (op (Int.toNat (i : Int)) == (20 : Int)) = true then
           if (wa == (-1 : Int)) = true then
            some (Ans.l Ex.ret { fr := [V.junk, V.junk, V.sc (Value.slice none 0 0), bo false] ++ jk 80, H := hp [], nx := 0, rt := 0, me := 70 })
           else
            if (arg (Int.toNat (i : Int)) != w (wa + (1 : Int))) = true then
             some (Ans.l Ex.ret { fr := [V.junk, V.junk, V.sc (Value.slice none 0 0), bo false] ++ jk 80, H := hp [], nx := 0, rt := 0, me := 70 })
            else
             lo 0 28720 (bodyOf E2 70 0) ({ fr := [V.junk, V.junk, V.junk, V.junk, V.sl 0 2 0 n, V.ptr 1 0, V.junk, V.junk, V.junk, V.junk, V.junk, V.junk, V.ro 2 n (ins op arg), i64 (n : Int), i64 (w ((i : Int) + (1 : Int)))] ++ jk 69, H := hp [some (Chunk.row 104 2 n (putF true (0 + Int.toNat (i : Int)) 0 [i64 lo_, i64 wa] (r2 oL oW))), some (Chunk.blk [i64 lo_, i64 (-1)])], nx := 2, rt := 0, me := 70 }) (KC2 48 12)
          else
           lo 0 28720 (bodyOf E2 70 0) ({ fr := [V.junk, V.junk, V.junk, V.junk, V.sl 0 2 0 n, V.ptr 1 0, V.junk, V.junk, V.junk, V.junk, V.junk, V.junk, V.ro 2 n (ins op arg), i64 (n : Int), i64 (w ((i : Int) + (1 : Int)))] ++ jk 69, H := hp [some (Chunk.row 104 2 n (putF true (0 + Int.toNat (i : Int)) 0 [i64 lo_, i64 wa] (r2 oL oW))), some (Chunk.blk [i64 lo_, i64 wa])], nx := 2, rt := 0, me := 70 }) (KC2 48 12)
     else
      none
    else
     none
   else
    none
  else
   some (Ans.l (Ex.exit 0) { fr := [V.junk, V.junk, V.junk, V.junk, V.sl 0 2 0 n, V.ptr 1 0] ++ jk 78, H := hp [some (Chunk.row 104 2 n (r2 oL oW)), some (Chunk.blk [i64 lo_, i64 wa])], nx := 2, rt := 0, me := 70 }) := by kernel_rfl

theorem f70 (n : Nat) (op arg oL oW : Nat → Int) (a b : Int) (S1 : St) (P : Prop) : callK E2 C70 (ltab2 [⟨0, bodyOf E2 70 0, S1, P, .exit 0, T70 n oL oW a b, .ret, T70r⟩]) 70 [.ro 2 n (ins op arg)] [] K =
  if (n : Int) = (n : Int) ∧ (0 : Int) ≤ (n : Int) ∧ 0 < 2 ∧ 2 = 2 ∧ Int.toNat (n : Int) * 16 ≤ 281474976710656 ∧ Int.toNat (n : Int) ≤ maxLen ∧ (allOk 2 1 fun (x : Nat) => List.map V.sc (Array.toList (Value.cells (Value.agg #[Value.int IntKind.i64 0, Value.int IntKind.i64 0])))) = true then
   cl ((bodyOf E2 70 0) = (bodyOf E2 70 0) ∧ LeSt ({ fr := [V.junk, V.junk, V.junk, V.junk, V.sl 0 2 0 (Int.toNat (n : Int)), V.ptr 1 0, V.junk, V.junk, V.junk, V.junk, V.junk, V.junk, V.ro 2 n (ins op arg), i64 (n : Int), i64 0] ++ jk 69, H := hp [some (Chunk.row 104 2 (Int.toNat (n : Int)) fun (x : Nat) => List.map V.sc (Array.toList (Value.cells (Value.agg #[Value.int IntKind.i64 0, Value.int IntKind.i64 0])))), some (Chunk.blk [i64 (-1), i64 (-1)])], nx := 2, rt := 0, me := 70 }) (S1)) (
    cl (P) (
     some (Ans.c (CRes.ret (V.tup [V.sl 0 2 0 n, bo ((if false = true then !(a == (-1 : Int) && (b == (-1 : Int) && true)) else a == (-1 : Int) && (b == (-1 : Int) && true)))]) [some (Chunk.row 104 2 n (r2 oL oW))]))) (
     some (Ans.c (CRes.ret (V.tup [V.sc (Value.slice none 0 0), bo false]) [])))) (
    none)
  else
   none := by kernel_rfl

theorem one2 {c : ACode} {S T T' : St} {e e' : Ex} (id : Nat) (h : SL E2 c S e T) : SoundL E2 (ltab2 [⟨id, c, S, True, e, T, e', T'⟩]) := ltab2_cons ⟨fun _ => h, fun h => absurd trivial h⟩ ltab2_nil
theorem oneF2 {c : ACode} {S T T' : St} {e e' : Ex} (id : Nat) (h : SL E2 c S e' T') : SoundL E2 (ltab2 [⟨id, c, S, False, e, T, e', T'⟩]) := ltab2_cons ⟨fun h => False.elim h, fun _ => h⟩ ltab2_nil
theorem k70 (n : Nat) (oL oW : Nat → Int) (a b : Int) : KC2 48 12 (.exit 0) (T70 n oL oW a b) = some (.l (.exit 0) (T70 n oL oW a b)) := by kernel_rfl
theorem k70r : KC2 48 12 .ret T70r = some (.l .ret T70r) := by kernel_rfl
def ends70 (n : Nat) (x : Option Cv.Pl) (S : St) : Prop := match x with
  | none => SL E2 (bodyOf E2 70 0) S .ret T70r
  | some q => SL E2 (bodyOf E2 70 0) S (.exit 0) (T70 n q.oL q.oW q.lo q.wa)
theorem ends70_next {n : Nat} {x : Option Cv.Pl} {S S' S1 : St} (h : ends70 n x S1) (hle : LeSt S' S1) (hn : ∀ lo, loopK E2 C70 lo 0 28720 (bodyOf E2 70 0) S (KC2 48 12) = lo 0 28720 (bodyOf E2 70 0) S' (KC2 48 12)) : ends70 n x S := by
  cases x with
  | none => exact SL.by2 sC70 hX2 (oneF2 0 (e := .exit 0) (T := T70r) h) ((hn _).trans ((ltab2_hit hle).trans ((cl_neg (fun h => h)).trans k70r)))
  | some q => exact SL.by2 sC70 hX2 (one2 0 (e' := .ret) (T' := T70r) h) ((hn _).trans ((ltab2_hit hle).trans ((cl_pos trivial).trans (k70 _ _ _ _ _))))
theorem row_put2 (x y : Nat → Int) (i : Nat) (a b : Int) (j : Nat) : putF true i 0 [i64 a, i64 b] (r2 x y) j = r2 (Cv.upd x i a) (Cv.upd y i b) j := by
  rw [putF_eq]
  by_cases h : j = i
  · subst h; simp only [if_true]; unfold r2; rw [Cv.upd_same, Cv.upd_same]; rfl
  · simp only [if_neg h]; unfold r2; rw [Cv.upd_ne h, Cv.upd_ne h]
/-- The entries are places before. -/
def Bel (i : Nat) (v : Int) : Prop := v = -1 ∨ (0 ≤ v ∧ v < i)
structure I70 (i : Nat) (q : Cv.Pl) : Prop where
  oL : ∀ j, j < i → Bel j (q.oL j)
  oW : ∀ j, j < i → Bel j (q.oW j)
  lo : Bel i q.lo
  wa : Bel i q.wa
theorem Bel.up {i : Nat} {v : Int} (h : Bel i v) : Bel (i + 1) v := by unfold Bel at *; omega
theorem I70.push {i : Nat} {q : Cv.Pl} (h : I70 i q) {a b : Int} (ha : Bel (i + 1) a) (hb : Bel (i + 1) b) : I70 (i + 1) ⟨Cv.upd q.oL i q.lo, Cv.upd q.oW i q.wa, a, b⟩ := by
  refine ⟨fun j hj => ?_, fun j hj => ?_, ha, hb⟩
  · show Bel j (Cv.upd q.oL i q.lo j)
    by_cases hji : j = i
    · subst hji; rw [Cv.upd_same]; exact h.lo
    · rw [Cv.upd_ne hji]; exact h.oL j (by omega)
  · show Bel j (Cv.upd q.oW i q.wa j)
    by_cases hji : j = i
    · subst hji; rw [Cv.upd_same]; exact h.wa
    · rw [Cv.upd_ne hji]; exact h.oW j (by omega)
theorem I70.pop {i : Nat} {q : Cv.Pl} (h : I70 i q) (hlo : 0 ≤ q.lo ∧ q.lo < i) : Bel (i + 1) (Cv.upd q.oL i q.lo q.lo.toNat) ∧ Bel (i + 1) (Cv.upd q.oW i q.wa q.lo.toNat) := by
  have hne : q.lo.toNat ≠ i := by omega
  rw [Cv.upd_ne hne, Cv.upd_ne hne]
  have h1 := h.oL q.lo.toNat (by omega)
  have h2 := h.oW q.lo.toNat (by omega)
  unfold Bel at *
  omega
set_option maxRecDepth 100000 in
theorem loop70 {n : Nat} {op arg : Nat → Int} (vs : Int) (hn : n ≤ 300) : ∀ (r i : Nat) (q : Cv.Pl), i + r = n → I70 i q → ends70 n (Cv.plcP (mkC vs n op arg) r i q) (S70 n op arg i q.oL q.oW q.lo q.wa) := by
  intro r
  induction r with
  | zero =>
    intro i q hi hv
    exact SL.by2 (m := 48) (r := 12) sC70 hX2 ltab2_nil ((r70 _ _ _ _ _ _ _ _ _).trans (by rw [if_neg (by simp; omega)]; rfl))
  | succ r ih =>
    intro i q hi hv
    have hi' : i < n := by omega
    have hlo' := hv.lo.up
    have hwa' := hv.wa.up
    have hbl := hv.lo
    have hbw := hv.wa
    have hid : decide ((i : Int) < (n : Int)) = true := by simpa using hi'
    have hbb : (0 : Int) ≤ (i : Int) ∧ (i : Int) < (n : Int) := by omega
    have hcc : i < n ∧ True := ⟨hi', trivial⟩
    have ew : w ((i : Int) + 1) = ((i + 1 : Nat) : Int) := by rw [w_in (by unfold inR; omega)]; omega
    have el : w (q.lo + 1) = q.lo + 1 := w_in (by unfold Bel at hbl; unfold inR; omega)
    have ea : w (q.wa + 1) = q.wa + 1 := w_in (by unfold Bel at hbw; unfold inR; omega)
    have tree := fun lo => r70 n op arg i q.oL q.oW q.lo q.wa lo
    simp only [Int.toNat_natCast, Nat.zero_add, ew, el, ea, if_pos hid, if_pos hbb, eq_self, if_pos hcc] at tree
    have pl := Cv.plcP.eq_2 (mkC vs n op arg) i q r
    generalize hc : mkC vs n op arg = c at *
    have hop : c.op i = op i := by rw [← hc]; rfl
    have harg : c.arg i = arg i := by rw [← hc]; rfl
    have hq : QI1 [i64 (op i)] ∧ True := ⟨⟨_, rfl⟩, trivial⟩
    have nx : ∀ {x x' : Option Cv.Pl} {a b : Int}, ends70 n x (S70 n op arg (i + 1) (Cv.upd q.oL i q.lo) (Cv.upd q.oW i q.wa) a b) → x' = x → (∀ lo, loopK E2 C70 lo 0 28720 (bodyOf E2 70 0) (S70 n op arg i q.oL q.oW q.lo q.wa) (KC2 48 12) = lo 0 28720 (bodyOf E2 70 0) ({ fr := [V.junk, V.junk, V.junk, V.junk, V.sl 0 2 0 n, V.ptr 1 0, V.junk, V.junk, V.junk, V.junk, V.junk, V.junk, V.ro 2 n (ins op arg), i64 (n : Int), i64 ((i + 1 : Nat) : Int)] ++ jk 69, H := hp [some (Chunk.row 104 2 n (putF true i 0 [i64 q.lo, i64 q.wa] (r2 q.oL q.oW))), some (Chunk.blk [i64 a, i64 b])], nx := 2, rt := 0, me := 70 }) (KC2 48 12)) → ends70 n x' (S70 n op arg i q.oL q.oW q.lo q.wa) := by
      intro x x' a b h1 h2 h3
      subst h2
      refine ends70_next h1 ?_ h3
      exact LeSt.mk' (LeL.refl _) ⟨ChLe.row fun j _ => row_put2 _ _ _ _ _ j, ChLe.refl _, trivial⟩
    have stop : ∀ {x : Option Cv.Pl}, x = none → (∀ lo, loopK E2 C70 lo 0 28720 (bodyOf E2 70 0) (S70 n op arg i q.oL q.oW q.lo q.wa) (KC2 48 12) = some (.l .ret T70r)) → ends70 n x (S70 n op arg i q.oL q.oW q.lo q.wa) := by
      intro x h1 h3
      subst h1
      exact SL.by2 sC70 hX2 ltab2_nil (h3 _)
    rw [hop, harg] at pl
    by_cases hw : q.wa = -1
    · have hbad : ¬ (q.wa ≠ -1 ∧ op i ≠ 20 ∧ Cv.pureP (op i) = false) := fun h => h.1 hw
      rw [if_neg hbad] at pl
      by_cases h16 : op i = 16
      · refine nx (ih (i + 1) ⟨Cv.upd q.oL i q.lo, Cv.upd q.oW i q.wa, i, q.wa⟩ (by omega) (hv.push (.inr ⟨by omega, by omega⟩) hwa')) (by rw [pl, if_pos h16]) fun lo => (tree lo).trans ?_
        rw [if_neg (show ¬ (q.wa != (-1 : Int)) = true by simpa using hw)]
        rw [if_pos (show (op i == (16 : Int)) = true by simpa using h16)]
      by_cases h19 : op i = 19
      · refine nx (ih (i + 1) ⟨Cv.upd q.oL i q.lo, Cv.upd q.oW i q.wa, q.lo, i⟩ (by omega) (hv.push hlo' (.inr ⟨by omega, by omega⟩))) (by rw [pl, if_neg h16, if_pos h19]) fun lo => (tree lo).trans ?_
        rw [if_neg (show ¬ (q.wa != (-1 : Int)) = true by simpa using hw)]
        rw [if_neg (show ¬ (op i == (16 : Int)) = true by simpa using h16), if_pos (show (op i == (19 : Int)) = true by simpa using h19)]
      by_cases h17 : op i = 17
      · by_cases hb : q.lo = -1 ∨ arg i ≠ q.lo + 1
        · refine stop (by rw [pl, if_neg h16, if_neg h19, if_pos h17, if_pos hb]) fun lo => (tree lo).trans ?_
          rw [if_neg (show ¬ (q.wa != (-1 : Int)) = true by simpa using hw)]
          rw [if_neg (show ¬ (op i == (16 : Int)) = true by simpa using h16), if_neg (show ¬ (op i == (19 : Int)) = true by simpa using h19), if_pos (show (op i == (17 : Int)) = true by simpa using h17)]
          by_cases hm : q.lo = -1
          · rw [if_pos (by simpa using hm)]; rfl
          · rw [if_neg (by simpa using hm), if_pos (by have h9 := hb.resolve_left hm; simpa using h9)]; rfl
        · have hm : ¬ q.lo = -1 := fun h => hb (.inl h)
          have ha : arg i = q.lo + 1 := Classical.not_not.1 fun h => hb (.inr h)
          have hlo : 0 ≤ q.lo ∧ q.lo < i := by rcases hv.lo with h | h; exact absurd h hm; exact h
          refine nx (ih (i + 1) ⟨Cv.upd q.oL i q.lo, Cv.upd q.oW i q.wa, Cv.upd q.oL i q.lo q.lo.toNat, Cv.upd q.oW i q.wa q.lo.toNat⟩ (by omega) (hv.push (hv.pop hlo).1 (hv.pop hlo).2)) (by rw [pl, if_neg h16, if_neg h19, if_pos h17, if_neg hb]) fun lo => (tree lo).trans ?_
          rw [if_neg (show ¬ (q.wa != (-1 : Int)) = true by simpa using hw)]
          rw [if_neg (show ¬ (op i == (16 : Int)) = true by simpa using h16), if_neg (show ¬ (op i == (19 : Int)) = true by simpa using h19), if_pos (show (op i == (17 : Int)) = true by simpa using h17), if_neg (by simpa using hm), if_neg (by have h9 : arg i = q.lo + 1 := ha; simp [h9]), if_pos (show (0 : Int) ≤ q.lo ∧ q.lo < (n : Int) by omega), if_pos (show q.lo.toNat < n ∧ True from ⟨by omega, trivial⟩)]
          rfl
      by_cases h20 : op i = 20
      · by_cases hb : q.wa = -1 ∨ arg i ≠ q.wa + 1
        · refine stop (by rw [pl, if_neg h16, if_neg h19, if_neg h17, if_pos h20, if_pos hb]) fun lo => (tree lo).trans ?_
          rw [if_neg (show ¬ (q.wa != (-1 : Int)) = true by simpa using hw)]
          rw [if_neg (show ¬ (op i == (16 : Int)) = true by simpa using h16), if_neg (show ¬ (op i == (19 : Int)) = true by simpa using h19), if_neg (show ¬ (op i == (17 : Int)) = true by simpa using h17), if_pos (show (op i == (20 : Int)) = true by simpa using h20)]
          by_cases hm : q.wa = -1
          · rw [if_pos (by simpa using hm)]; rfl
          · rw [if_neg (by simpa using hm), if_pos (by have h9 := hb.resolve_left hm; simpa using h9)]; rfl
        · have hm : ¬ q.wa = -1 := fun h => hb (.inl h)
          have ha : arg i = q.wa + 1 := Classical.not_not.1 fun h => hb (.inr h)
          refine nx (ih (i + 1) ⟨Cv.upd q.oL i q.lo, Cv.upd q.oW i q.wa, q.lo, -1⟩ (by omega) (hv.push hlo' (.inl rfl))) (by rw [pl, if_neg h16, if_neg h19, if_neg h17, if_pos h20, if_neg hb]) fun lo => (tree lo).trans ?_
          rw [if_neg (show ¬ (q.wa != (-1 : Int)) = true by simpa using hw)]
          rw [if_neg (show ¬ (op i == (16 : Int)) = true by simpa using h16), if_neg (show ¬ (op i == (19 : Int)) = true by simpa using h19), if_neg (show ¬ (op i == (17 : Int)) = true by simpa using h17), if_pos (show (op i == (20 : Int)) = true by simpa using h20), if_neg (by simpa using hm), if_neg (by have h9 : arg i = q.wa + 1 := ha; simp [h9])]
      refine nx (ih (i + 1) ⟨Cv.upd q.oL i q.lo, Cv.upd q.oW i q.wa, q.lo, q.wa⟩ (by omega) (hv.push hlo' hwa')) (by rw [pl, if_neg h16, if_neg h19, if_neg h17, if_neg h20]) fun lo => (tree lo).trans ?_
      rw [if_neg (show ¬ (q.wa != (-1 : Int)) = true by simpa using hw)]
      rw [if_neg (show ¬ (op i == (16 : Int)) = true by simpa using h16), if_neg (show ¬ (op i == (19 : Int)) = true by simpa using h19), if_neg (show ¬ (op i == (17 : Int)) = true by simpa using h17), if_neg (show ¬ (op i == (20 : Int)) = true by simpa using h20)]
    by_cases h20' : op i = 20
    · have hbad : ¬ (q.wa ≠ -1 ∧ op i ≠ 20 ∧ Cv.pureP (op i) = false) := fun h => h.2.1 h20'
      rw [if_neg hbad] at pl
      by_cases h16 : op i = 16
      · refine nx (ih (i + 1) ⟨Cv.upd q.oL i q.lo, Cv.upd q.oW i q.wa, i, q.wa⟩ (by omega) (hv.push (.inr ⟨by omega, by omega⟩) hwa')) (by rw [pl, if_pos h16]) fun lo => (tree lo).trans ?_
        rw [if_pos (show (q.wa != (-1 : Int)) = true by simpa using hw), if_neg (show ¬ (op i != (20 : Int)) = true by simpa using h20')]
        rw [if_pos (show (op i == (16 : Int)) = true by simpa using h16)]
      by_cases h19 : op i = 19
      · refine nx (ih (i + 1) ⟨Cv.upd q.oL i q.lo, Cv.upd q.oW i q.wa, q.lo, i⟩ (by omega) (hv.push hlo' (.inr ⟨by omega, by omega⟩))) (by rw [pl, if_neg h16, if_pos h19]) fun lo => (tree lo).trans ?_
        rw [if_pos (show (q.wa != (-1 : Int)) = true by simpa using hw), if_neg (show ¬ (op i != (20 : Int)) = true by simpa using h20')]
        rw [if_neg (show ¬ (op i == (16 : Int)) = true by simpa using h16), if_pos (show (op i == (19 : Int)) = true by simpa using h19)]
      by_cases h17 : op i = 17
      · by_cases hb : q.lo = -1 ∨ arg i ≠ q.lo + 1
        · refine stop (by rw [pl, if_neg h16, if_neg h19, if_pos h17, if_pos hb]) fun lo => (tree lo).trans ?_
          rw [if_pos (show (q.wa != (-1 : Int)) = true by simpa using hw), if_neg (show ¬ (op i != (20 : Int)) = true by simpa using h20')]
          rw [if_neg (show ¬ (op i == (16 : Int)) = true by simpa using h16), if_neg (show ¬ (op i == (19 : Int)) = true by simpa using h19), if_pos (show (op i == (17 : Int)) = true by simpa using h17)]
          by_cases hm : q.lo = -1
          · rw [if_pos (by simpa using hm)]; rfl
          · rw [if_neg (by simpa using hm), if_pos (by have h9 := hb.resolve_left hm; simpa using h9)]; rfl
        · have hm : ¬ q.lo = -1 := fun h => hb (.inl h)
          have ha : arg i = q.lo + 1 := Classical.not_not.1 fun h => hb (.inr h)
          have hlo : 0 ≤ q.lo ∧ q.lo < i := by rcases hv.lo with h | h; exact absurd h hm; exact h
          refine nx (ih (i + 1) ⟨Cv.upd q.oL i q.lo, Cv.upd q.oW i q.wa, Cv.upd q.oL i q.lo q.lo.toNat, Cv.upd q.oW i q.wa q.lo.toNat⟩ (by omega) (hv.push (hv.pop hlo).1 (hv.pop hlo).2)) (by rw [pl, if_neg h16, if_neg h19, if_pos h17, if_neg hb]) fun lo => (tree lo).trans ?_
          rw [if_pos (show (q.wa != (-1 : Int)) = true by simpa using hw), if_neg (show ¬ (op i != (20 : Int)) = true by simpa using h20')]
          rw [if_neg (show ¬ (op i == (16 : Int)) = true by simpa using h16), if_neg (show ¬ (op i == (19 : Int)) = true by simpa using h19), if_pos (show (op i == (17 : Int)) = true by simpa using h17), if_neg (by simpa using hm), if_neg (by have h9 : arg i = q.lo + 1 := ha; simp [h9]), if_pos (show (0 : Int) ≤ q.lo ∧ q.lo < (n : Int) by omega), if_pos (show q.lo.toNat < n ∧ True from ⟨by omega, trivial⟩)]
          rfl
      by_cases h20 : op i = 20
      · by_cases hb : q.wa = -1 ∨ arg i ≠ q.wa + 1
        · refine stop (by rw [pl, if_neg h16, if_neg h19, if_neg h17, if_pos h20, if_pos hb]) fun lo => (tree lo).trans ?_
          rw [if_pos (show (q.wa != (-1 : Int)) = true by simpa using hw), if_neg (show ¬ (op i != (20 : Int)) = true by simpa using h20')]
          rw [if_neg (show ¬ (op i == (16 : Int)) = true by simpa using h16), if_neg (show ¬ (op i == (19 : Int)) = true by simpa using h19), if_neg (show ¬ (op i == (17 : Int)) = true by simpa using h17), if_pos (show (op i == (20 : Int)) = true by simpa using h20)]
          by_cases hm : q.wa = -1
          · rw [if_pos (by simpa using hm)]; rfl
          · rw [if_neg (by simpa using hm), if_pos (by have h9 := hb.resolve_left hm; simpa using h9)]; rfl
        · have hm : ¬ q.wa = -1 := fun h => hb (.inl h)
          have ha : arg i = q.wa + 1 := Classical.not_not.1 fun h => hb (.inr h)
          refine nx (ih (i + 1) ⟨Cv.upd q.oL i q.lo, Cv.upd q.oW i q.wa, q.lo, -1⟩ (by omega) (hv.push hlo' (.inl rfl))) (by rw [pl, if_neg h16, if_neg h19, if_neg h17, if_pos h20, if_neg hb]) fun lo => (tree lo).trans ?_
          rw [if_pos (show (q.wa != (-1 : Int)) = true by simpa using hw), if_neg (show ¬ (op i != (20 : Int)) = true by simpa using h20')]
          rw [if_neg (show ¬ (op i == (16 : Int)) = true by simpa using h16), if_neg (show ¬ (op i == (19 : Int)) = true by simpa using h19), if_neg (show ¬ (op i == (17 : Int)) = true by simpa using h17), if_pos (show (op i == (20 : Int)) = true by simpa using h20), if_neg (by simpa using hm), if_neg (by have h9 : arg i = q.wa + 1 := ha; simp [h9])]
      refine nx (ih (i + 1) ⟨Cv.upd q.oL i q.lo, Cv.upd q.oW i q.wa, q.lo, q.wa⟩ (by omega) (hv.push hlo' hwa')) (by rw [pl, if_neg h16, if_neg h19, if_neg h17, if_neg h20]) fun lo => (tree lo).trans ?_
      rw [if_pos (show (q.wa != (-1 : Int)) = true by simpa using hw), if_neg (show ¬ (op i != (20 : Int)) = true by simpa using h20')]
      rw [if_neg (show ¬ (op i == (16 : Int)) = true by simpa using h16), if_neg (show ¬ (op i == (19 : Int)) = true by simpa using h19), if_neg (show ¬ (op i == (17 : Int)) = true by simpa using h17), if_neg (show ¬ (op i == (20 : Int)) = true by simpa using h20)]
    by_cases hpu : Cv.pureP (op i) = false
    · refine stop (by rw [pl, if_pos ⟨hw, h20', hpu⟩]) fun lo => (tree lo).trans ?_
      rw [if_pos (show (q.wa != (-1 : Int)) = true by simpa using hw), if_pos (show (op i != (20 : Int)) = true by simpa using h20'), cl_pos hq]
      show (if (!Cv.pureP (op i)) = true then _ else _) = _
      rw [if_pos (by rw [hpu]; rfl)]
      rfl
    · have hbad : ¬ (q.wa ≠ -1 ∧ op i ≠ 20 ∧ Cv.pureP (op i) = false) := fun h => hpu h.2.2
      rw [if_neg hbad] at pl
      by_cases h16 : op i = 16
      · refine nx (ih (i + 1) ⟨Cv.upd q.oL i q.lo, Cv.upd q.oW i q.wa, i, q.wa⟩ (by omega) (hv.push (.inr ⟨by omega, by omega⟩) hwa')) (by rw [pl, if_pos h16]) fun lo => (tree lo).trans ?_
        rw [if_pos (show (q.wa != (-1 : Int)) = true by simpa using hw), if_pos (show (op i != (20 : Int)) = true by simpa using h20'), cl_pos hq]; (show (if (!Cv.pureP (op i)) = true then _ else _) = _); rw [if_neg (show ¬ (!Cv.pureP (op i)) = true by simpa using hpu)]
        rw [if_pos (show (op i == (16 : Int)) = true by simpa using h16)]
      by_cases h19 : op i = 19
      · refine nx (ih (i + 1) ⟨Cv.upd q.oL i q.lo, Cv.upd q.oW i q.wa, q.lo, i⟩ (by omega) (hv.push hlo' (.inr ⟨by omega, by omega⟩))) (by rw [pl, if_neg h16, if_pos h19]) fun lo => (tree lo).trans ?_
        rw [if_pos (show (q.wa != (-1 : Int)) = true by simpa using hw), if_pos (show (op i != (20 : Int)) = true by simpa using h20'), cl_pos hq]; (show (if (!Cv.pureP (op i)) = true then _ else _) = _); rw [if_neg (show ¬ (!Cv.pureP (op i)) = true by simpa using hpu)]
        rw [if_neg (show ¬ (op i == (16 : Int)) = true by simpa using h16), if_pos (show (op i == (19 : Int)) = true by simpa using h19)]
      by_cases h17 : op i = 17
      · by_cases hb : q.lo = -1 ∨ arg i ≠ q.lo + 1
        · refine stop (by rw [pl, if_neg h16, if_neg h19, if_pos h17, if_pos hb]) fun lo => (tree lo).trans ?_
          rw [if_pos (show (q.wa != (-1 : Int)) = true by simpa using hw), if_pos (show (op i != (20 : Int)) = true by simpa using h20'), cl_pos hq]; (show (if (!Cv.pureP (op i)) = true then _ else _) = _); rw [if_neg (show ¬ (!Cv.pureP (op i)) = true by simpa using hpu)]
          rw [if_neg (show ¬ (op i == (16 : Int)) = true by simpa using h16), if_neg (show ¬ (op i == (19 : Int)) = true by simpa using h19), if_pos (show (op i == (17 : Int)) = true by simpa using h17)]
          by_cases hm : q.lo = -1
          · rw [if_pos (by simpa using hm)]; rfl
          · rw [if_neg (by simpa using hm), if_pos (by have h9 := hb.resolve_left hm; simpa using h9)]; rfl
        · have hm : ¬ q.lo = -1 := fun h => hb (.inl h)
          have ha : arg i = q.lo + 1 := Classical.not_not.1 fun h => hb (.inr h)
          have hlo : 0 ≤ q.lo ∧ q.lo < i := by rcases hv.lo with h | h; exact absurd h hm; exact h
          refine nx (ih (i + 1) ⟨Cv.upd q.oL i q.lo, Cv.upd q.oW i q.wa, Cv.upd q.oL i q.lo q.lo.toNat, Cv.upd q.oW i q.wa q.lo.toNat⟩ (by omega) (hv.push (hv.pop hlo).1 (hv.pop hlo).2)) (by rw [pl, if_neg h16, if_neg h19, if_pos h17, if_neg hb]) fun lo => (tree lo).trans ?_
          rw [if_pos (show (q.wa != (-1 : Int)) = true by simpa using hw), if_pos (show (op i != (20 : Int)) = true by simpa using h20'), cl_pos hq]; (show (if (!Cv.pureP (op i)) = true then _ else _) = _); rw [if_neg (show ¬ (!Cv.pureP (op i)) = true by simpa using hpu)]
          rw [if_neg (show ¬ (op i == (16 : Int)) = true by simpa using h16), if_neg (show ¬ (op i == (19 : Int)) = true by simpa using h19), if_pos (show (op i == (17 : Int)) = true by simpa using h17), if_neg (by simpa using hm), if_neg (by have h9 : arg i = q.lo + 1 := ha; simp [h9]), if_pos (show (0 : Int) ≤ q.lo ∧ q.lo < (n : Int) by omega), if_pos (show q.lo.toNat < n ∧ True from ⟨by omega, trivial⟩)]
          rfl
      by_cases h20 : op i = 20
      · by_cases hb : q.wa = -1 ∨ arg i ≠ q.wa + 1
        · refine stop (by rw [pl, if_neg h16, if_neg h19, if_neg h17, if_pos h20, if_pos hb]) fun lo => (tree lo).trans ?_
          rw [if_pos (show (q.wa != (-1 : Int)) = true by simpa using hw), if_pos (show (op i != (20 : Int)) = true by simpa using h20'), cl_pos hq]; (show (if (!Cv.pureP (op i)) = true then _ else _) = _); rw [if_neg (show ¬ (!Cv.pureP (op i)) = true by simpa using hpu)]
          rw [if_neg (show ¬ (op i == (16 : Int)) = true by simpa using h16), if_neg (show ¬ (op i == (19 : Int)) = true by simpa using h19), if_neg (show ¬ (op i == (17 : Int)) = true by simpa using h17), if_pos (show (op i == (20 : Int)) = true by simpa using h20)]
          by_cases hm : q.wa = -1
          · rw [if_pos (by simpa using hm)]; rfl
          · rw [if_neg (by simpa using hm), if_pos (by have h9 := hb.resolve_left hm; simpa using h9)]; rfl
        · have hm : ¬ q.wa = -1 := fun h => hb (.inl h)
          have ha : arg i = q.wa + 1 := Classical.not_not.1 fun h => hb (.inr h)
          refine nx (ih (i + 1) ⟨Cv.upd q.oL i q.lo, Cv.upd q.oW i q.wa, q.lo, -1⟩ (by omega) (hv.push hlo' (.inl rfl))) (by rw [pl, if_neg h16, if_neg h19, if_neg h17, if_pos h20, if_neg hb]) fun lo => (tree lo).trans ?_
          rw [if_pos (show (q.wa != (-1 : Int)) = true by simpa using hw), if_pos (show (op i != (20 : Int)) = true by simpa using h20'), cl_pos hq]; (show (if (!Cv.pureP (op i)) = true then _ else _) = _); rw [if_neg (show ¬ (!Cv.pureP (op i)) = true by simpa using hpu)]
          rw [if_neg (show ¬ (op i == (16 : Int)) = true by simpa using h16), if_neg (show ¬ (op i == (19 : Int)) = true by simpa using h19), if_neg (show ¬ (op i == (17 : Int)) = true by simpa using h17), if_pos (show (op i == (20 : Int)) = true by simpa using h20), if_neg (by simpa using hm), if_neg (by have h9 : arg i = q.wa + 1 := ha; simp [h9])]
      refine nx (ih (i + 1) ⟨Cv.upd q.oL i q.lo, Cv.upd q.oW i q.wa, q.lo, q.wa⟩ (by omega) (hv.push hlo' hwa')) (by rw [pl, if_neg h16, if_neg h19, if_neg h17, if_neg h20]) fun lo => (tree lo).trans ?_
      rw [if_pos (show (q.wa != (-1 : Int)) = true by simpa using hw), if_pos (show (op i != (20 : Int)) = true by simpa using h20'), cl_pos hq]; (show (if (!Cv.pureP (op i)) = true then _ else _) = _); rw [if_neg (show ¬ (!Cv.pureP (op i)) = true by simpa using hpu)]
      rw [if_neg (show ¬ (op i == (16 : Int)) = true by simpa using h16), if_neg (show ¬ (op i == (19 : Int)) = true by simpa using h19), if_neg (show ¬ (op i == (17 : Int)) = true by simpa using h17), if_neg (show ¬ (op i == (20 : Int)) = true by simpa using h20)]
theorem bw_row {T z n : Nat} {f : Nat → List V} : V.bw1 (hp [some (Chunk.row T z n f)]) (V.sl 0 z 0 n) = .ro z n (fun j => f (0 + j)) := by
  simp [V.bw1, hp]
def plN : V := .tup [.sc (.slice none 0 0), bo false]
def plS (n : Nat) (oL oW : Nat → Int) (b : Bool) : V := .tup [.ro 2 n (r2 oL oW), bo b]
def pl0 : Cv.Pl := ⟨Cv.zero, Cv.zero, -1, -1⟩
def plV (n : Nat) (x : Option Cv.Pl) : V := match x with
  | none => plN
  | some q => plS n q.oL q.oW (decide (q.lo = -1 ∧ q.wa = -1))
set_option maxRecDepth 100000 in
theorem places_sc {n : Nat} {op arg : Nat → Int} (vs : Int) (hn : n ≤ 300) : SC E2 70 [cd n op arg] [] (.ret (plV n (Cv.plcP (mkC vs n op arg) n 0 pl0)) []) := by
  have key := loop70 (n := n) (op := op) (arg := arg) vs hn n 0 pl0 (by omega) ⟨fun j hj => by omega, fun j hj => by omega, .inl rfl, .inl rfl⟩
  have hc : (n : Int) = (n : Int) ∧ (0 : Int) ≤ (n : Int) ∧ 0 < 2 ∧ 2 = 2 ∧ Int.toNat (n : Int) * 16 ≤ 281474976710656 ∧ Int.toNat (n : Int) ≤ Go.maxLen ∧ (allOk 2 1 fun (x : Nat) => List.map V.sc (Array.toList (Value.cells (Value.agg #[Value.int IntKind.i64 0, Value.int IntKind.i64 0])))) = true := by
    refine ⟨rfl, by omega, by decide, rfl, by rw [Int.toNat_natCast]; omega, by rw [Int.toNat_natCast]; unfold Go.maxLen; omega, by kernel_rfl⟩
  have hle : LeSt ({ fr := [V.junk, V.junk, V.junk, V.junk, V.sl 0 2 0 (Int.toNat (n : Int)), V.ptr 1 0, V.junk, V.junk, V.junk, V.junk, V.junk, V.junk, V.ro 2 n (ins op arg), i64 (n : Int), i64 0] ++ jk 69, H := hp [some (Chunk.row 104 2 (Int.toNat (n : Int)) fun (x : Nat) => List.map V.sc (Array.toList (Value.cells (Value.agg #[Value.int IntKind.i64 0, Value.int IntKind.i64 0])))), some (Chunk.blk [i64 (-1), i64 (-1)])], nx := 2, rt := 0, me := 70 }) (S70 n op arg 0 Cv.zero Cv.zero (-1) (-1)) := by
    rw [Int.toNat_natCast]
    exact LeSt.mk' (LeL.refl _) ⟨ChLe.row fun j _ => rfl, ChLe.refl _, trivial⟩
  revert key
  cases hx : Cv.plcP (mkC vs n op arg) n 0 pl0 with
  | none =>
    intro key
    refine SC.of hW2 hX2 sC70 (oneF2 0 (e := .exit 0) (T := T70 n Cv.zero Cv.zero 0 0) key) ((f70 n op arg Cv.zero Cv.zero 0 0 _ _).trans ?_)
    rw [if_pos hc, cl_pos ⟨rfl, hle⟩, cl_neg (fun h => h)]
    rfl
  | some q =>
    intro key
    have h : SC E2 70 [cd n op arg] [] (.ret (.tup [.sl 0 2 0 n, bo (q.lo == (-1 : Int) && (q.wa == (-1 : Int) && true))]) [some (Chunk.row 104 2 n (r2 q.oL q.oW))]) := by
      refine SC.of hW2 hX2 sC70 (one2 0 (e' := .ret) (T' := T70r) key) ((f70 n op arg q.oL q.oW q.lo q.wa _ _).trans ?_)
      rw [if_pos hc, cl_pos ⟨rfl, hle⟩, cl_pos trivial]
      rfl
    have hbw : V.bw (hp [some (Chunk.row 104 2 n (r2 q.oL q.oW))]) (.tup [.sl 0 2 0 n, bo (q.lo == (-1 : Int) && (q.wa == (-1 : Int) && true))]) = .tup [.ro 2 n (fun j => r2 q.oL q.oW (0 + j)), bo (q.lo == (-1 : Int) && (q.wa == (-1 : Int) && true))] := by
      have h3 := bw_row (T := 104) (z := 2) (n := n) (f := r2 q.oL q.oW)
      simp only [V.bw, List.map_cons, List.map_nil, V.bw2, h3]
      rfl
    refine (SC.give h (by rw [hbw]; rfl)).le ?_
    rw [hbw]
    have hb : (q.lo == (-1 : Int) && (q.wa == (-1 : Int) && true)) = decide (q.lo = -1 ∧ q.wa = -1) := by rw [Bool.eq_iff_iff]; simp
    rw [hb]
    exact Le.tup (LeL.cons (Le.ro_eq fun j hj => ⟨by rw [Nat.zero_add], rfl⟩) (LeL.refl _))
end Go.Proofs.Ythegipdgillngaa
