/- Depths (80), Valid (73), the reference's Verify (60), walked. -/
import Derived.Test.YthegipdgillngaaV5
namespace Go.Proofs.Ythegipdgillngaa
open Go Go.Am Go.Proofs
set_option linter.unusedSimpArgs false
set_option linter.unusedVariables false
def rgN : V := .tup [.sc (.slice none 0 0), .sc (.slice none 0 0), bo false]
def rgS (n : Nat) (L W : Nat → Int) (b : Bool) : V := .tup [.ro 1 n (r1 L), .ro 1 n (r1 W), bo b]
def rg0 : Cv.Rg := ⟨Cv.zero, Cv.zero, 0, Cv.zero, -1⟩
def rgV (n : Nat) (x : Option Cv.Rg) : V := match x with
  | none => rgN
  | some q => rgS n q.L q.W (decide (q.m = 0 ∧ q.wa < 0))
theorem bw_row2 {n : Nat} {f g : Nat → List V} {b : Bool} : V.bw (hp [some (Chunk.row 3 1 n f), some (Chunk.row 3 1 n g)]) (.tup [.sl 0 1 0 n, .sl 1 1 0 n, bo b]) = .tup [.ro 1 n (fun j => f (0 + j)), .ro 1 n (fun j => g (0 + j)), bo b] := by
  simp [V.bw, V.bw2, V.bw1, hp]
set_option maxRecDepth 100000 in
theorem regions_sc {n : Nat} {op arg : Nat → Int} (vs : Int) (hn : n ≤ 300) (h1 : 1 ≤ n) : SC E2 79 [cd n op arg] [] (.ret (rgV n (Cv.regR (mkC vs n op arg) n 0 rg0)) []) := by
  have key := start79 (op := op) (arg := arg) vs hn h1
  have fin : ∀ {L W : Nat → Int} {b : Bool}, SC E2 79 [cd n op arg] [] (.ret (.tup [.sl 0 1 0 n, .sl 1 1 0 n, bo b]) [some (Chunk.row 3 1 n (r1 L)), some (Chunk.row 3 1 n (r1 W))]) → SC E2 79 [cd n op arg] [] (.ret (rgS n L W b) []) := by
    intro L W b h
    refine (SC.give h (by rw [bw_row2]; rfl)).le ?_
    rw [bw_row2]
    exact Le.tup (LeL.cons (Le.ro_eq fun j hj => ⟨by rw [Nat.zero_add], rfl⟩) (LeL.cons (Le.ro_eq fun j hj => ⟨by rw [Nat.zero_add], rfl⟩) (LeL.refl _)))
  have e0 : Cv.regR (mkC vs n op arg) n 0 ⟨Cv.zero, Cv.zero, 0, Cv.zero, -1⟩ = Cv.regR (mkC vs n op arg) n 0 rg0 := rfl
  rw [e0] at key
  revert key
  cases hx : Cv.regR (mkC vs n op arg) n 0 rg0 with
  | none =>
    intro key
    refine SC.of hW2 hX2 sC79 (oneF2 0 (e := .exit 0) (T := T79b n Cv.zero Cv.zero 0) key) ((f79b n op arg Cv.zero Cv.zero 0 _ _).trans ?_)
    rw [cl_pos ⟨rfl, LeSt.refl _⟩, cl_neg (fun h => h)]
    rfl
  | some q =>
    intro key
    rcases key with ⟨h0, key⟩ | ⟨cp, key⟩
    · have hb : decide (q.m = 0 ∧ q.wa < 0) = decide (q.wa < 0) := by rw [Bool.eq_iff_iff, decide_eq_true_eq, decide_eq_true_eq]; exact ⟨fun h => h.2, fun h => ⟨h0, h⟩⟩
      show SC E2 79 _ _ (.ret (rgS n q.L q.W (decide (q.m = 0 ∧ q.wa < 0))) [])
      rw [hb]
      refine fin (SC.of hW2 hX2 sC79 (one2 0 (e' := .ret) (T' := T79r) key) ((f79b n op arg q.L q.W q.wa _ _).trans ?_))
      rw [cl_pos ⟨rfl, LeSt.refl _⟩, cl_pos trivial]
    · show SC E2 79 _ _ (.ret (rgS n q.L q.W (decide (q.m = 0 ∧ q.wa < 0))) [])
      by_cases h0 : q.m = 0
      · have hb : decide (q.m = 0 ∧ q.wa < 0) = decide (q.wa < 0) := by rw [Bool.eq_iff_iff, decide_eq_true_eq, decide_eq_true_eq]; exact ⟨fun h => h.2, fun h => ⟨h0, h⟩⟩
        rw [hb]
        refine fin (SC.of hW2 hX2 sC79 (one2 0 (e' := .ret) (T' := T79r) key) ((f79c n op arg q.L q.W q.m cp q.stk q.wa _ _).trans ?_))
        rw [cl_pos ⟨rfl, LeSt.refl _⟩, cl_pos trivial, if_pos (by simp [h0])]
      · have hb : decide (q.m = 0 ∧ q.wa < 0) = false := decide_eq_false fun h => h0 h.1
        rw [hb]
        refine fin (SC.of hW2 hX2 sC79 (one2 0 (e' := .ret) (T' := T79r) key) ((f79c n op arg q.L q.W q.m cp q.stk q.wa _ _).trans ?_))
        rw [cl_pos ⟨rfl, LeSt.refl _⟩, cl_pos trivial, if_neg (by simp [h0])]
/-! ### Depths (80) -/
noncomputable def vLeftN : List V → V
  | [.sc (.int .i64 o), .sc (.int .i64 d)] => .tup [i64 (Cv.leftV o d), bo (leftD o d)]
  | _ => .junk
def QLeft (args : List V) : Prop := ∃ o d : Int, args = [i64 o, i64 d] ∧ -1 ≤ d ∧ d ≤ 16
noncomputable def C80 : CallT := ptab 83 QLeft vLeftN (tab [])
theorem sC80 : SoundC E2 C80 := ptab_cons (fun args h => by obtain ⟨o, d, rfl, h1, h2⟩ := h; exact left_sc h1 h2) tab_nil
def S80a (n : Nat) (op arg : Nat → Int) (k : Nat) (dp : Nat → Int) : St := { fr := [cd n op arg, .junk, .junk, .sl 0 1 0 n, i64 k] ++ jk 117, H := hp [some (.row 3 1 n (r1 dp))], nx := 1, rt := 0, me := 80 }
def T80a (n : Nat) (op arg : Nat → Int) (dp : Nat → Int) : St := { fr := [cd n op arg, .junk, .junk, .sl 0 1 0 n] ++ jk 118, H := hp [some (.row 3 1 n (r1 dp))], nx := 1, rt := 0, me := 80 }
def S80b (n : Nat) (op arg : Nat → Int) (i : Nat) (dp : Nat → Int) : St := { fr := [cd n op arg, .junk, .junk, .sl 0 1 0 n, .junk, i64 i] ++ jk 116, H := hp [some (.row 3 1 n (r1 dp))], nx := 1, rt := 0, me := 80 }
def T80e : St := { fr := jk 122, H := hp [], nx := 0, rt := 0, me := 80 }
def T80r : St := { fr := [.junk, .junk, bo false] ++ jk 119, H := hp [], nx := 0, rt := 0, me := 80 }
def S80c (n : Nat) (op arg : Nat → Int) (i : Nat) (dp : Nat → Int) (d : Int) (l : Nat) (f : Nat → Int) (j : Nat) : St := { fr := [cd n op arg, .junk, .junk, .sl 0 1 0 n, .junk, i64 i, i64 d, .junk, .sl 1 1 0 l, i64 j] ++ jk 112, H := hp [some (.row 3 1 n (r1 dp)), some (.row 3 1 l (r1 f))], nx := 2, rt := 0, me := 80 }
def S80n (n : Nat) (op arg : Nat → Int) (i : Nat) (dp : Nat → Int) (d : Int) : St := { fr := [cd n op arg, .junk, .junk, .sl 0 1 0 n, .junk, i64 i, i64 d, .junk, .sc (.slice none 0 0), i64 0] ++ jk 112, H := hp [some (.row 3 1 n (r1 dp))], nx := 1, rt := 0, me := 80 }
def T80i (n : Nat) (op arg : Nat → Int) (i : Nat) (dp : Nat → Int) : St := { fr := [cd n op arg, .junk, .junk, .sl 0 1 0 n, .junk, i64 i] ++ jk 116, H := hp [some (.row 3 1 n (r1 dp))], nx := 1, rt := 0, me := 80 }
theorem r80i (n : Nat) (op arg : Nat → Int) (i : Nat) (dp : Nat → Int) (d : Int) (l : Nat) (f : Nat → Int) (j : Nat) (lo : LoopT) : loopK E2 C80 lo 4 873 (bodyOf E2 80 4) (S80c n op arg i dp d l f j) (KC2 41 4) =
  if decide ((j : Int) < (l : Int)) = true then
   if (0 : Int) ≤ (j : Int) ∧ (j : Int) < (l : Int) then
    if 0 + Int.toNat (j : Int) < l ∧ 1 = 1 then
     if (0 : Int) ≤ f (0 + Int.toNat (j : Int)) ∧ f (0 + Int.toNat (j : Int)) < (n : Int) then
      if 0 + Int.toNat (f (0 + Int.toNat (j : Int))) < n ∧ 1 = 1 then
       if decide (dp (0 + Int.toNat (f (0 + Int.toNat (j : Int)))) ≥ (0 : Int)) = true then
        if (0 : Int) ≤ (j : Int) ∧ (j : Int) < (l : Int) then
         if 0 + Int.toNat (j : Int) < l ∧ 1 = 1 then
          if (0 : Int) ≤ f (0 + Int.toNat (j : Int)) ∧ f (0 + Int.toNat (j : Int)) < (n : Int) then
           if 0 + Int.toNat (f (0 + Int.toNat (j : Int))) < n ∧ 1 = 1 then
            if (dp (0 + Int.toNat (f (0 + Int.toNat (j : Int)))) != d) = true then
             some (Ans.l Ex.ret { fr := [V.junk, V.junk, bo false] ++ jk 119, H := hp [], nx := 0, rt := 0, me := 80 })
            else
             if (0 : Int) ≤ (j : Int) ∧ (j : Int) < (l : Int) then
              if 0 + Int.toNat (j : Int) < l ∧ 1 = 1 then
               if (0 : Int) ≤ f (0 + Int.toNat (j : Int)) ∧ f (0 + Int.toNat (j : Int)) < (n : Int) then
                if 0 + Int.toNat (f (0 + Int.toNat (j : Int))) < n ∧ 1 = 1 then
                 lo 4 873 (bodyOf E2 80 4) ({ fr := [V.ro 2 n (ins op arg), V.junk, V.junk, V.sl 0 1 0 n, V.junk, i64 (i : Int), i64 d, V.junk, V.sl 1 1 0 l, i64 (w ((j : Int) + (1 : Int)))] ++ jk 112, H := hp [some (Chunk.row 3 1 n (putF true (0 + Int.toNat (f (0 + Int.toNat (j : Int)))) 0 [i64 d] (r1 dp))), some (Chunk.row 3 1 l (r1 f))], nx := 2, rt := 0, me := 80 }) (KC2 41 4)
                else
                 none
               else
                none
              else
               none
             else
              none
           else
            none
          else
           none
         else
          none
        else
         none
       else
        if (0 : Int) ≤ (j : Int) ∧ (j : Int) < (l : Int) then
         if 0 + Int.toNat (j : Int) < l ∧ 1 = 1 then
          if (0 : Int) ≤ f (0 + Int.toNat (j : Int)) ∧ f (0 + Int.toNat (j : Int)) < (n : Int) then
           if 0 + Int.toNat (f (0 + Int.toNat (j : Int))) < n ∧ 1 = 1 then
            lo 4 873 (bodyOf E2 80 4) ({ fr := [V.ro 2 n (ins op arg), V.junk, V.junk, V.sl 0 1 0 n, V.junk, i64 (i : Int), i64 d, V.junk, V.sl 1 1 0 l, i64 (w ((j : Int) + (1 : Int)))] ++ jk 112, H := hp [some (Chunk.row 3 1 n (putF true (0 + Int.toNat (f (0 + Int.toNat (j : Int)))) 0 [i64 d] (r1 dp))), some (Chunk.row 3 1 l (r1 f))], nx := 2, rt := 0, me := 80 }) (KC2 41 4)
           else
            none
          else
           none
         else
          none
        else
         none
      else
       none
     else
      none
    else
     none
   else
    none
  else
   some (Ans.l (Ex.exit 4) { fr := [V.ro 2 n (ins op arg), V.junk, V.junk, V.sl 0 1 0 n, V.junk, i64 (i : Int)] ++ jk 116, H := hp [some (Chunk.row 3 1 n (r1 dp))], nx := 1, rt := 0, me := 80 }) := by kernel_rfl

theorem r80n (n : Nat) (op arg : Nat → Int) (i : Nat) (dp : Nat → Int) (d : Int) (lo : LoopT) : loopK E2 C80 lo 4 873 (bodyOf E2 80 4) (S80n n op arg i dp d) (KC2 41 4) =
  some (Ans.l (Ex.exit 4) { fr := [V.ro 2 n (ins op arg), V.junk, V.junk, V.sl 0 1 0 n, V.junk, i64 (i : Int)] ++ jk 116, H := hp [some (Chunk.row 3 1 n (r1 dp))], nx := 1, rt := 0, me := 80 }) := by kernel_rfl

theorem r80c (n : Nat) (op arg : Nat → Int) (k : Nat) (dp : Nat → Int) (lo : LoopT) : loopK E2 C80 lo 0 25 (bodyOf E2 80 0) (S80a n op arg k dp) (KC2 9 4) =
  if decide ((k : Int) < (n : Int)) = true then
   if (0 : Int) ≤ (k : Int) ∧ (k : Int) < (n : Int) then
    if 0 + Int.toNat (k : Int) < n ∧ 1 = 1 then
     lo 0 25 (bodyOf E2 80 0) ({ fr := [V.ro 2 n (ins op arg), V.junk, V.junk, V.sl 0 1 0 n, i64 (w ((k : Int) + (1 : Int)))] ++ jk 117, H := hp [some (Chunk.row 3 1 n (putF true (0 + Int.toNat (k : Int)) 0 [i64 (-1)] (r1 dp)))], nx := 1, rt := 0, me := 80 }) (KC2 9 4)
    else
     none
   else
    none
  else
   some (Ans.l (Ex.exit 0) { fr := [V.ro 2 n (ins op arg), V.junk, V.junk, V.sl 0 1 0 n] ++ jk 118, H := hp [some (Chunk.row 3 1 n (r1 dp))], nx := 1, rt := 0, me := 80 }) := by kernel_rfl

theorem r80b (n : Nat) (op arg : Nat → Int) (i : Nat) (dp dpN : Nat → Int) (S1 S2 : St) (P P2 : Prop) : loopK E2 C80 (ltab2 [⟨4, bodyOf E2 80 4, S1, P, .exit 4, T80i n op arg i dpN, .ret, T80r⟩, ⟨2, bodyOf E2 80 2, S2, P2, .exit 2, T80e, .ret, T80r⟩]) 2 41 (bodyOf E2 80 2) (S80b n op arg i dp) (KC2 0 4) =
  if decide ((i : Int) < (n : Int)) = true then
   if (0 : Int) ≤ (i : Int) ∧ (i : Int) < (n : Int) then
    if (0 : Int) ≤ (i : Int) ∧ (i : Int) < (n : Int) then
     if 0 + Int.toNat (i : Int) < n ∧ 1 = 1 then
      cl (QLeft ([i64 (op (Int.toNat (i : Int))), i64 (dp (0 + Int.toNat (i : Int)))]) ∧ ([] : List (Option Chunk)) = []) (
       if (0 : Int) ≤ (i : Int) ∧ (i : Int) < (n : Int) then
        if 0 + Int.toNat (i : Int) < n ∧ 1 = 1 then
         if decide (dp (0 + Int.toNat (i : Int)) < (0 : Int)) = true then
          some (Ans.l Ex.ret { fr := [V.junk, V.junk, bo false] ++ jk 119, H := hp [], nx := 0, rt := 0, me := 80 })
         else
          if (!leftD (op (Int.toNat (i : Int))) (dp (0 + Int.toNat (i : Int)))) = true then
           some (Ans.l Ex.ret { fr := [V.junk, V.junk, bo false] ++ jk 119, H := hp [], nx := 0, rt := 0, me := 80 })
          else
           if (0 : Int) ≤ (i : Int) ∧ (i : Int) < (n : Int) then
            if (op (Int.toNat (i : Int)) != (14 : Int)) = true then
             if decide (w ((i : Int) + (1 : Int)) < (n : Int)) = true then
              if (0 : Int) ≤ (i : Int) ∧ (i : Int) < (n : Int) then
               if (op (Int.toNat (i : Int)) == (14 : Int)) = true then
                if (0 : Int) ≤ (i : Int) ∧ (i : Int) < (n : Int) then
                 cl ((bodyOf E2 80 4) = (bodyOf E2 80 4) ∧ LeSt ({ fr := [V.ro 2 n (ins op arg), V.junk, V.junk, V.sl 0 1 0 n, V.junk, i64 (i : Int), i64 (Cv.leftV (op (Int.toNat (i : Int))) (dp (0 + Int.toNat (i : Int)))), V.junk, V.sl 1 1 0 2, i64 0] ++ jk 112, H := hp [some (Chunk.row 3 1 n (r1 dp)), some (Chunk.row 3 1 2 (joinF 1 (fun (j : Nat) => List.getD [[i64 (w ((i : Int) + (1 : Int)))]] (0 + j) []) fun (j : Nat) => List.getD [[i64 (arg (Int.toNat (i : Int)))]] (0 + j) []))], nx := 2, rt := 0, me := 80 }) (S1)) (
                  cl (P) (
                   cl ((bodyOf E2 80 2) = (bodyOf E2 80 2) ∧ LeSt ({ fr := [V.ro 2 n (ins op arg), V.junk, V.junk, V.sl 0 1 0 n, V.junk, i64 (w ((i : Int) + (1 : Int)))] ++ jk 116, H := hp [some (Chunk.row 3 1 n (r1 dpN))], nx := 1, rt := 0, me := 80 }) (S2)) (
                    cl (P2) (
                     some (Ans.l (Ex.exit 2) { fr := [V.junk] ++ jk 121, H := hp [], nx := 0, rt := 0, me := 80 })) (
                     some (Ans.l Ex.ret { fr := [V.junk, V.junk, bo false] ++ jk 119, H := hp [], nx := 0, rt := 0, me := 80 }))) (
                    none)) (
                   some (Ans.l Ex.ret { fr := [V.junk, V.junk, bo false] ++ jk 119, H := hp [], nx := 0, rt := 0, me := 80 }))) (
                  none)
                else
                 none
               else
                if (0 : Int) ≤ (i : Int) ∧ (i : Int) < (n : Int) then
                 if (op (Int.toNat (i : Int)) == (15 : Int)) = true then
                  if (0 : Int) ≤ (i : Int) ∧ (i : Int) < (n : Int) then
                   cl ((bodyOf E2 80 4) = (bodyOf E2 80 4) ∧ LeSt ({ fr := [V.ro 2 n (ins op arg), V.junk, V.junk, V.sl 0 1 0 n, V.junk, i64 (i : Int), i64 (Cv.leftV (op (Int.toNat (i : Int))) (dp (0 + Int.toNat (i : Int)))), V.junk, V.sl 1 1 0 2, i64 0] ++ jk 112, H := hp [some (Chunk.row 3 1 n (r1 dp)), some (Chunk.row 3 1 2 (joinF 1 (fun (j : Nat) => List.getD [[i64 (w ((i : Int) + (1 : Int)))]] (0 + j) []) fun (j : Nat) => List.getD [[i64 (arg (Int.toNat (i : Int)))]] (0 + j) []))], nx := 2, rt := 0, me := 80 }) (S1)) (
                    cl (P) (
                     cl ((bodyOf E2 80 2) = (bodyOf E2 80 2) ∧ LeSt ({ fr := [V.ro 2 n (ins op arg), V.junk, V.junk, V.sl 0 1 0 n, V.junk, i64 (w ((i : Int) + (1 : Int)))] ++ jk 116, H := hp [some (Chunk.row 3 1 n (r1 dpN))], nx := 1, rt := 0, me := 80 }) (S2)) (
                      cl (P2) (
                       some (Ans.l (Ex.exit 2) { fr := [V.junk] ++ jk 121, H := hp [], nx := 0, rt := 0, me := 80 })) (
                       some (Ans.l Ex.ret { fr := [V.junk, V.junk, bo false] ++ jk 119, H := hp [], nx := 0, rt := 0, me := 80 }))) (
                      none)) (
                     some (Ans.l Ex.ret { fr := [V.junk, V.junk, bo false] ++ jk 119, H := hp [], nx := 0, rt := 0, me := 80 }))) (
                    none)
                  else
                   none
                 else
                  cl ((bodyOf E2 80 4) = (bodyOf E2 80 4) ∧ LeSt ({ fr := [V.ro 2 n (ins op arg), V.junk, V.junk, V.sl 0 1 0 n, V.junk, i64 (i : Int), i64 (Cv.leftV (op (Int.toNat (i : Int))) (dp (0 + Int.toNat (i : Int)))), V.junk, V.sl 1 1 0 1, i64 0] ++ jk 112, H := hp [some (Chunk.row 3 1 n (r1 dp)), some (Chunk.row 3 1 1 fun (j : Nat) => List.getD [[i64 (w ((i : Int) + (1 : Int)))]] (0 + j) [])], nx := 2, rt := 0, me := 80 }) (S1)) (
                   cl (P) (
                    cl ((bodyOf E2 80 2) = (bodyOf E2 80 2) ∧ LeSt ({ fr := [V.ro 2 n (ins op arg), V.junk, V.junk, V.sl 0 1 0 n, V.junk, i64 (w ((i : Int) + (1 : Int)))] ++ jk 116, H := hp [some (Chunk.row 3 1 n (r1 dpN))], nx := 1, rt := 0, me := 80 }) (S2)) (
                     cl (P2) (
                      some (Ans.l (Ex.exit 2) { fr := [V.junk] ++ jk 121, H := hp [], nx := 0, rt := 0, me := 80 })) (
                      some (Ans.l Ex.ret { fr := [V.junk, V.junk, bo false] ++ jk 119, H := hp [], nx := 0, rt := 0, me := 80 }))) (
                     none)) (
                    some (Ans.l Ex.ret { fr := [V.junk, V.junk, bo false] ++ jk 119, H := hp [], nx := 0, rt := 0, me := 80 }))) (
                   none)
                else
                 none
              else
               none
             else
              if (0 : Int) ≤ (i : Int) ∧ (i : Int) < (n : Int) then
               if (op (Int.toNat (i : Int)) == (14 : Int)) = true then
                if (0 : Int) ≤ (i : Int) ∧ (i : Int) < (n : Int) then
                 cl ((bodyOf E2 80 4) = (bodyOf E2 80 4) ∧ LeSt ({ fr := [V.ro 2 n (ins op arg), V.junk, V.junk, V.sl 0 1 0 n, V.junk, i64 (i : Int), i64 (Cv.leftV (op (Int.toNat (i : Int))) (dp (0 + Int.toNat (i : Int)))), V.junk, V.sl 1 1 0 1, i64 0] ++ jk 112, H := hp [some (Chunk.row 3 1 n (r1 dp)), some (Chunk.row 3 1 1 fun (j : Nat) => List.getD [[i64 (arg (Int.toNat (i : Int)))]] (0 + j) [])], nx := 2, rt := 0, me := 80 }) (S1)) (
                  cl (P) (
                   cl ((bodyOf E2 80 2) = (bodyOf E2 80 2) ∧ LeSt ({ fr := [V.ro 2 n (ins op arg), V.junk, V.junk, V.sl 0 1 0 n, V.junk, i64 (w ((i : Int) + (1 : Int)))] ++ jk 116, H := hp [some (Chunk.row 3 1 n (r1 dpN))], nx := 1, rt := 0, me := 80 }) (S2)) (
                    cl (P2) (
                     some (Ans.l (Ex.exit 2) { fr := [V.junk] ++ jk 121, H := hp [], nx := 0, rt := 0, me := 80 })) (
                     some (Ans.l Ex.ret { fr := [V.junk, V.junk, bo false] ++ jk 119, H := hp [], nx := 0, rt := 0, me := 80 }))) (
                    none)) (
                   some (Ans.l Ex.ret { fr := [V.junk, V.junk, bo false] ++ jk 119, H := hp [], nx := 0, rt := 0, me := 80 }))) (
                  none)
                else
                 none
               else
                if (0 : Int) ≤ (i : Int) ∧ (i : Int) < (n : Int) then
                 if (op (Int.toNat (i : Int)) == (15 : Int)) = true then
                  if (0 : Int) ≤ (i : Int) ∧ (i : Int) < (n : Int) then
                   cl ((bodyOf E2 80 4) = (bodyOf E2 80 4) ∧ LeSt ({ fr := [V.ro 2 n (ins op arg), V.junk, V.junk, V.sl 0 1 0 n, V.junk, i64 (i : Int), i64 (Cv.leftV (op (Int.toNat (i : Int))) (dp (0 + Int.toNat (i : Int)))), V.junk, V.sl 1 1 0 1, i64 0] ++ jk 112, H := hp [some (Chunk.row 3 1 n (r1 dp)), some (Chunk.row 3 1 1 fun (j : Nat) => List.getD [[i64 (arg (Int.toNat (i : Int)))]] (0 + j) [])], nx := 2, rt := 0, me := 80 }) (S1)) (
                    cl (P) (
                     cl ((bodyOf E2 80 2) = (bodyOf E2 80 2) ∧ LeSt ({ fr := [V.ro 2 n (ins op arg), V.junk, V.junk, V.sl 0 1 0 n, V.junk, i64 (w ((i : Int) + (1 : Int)))] ++ jk 116, H := hp [some (Chunk.row 3 1 n (r1 dpN))], nx := 1, rt := 0, me := 80 }) (S2)) (
                      cl (P2) (
                       some (Ans.l (Ex.exit 2) { fr := [V.junk] ++ jk 121, H := hp [], nx := 0, rt := 0, me := 80 })) (
                       some (Ans.l Ex.ret { fr := [V.junk, V.junk, bo false] ++ jk 119, H := hp [], nx := 0, rt := 0, me := 80 }))) (
                      none)) (
                     some (Ans.l Ex.ret { fr := [V.junk, V.junk, bo false] ++ jk 119, H := hp [], nx := 0, rt := 0, me := 80 }))) (
                    none)
                  else
                   none
                 else
                  cl ((bodyOf E2 80 4) = (bodyOf E2 80 4) ∧ LeSt ({ fr := [V.ro 2 n (ins op arg), V.junk, V.junk, V.sl 0 1 0 n, V.junk, i64 (i : Int), i64 (Cv.leftV (op (Int.toNat (i : Int))) (dp (0 + Int.toNat (i : Int)))), V.junk, V.sc (Value.slice none 0 0), i64 0] ++ jk 112, H := hp [some (Chunk.row 3 1 n (r1 dp))], nx := 1, rt := 0, me := 80 }) (S1)) (
                   cl (P) (
                    cl ((bodyOf E2 80 2) = (bodyOf E2 80 2) ∧ LeSt ({ fr := [V.ro 2 n (ins op arg), V.junk, V.junk, V.sl 0 1 0 n, V.junk, i64 (w ((i : Int) + (1 : Int)))] ++ jk 116, H := hp [some (Chunk.row 3 1 n (r1 dpN))], nx := 1, rt := 0, me := 80 }) (S2)) (
                     cl (P2) (
                      some (Ans.l (Ex.exit 2) { fr := [V.junk] ++ jk 121, H := hp [], nx := 0, rt := 0, me := 80 })) (
                      some (Ans.l Ex.ret { fr := [V.junk, V.junk, bo false] ++ jk 119, H := hp [], nx := 0, rt := 0, me := 80 }))) (
                     none)) (
                    some (Ans.l Ex.ret { fr := [V.junk, V.junk, bo false] ++ jk 119, H := hp [], nx := 0, rt := 0, me := 80 }))) (
                   none)
                else
                 none
              else
               none
            else
             if (0 : Int) ≤ (i : Int) ∧ (i : Int) < (n : Int) then
              if (op (Int.toNat (i : Int)) == (14 : Int)) = true then
               if (0 : Int) ≤ (i : Int) ∧ (i : Int) < (n : Int) then
                cl ((bodyOf E2 80 4) = (bodyOf E2 80 4) ∧ LeSt ({ fr := [V.ro 2 n (ins op arg), V.junk, V.junk, V.sl 0 1 0 n, V.junk, i64 (i : Int), i64 (Cv.leftV (op (Int.toNat (i : Int))) (dp (0 + Int.toNat (i : Int)))), V.junk, V.sl 1 1 0 1, i64 0] ++ jk 112, H := hp [some (Chunk.row 3 1 n (r1 dp)), some (Chunk.row 3 1 1 fun (j : Nat) => List.getD [[i64 (arg (Int.toNat (i : Int)))]] (0 + j) [])], nx := 2, rt := 0, me := 80 }) (S1)) (
                 cl (P) (
                  cl ((bodyOf E2 80 2) = (bodyOf E2 80 2) ∧ LeSt ({ fr := [V.ro 2 n (ins op arg), V.junk, V.junk, V.sl 0 1 0 n, V.junk, i64 (w ((i : Int) + (1 : Int)))] ++ jk 116, H := hp [some (Chunk.row 3 1 n (r1 dpN))], nx := 1, rt := 0, me := 80 }) (S2)) (
                   cl (P2) (
                    some (Ans.l (Ex.exit 2) { fr := [V.junk] ++ jk 121, H := hp [], nx := 0, rt := 0, me := 80 })) (
                    some (Ans.l Ex.ret { fr := [V.junk, V.junk, bo false] ++ jk 119, H := hp [], nx := 0, rt := 0, me := 80 }))) (
                   none)) (
                  some (Ans.l Ex.ret { fr := [V.junk, V.junk, bo false] ++ jk 119, H := hp [], nx := 0, rt := 0, me := 80 }))) (
                 none)
               else
                none
              else
               if (0 : Int) ≤ (i : Int) ∧ (i : Int) < (n : Int) then
                if (op (Int.toNat (i : Int)) == (15 : Int)) = true then
                 if (0 : Int) ≤ (i : Int) ∧ (i : Int) < (n : Int) then
                  cl ((bodyOf E2 80 4) = (bodyOf E2 80 4) ∧ LeSt ({ fr := [V.ro 2 n (ins op arg), V.junk, V.junk, V.sl 0 1 0 n, V.junk, i64 (i : Int), i64 (Cv.leftV (op (Int.toNat (i : Int))) (dp (0 + Int.toNat (i : Int)))), V.junk, V.sl 1 1 0 1, i64 0] ++ jk 112, H := hp [some (Chunk.row 3 1 n (r1 dp)), some (Chunk.row 3 1 1 fun (j : Nat) => List.getD [[i64 (arg (Int.toNat (i : Int)))]] (0 + j) [])], nx := 2, rt := 0, me := 80 }) (S1)) (
                   cl (P) (
                    cl ((bodyOf E2 80 2) = (bodyOf E2 80 2) ∧ LeSt ({ fr := [V.ro 2 n (ins op arg), V.junk, V.junk, V.sl 0 1 0 n, V.junk, i64 (w ((i : Int) + (1 : Int)))] ++ jk 116, H := hp [some (Chunk.row 3 1 n (r1 dpN))], nx := 1, rt := 0, me := 80 }) (S2)) (
                     cl (P2) (
                      some (Ans.l (Ex.exit 2) { fr := [V.junk] ++ jk 121, H := hp [], nx := 0, rt := 0, me := 80 })) (
                      some (Ans.l Ex.ret { fr := [V.junk, V.junk, bo false] ++ jk 119, H := hp [], nx := 0, rt := 0, me := 80 }))) (
                     none)) (
                    some (Ans.l Ex.ret { fr := [V.junk, V.junk, bo false] ++ jk 119, H := hp [], nx := 0, rt := 0, me := 80 }))) (
                   none)
                 else
                  none
                else
                 cl ((bodyOf E2 80 4) = (bodyOf E2 80 4) ∧ LeSt ({ fr := [V.ro 2 n (ins op arg), V.junk, V.junk, V.sl 0 1 0 n, V.junk, i64 (i : Int), i64 (Cv.leftV (op (Int.toNat (i : Int))) (dp (0 + Int.toNat (i : Int)))), V.junk, V.sc (Value.slice none 0 0), i64 0] ++ jk 112, H := hp [some (Chunk.row 3 1 n (r1 dp))], nx := 1, rt := 0, me := 80 }) (S1)) (
                  cl (P) (
                   cl ((bodyOf E2 80 2) = (bodyOf E2 80 2) ∧ LeSt ({ fr := [V.ro 2 n (ins op arg), V.junk, V.junk, V.sl 0 1 0 n, V.junk, i64 (w ((i : Int) + (1 : Int)))] ++ jk 116, H := hp [some (Chunk.row 3 1 n (r1 dpN))], nx := 1, rt := 0, me := 80 }) (S2)) (
                    cl (P2) (
                     some (Ans.l (Ex.exit 2) { fr := [V.junk] ++ jk 121, H := hp [], nx := 0, rt := 0, me := 80 })) (
                     some (Ans.l Ex.ret { fr := [V.junk, V.junk, bo false] ++ jk 119, H := hp [], nx := 0, rt := 0, me := 80 }))) (
                    none)) (
                   some (Ans.l Ex.ret { fr := [V.junk, V.junk, bo false] ++ jk 119, H := hp [], nx := 0, rt := 0, me := 80 }))) (
                  none)
               else
                none
             else
              none
           else
            none
        else
         none
       else
        none) (
       none)
     else
      none
    else
     none
   else
    none
  else
   some (Ans.l (Ex.exit 2) { fr := [V.junk] ++ jk 121, H := hp [], nx := 0, rt := 0, me := 80 }) := by kernel_rfl

theorem r80z_e (n : Nat) (op arg : Nat → Int) (i : Nat) (dp : Nat → Int) : loopK E2 C80 (ltab2 []) 2 41 (bodyOf E2 80 2) (S80b n op arg i dp) (KC2 0 4) =
  if decide ((i : Int) < (n : Int)) = true then
   if (0 : Int) ≤ (i : Int) ∧ (i : Int) < (n : Int) then
    if (0 : Int) ≤ (i : Int) ∧ (i : Int) < (n : Int) then
     if 0 + Int.toNat (i : Int) < n ∧ 1 = 1 then
      cl (QLeft ([i64 (op (Int.toNat (i : Int))), i64 (dp (0 + Int.toNat (i : Int)))]) ∧ ([] : List (Option Chunk)) = []) (
       if (0 : Int) ≤ (i : Int) ∧ (i : Int) < (n : Int) then
        if 0 + Int.toNat (i : Int) < n ∧ 1 = 1 then
         if decide (dp (0 + Int.toNat (i : Int)) < (0 : Int)) = true then
          some (Ans.l Ex.ret { fr := [V.junk, V.junk, bo false] ++ jk 119, H := hp [], nx := 0, rt := 0, me := 80 })
         else
          if (!leftD (op (Int.toNat (i : Int))) (dp (0 + Int.toNat (i : Int)))) = true then
           some (Ans.l Ex.ret { fr := [V.junk, V.junk, bo false] ++ jk 119, H := hp [], nx := 0, rt := 0, me := 80 })
          else
           if (0 : Int) ≤ (i : Int) ∧ (i : Int) < (n : Int) then
            if (op (Int.toNat (i : Int)) != (14 : Int)) = true then
             if decide (w ((i : Int) + (1 : Int)) < (n : Int)) = true then
              if (0 : Int) ≤ (i : Int) ∧ (i : Int) < (n : Int) then
               if (op (Int.toNat (i : Int)) == (14 : Int)) = true then
                if (0 : Int) ≤ (i : Int) ∧ (i : Int) < (n : Int) then
                 none
                else
                 none
               else
                if (0 : Int) ≤ (i : Int) ∧ (i : Int) < (n : Int) then
                 if (op (Int.toNat (i : Int)) == (15 : Int)) = true then
                  if (0 : Int) ≤ (i : Int) ∧ (i : Int) < (n : Int) then
                   none
                  else
                   none
                 else
                  none
                else
                 none
              else
               none
             else
              if (0 : Int) ≤ (i : Int) ∧ (i : Int) < (n : Int) then
               if (op (Int.toNat (i : Int)) == (14 : Int)) = true then
                if (0 : Int) ≤ (i : Int) ∧ (i : Int) < (n : Int) then
                 none
                else
                 none
               else
                if (0 : Int) ≤ (i : Int) ∧ (i : Int) < (n : Int) then
                 if (op (Int.toNat (i : Int)) == (15 : Int)) = true then
                  if (0 : Int) ≤ (i : Int) ∧ (i : Int) < (n : Int) then
                   none
                  else
                   none
                 else
                  none
                else
                 none
              else
               none
            else
             if (0 : Int) ≤ (i : Int) ∧ (i : Int) < (n : Int) then
              if (op (Int.toNat (i : Int)) == (14 : Int)) = true then
               if (0 : Int) ≤ (i : Int) ∧ (i : Int) < (n : Int) then
                none
               else
                none
              else
               if (0 : Int) ≤ (i : Int) ∧ (i : Int) < (n : Int) then
                if (op (Int.toNat (i : Int)) == (15 : Int)) = true then
                 if (0 : Int) ≤ (i : Int) ∧ (i : Int) < (n : Int) then
                  none
                 else
                  none
                else
                 none
               else
                none
             else
              none
           else
            none
        else
         none
       else
        none) (
       none)
     else
      none
    else
     none
   else
    none
  else
   some (Ans.l (Ex.exit 2) { fr := [V.junk] ++ jk 121, H := hp [], nx := 0, rt := 0, me := 80 }) := by kernel_rfl

theorem f80 (n : Nat) (op arg dp : Nat → Int) (S1 S2 : St) (P P2 : Prop) : callK E2 C80 (ltab2 [⟨0, bodyOf E2 80 0, S1, P, .exit 0, T80a n op arg dp, .ret, T80r⟩, ⟨2, bodyOf E2 80 2, S2, P2, .exit 2, T80e, .ret, T80r⟩]) 80 [cd n op arg] [] K =
  if (n : Int) = (n : Int) ∧ (0 : Int) ≤ (n : Int) ∧ 0 < 1 ∧ 1 = 1 ∧ Int.toNat (n : Int) * 8 ≤ 281474976710656 ∧ Int.toNat (n : Int) ≤ maxLen ∧ (allOk 1 1 fun (x : Nat) => List.map V.sc (Array.toList (Value.cells (Value.int IntKind.i64 0)))) = true then
   cl ((bodyOf E2 80 0) = (bodyOf E2 80 0) ∧ LeSt ({ fr := [V.ro 2 n (ins op arg), V.junk, V.junk, V.sl 0 1 0 (Int.toNat (n : Int)), i64 1] ++ jk 117, H := hp [some (Chunk.row 3 1 (Int.toNat (n : Int)) fun (x : Nat) => List.map V.sc (Array.toList (Value.cells (Value.int IntKind.i64 0))))], nx := 1, rt := 0, me := 80 }) (S1)) (
    cl (P) (
     cl ((bodyOf E2 80 2) = (bodyOf E2 80 2) ∧ LeSt ({ fr := [V.ro 2 n (ins op arg), V.junk, V.junk, V.sl 0 1 0 n, V.junk, i64 0] ++ jk 116, H := hp [some (Chunk.row 3 1 n (r1 dp))], nx := 1, rt := 0, me := 80 }) (S2)) (
      cl (P2) (
       some (Ans.c (CRes.ret (bo true) []))) (
       some (Ans.c (CRes.ret (bo false) [])))) (
      none)) (
     some (Ans.c (CRes.ret (bo false) [])))) (
    none)
  else
   none := by kernel_rfl

theorem k80i (n : Nat) (op arg : Nat → Int) (i : Nat) (dp : Nat → Int) : KC2 41 4 (.exit 4) (T80i n op arg i dp) = some (.l (.exit 4) (T80i n op arg i dp)) := by kernel_rfl
theorem k80r : KC2 41 4 .ret T80r = some (.l .ret T80r) := by kernel_rfl
theorem k80a (n : Nat) (op arg : Nat → Int) (dp : Nat → Int) : KC2 9 4 (.exit 0) (T80a n op arg dp) = some (.l (.exit 0) (T80a n op arg dp)) := by kernel_rfl
theorem k80ar : KC2 9 4 .ret T80r = some (.l .ret T80r) := by kernel_rfl
theorem k80e : KC2 0 4 (.exit 2) T80e = some (.l (.exit 2) T80e) := by kernel_rfl
theorem k80er : KC2 0 4 .ret T80r = some (.l .ret T80r) := by kernel_rfl
/-! The inner loop: the depths of the places that may come next. -/
theorem in_end {n i l : Nat} {op arg dp f : Nat → Int} {d : Int} : Ends (bodyOf E2 80 4) True (S80c n op arg i dp d l f l) (.exit 4) (T80i n op arg i dp) .ret T80r :=
  Ends.fin (m := 41) (r := 4) sC80 trivial fun lo => (r80i _ _ _ _ _ _ _ _ _ _).trans (by rw [if_neg (by simp)]; rfl)
theorem in_nil {n i : Nat} {op arg dp : Nat → Int} {d : Int} : Ends (bodyOf E2 80 4) True (S80n n op arg i dp d) (.exit 4) (T80i n op arg i dp) .ret T80r :=
  Ends.fin (m := 41) (r := 4) sC80 trivial fun lo => (r80n _ _ _ _ _ _ _).trans rfl
set_option maxRecDepth 100000 in
theorem in_step {n i l j : Nat} {op arg dp f dpN : Nat → Int} {d : Int} {P : Prop} (hl : l ≤ 2) (hj : j < l) (h0 : 0 ≤ f j) (hn : f j < n) (h : Ends (bodyOf E2 80 4) P (S80c n op arg i (Cv.upd dp (f j).toNat d) d l f (j + 1)) (.exit 4) (T80i n op arg i dpN) .ret T80r) : Ends (bodyOf E2 80 4) (¬ Cv.bad dp (f j).toNat d ∧ P) (S80c n op arg i dp d l f j) (.exit 4) (T80i n op arg i dpN) .ret T80r := by
  have hid : decide ((j : Int) < (l : Int)) = true := decide_eq_true (by omega)
  have hbb : (0 : Int) ≤ (j : Int) ∧ (j : Int) < (l : Int) := by omega
  have hcc : j < l ∧ True := ⟨hj, trivial⟩
  have hff : (0 : Int) ≤ f j ∧ f j < (n : Int) := ⟨h0, hn⟩
  have hgg : (f j).toNat < n ∧ True := ⟨by omega, trivial⟩
  have ew : w ((j : Int) + 1) = ((j + 1 : Nat) : Int) := by rw [w_in (by unfold inR; omega)]; omega
  have tree := fun lo => r80i n op arg i dp d l f j lo
  simp only [Int.toNat_natCast, Nat.zero_add, ew, if_pos hid, if_pos hbb, eq_self, if_pos hcc, if_pos hff, if_pos hgg] at tree
  have hle : LeSt ({ fr := [V.ro 2 n (ins op arg), V.junk, V.junk, V.sl 0 1 0 n, V.junk, i64 (i : Int), i64 d, V.junk, V.sl 1 1 0 l, i64 ((j + 1 : Nat) : Int)] ++ jk 112, H := hp [some (Chunk.row 3 1 n (putF true (f j).toNat 0 [i64 d] (r1 dp))), some (Chunk.row 3 1 l (r1 f))], nx := 2, rt := 0, me := 80 }) (S80c n op arg i (Cv.upd dp (f j).toNat d) d l f (j + 1)) :=
    LeSt.mk' (LeL.refl _) ⟨ChLe.row fun j' _ => row_put1 _ _ _ _, ChLe.refl _, trivial⟩
  by_cases hg : dp (f j).toNat ≥ 0
  · by_cases hd : dp (f j).toNat = d
    · have hb : ¬ Cv.bad dp (f j).toNat d := fun h => h.2 hd
      refine (Ends.next sC80 h (k80i _ _ _ _ _) k80r hle fun lo => (tree lo).trans ?_).iff ⟨fun h => h.2, fun h => ⟨hb, h⟩⟩
      simp only [dT hg, neF hd, if_true, if_false, Bool.false_eq_true, reduceIte]
    · have hb : Cv.bad dp (f j).toNat d := ⟨hg, hd⟩
      refine Ends.ret sC80 (fun h => h.1 hb) fun lo => (tree lo).trans ?_
      simp only [dT hg, neT hd, if_true, if_false, Bool.false_eq_true, reduceIte]
      rfl
  · have hb : ¬ Cv.bad dp (f j).toNat d := fun h => hg h.1
    refine (Ends.next sC80 h (k80i _ _ _ _ _) k80r hle fun lo => (tree lo).trans ?_).iff ⟨fun h => h.2, fun h => ⟨hb, h⟩⟩
    simp only [dF hg, if_true, if_false, Bool.false_eq_true, reduceIte]
/-! The first loop: all but the first are open. -/
def dq (k : Nat) : Nat → Int := fun j => if j = 0 then 0 else if j < k then -1 else 0
theorem dq_next (k : Nat) (h : 1 ≤ k) : Cv.upd (dq k) k (-1) = dq (k + 1) := by
  funext j
  unfold Cv.upd dq
  by_cases h0 : j = 0
  · subst h0; rw [if_neg (by omega), if_pos rfl, if_pos rfl]
  · by_cases hk : j = k
    · rw [if_pos hk, if_neg h0, if_pos (by omega)]
    · rw [if_neg hk, if_neg h0, if_neg h0]
      by_cases h2 : j < k
      · rw [if_pos h2, if_pos (by omega)]
      · rw [if_neg h2, if_neg (by omega)]
set_option maxRecDepth 100000 in
theorem loop80a {n : Nat} {op arg : Nat → Int} (hn : n ≤ 300) : ∀ (r k : Nat), k + r = n → 1 ≤ k → Ends (bodyOf E2 80 0) True (S80a n op arg k (dq k)) (.exit 0) (T80a n op arg (dq n)) .ret T80r := by
  intro r
  induction r with
  | zero =>
    intro k hk h1
    have : k = n := by omega
    subst this
    exact Ends.fin (m := 9) (r := 4) sC80 trivial fun lo => (r80c _ _ _ _ _ _).trans (by rw [if_neg (by simp)]; rfl)
  | succ r ih =>
    intro k hk h1
    have hid : decide ((k : Int) < (n : Int)) = true := decide_eq_true (by omega)
    have hbb : (0 : Int) ≤ (k : Int) ∧ (k : Int) < (n : Int) := by omega
    have hcc : k < n ∧ True := ⟨by omega, trivial⟩
    have ew : w ((k : Int) + 1) = ((k + 1 : Nat) : Int) := by rw [w_in (by unfold inR; omega)]; omega
    have tree := fun lo => r80c n op arg k (dq k) lo
    simp only [Int.toNat_natCast, Nat.zero_add, ew, if_pos hid, if_pos hbb, eq_self, if_pos hcc] at tree
    have hle : LeSt ({ fr := [V.ro 2 n (ins op arg), V.junk, V.junk, V.sl 0 1 0 n, i64 ((k + 1 : Nat) : Int)] ++ jk 117, H := hp [some (Chunk.row 3 1 n (putF true k 0 [i64 (-1)] (r1 (dq k))))], nx := 1, rt := 0, me := 80 }) (S80a n op arg (k + 1) (dq (k + 1))) :=
      LeSt.mk' (LeL.refl _) ⟨ChLe.row fun j _ => by rw [row_put1, dq_next k h1], trivial⟩
    exact Ends.next sC80 (ih (k + 1) (by omega) (by omega)) (k80a _ _ _ _) k80ar hle tree
/-! The second loop. -/
theorem one_list (v : Int) : ∀ j, j < 1 → (fun (j : Nat) => List.getD [[i64 v]] j []) j = r1 (fun _ => v) j := by
  intro j hj
  have : j = 0 := by omega
  subst this
  rfl
def two (a b : Int) : Nat → Int := fun j => if j = 0 then a else b
theorem two_list (a b : Int) : ∀ j, j < 2 → joinF 1 (fun (j : Nat) => List.getD [[i64 a]] j []) (fun (j : Nat) => List.getD [[i64 b]] j []) j = r1 (two a b) j := by
  intro j hj
  have : j = 0 ∨ j = 1 := by omega
  rcases this with h | h <;> subst h <;> rfl
theorem round80 {n i : Nat} {op arg dp dpN : Nat → Int} {P P2 Q : Prop} {S1 : St} (h4 : Ends (bodyOf E2 80 4) P S1 (.exit 4) (T80i n op arg i dpN) .ret T80r) (h2 : Ends (bodyOf E2 80 2) P2 (S80b n op arg (i + 1) dpN) (.exit 2) T80e .ret T80r) (hQ : Q ↔ (P ∧ P2))
    (hn : loopK E2 C80 (ltab2 [⟨4, bodyOf E2 80 4, S1, P, .exit 4, T80i n op arg i dpN, .ret, T80r⟩, ⟨2, bodyOf E2 80 2, S80b n op arg (i + 1) dpN, P2, .exit 2, T80e, .ret, T80r⟩]) 2 41 (bodyOf E2 80 2) (S80b n op arg i dp) (KC2 0 4) = cl P (cl P2 (some (.l (.exit 2) T80e)) (some (.l .ret T80r))) (some (.l .ret T80r))) : Ends (bodyOf E2 80 2) Q (S80b n op arg i dp) (.exit 2) T80e .ret T80r := by
  have hs := ltab2_cons (x := ⟨4, bodyOf E2 80 4, S1, P, .exit 4, T80i n op arg i dpN, .ret, T80r⟩) h4 (ltab2_cons (x := ⟨2, bodyOf E2 80 2, S80b n op arg (i + 1) dpN, P2, .exit 2, T80e, .ret, T80r⟩) h2 ltab2_nil)
  refine ⟨fun q => SL.by2 sC80 hX2 hs (hn.trans ?_), fun q => SL.by2 sC80 hX2 hs (hn.trans ?_)⟩
  · rw [cl_pos (hQ.1 q).1, cl_pos (hQ.1 q).2]
  · by_cases hp : P
    · rw [cl_pos hp, cl_neg (fun h => q (hQ.2 ⟨hp, h⟩))]
    · rw [cl_neg hp]
theorem Ends.ret0 {C : CallT} (hC : SoundC E2 C) {lo : LoopT} {id live m r : Nat} {c : ACode} {P : Prop} {S : St} {e1 e2 : Ex} {T1 T2 : St} (hp : ¬ P) (hL : SoundL E2 lo) (hn : loopK E2 C lo id live c S (KC2 m r) = some (.l e2 T2)) : Ends c P S e1 T1 e2 T2 :=
  ⟨fun p => absurd p hp, fun _ => SL.by2 hC hX2 hL hn⟩
theorem le80 {n i : Nat} {op arg dp : Nat → Int} : LeSt ({ fr := [V.ro 2 n (ins op arg), V.junk, V.junk, V.sl 0 1 0 n, V.junk, i64 ((i + 1 : Nat) : Int)] ++ jk 116, H := hp [some (Chunk.row 3 1 n (r1 dp))], nx := 1, rt := 0, me := 80 }) (S80b n op arg (i + 1) dp) := LeSt.refl _
theorem le80n {n i : Nat} {op arg dp : Nat → Int} {d : Int} : LeSt ({ fr := [V.ro 2 n (ins op arg), V.junk, V.junk, V.sl 0 1 0 n, V.junk, i64 (i : Int), i64 d, V.junk, V.sc (Value.slice none 0 0), i64 0] ++ jk 112, H := hp [some (Chunk.row 3 1 n (r1 dp))], nx := 1, rt := 0, me := 80 }) (S80n n op arg i dp d) := LeSt.refl _
theorem le80one {n i : Nat} {op arg dp : Nat → Int} {d v : Int} : LeSt ({ fr := [V.ro 2 n (ins op arg), V.junk, V.junk, V.sl 0 1 0 n, V.junk, i64 (i : Int), i64 d, V.junk, V.sl 1 1 0 1, i64 0] ++ jk 112, H := hp [some (Chunk.row 3 1 n (r1 dp)), some (Chunk.row 3 1 1 fun (j : Nat) => List.getD [[i64 v]] j [])], nx := 2, rt := 0, me := 80 }) (S80c n op arg i dp d 1 (fun _ => v) 0) :=
  LeSt.mk' (LeL.refl _) ⟨ChLe.refl _, ChLe.row (one_list _), trivial⟩
theorem le80two {n i : Nat} {op arg dp : Nat → Int} {d a b : Int} : LeSt ({ fr := [V.ro 2 n (ins op arg), V.junk, V.junk, V.sl 0 1 0 n, V.junk, i64 (i : Int), i64 d, V.junk, V.sl 1 1 0 2, i64 0] ++ jk 112, H := hp [some (Chunk.row 3 1 n (r1 dp)), some (Chunk.row 3 1 2 (joinF 1 (fun (j : Nat) => List.getD [[i64 a]] j []) fun (j : Nat) => List.getD [[i64 b]] j []))], nx := 2, rt := 0, me := 80 }) (S80c n op arg i dp d 2 (two a b) 0) :=
  LeSt.mk' (LeL.refl _) ⟨ChLe.refl _, ChLe.row (two_list _ _), trivial⟩
theorem leftD_true (o d : Int) : leftD o d = true ↔ Cv.leftB o d := by unfold leftD; exact @decide_eq_true_iff _ (Classical.propDecidable _)
def sm16 (dp : Nat → Int) : Prop := ∀ j, -1 ≤ dp j ∧ dp j ≤ 16
theorem sm16.upd {dp : Nat → Int} (h : sm16 dp) {t : Nat} {d : Int} (h0 : 0 ≤ d) (h1 : d ≤ 16) : sm16 (Cv.upd dp t d) := by
  intro j
  unfold Cv.upd
  split
  · omega
  · exact h j
set_option maxRecDepth 100000 in
theorem loop80b {n : Nat} {op arg : Nat → Int} (vs : Int) (hn : n ≤ 300) (hok : ∀ i, i < n → Cv.okOp (op i)) (harg : ∀ i, i < n → Cv.jmp (op i) → 0 ≤ arg i ∧ arg i < n) : ∀ (r i : Nat) (dp : Nat → Int), i + r = n → sm16 dp → Ends (bodyOf E2 80 2) (Cv.depR (mkC vs n op arg) r i dp) (S80b n op arg i dp) (.exit 2) T80e .ret T80r := by
  intro r
  induction r with
  | zero =>
    intro i dp hi hs
    have : i = n := by omega
    subst this
    exact ⟨fun _ => SL.by2 (m := 0) (r := 4) sC80 hX2 ltab2_nil ((r80z_e _ _ _ _ _).trans (by rw [if_neg (by simp)]; rfl)), fun h => absurd trivial h⟩
  | succ r ih =>
    intro i dp hi hs
    have hi' : i < n := by omega
    have hsi := hs i
    have hid : decide ((i : Int) < (n : Int)) = true := decide_eq_true (by omega)
    have hbb : (0 : Int) ≤ (i : Int) ∧ (i : Int) < (n : Int) := by omega
    have hcc : i < n ∧ True := ⟨hi', trivial⟩
    have hq : QLeft [i64 (op i), i64 (dp i)] ∧ True := ⟨⟨_, _, rfl, hsi⟩, trivial⟩
    have ew : w ((i : Int) + 1) = ((i + 1 : Nat) : Int) := by rw [w_in (by unfold inR; omega)]; omega
    have tree := fun (dpN : Nat → Int) S1 S2 P P2 => r80b n op arg i dp dpN S1 S2 P P2
    simp only [Int.toNat_natCast, Nat.zero_add, ew, if_pos hid, if_pos hbb, eq_self, if_pos hcc, cl_pos hq, true_and] at tree
    have tree0 := r80z_e n op arg i dp
    simp only [Int.toNat_natCast, Nat.zero_add, ew, if_pos hid, if_pos hbb, eq_self, if_pos hcc, cl_pos hq, true_and] at tree0
    have bl := iff_of_eq (Cv.depR.eq_2 (mkC vs n op arg) i dp r)
    have hop : Cv.Cd.op (mkC vs n op arg) i = op i := rfl
    have har : Cv.Cd.arg (mkC vs n op arg) i = arg i := rfl
    have hnn : Cv.Cd.n (mkC vs n op arg) = n := rfl
    rw [hop, har, hnn] at bl
    by_cases hneg : dp i < 0
    · refine Ends.ret0 sC80 (fun h => by have := (bl.1 h).1.1; omega) ltab2_nil (tree0.trans ?_)
      simp only [dT hneg, if_true]
      rfl
    by_cases hl' : ¬ Cv.leftB (op i) (dp i)
    · have hlf : leftD (op i) (dp i) = false := by cases hb : leftD (op i) (dp i) with | false => rfl | true => exact absurd ((leftD_true _ _).1 hb) hl'
      refine Ends.ret0 sC80 (fun h => hl' (bl.1 h).1.2) ltab2_nil (tree0.trans ?_)
      simp only [dF hneg, hlf, Bool.not_false, if_true, if_false, Bool.false_eq_true, reduceIte]
      rfl
    have hl := Classical.not_not.1 hl'
    have hlt : leftD (op i) (dp i) = true := (leftD_true _ _).2 hl
    obtain ⟨v1, v2, v3⟩ := Cv.eff_val (hok i hi') (by omega) hsi.2 hl
    have hA : 0 ≤ dp i ∧ Cv.leftB (op i) (dp i) := ⟨by omega, hl⟩
    simp only [dF hneg, hlt, Bool.not_true, if_true, if_false, Bool.false_eq_true, reduceIte] at tree
    generalize Cv.leftV (op i) (dp i) = d at *
    by_cases h14 : op i = 14
    · have hj : Cv.jmp (op i) := .inl h14
      have ha := harg i hi' hj
      have hin : ¬ (op i ≠ 14 ∧ i + 1 < n) := fun h => h.1 h14
      simp only [hin, hj, if_true, if_false, true_implies, false_implies, true_and] at bl
      simp only [neF h14, eqT h14, if_true, if_false, Bool.false_eq_true, reduceIte] at tree
      refine round80 (in_step (j := 0) (l := 1) (f := fun _ => arg i) (d := d) (by omega) (by omega) ha.1 ha.2 in_end) (ih (i + 1) (Cv.upd dp (arg i).toNat d) (by omega) (hs.upd v2 v3)) (bl.trans ⟨fun h => ⟨⟨h.2.1, trivial⟩, h.2.2⟩, fun h => ⟨hA, h.1.1, h.2⟩⟩) ((tree _ _ _ _ _).trans ?_)
      rw [cl_pos le80one, cl_pos le80]
      rfl
    by_cases hin1 : i + 1 < n
    · have hin : (op i ≠ 14 ∧ i + 1 < n) = True := eq_true ⟨h14, hin1⟩
      have hlt1 : decide (((i + 1 : Nat) : Int) < (n : Int)) = true := decide_eq_true (by omega)
      by_cases h15 : op i = 15
      · have hj : Cv.jmp (op i) := .inr h15
        have ha := harg i hi' hj
        simp only [hin, hj, if_true, if_false, true_implies, false_implies, true_and, and_self] at bl
        simp only [neT h14, hlt1, eqF h14, eqT h15, if_true, if_false, Bool.false_eq_true, reduceIte] at tree
        refine round80 (in_step (j := 0) (l := 2) (f := two ((i + 1 : Nat) : Int) (arg i)) (d := d) (by omega) (by omega) (show (0 : Int) ≤ ((i + 1 : Nat) : Int) by omega) (show ((i + 1 : Nat) : Int) < n by omega) (in_step (j := 1) (l := 2) (f := two ((i + 1 : Nat) : Int) (arg i)) (d := d) (by omega) (by omega) ha.1 ha.2 in_end)) (ih (i + 1) (Cv.upd (Cv.upd dp (i + 1) d) (arg i).toNat d) (by omega) ((hs.upd v2 v3).upd v2 v3)) (bl.trans ⟨fun h => ⟨⟨h.2.1, h.2.2.1, trivial⟩, h.2.2.2⟩, fun h => ⟨hA, h.1.1, h.1.2.1, h.2⟩⟩) ((tree _ _ _ _ _).trans ?_)
        rw [cl_pos le80two, cl_pos le80]
        rfl
      · have hj : ¬ Cv.jmp (op i) := fun h => h.elim h14 h15
        simp only [hin, hj, if_true, if_false, true_implies, false_implies, true_and, and_self] at bl
        simp only [neT h14, hlt1, eqF h14, eqF h15, if_true, if_false, Bool.false_eq_true, reduceIte] at tree
        refine round80 (in_step (j := 0) (l := 1) (f := fun _ => ((i + 1 : Nat) : Int)) (d := d) (by omega) (by omega) (show (0 : Int) ≤ ((i + 1 : Nat) : Int) by omega) (show ((i + 1 : Nat) : Int) < n by omega) in_end) (ih (i + 1) (Cv.upd dp (i + 1) d) (by omega) (hs.upd v2 v3)) (bl.trans ⟨fun h => ⟨⟨h.2.1, trivial⟩, h.2.2⟩, fun h => ⟨hA, h.1.1, h.2⟩⟩) ((tree _ _ _ _ _).trans ?_)
        rw [cl_pos le80one, cl_pos le80]
        rfl
    · have hin : ¬ (op i ≠ 14 ∧ i + 1 < n) := fun h => hin1 h.2
      have hlt1 : decide (((i + 1 : Nat) : Int) < (n : Int)) = false := decide_eq_false (by omega)
      by_cases h15 : op i = 15
      · have hj : Cv.jmp (op i) := .inr h15
        have ha := harg i hi' hj
        simp only [hin, hj, if_true, if_false, true_implies, false_implies, true_and, and_self] at bl
        simp only [neT h14, hlt1, eqF h14, eqT h15, if_true, if_false, Bool.false_eq_true, reduceIte] at tree
        refine round80 (in_step (j := 0) (l := 1) (f := fun _ => arg i) (d := d) (by omega) (by omega) ha.1 ha.2 in_end) (ih (i + 1) (Cv.upd dp (arg i).toNat d) (by omega) (hs.upd v2 v3)) (bl.trans ⟨fun h => ⟨⟨h.2.1, trivial⟩, h.2.2⟩, fun h => ⟨hA, h.1.1, h.2⟩⟩) ((tree _ _ _ _ _).trans ?_)
        rw [cl_pos le80one, cl_pos le80]
        rfl
      · have hj : ¬ Cv.jmp (op i) := fun h => h.elim h14 h15
        simp only [hin, hj, if_true, if_false, true_implies, false_implies, true_and, and_self] at bl
        simp only [neT h14, hlt1, eqF h14, eqF h15, if_true, if_false, Bool.false_eq_true, reduceIte] at tree
        refine round80 (in_nil (d := d)) (ih (i + 1) dp (by omega) hs) (bl.trans ⟨fun h => ⟨trivial, h.2⟩, fun h => ⟨hA, h.2⟩⟩) ((tree _ _ _ _ _).trans ?_)
        rw [cl_pos le80n, cl_pos le80]
        rfl
open Classical in
noncomputable def depD (c : Cv.Cd) : Bool := decide (Cv.depR c c.n 0 Cv.dp0)
open Classical in
theorem depD_iff (c : Cv.Cd) : depD c = true ↔ Cv.depR c c.n 0 Cv.dp0 := by unfold depD; rw [decide_eq_true_eq]
set_option maxRecDepth 100000 in
theorem dep_sc {n : Nat} {op arg : Nat → Int} (vs : Int) (hn : n ≤ 300) (h1 : 1 ≤ n) (hok : ∀ i, i < n → Cv.okOp (op i)) (harg : ∀ i, i < n → Cv.jmp (op i) → 0 ≤ arg i ∧ arg i < n) : SC E2 80 [cd n op arg] [] (.ret (bo (depD (mkC vs n op arg))) []) := by
  have l1 := loop80a (op := op) (arg := arg) hn (n - 1) 1 (by omega) (Nat.le_refl _)
  have hs0 : sm16 Cv.dp0 := fun j => by unfold Cv.dp0; split <;> omega
  have l2 := loop80b vs hn hok harg n 0 Cv.dp0 (by omega) hs0
  have hc : (n : Int) = (n : Int) ∧ (0 : Int) ≤ (n : Int) ∧ 0 < 1 ∧ 1 = 1 ∧ Int.toNat (n : Int) * 8 ≤ 281474976710656 ∧ Int.toNat (n : Int) ≤ Go.maxLen ∧ (allOk 1 1 fun (x : Nat) => List.map V.sc (Array.toList (Value.cells (Value.int IntKind.i64 0)))) = true := by
    refine ⟨rfl, by omega, by decide, rfl, by rw [Int.toNat_natCast]; omega, by rw [Int.toNat_natCast]; unfold Go.maxLen; omega, by kernel_rfl⟩
  refine SC.of hW2 hX2 sC80 (ltab2_cons (x := ⟨0, _, _, _, _, _, _, _⟩) l1 (ltab2_cons (x := ⟨2, _, _, _, _, _, _, _⟩) l2 ltab2_nil)) ((f80 n op arg (dq n) _ _ _ _).trans ?_)
  rw [if_pos hc, cl_pos ⟨rfl, (by
    rw [Int.toNat_natCast]
    refine LeSt.mk' (LeL.refl _) ⟨ChLe.row fun j _ => ?_, trivial⟩
    show [i64 0] = [i64 (dq 1 j)]
    unfold dq
    by_cases h : j = 0
    · rw [if_pos h]
    · rw [if_neg h, if_neg (by omega)])⟩, cl_pos trivial]
  rw [cl_pos ⟨rfl, (by
    refine LeSt.mk' (LeL.refl _) ⟨ChLe.row fun j hj => ?_, trivial⟩
    show [i64 (dq n j)] = [i64 (Cv.dp0 j)]
    unfold dq Cv.dp0
    by_cases h : j = 0
    · rw [if_pos h, if_pos h]
    · rw [if_neg h, if_neg h, if_pos hj])⟩]
  by_cases hb : Cv.depR (mkC vs n op arg) n 0 Cv.dp0
  · rw [cl_pos hb]
    have : depD (mkC vs n op arg) = true := (depD_iff _).2 hb
    rw [this]
  · rw [cl_neg hb]
    have : depD (mkC vs n op arg) = false := by cases h : depD (mkC vs n op arg) with | false => rfl | true => exact absurd ((depD_iff _).1 h) hb
    rw [this]
end Go.Proofs.Ythegipdgillngaa
