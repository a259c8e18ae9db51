/- Does the code suit the rig (57, 61, 74); check (38, 41); Same (16): walked. -/
import Derived.Test.YthegipdgillngaaV7
import Derived.Test.YthegipdgillngaaB5
import Derived.Test.YthegipdgillngaaCw
namespace Go.Proofs.Ythegipdgillngaa
open Go Go.Am Go.Proofs
set_option linter.unusedSimpArgs false
set_option linter.unusedVariables false
def amg (x m : Int) : Bool := decide (x ≥ 0) && decide (x ≤ m)
theorem amg_iff (x m : Int) : amg x m = true ↔ 0 ≤ x ∧ x ≤ m := by unfold amg; rw [Bool.and_eq_true, decide_eq_true_eq, decide_eq_true_eq]
def vAm : List V → V
  | [.sc (.int .i64 x), .sc (.int .i64 m)] => bo (amg x m)
  | _ => .junk
def QAm (args : List V) : Prop := ∃ x m : Int, args = [i64 x, i64 m]
theorem g45 (x m : Int) : callG E2 20 45 [i64 x, i64 m] [] K =
  if decide (x ≥ (0 : Int)) = true then
   some (Ans.c (CRes.ret (bo ((decide (x ≤ m)))) []))
  else
   some (Ans.c (CRes.ret (bo false) [])) := by kernel_rfl

theorem am_sc (x m : Int) : SC E2 45 [i64 x, i64 m] [] (.ret (bo (amg x m)) []) := by
  refine SC.g2 ((g45 x m).trans ?_)
  unfold amg
  by_cases h : x ≥ 0
  · rw [if_pos (by simpa using h), decide_eq_true h, Bool.true_and]
  · rw [if_neg (by simpa using h), decide_eq_false h, Bool.false_and]
noncomputable def C57 : CallT := ptab 45 QAm vAm (tab [])
theorem sC57 : SoundC E2 C57 := ptab_cons (fun args h => by obtain ⟨x, m, rfl⟩ := h; exact am_sc x m) tab_nil
/-- The rig is within its bounds. -/
def rigP (k : Nat) (a b c : Nat → Int) (R W : Int) : Prop := (k ≤ 8 ∧ 1 ≤ R ∧ R ≤ 360 ∧ 0 ≤ W ∧ W ≤ 1000000) ∧ ∀ j, 0 ≤ j → j < k → (0 ≤ a j ∧ a j ≤ 1000000) ∧ (0 ≤ b j ∧ b j ≤ 1000000) ∧ (0 ≤ c j ∧ c j ≤ 7)
/-- The tools that the code names are there. -/
def jobP (n : Nat) (op arg : Nat → Int) (k : Nat) : Prop := ∀ j, 0 ≤ j → j < n → op j = 23 → w (Int.tdiv (arg j) 1000000) < k
open Classical in
noncomputable def rigD (k : Nat) (a b c : Nat → Int) (R W : Int) : Bool := decide (rigP k a b c R W)
open Classical in
noncomputable def suiD (n : Nat) (op arg : Nat → Int) (k : Nat) (a b c : Nat → Int) (R W : Int) : Bool := decide (rigP k a b c R W ∧ jobP n op arg k)
open Classical in
theorem rigD_t {k : Nat} {a b c : Nat → Int} {R W : Int} (h : rigP k a b c R W) : rigD k a b c R W = true := by unfold rigD; exact decide_eq_true h
open Classical in
theorem rigD_f {k : Nat} {a b c : Nat → Int} {R W : Int} (h : ¬ rigP k a b c R W) : rigD k a b c R W = false := by unfold rigD; exact decide_eq_false h
open Classical in
theorem suiD_t {n : Nat} {op arg : Nat → Int} {k : Nat} {a b c : Nat → Int} {R W : Int} (h : rigP k a b c R W ∧ jobP n op arg k) : suiD n op arg k a b c R W = true := by unfold suiD; exact decide_eq_true h
open Classical in
theorem suiD_f {n : Nat} {op arg : Nat → Int} {k : Nat} {a b c : Nat → Int} {R W : Int} (h : ¬ (rigP k a b c R W ∧ jobP n op arg k)) : suiD n op arg k a b c R W = false := by unfold suiD; exact decide_eq_false h
open Classical in
theorem suiD_iff {n : Nat} {op arg : Nat → Int} {k : Nat} {a b c : Nat → Int} {R W : Int} : suiD n op arg k a b c R W = true ↔ (rigP k a b c R W ∧ jobP n op arg k) := by unfold suiD; rw [decide_eq_true_eq]
def S57a (nm : ByteArray) (ps vs : Int) (n : Nat) (op arg : Nat → Int) (k : Nat) (a b c : Nat → Int) (R W : Int) (i : Nat) : St := { fr := [.junk, .junk, .ptr 0 0, .ptr 1 0] ++ jk 26 ++ [.ro 3 k (r3 a b c), i64 k, i64 i] ++ jk 40, H := hp [some (.blk [st nm, i64 ps, i64 vs, cd n op arg]), some (.blk [.ro 3 k (r3 a b c), i64 R, i64 W])], nx := 2, rt := 0, me := 57 }
def T57a (nm : ByteArray) (ps vs : Int) (n : Nat) (op arg : Nat → Int) (k : Nat) (a b c : Nat → Int) (R W : Int) : St := { fr := [.junk, .junk, .ptr 0 0, .ptr 1 0] ++ jk 69, H := hp [some (.blk [st nm, i64 ps, i64 vs, cd n op arg]), some (.blk [.ro 3 k (r3 a b c), i64 R, i64 W])], nx := 2, rt := 0, me := 57 }
def T57r : St := { fr := jk 4 ++ [bo false] ++ jk 68, H := hp [], nx := 0, rt := 0, me := 57 }
def S57b (n : Nat) (op arg : Nat → Int) (k : Nat) (a b c : Nat → Int) (R W : Int) (i : Nat) : St := { fr := [.junk, .junk, .junk, .ptr 0 0] ++ jk 50 ++ [cd n op arg, i64 n, i64 i] ++ jk 16, H := hp [some (.blk [.ro 3 k (r3 a b c), i64 R, i64 W])], nx := 1, rt := 0, me := 57 }
def T57b : St := { fr := jk 73, H := hp [], nx := 0, rt := 0, me := 57 }
def S61 (nm : ByteArray) (ps vs : Int) (n : Nat) (op arg : Nat → Int) (k : Nat) (a b c : Nat → Int) (R W : Int) (i : Nat) : St := { fr := [.junk, .junk, .ptr 0 0, .ptr 1 0, .junk, i64 i] ++ jk 29, H := hp [some (.blk [st nm, i64 ps, i64 vs, cd n op arg]), some (.blk [.ro 3 k (r3 a b c), i64 R, i64 W])], nx := 2, rt := 0, me := 61 }
def T61 (k : Nat) (a b c : Nat → Int) (R W : Int) : St := { fr := [.junk, .junk, .junk, .ptr 0 0] ++ jk 31, H := hp [some (.blk [.ro 3 k (r3 a b c), i64 R, i64 W])], nx := 1, rt := 0, me := 61 }
def T61r : St := { fr := jk 4 ++ [bo false] ++ jk 30, H := hp [], nx := 0, rt := 0, me := 61 }
def S74 (k : Nat) (a b c : Nat → Int) (R W : Int) (i : Nat) : St := { fr := [.junk, .ptr 0 0, .junk, i64 i] ++ jk 65, H := hp [some (.blk [.ro 3 k (r3 a b c), i64 R, i64 W])], nx := 1, rt := 0, me := 74 }
def T74 : St := { fr := jk 69, H := hp [], nx := 0, rt := 0, me := 74 }
def T74r : St := { fr := jk 2 ++ [bo false] ++ jk 66, H := hp [], nx := 0, rt := 0, me := 74 }
def rc (x : Nat → Nat → Int) : Nat → List V := fun j => [i64 (x 0 j), i64 (x 1 j), i64 (x 2 j), i64 (x 3 j), i64 (x 4 j), i64 (x 5 j)]
def crt (n : Nat) (x : Nat → Nat → Int) : V := .ro 6 n (rc x)
def S16 (n m : Nat) (x y : Nat → Nat → Int) (i : Nat) : St := { fr := [crt n x, crt m y, .junk, .junk, .junk, i64 i] ++ jk 20, H := hp [], nx := 0, rt := 0, me := 16 }
def T16 : St := { fr := jk 26, H := hp [], nx := 0, rt := 0, me := 16 }
def T16r : St := { fr := jk 4 ++ [bo false] ++ jk 21, H := hp [], nx := 0, rt := 0, me := 16 }
def c6 (c : Nat → Int) : V := .agg [i64 (c 0), i64 (c 1), i64 (c 2), i64 (c 3), i64 (c 4), i64 (c 5)]
theorem r57a (nm : ByteArray) (ps vs : Int) (n : Nat) (op arg : Nat → Int) (k : Nat) (a b c : Nat → Int) (R W : Int) (i : Nat) (lo : LoopT) : loopK E2 C57 lo 0 7516192780 (bodyOf E2 57 0) (S57a nm ps vs n op arg k a b c R W i) (KC2 12 16) =
  if decide ((i : Int) < (k : Int)) = true then
   if (0 : Int) ≤ (i : Int) ∧ (i : Int) < (k : Int) then
    cl (QAm ([i64 (a (Int.toNat (i : Int))), i64 1000000]) ∧ ([] : List (Option Chunk)) = []) (
     if (!amg (a (Int.toNat (i : Int))) (1000000 : Int)) = true then
      some (Ans.l Ex.ret { fr := [V.junk, V.junk, V.junk, V.junk, bo false] ++ jk 68, H := hp [], nx := 0, rt := 0, me := 57 })
     else
      cl (QAm ([i64 (b (Int.toNat (i : Int))), i64 1000000]) ∧ ([] : List (Option Chunk)) = []) (
       if (!amg (b (Int.toNat (i : Int))) (1000000 : Int)) = true then
        some (Ans.l Ex.ret { fr := [V.junk, V.junk, V.junk, V.junk, bo false] ++ jk 68, H := hp [], nx := 0, rt := 0, me := 57 })
       else
        cl (QAm ([i64 (c (Int.toNat (i : Int))), i64 7]) ∧ ([] : List (Option Chunk)) = []) (
         if (!amg (c (Int.toNat (i : Int))) (7 : Int)) = true then
          some (Ans.l Ex.ret { fr := [V.junk, V.junk, V.junk, V.junk, bo false] ++ jk 68, H := hp [], nx := 0, rt := 0, me := 57 })
         else
          lo 0 7516192780 (bodyOf E2 57 0) ({ fr := [V.junk, V.junk, V.ptr 0 0, V.ptr 1 0, V.junk, V.junk, V.junk, V.junk, V.junk, V.junk, V.junk, V.junk, V.junk, V.junk, V.junk, V.junk, V.junk, V.junk, V.junk, V.junk, V.junk, V.junk, V.junk, V.junk, V.junk, V.junk, V.junk, V.junk, V.junk, V.junk, V.ro 3 k (r3 a b c), i64 (k : Int), i64 (w ((i : Int) + (1 : Int)))] ++ jk 40, H := hp [some (Chunk.blk [V.sc (Value.string nm), i64 ps, i64 vs, V.ro 2 n (ins op arg)]), some (Chunk.blk [V.ro 3 k (r3 a b c), i64 R, i64 W])], nx := 2, rt := 0, me := 57 }) (KC2 12 16)) (
         none)) (
       none)) (
     none)
   else
    none
  else
   some (Ans.l (Ex.exit 0) { fr := [V.junk, V.junk, V.ptr 0 0, V.ptr 1 0] ++ jk 69, H := hp [some (Chunk.blk [V.sc (Value.string nm), i64 ps, i64 vs, V.ro 2 n (ins op arg)]), some (Chunk.blk [V.ro 3 k (r3 a b c), i64 R, i64 W])], nx := 2, rt := 0, me := 57 }) := by kernel_rfl
theorem r57b (n : Nat) (op arg : Nat → Int) (k : Nat) (a b c : Nat → Int) (R W : Int) (i : Nat) (lo : LoopT) : loopK E2 C57 lo 2 126100789566373896 (bodyOf E2 57 2) (S57b n op arg k a b c R W i) (KC2 0 16) =
  if decide ((i : Int) < (n : Int)) = true then
   if (0 : Int) ≤ (i : Int) ∧ (i : Int) < (n : Int) then
    if (op (Int.toNat (i : Int)) == (23 : Int)) = true then
     if decide (w (Int.tdiv (arg (Int.toNat (i : Int))) (1000000 : Int)) ≥ (k : Int)) = true then
      some (Ans.l Ex.ret { fr := [V.junk, V.junk, V.junk, V.junk, bo false] ++ jk 68, H := hp [], nx := 0, rt := 0, me := 57 })
     else
      lo 2 126100789566373896 (bodyOf E2 57 2) ({ fr := [V.junk, V.junk, V.junk, V.ptr 0 0, V.junk, V.junk, V.junk, V.junk, V.junk, V.junk, V.junk, V.junk, V.junk, V.junk, V.junk, V.junk, V.junk, V.junk, V.junk, V.junk, V.junk, V.junk, V.junk, V.junk, V.junk, V.junk, V.junk, V.junk, V.junk, V.junk, V.junk, V.junk, V.junk, V.junk, V.junk, V.junk, V.junk, V.junk, V.junk, V.junk, V.junk, V.junk, V.junk, V.junk, V.junk, V.junk, V.junk, V.junk, V.junk, V.junk, V.junk, V.junk, V.junk, V.junk, V.ro 2 n (ins op arg), i64 (n : Int), i64 (w ((i : Int) + (1 : Int)))] ++ jk 16, H := hp [some (Chunk.blk [V.ro 3 k (r3 a b c), i64 R, i64 W])], nx := 1, rt := 0, me := 57 }) (KC2 0 16)
    else
     lo 2 126100789566373896 (bodyOf E2 57 2) ({ fr := [V.junk, V.junk, V.junk, V.ptr 0 0, V.junk, V.junk, V.junk, V.junk, V.junk, V.junk, V.junk, V.junk, V.junk, V.junk, V.junk, V.junk, V.junk, V.junk, V.junk, V.junk, V.junk, V.junk, V.junk, V.junk, V.junk, V.junk, V.junk, V.junk, V.junk, V.junk, V.junk, V.junk, V.junk, V.junk, V.junk, V.junk, V.junk, V.junk, V.junk, V.junk, V.junk, V.junk, V.junk, V.junk, V.junk, V.junk, V.junk, V.junk, V.junk, V.junk, V.junk, V.junk, V.junk, V.junk, V.ro 2 n (ins op arg), i64 (n : Int), i64 (w ((i : Int) + (1 : Int)))] ++ jk 16, H := hp [some (Chunk.blk [V.ro 3 k (r3 a b c), i64 R, i64 W])], nx := 1, rt := 0, me := 57 }) (KC2 0 16)
   else
    none
  else
   some (Ans.l (Ex.exit 2) { fr := [V.junk] ++ jk 72, H := hp [], nx := 0, rt := 0, me := 57 }) := by kernel_rfl
theorem f57 (nm : ByteArray) (ps vs : Int) (n : Nat) (op arg : Nat → Int) (k : Nat) (a b c : Nat → Int) (R W : Int) (S1 S2 : St) (P P2 : Prop) : callK E2 C57 (ltab2 [⟨0, bodyOf E2 57 0, S1, P, .exit 0, T57a nm ps vs n op arg k a b c R W, .ret, T57r⟩, ⟨2, bodyOf E2 57 2, S2, P2, .exit 2, T57b, .ret, T57r⟩]) 57 [codV nm ps vs n op arg, rigV k a b c R W] [] K =
  if decide ((k : Int) > (8 : Int)) = true then
   some (Ans.c (CRes.ret (bo false) []))
  else
   if decide (R < (1 : Int)) = true then
    some (Ans.c (CRes.ret (bo false) []))
   else
    if decide (R > (360 : Int)) = true then
     some (Ans.c (CRes.ret (bo false) []))
    else
     cl (QAm ([i64 W, i64 1000000]) ∧ ([] : List (Option Chunk)) = []) (
      if (!amg W (1000000 : Int)) = true then
       some (Ans.c (CRes.ret (bo false) []))
      else
       cl ((bodyOf E2 57 0) = (bodyOf E2 57 0) ∧ LeSt ({ fr := [V.junk, V.junk, V.ptr 0 0, V.ptr 1 0, V.junk, V.junk, V.junk, V.junk, V.junk, V.junk, V.junk, V.junk, V.junk, V.junk, V.junk, V.junk, V.junk, V.junk, V.junk, V.junk, V.junk, V.junk, V.junk, V.junk, V.junk, V.junk, V.junk, V.junk, V.junk, V.junk, V.ro 3 k (r3 a b c), i64 (k : Int), i64 0] ++ jk 40, H := hp [some (Chunk.blk [V.sc (Value.string nm), i64 ps, i64 vs, V.ro 2 n (ins op arg)]), some (Chunk.blk [V.ro 3 k (r3 a b c), i64 R, i64 W])], nx := 2, rt := 0, me := 57 }) (S1)) (
        cl (P) (
         cl ((bodyOf E2 57 2) = (bodyOf E2 57 2) ∧ LeSt ({ fr := [V.junk, V.junk, V.junk, V.ptr 0 0, V.junk, V.junk, V.junk, V.junk, V.junk, V.junk, V.junk, V.junk, V.junk, V.junk, V.junk, V.junk, V.junk, V.junk, V.junk, V.junk, V.junk, V.junk, V.junk, V.junk, V.junk, V.junk, V.junk, V.junk, V.junk, V.junk, V.junk, V.junk, V.junk, V.junk, V.junk, V.junk, V.junk, V.junk, V.junk, V.junk, V.junk, V.junk, V.junk, V.junk, V.junk, V.junk, V.junk, V.junk, V.junk, V.junk, V.junk, V.junk, V.junk, V.junk, V.ro 2 n (ins op arg), i64 (n : Int), i64 0] ++ jk 16, H := hp [some (Chunk.blk [V.ro 3 k (r3 a b c), i64 R, i64 W])], nx := 1, rt := 0, me := 57 }) (S2)) (
          cl (P2) (
           some (Ans.c (CRes.ret (bo true) []))) (
           some (Ans.c (CRes.ret (bo false) [])))) (
          none)) (
         some (Ans.c (CRes.ret (bo false) [])))) (
        none)) (
      none) := by kernel_rfl
theorem r61 (nm : ByteArray) (ps vs : Int) (n : Nat) (op arg : Nat → Int) (k : Nat) (a b c : Nat → Int) (R W : Int) (i : Nat) (lo : LoopT) : loopK E2 (tab []) lo 0 44 (bodyOf E2 61 0) (S61 nm ps vs n op arg k a b c R W i) (KC2 8 16) =
  if decide ((i : Int) < (n : Int)) = true then
   if (0 : Int) ≤ (i : Int) ∧ (i : Int) < (n : Int) then
    if (op (Int.toNat (i : Int)) == (23 : Int)) = true then
     if (0 : Int) ≤ (i : Int) ∧ (i : Int) < (n : Int) then
      if decide (w (Int.tdiv (arg (Int.toNat (i : Int))) (1000000 : Int)) ≥ (k : Int)) = true then
       some (Ans.l Ex.ret { fr := [V.junk, V.junk, V.junk, V.junk, bo false] ++ jk 30, H := hp [], nx := 0, rt := 0, me := 61 })
      else
       lo 0 44 (bodyOf E2 61 0) ({ fr := [V.junk, V.junk, V.ptr 0 0, V.ptr 1 0, V.junk, i64 (w ((i : Int) + (1 : Int)))] ++ jk 29, H := hp [some (Chunk.blk [V.sc (Value.string nm), i64 ps, i64 vs, V.ro 2 n (ins op arg)]), some (Chunk.blk [V.ro 3 k (r3 a b c), i64 R, i64 W])], nx := 2, rt := 0, me := 61 }) (KC2 8 16)
     else
      none
    else
     lo 0 44 (bodyOf E2 61 0) ({ fr := [V.junk, V.junk, V.ptr 0 0, V.ptr 1 0, V.junk, i64 (w ((i : Int) + (1 : Int)))] ++ jk 29, H := hp [some (Chunk.blk [V.sc (Value.string nm), i64 ps, i64 vs, V.ro 2 n (ins op arg)]), some (Chunk.blk [V.ro 3 k (r3 a b c), i64 R, i64 W])], nx := 2, rt := 0, me := 61 }) (KC2 8 16)
   else
    none
  else
   some (Ans.l (Ex.exit 0) { fr := [V.junk, V.junk, V.junk, V.ptr 0 0] ++ jk 31, H := hp [some (Chunk.blk [V.ro 3 k (r3 a b c), i64 R, i64 W])], nx := 1, rt := 0, me := 61 }) := by kernel_rfl
theorem r74 (k : Nat) (a b c : Nat → Int) (R W : Int) (i : Nat) (lo : LoopT) : loopK E2 (tab []) lo 0 10 (bodyOf E2 74 0) (S74 k a b c R W i) (KC2 0 4) =
  if decide ((i : Int) < (k : Int)) = true then
   if (0 : Int) ≤ (i : Int) ∧ (i : Int) < (k : Int) then
    if decide (a (Int.toNat (i : Int)) < (0 : Int)) = true then
     some (Ans.l Ex.ret { fr := [V.junk, V.junk, bo false] ++ jk 66, H := hp [], nx := 0, rt := 0, me := 74 })
    else
     if decide (a (Int.toNat (i : Int)) > (1000000 : Int)) = true then
      some (Ans.l Ex.ret { fr := [V.junk, V.junk, bo false] ++ jk 66, H := hp [], nx := 0, rt := 0, me := 74 })
     else
      if decide (b (Int.toNat (i : Int)) < (0 : Int)) = true then
       some (Ans.l Ex.ret { fr := [V.junk, V.junk, bo false] ++ jk 66, H := hp [], nx := 0, rt := 0, me := 74 })
      else
       if decide (b (Int.toNat (i : Int)) > (1000000 : Int)) = true then
        some (Ans.l Ex.ret { fr := [V.junk, V.junk, bo false] ++ jk 66, H := hp [], nx := 0, rt := 0, me := 74 })
       else
        if decide (c (Int.toNat (i : Int)) < (0 : Int)) = true then
         some (Ans.l Ex.ret { fr := [V.junk, V.junk, bo false] ++ jk 66, H := hp [], nx := 0, rt := 0, me := 74 })
        else
         if decide (c (Int.toNat (i : Int)) > (7 : Int)) = true then
          some (Ans.l Ex.ret { fr := [V.junk, V.junk, bo false] ++ jk 66, H := hp [], nx := 0, rt := 0, me := 74 })
         else
          lo 0 10 (bodyOf E2 74 0) ({ fr := [V.junk, V.ptr 0 0, V.junk, i64 (w ((i : Int) + (1 : Int)))] ++ jk 65, H := hp [some (Chunk.blk [V.ro 3 k (r3 a b c), i64 R, i64 W])], nx := 1, rt := 0, me := 74 }) (KC2 0 4)
   else
    none
  else
   some (Ans.l (Ex.exit 0) { fr := [V.junk] ++ jk 68, H := hp [], nx := 0, rt := 0, me := 74 }) := by kernel_rfl
theorem f74 (k : Nat) (a b c : Nat → Int) (R W : Int) (S1 : St) (P : Prop) : callK E2 (tab []) (ltab2 [⟨0, bodyOf E2 74 0, S1, P, .exit 0, T74, .ret, T74r⟩]) 74 [rigV k a b c R W] [] K =
  if decide ((k : Int) > (8 : Int)) = true then
   some (Ans.c (CRes.ret (bo false) []))
  else
   if decide (R < (1 : Int)) = true then
    some (Ans.c (CRes.ret (bo false) []))
   else
    if decide (R > (360 : Int)) = true then
     some (Ans.c (CRes.ret (bo false) []))
    else
     if decide (W < (0 : Int)) = true then
      some (Ans.c (CRes.ret (bo false) []))
     else
      if decide (W > (1000000 : Int)) = true then
       some (Ans.c (CRes.ret (bo false) []))
      else
       cl ((bodyOf E2 74 0) = (bodyOf E2 74 0) ∧ LeSt ({ fr := [V.junk, V.ptr 0 0, V.junk, i64 0] ++ jk 65, H := hp [some (Chunk.blk [V.ro 3 k (r3 a b c), i64 R, i64 W])], nx := 1, rt := 0, me := 74 }) (S1)) (
        cl (P) (
         some (Ans.c (CRes.ret (bo true) []))) (
         some (Ans.c (CRes.ret (bo false) [])))) (
        none) := by kernel_rfl
theorem r16 (n m : Nat) (x y : Nat → Nat → Int) (i : Nat) (lo : LoopT) : loopK E2 (tab []) lo 0 35 (bodyOf E2 16 0) (S16 n m x y i) (KC2 0 16) =
  if decide ((i : Int) < (n : Int)) = true then
   if (0 : Int) ≤ (i : Int) ∧ (i : Int) < (n : Int) then
    if (0 : Int) ≤ (i : Int) ∧ (i : Int) < (m : Int) then
     if (if true = true then !(x 0 (Int.toNat (i : Int)) == y 0 (Int.toNat (i : Int)) && (x 1 (Int.toNat (i : Int)) == y 1 (Int.toNat (i : Int)) && (x 2 (Int.toNat (i : Int)) == y 2 (Int.toNat (i : Int)) && (x 3 (Int.toNat (i : Int)) == y 3 (Int.toNat (i : Int)) && (x 4 (Int.toNat (i : Int)) == y 4 (Int.toNat (i : Int)) && (x 5 (Int.toNat (i : Int)) == y 5 (Int.toNat (i : Int)) && true)))))) else x 0 (Int.toNat (i : Int)) == y 0 (Int.toNat (i : Int)) && (x 1 (Int.toNat (i : Int)) == y 1 (Int.toNat (i : Int)) && (x 2 (Int.toNat (i : Int)) == y 2 (Int.toNat (i : Int)) && (x 3 (Int.toNat (i : Int)) == y 3 (Int.toNat (i : Int)) && (x 4 (Int.toNat (i : Int)) == y 4 (Int.toNat (i : Int)) && (x 5 (Int.toNat (i : Int)) == y 5 (Int.toNat (i : Int)) && true)))))) = true then
      some (Ans.l Ex.ret { fr := [V.junk, V.junk, V.junk, V.junk, bo false] ++ jk 21, H := hp [], nx := 0, rt := 0, me := 16 })
     else
      lo 0 35 (bodyOf E2 16 0) ({ fr := [V.ro 6 n (rc x), V.ro 6 m (rc y), V.junk, V.junk, V.junk, i64 (w ((i : Int) + (1 : Int)))] ++ jk 20, H := hp [], nx := 0, rt := 0, me := 16 }) (KC2 0 16)
    else
     none
   else
    none
  else
   some (Ans.l (Ex.exit 0) { fr := [V.junk] ++ jk 25, H := hp [], nx := 0, rt := 0, me := 16 }) := by kernel_rfl
theorem f16 (n m : Nat) (x y : Nat → Nat → Int) (S1 : St) (P : Prop) : callK E2 (tab []) (ltab2 [⟨0, bodyOf E2 16 0, S1, P, .exit 0, T16, .ret, T16r⟩]) 16 [crt n x, crt m y] [] K =
  if ((n : Int) != (m : Int)) = true then
   some (Ans.c (CRes.ret (bo false) []))
  else
   cl ((bodyOf E2 16 0) = (bodyOf E2 16 0) ∧ LeSt ({ fr := [V.ro 6 n (rc x), V.ro 6 m (rc y), V.junk, V.junk, V.junk, i64 0] ++ jk 20, H := hp [], nx := 0, rt := 0, me := 16 }) (S1)) (
    cl (P) (
     some (Ans.c (CRes.ret (bo true) []))) (
     some (Ans.c (CRes.ret (bo false) [])))) (
    none) := by kernel_rfl
noncomputable def C61 (k : Nat) (a b c : Nat → Int) (R W : Int) : CallT := ptab 74 (fun args => args = [rigV k a b c R W]) (fun _ => bo (rigD k a b c R W)) (tab [])
theorem f61 (nm : ByteArray) (ps vs : Int) (n : Nat) (op arg : Nat → Int) (k : Nat) (a b c : Nat → Int) (R W : Int) (S1 : St) (P : Prop) : callK E2 (C61 k a b c R W) (ltab2 [⟨0, bodyOf E2 61 0, S1, P, .exit 0, T61 k a b c R W, .ret, T61r⟩]) 61 [codV nm ps vs n op arg, rigV k a b c R W] [] K =
  cl ((bodyOf E2 61 0) = (bodyOf E2 61 0) ∧ LeSt ({ fr := [V.junk, V.junk, V.ptr 0 0, V.ptr 1 0, V.junk, i64 0] ++ jk 29, H := hp [some (Chunk.blk [V.sc (Value.string nm), i64 ps, i64 vs, V.ro 2 n (ins op arg)]), some (Chunk.blk [V.ro 3 k (r3 a b c), i64 R, i64 W])], nx := 2, rt := 0, me := 61 }) (S1)) (
   cl (P) (
    cl ((fun args => args = [rigV k a b c R W]) ([V.agg [V.ro 3 k (r3 a b c), i64 R, i64 W]]) ∧ ([] : List (Option Chunk)) = []) (
     some (Ans.c (CRes.ret (bo (rigD k a b c R W)) []))) (
     none)) (
    some (Ans.c (CRes.ret (bo false) [])))) (
   none) := by kernel_rfl

theorem k57a (nm : ByteArray) (ps vs : Int) (n : Nat) (op arg : Nat → Int) (k : Nat) (a b c : Nat → Int) (R W : Int) : KC2 12 16 (.exit 0) (T57a nm ps vs n op arg k a b c R W) = some (.l (.exit 0) (T57a nm ps vs n op arg k a b c R W)) := by kernel_rfl
theorem k57ar : KC2 12 16 .ret T57r = some (.l .ret T57r) := by kernel_rfl
theorem k57b : KC2 0 16 (.exit 2) T57b = some (.l (.exit 2) T57b) := by kernel_rfl
theorem k57br : KC2 0 16 .ret T57r = some (.l .ret T57r) := by kernel_rfl
theorem k61 (k : Nat) (a b c : Nat → Int) (R W : Int) : KC2 8 16 (.exit 0) (T61 k a b c R W) = some (.l (.exit 0) (T61 k a b c R W)) := by kernel_rfl
theorem k61r : KC2 8 16 .ret T61r = some (.l .ret T61r) := by kernel_rfl
theorem k74 : KC2 0 4 (.exit 0) T74 = some (.l (.exit 0) T74) := by kernel_rfl
theorem k74r : KC2 0 4 .ret T74r = some (.l .ret T74r) := by kernel_rfl
theorem k16 : KC2 0 16 (.exit 0) T16 = some (.l (.exit 0) T16) := by kernel_rfl
theorem k16r : KC2 0 16 .ret T16r = some (.l .ret T16r) := by kernel_rfl
theorem notb {b : Bool} (h : ¬ b = true) : (!b) = true := by cases b <;> simp at h ⊢
theorem notb' {b : Bool} (h : b = true) : ¬ (!b) = true := by rw [h]; decide
set_option maxRecDepth 100000 in
theorem loop57a {nm : ByteArray} {ps vs : Int} {n : Nat} {op arg : Nat → Int} {k : Nat} {a b c : Nat → Int} {R W : Int} (hk : k ≤ 8) : ∀ (r i : Nat), i + r = k → Ends (bodyOf E2 57 0) (∀ j, i ≤ j → j < k → (0 ≤ a j ∧ a j ≤ 1000000) ∧ (0 ≤ b j ∧ b j ≤ 1000000) ∧ (0 ≤ c j ∧ c j ≤ 7)) (S57a nm ps vs n op arg k a b c R W i) (.exit 0) (T57a nm ps vs n op arg k a b c R W) .ret T57r := by
  intro r
  induction r with
  | zero =>
    intro i hi
    exact Ends.fin sC57 (fun j h1 h2 => by omega) fun lo => (r57a nm ps vs n op arg k a b c R W i lo).trans (by rw [if_neg (by simp; omega)]; rfl)
  | succ r ih =>
    intro i hi
    have hi' : i < k := by omega
    have hid : decide ((i : Int) < (k : Int)) = true := decide_eq_true (by omega)
    have hbb : (0 : Int) ≤ (i : Int) ∧ (i : Int) < (k : Int) := by omega
    have hq : ∀ x m : Int, QAm [i64 x, i64 m] ∧ True := fun x m => ⟨⟨x, m, rfl⟩, trivial⟩
    have ew : w ((i : Int) + 1) = ((i + 1 : Nat) : Int) := by rw [w_in (by unfold inR; omega)]; omega
    have tree := fun lo => r57a nm ps vs n op arg k a b c R W i lo
    simp only [if_pos hid, if_pos hbb, eq_self, cl_pos (hq _ _), Int.toNat_natCast, ew] at tree
    refine Ends.iff ?_ (all_from hi)
    rw [← amg_iff, ← amg_iff, ← amg_iff]
    by_cases h1 : amg (a i) 1000000 = true
    · by_cases h2 : amg (b i) 1000000 = true
      · by_cases h3 : amg (c i) 7 = true
        · refine Ends.iff (Ends.next sC57 (ih (i + 1) (by omega)) (k57a _ _ _ _ _ _ _ _ _ _ _ _) k57ar (LeSt.refl _) fun lo => (tree lo).trans ?_) ⟨fun h => h.2, fun h => ⟨⟨h1, h2, h3⟩, h⟩⟩
          rw [if_neg (notb' h1), if_neg (notb' h2), if_neg (notb' h3)]; rfl
        · refine Ends.ret sC57 (fun h => h3 h.1.2.2) fun lo => (tree lo).trans ?_
          rw [if_neg (notb' h1), if_neg (notb' h2), if_pos (notb h3)]; rfl
      · refine Ends.ret sC57 (fun h => h2 h.1.2.1) fun lo => (tree lo).trans ?_
        rw [if_neg (notb' h1), if_pos (notb h2)]; rfl
    · refine Ends.ret sC57 (fun h => h1 h.1.1) fun lo => (tree lo).trans ?_
      rw [if_pos (notb h1)]; rfl
set_option maxRecDepth 100000 in
theorem loop57b {n : Nat} {op arg : Nat → Int} {k : Nat} {a b c : Nat → Int} {R W : Int} (hn : n ≤ Go.maxLen) : ∀ (r i : Nat), i + r = n → Ends (bodyOf E2 57 2) (∀ j, i ≤ j → j < n → op j = 23 → w (Int.tdiv (arg j) 1000000) < k) (S57b n op arg k a b c R W i) (.exit 2) T57b .ret T57r := by
  intro r
  induction r with
  | zero =>
    intro i hi
    exact Ends.fin sC57 (fun j h1 h2 => by omega) fun lo => (r57b n op arg k a b c R W i lo).trans (by rw [if_neg (by simp; omega)]; rfl)
  | succ r ih =>
    intro i hi
    unfold Go.maxLen at hn
    have hi' : i < n := by omega
    have hid : decide ((i : Int) < (n : Int)) = true := decide_eq_true (by omega)
    have hbb : (0 : Int) ≤ (i : Int) ∧ (i : Int) < (n : Int) := by omega
    have ew : w ((i : Int) + 1) = ((i + 1 : Nat) : Int) := by rw [w_in (by unfold inR; omega)]; omega
    have tree := fun lo => r57b n op arg k a b c R W i lo
    simp only [if_pos hid, if_pos hbb, Int.toNat_natCast, ew] at tree
    refine Ends.iff ?_ (all_from hi)
    by_cases h23 : op i = 23
    · by_cases hd : w (Int.tdiv (arg i) 1000000) < k
      · refine Ends.iff (Ends.next sC57 (ih (i + 1) (by omega)) k57b k57br (LeSt.refl _) fun lo => (tree lo).trans ?_) ⟨fun h => h.2, fun h => ⟨fun _ => hd, h⟩⟩
        rw [if_pos (by simpa using h23), if_neg (by simpa using hd)]; rfl
      · refine Ends.ret sC57 (fun h => hd (h.1 h23)) fun lo => (tree lo).trans ?_
        rw [if_pos (by simpa using h23), if_pos (by simpa using hd)]; rfl
    · refine Ends.iff (Ends.next sC57 (ih (i + 1) (by omega)) k57b k57br (LeSt.refl _) fun lo => (tree lo).trans ?_) ⟨fun h => h.2, fun h => ⟨fun g => absurd g h23, h⟩⟩
      rw [if_neg (by simpa using h23)]; rfl
set_option maxRecDepth 100000 in
theorem loop61 {nm : ByteArray} {ps vs : Int} {n : Nat} {op arg : Nat → Int} {k : Nat} {a b c : Nat → Int} {R W : Int} (hn : n ≤ Go.maxLen) : ∀ (r i : Nat), i + r = n → Ends (bodyOf E2 61 0) (∀ j, i ≤ j → j < n → op j = 23 → w (Int.tdiv (arg j) 1000000) < k) (S61 nm ps vs n op arg k a b c R W i) (.exit 0) (T61 k a b c R W) .ret T61r := by
  intro r
  induction r with
  | zero =>
    intro i hi
    exact Ends.fin tab_nil (fun j h1 h2 => by omega) fun lo => (r61 nm ps vs n op arg k a b c R W i lo).trans (by rw [if_neg (by simp; omega)]; rfl)
  | succ r ih =>
    intro i hi
    unfold Go.maxLen at hn
    have hi' : i < n := by omega
    have hid : decide ((i : Int) < (n : Int)) = true := decide_eq_true (by omega)
    have hbb : (0 : Int) ≤ (i : Int) ∧ (i : Int) < (n : Int) := by omega
    have ew : w ((i : Int) + 1) = ((i + 1 : Nat) : Int) := by rw [w_in (by unfold inR; omega)]; omega
    have tree := fun lo => r61 nm ps vs n op arg k a b c R W i lo
    simp only [if_pos hid, if_pos hbb, Int.toNat_natCast, ew] at tree
    refine Ends.iff ?_ (all_from hi)
    by_cases h23 : op i = 23
    · by_cases hd : w (Int.tdiv (arg i) 1000000) < k
      · refine Ends.iff (Ends.next tab_nil (ih (i + 1) (by omega)) (k61 _ _ _ _ _ _) k61r (LeSt.refl _) fun lo => (tree lo).trans ?_) ⟨fun h => h.2, fun h => ⟨fun _ => hd, h⟩⟩
        rw [if_pos (by simpa using h23), if_neg (by simpa using hd)]; rfl
      · refine Ends.ret tab_nil (fun h => hd (h.1 h23)) fun lo => (tree lo).trans ?_
        rw [if_pos (by simpa using h23), if_pos (by simpa using hd)]; rfl
    · refine Ends.iff (Ends.next tab_nil (ih (i + 1) (by omega)) (k61 _ _ _ _ _ _) k61r (LeSt.refl _) fun lo => (tree lo).trans ?_) ⟨fun h => h.2, fun h => ⟨fun g => absurd g h23, h⟩⟩
      rw [if_neg (by simpa using h23)]; rfl
set_option maxRecDepth 100000 in
theorem loop74 {k : Nat} {a b c : Nat → Int} {R W : Int} (hk : k ≤ 8) : ∀ (r i : Nat), i + r = k → Ends (bodyOf E2 74 0) (∀ j, i ≤ j → j < k → (0 ≤ a j ∧ a j ≤ 1000000) ∧ (0 ≤ b j ∧ b j ≤ 1000000) ∧ (0 ≤ c j ∧ c j ≤ 7)) (S74 k a b c R W i) (.exit 0) T74 .ret T74r := by
  intro r
  induction r with
  | zero =>
    intro i hi
    exact Ends.fin tab_nil (fun j h1 h2 => by omega) fun lo => (r74 k a b c R W i lo).trans (by rw [if_neg (by simp; omega)]; rfl)
  | succ r ih =>
    intro i hi
    have hi' : i < k := by omega
    have hid : (i : Int) < (k : Int) := by omega
    have hbb : (0 : Int) ≤ (i : Int) ∧ (i : Int) < (k : Int) := by omega
    have ew : w ((i : Int) + 1) = ((i + 1 : Nat) : Int) := by rw [w_in (by unfold inR; omega)]; omega
    have tree := fun lo => r74 k a b c R W i lo
    simp only [if_pos hid, if_pos hbb, Int.toNat_natCast, ew, decide_eq_true_eq] at tree
    refine Ends.iff ?_ (all_from hi)
    by_cases h1 : a i < 0
    · exact Ends.ret tab_nil (fun h => by omega) fun lo => (tree lo).trans (by rw [if_pos h1]; rfl)
    by_cases h2 : a i > 1000000
    · exact Ends.ret tab_nil (fun h => by omega) fun lo => (tree lo).trans (by rw [if_neg h1, if_pos h2]; rfl)
    by_cases h3 : b i < 0
    · exact Ends.ret tab_nil (fun h => by omega) fun lo => (tree lo).trans (by rw [if_neg h1, if_neg h2, if_pos h3]; rfl)
    by_cases h4 : b i > 1000000
    · exact Ends.ret tab_nil (fun h => by omega) fun lo => (tree lo).trans (by rw [if_neg h1, if_neg h2, if_neg h3, if_pos h4]; rfl)
    by_cases h5 : c i < 0
    · exact Ends.ret tab_nil (fun h => by omega) fun lo => (tree lo).trans (by rw [if_neg h1, if_neg h2, if_neg h3, if_neg h4, if_pos h5]; rfl)
    by_cases h6 : c i > 7
    · exact Ends.ret tab_nil (fun h => by omega) fun lo => (tree lo).trans (by rw [if_neg h1, if_neg h2, if_neg h3, if_neg h4, if_neg h5, if_pos h6]; rfl)
    refine Ends.iff (Ends.next tab_nil (ih (i + 1) (by omega)) k74 k74r (LeSt.refl _) fun lo => (tree lo).trans ?_) ⟨fun h => h.2, fun h => ⟨by omega, h⟩⟩
    rw [if_neg h1, if_neg h2, if_neg h3, if_neg h4, if_neg h5, if_neg h6]; rfl
set_option maxRecDepth 100000 in
theorem rigValid_sc (k : Nat) (a b c : Nat → Int) (R W : Int) : SC E2 74 [rigV k a b c R W] [] (.ret (bo (rigD k a b c R W)) []) := by
  have none2 : ∀ {k : Nat} {a b c : Nat → Int} {R W : Int}, SoundL E2 (ltab2 [⟨0, bodyOf E2 74 0, S74 0 a b c R W 0, True, .exit 0, T74, .ret, T74r⟩]) := fun {k a b c R W} => ltab2_cons ((loop74 (k := 0) (Nat.zero_le _) 0 0 rfl).iff ⟨fun _ j h1 h2 => by omega, fun _ => trivial⟩) ltab2_nil
  have t := f74 k a b c R W (S74 0 a b c R W 0) True
  simp only [decide_eq_true_eq] at t
  by_cases h1 : (k : Int) > 8
  · rw [rigD_f (fun h => by have := h.1.1; omega)]
    exact SC.of hW2 hX2 tab_nil (none2 (k := k)) (t.trans (by rw [if_pos h1]))
  by_cases h2 : R < 1
  · rw [rigD_f (fun h => by have := h.1; omega)]
    exact SC.of hW2 hX2 tab_nil (none2 (k := k)) (t.trans (by rw [if_neg h1, if_pos h2]))
  by_cases h3 : R > 360
  · rw [rigD_f (fun h => by have := h.1; omega)]
    exact SC.of hW2 hX2 tab_nil (none2 (k := k)) (t.trans (by rw [if_neg h1, if_neg h2, if_pos h3]))
  by_cases h4 : W < 0
  · rw [rigD_f (fun h => by have := h.1; omega)]
    exact SC.of hW2 hX2 tab_nil (none2 (k := k)) (t.trans (by rw [if_neg h1, if_neg h2, if_neg h3, if_pos h4]))
  by_cases h5 : W > 1000000
  · rw [rigD_f (fun h => by have := h.1; omega)]
    exact SC.of hW2 hX2 tab_nil (none2 (k := k)) (t.trans (by rw [if_neg h1, if_neg h2, if_neg h3, if_neg h4, if_pos h5]))
  have l1 := loop74 (k := k) (a := a) (b := b) (c := c) (R := R) (W := W) (by omega) k 0 (by omega)
  refine SC.of hW2 hX2 tab_nil (ltab2_cons (x := ⟨0, _, _, _, _, _, _, _⟩) l1 ltab2_nil) ((f74 k a b c R W _ _).trans ?_)
  simp only [decide_eq_true_eq]
  rw [if_neg h1, if_neg h2, if_neg h3, if_neg h4, if_neg h5, cl_pos ⟨trivial, LeSt.refl _⟩]
  by_cases hP : (∀ j, 0 ≤ j → j < k → (0 ≤ a j ∧ a j ≤ 1000000) ∧ (0 ≤ b j ∧ b j ≤ 1000000) ∧ (0 ≤ c j ∧ c j ≤ 7))
  · rw [cl_pos hP, rigD_t ⟨by omega, hP⟩]
  · rw [cl_neg hP, rigD_f (fun h => hP h.2)]
theorem sC61 (k : Nat) (a b c : Nat → Int) (R W : Int) : SoundC E2 (C61 k a b c R W) := ptab_cons (fun args h => by cases h; exact rigValid_sc k a b c R W) tab_nil
theorem refSuits_sc (nm : ByteArray) (ps vs : Int) (n : Nat) (op arg : Nat → Int) (k : Nat) (a b c : Nat → Int) (R W : Int) (hn : n ≤ Go.maxLen) : SC E2 61 [codV nm ps vs n op arg, rigV k a b c R W] [] (.ret (bo (suiD n op arg k a b c R W)) []) := by
  have l1 := loop61 (nm := nm) (ps := ps) (vs := vs) (op := op) (arg := arg) (k := k) (a := a) (b := b) (c := c) (R := R) (W := W) hn n 0 (by omega)
  refine SC.of hW2 hX2 (sC61 k a b c R W) (ltab2_cons (x := ⟨0, _, _, _, _, _, _, _⟩) l1 ltab2_nil) ((f61 nm ps vs n op arg k a b c R W _ _).trans ?_)
  rw [cl_pos ⟨rfl, LeSt.refl _⟩]
  by_cases hP : (∀ j, 0 ≤ j → j < n → op j = 23 → w (Int.tdiv (arg j) 1000000) < k)
  · rw [cl_pos hP, cl_pos ⟨rfl, rfl⟩]
    by_cases hr : rigP k a b c R W
    · rw [rigD_t hr, suiD_t ⟨hr, hP⟩]
    · rw [rigD_f hr, suiD_f (fun h => hr h.1)]
  · rw [cl_neg hP, suiD_f (fun h => hP h.2)]
set_option maxRecDepth 100000 in
theorem suits_sc (nm : ByteArray) (ps vs : Int) (n : Nat) (op arg : Nat → Int) (k : Nat) (a b c : Nat → Int) (R W : Int) (hn : n ≤ Go.maxLen) : SC E2 57 [codV nm ps vs n op arg, rigV k a b c R W] [] (.ret (bo (suiD n op arg k a b c R W)) []) := by
  have l2 := loop57b (op := op) (arg := arg) (k := k) (a := a) (b := b) (c := c) (R := R) (W := W) hn n 0 (by omega)
  have z1 : ∀ {k' : Nat}, k' = 0 → Ends (bodyOf E2 57 0) True (S57a nm ps vs n op arg k' a b c R W 0) (.exit 0) (T57a nm ps vs n op arg k' a b c R W) .ret T57r := fun {k'} e => by
    subst e
    exact (loop57a (nm := nm) (ps := ps) (vs := vs) (n := n) (op := op) (arg := arg) (k := 0) (a := a) (b := b) (c := c) (R := R) (W := W) (Nat.zero_le _) 0 0 rfl).iff ⟨fun _ j h1 h2 => by omega, fun _ => trivial⟩
  have hq : ∀ x m : Int, QAm [i64 x, i64 m] ∧ True := fun x m => ⟨⟨x, m, rfl⟩, trivial⟩
  have vac : SoundL E2 (ltab2 [⟨0, bodyOf E2 57 0, S57a nm ps vs n op arg k a b c R W k, True, .exit 0, T57a nm ps vs n op arg k a b c R W, .ret, T57r⟩, ⟨2, bodyOf E2 57 2, _, _, .exit 2, T57b, .ret, T57r⟩]) :=
    ltab2_cons ⟨fun _ => SL.by2 (m := 12) (r := 16) sC57 hX2 ltab2_nil ((r57a nm ps vs n op arg k a b c R W k _).trans (by rw [if_neg (by simp)]; rfl)), fun h => absurd trivial h⟩ (ltab2_cons (x := ⟨2, _, _, _, _, _, _, _⟩) l2 ltab2_nil)
  have t := f57 nm ps vs n op arg k a b c R W (S57a nm ps vs n op arg k a b c R W k) (S57b n op arg k a b c R W 0) True (∀ j, 0 ≤ j → j < n → op j = 23 → w (Int.tdiv (arg j) 1000000) < k)
  simp only [decide_eq_true_eq] at t
  by_cases h1 : (k : Int) > 8
  · rw [suiD_f (fun h => by have := h.1.1.1; omega)]
    exact SC.of hW2 hX2 sC57 vac (t.trans (by rw [if_pos h1]))
  by_cases h2 : R < 1
  · rw [suiD_f (fun h => by have := h.1.1; omega)]
    exact SC.of hW2 hX2 sC57 vac (t.trans (by rw [if_neg h1, if_pos h2]))
  by_cases h3 : R > 360
  · rw [suiD_f (fun h => by have := h.1.1; omega)]
    exact SC.of hW2 hX2 sC57 vac (t.trans (by rw [if_neg h1, if_neg h2, if_pos h3]))
  by_cases h4 : amg W 1000000 = true
  · have l1 := loop57a (nm := nm) (ps := ps) (vs := vs) (n := n) (op := op) (arg := arg) (k := k) (a := a) (b := b) (c := c) (R := R) (W := W) (by omega) k 0 (by omega)
    have hw4 := (amg_iff _ _).1 h4
    refine SC.of hW2 hX2 sC57 (ltab2_cons (x := ⟨0, _, _, _, _, _, _, _⟩) l1 (ltab2_cons (x := ⟨2, _, _, _, _, _, _, _⟩) l2 ltab2_nil)) ((f57 nm ps vs n op arg k a b c R W _ _ _ _).trans ?_)
    simp only [decide_eq_true_eq]
    rw [if_neg h1, if_neg h2, if_neg h3, cl_pos (hq _ _), if_neg (notb' h4), cl_pos ⟨trivial, LeSt.refl _⟩]
    by_cases hP : (∀ j, 0 ≤ j → j < k → (0 ≤ a j ∧ a j ≤ 1000000) ∧ (0 ≤ b j ∧ b j ≤ 1000000) ∧ (0 ≤ c j ∧ c j ≤ 7))
    · rw [cl_pos hP, cl_pos ⟨trivial, LeSt.refl _⟩]
      by_cases hJ : (∀ j, 0 ≤ j → j < n → op j = 23 → w (Int.tdiv (arg j) 1000000) < k)
      · rw [cl_pos hJ, suiD_t ⟨⟨by omega, hP⟩, hJ⟩]
      · rw [cl_neg hJ, suiD_f (fun h => hJ h.2)]
    · rw [cl_neg hP, suiD_f (fun h => hP h.1.2)]
  · rw [suiD_f (fun h => h4 ((amg_iff _ _).2 (by have := h.1.1; omega)))]
    exact SC.of hW2 hX2 sC57 vac (t.trans (by rw [if_neg h1, if_neg h2, if_neg h3, cl_pos (hq _ _), if_pos (notb h4)]))
/-! ### check -/
open Classical in
noncomputable def chkV (ps vs : Int) (n : Nat) (op arg : Nat → Int) (k : Nat) (a b c : Nat → Int) (R W : Int) : Int := if verV ps (mkC vs n op arg) = 0 ∧ suiD n op arg k a b c R W = false then 5 else verV ps (mkC vs n op arg)
def QCod (nm : ByteArray) (ps vs : Int) (n : Nat) (op arg : Nat → Int) (args : List V) : Prop := args = [codV nm ps vs n op arg]
def QCR (nm : ByteArray) (ps vs : Int) (n : Nat) (op arg : Nat → Int) (k : Nat) (a b c : Nat → Int) (R W : Int) (args : List V) : Prop := args = [codV nm ps vs n op arg, rigV k a b c R W]
noncomputable def C38 (nm : ByteArray) (ps vs : Int) (n : Nat) (op arg : Nat → Int) (k : Nat) (a b c : Nat → Int) (R W : Int) : CallT := ptab 56 (QCod nm ps vs n op arg) (fun _ => i64 (verV ps (mkC vs n op arg))) (ptab 57 (QCR nm ps vs n op arg k a b c R W) (fun _ => bo (suiD n op arg k a b c R W)) (tab []))
noncomputable def C41 (nm : ByteArray) (ps vs : Int) (n : Nat) (op arg : Nat → Int) (k : Nat) (a b c : Nat → Int) (R W : Int) : CallT := ptab 60 (QCod nm ps vs n op arg) (fun _ => i64 (verV ps (mkC vs n op arg))) (ptab 61 (QCR nm ps vs n op arg k a b c R W) (fun _ => bo (suiD n op arg k a b c R W)) (tab []))
theorem sC38 (nm : ByteArray) (ps vs : Int) (n : Nat) (op arg : Nat → Int) (k : Nat) (a b c : Nat → Int) (R W : Int) (hn : n ≤ Go.maxLen) : SoundC E2 (C38 nm ps vs n op arg k a b c R W) := ptab_cons (fun args h => by cases h; exact verify_sc nm ps vs n op arg) (ptab_cons (fun args h => by cases h; exact suits_sc nm ps vs n op arg k a b c R W hn) tab_nil)
theorem sC41 (nm : ByteArray) (ps vs : Int) (n : Nat) (op arg : Nat → Int) (k : Nat) (a b c : Nat → Int) (R W : Int) (hn : n ≤ Go.maxLen) : SoundC E2 (C41 nm ps vs n op arg k a b c R W) := ptab_cons (fun args h => by cases h; exact refVerify_sc nm ps vs n op arg) (ptab_cons (fun args h => by cases h; exact refSuits_sc nm ps vs n op arg k a b c R W hn) tab_nil)
theorem f38 (nm : ByteArray) (ps vs : Int) (n : Nat) (op arg : Nat → Int) (k : Nat) (a b c : Nat → Int) (R W : Int) : callK E2 (C38 nm ps vs n op arg k a b c R W) (ltab2 []) 38 [codV nm ps vs n op arg, rigV k a b c R W] [] K =
  cl ((QCod nm ps vs n op arg) ([V.agg [V.sc (Value.string nm), i64 ps, i64 vs, V.ro 2 n (ins op arg)]]) ∧ ([] : List (Option Chunk)) = []) (
   if (verV ps (mkC vs n op arg) != (0 : Int)) = true then
    some (Ans.c (CRes.ret (i64 (verV ps (mkC vs n op arg))) []))
   else
    cl ((QCR nm ps vs n op arg k a b c R W) ([V.agg [V.sc (Value.string nm), i64 ps, i64 vs, V.ro 2 n (ins op arg)], V.agg [V.ro 3 k (r3 a b c), i64 R, i64 W]]) ∧ ([] : List (Option Chunk)) = []) (
     if (!suiD n op arg k a b c R W) = true then
      some (Ans.c (CRes.ret (i64 5) []))
     else
      some (Ans.c (CRes.ret (i64 0) []))) (
     none)) (
   none) := by kernel_rfl
theorem f41 (nm : ByteArray) (ps vs : Int) (n : Nat) (op arg : Nat → Int) (k : Nat) (a b c : Nat → Int) (R W : Int) : callK E2 (C41 nm ps vs n op arg k a b c R W) (ltab2 []) 41 [codV nm ps vs n op arg, rigV k a b c R W] [] K =
  cl ((QCod nm ps vs n op arg) ([V.agg [V.sc (Value.string nm), i64 ps, i64 vs, V.ro 2 n (ins op arg)]]) ∧ ([] : List (Option Chunk)) = []) (
   if (verV ps (mkC vs n op arg) == (0 : Int)) = true then
    cl ((QCR nm ps vs n op arg k a b c R W) ([V.agg [V.sc (Value.string nm), i64 ps, i64 vs, V.ro 2 n (ins op arg)], V.agg [V.ro 3 k (r3 a b c), i64 R, i64 W]]) ∧ ([] : List (Option Chunk)) = []) (
     if (!suiD n op arg k a b c R W) = true then
      some (Ans.c (CRes.ret (i64 5) []))
     else
      some (Ans.c (CRes.ret (i64 (verV ps (mkC vs n op arg))) []))) (
     none)
   else
    some (Ans.c (CRes.ret (i64 (verV ps (mkC vs n op arg))) []))) (
   none) := by kernel_rfl
theorem check_sc (nm : ByteArray) (ps vs : Int) (n : Nat) (op arg : Nat → Int) (k : Nat) (a b c : Nat → Int) (R W : Int) (hn : n ≤ Go.maxLen) : SC E2 38 [codV nm ps vs n op arg, rigV k a b c R W] [] (.ret (i64 (chkV ps vs n op arg k a b c R W)) []) := by
  refine SC.of hW2 hX2 (sC38 nm ps vs n op arg k a b c R W hn) ltab2_nil ((f38 nm ps vs n op arg k a b c R W).trans ?_)
  rw [cl_pos ⟨rfl, rfl⟩]
  unfold chkV
  by_cases h : verV ps (mkC vs n op arg) = 0
  · rw [if_neg (by rw [h]; decide), cl_pos ⟨rfl, rfl⟩]
    cases hs : suiD n op arg k a b c R W with
    | true => rw [if_neg (by decide), if_neg (fun g => absurd g.2 (by decide)), h]
    | false => rw [if_pos (by decide), if_pos ⟨h, rfl⟩]
  · rw [if_pos (neT h), if_neg (fun g => h g.1)]
theorem refCheck_sc (nm : ByteArray) (ps vs : Int) (n : Nat) (op arg : Nat → Int) (k : Nat) (a b c : Nat → Int) (R W : Int) (hn : n ≤ Go.maxLen) : SC E2 41 [codV nm ps vs n op arg, rigV k a b c R W] [] (.ret (i64 (chkV ps vs n op arg k a b c R W)) []) := by
  refine SC.of hW2 hX2 (sC41 nm ps vs n op arg k a b c R W hn) ltab2_nil ((f41 nm ps vs n op arg k a b c R W).trans ?_)
  rw [cl_pos ⟨rfl, rfl⟩]
  unfold chkV
  by_cases h : verV ps (mkC vs n op arg) = 0
  · rw [if_pos (by rw [h]; decide), cl_pos ⟨rfl, rfl⟩]
    cases hs : suiD n op arg k a b c R W with
    | true => rw [if_neg (by decide), if_neg (fun g => absurd g.2 (by decide))]
    | false => rw [if_pos (by decide), if_pos ⟨h, rfl⟩]
  · rw [if_neg (by simpa using h), if_neg (fun g => h g.1)]
theorem chk0 {ps vs : Int} {n : Nat} {op arg : Nat → Int} {k : Nat} {a b c : Nat → Int} {R W : Int} (h : chkV ps vs n op arg k a b c R W = 0) : Cv.VP (mkC vs n op arg) ∧ n ≤ 300 ∧ n ≠ 0 ∧ rigP k a b c R W ∧ jobP n op arg k := by
  unfold chkV at h
  split at h
  · cases h
  · rename_i g
    have hs : suiD n op arg k a b c R W = true := by cases hb : suiD n op arg k a b c R W with | true => rfl | false => exact absurd ⟨h, hb⟩ g
    obtain ⟨s1, s2⟩ := suiD_iff.1 hs
    unfold verV at h
    split at h
    · cases h
    · rename_i g1
      split at h
      · cases h
      · rename_i g2
        have e1 : (mkC vs n op arg).n = n := rfl
        rw [e1] at g1 g2
        exact ⟨Classical.not_not.1 fun x => g2 (.inr (.inr (.inr x))), by omega, fun x => g2 (.inr (.inr (.inl x))), s1, s2⟩
/-! ### Same -/
set_option maxRecDepth 100000 in
theorem loop16 {n : Nat} {x : Nat → Nat → Int} (hn : n ≤ Go.maxLen) : ∀ (r i : Nat), i + r = n → Ends (bodyOf E2 16 0) True (S16 n n x x i) (.exit 0) T16 .ret T16r := by
  intro r
  induction r with
  | zero =>
    intro i hi
    exact Ends.fin tab_nil trivial fun lo => (r16 n n x x i lo).trans (by rw [if_neg (by simp; omega)]; rfl)
  | succ r ih =>
    intro i hi
    unfold Go.maxLen at hn
    have hid : decide ((i : Int) < (n : Int)) = true := decide_eq_true (by omega)
    have hbb : (0 : Int) ≤ (i : Int) ∧ (i : Int) < (n : Int) := by omega
    have ew : w ((i : Int) + 1) = ((i + 1 : Nat) : Int) := by rw [w_in (by unfold inR; omega)]; omega
    have tree := fun lo => r16 n n x x i lo
    simp only [if_pos hid, if_pos hbb, Int.toNat_natCast, ew, beq_self_eq_true, Bool.and_true, Bool.not_true, if_true, Bool.false_eq_true, if_false] at tree
    exact Ends.next tab_nil (ih (i + 1) (by omega)) k16 k16r (LeSt.refl _) tree
theorem same_sc (n : Nat) (x : Nat → Nat → Int) (hn : n ≤ Go.maxLen) : SC E2 16 [crt n x, crt n x] [] (.ret (bo true) []) := by
  have l1 := loop16 (x := x) hn n 0 (by omega)
  refine SC.of hW2 hX2 tab_nil (ltab2_cons (x := ⟨0, _, _, _, _, _, _, _⟩) l1 ltab2_nil) ((f16 n n x x _ _).trans ?_)
  rw [if_neg (by simp), cl_pos ⟨rfl, LeSt.refl _⟩, cl_pos trivial]
end Go.Proofs.Ythegipdgillngaa
