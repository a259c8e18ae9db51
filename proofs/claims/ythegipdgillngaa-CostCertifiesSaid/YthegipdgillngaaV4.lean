/- compile.Verify (56), walked. -/
import Derived.Test.YthegipdgillngaaV3
namespace Go.Proofs.Ythegipdgillngaa
open Go Go.Am Go.Proofs
set_option linter.unusedSimpArgs false
set_option linter.unusedVariables false
/-- A loop that ends in one way, if P is so, and in the other, if not. -/
def Ends (c : ACode) (P : Prop) (S : St) (e1 : Ex) (T1 : St) (e2 : Ex) (T2 : St) : Prop := (P → SL E2 c S e1 T1) ∧ (¬ P → SL E2 c S e2 T2)
theorem Ends.iff {c : ACode} {P P' : Prop} {S : St} {e1 e2 : Ex} {T1 T2 : St} (h : Ends c P S e1 T1 e2 T2) (e : P' ↔ P) : Ends c P' S e1 T1 e2 T2 := ⟨fun p => h.1 (e.1 p), fun p => h.2 (fun q => p (e.2 q))⟩
theorem Ends.next {C : CallT} (hC : SoundC E2 C) {id live m r : Nat} {c : ACode} {P : Prop} {S S' S1 : St} {e1 e2 : Ex} {T1 T2 : St} (h : Ends c P S1 e1 T1 e2 T2) (k1 : KC2 m r e1 T1 = some (.l e1 T1)) (k2 : KC2 m r e2 T2 = some (.l e2 T2)) (hle : LeSt S' S1) (hn : ∀ lo, loopK E2 C lo id live c S (KC2 m r) = lo id live c S' (KC2 m r)) : Ends c P S e1 T1 e2 T2 := by
  have h0 : loopK E2 C (ltab2 [⟨id, c, S1, P, e1, T1, e2, T2⟩]) id live c S (KC2 m r) = cl P (some (.l e1 T1)) (some (.l e2 T2)) := by
    refine (hn _).trans ((ltab2_hit hle).trans ?_)
    rw [k1, k2]
  have hs := ltab2_cons (x := ⟨id, c, S1, P, e1, T1, e2, T2⟩) h ltab2_nil
  exact ⟨fun p => SL.by2 hC hX2 hs (h0.trans (cl_pos p)), fun p => SL.by2 hC hX2 hs (h0.trans (cl_neg p))⟩
theorem Ends.ret {C : CallT} (hC : SoundC E2 C) {id live m r : Nat} {c : ACode} {P : Prop} {S : St} {e1 e2 : Ex} {T1 T2 : St} (hp : ¬ P) (hn : ∀ lo, loopK E2 C lo id live c S (KC2 m r) = some (.l e2 T2)) : Ends c P S e1 T1 e2 T2 :=
  ⟨fun p => absurd p hp, fun _ => SL.by2 hC hX2 ltab2_nil (hn _)⟩
theorem Ends.fin {C : CallT} (hC : SoundC E2 C) {id live m r : Nat} {c : ACode} {P : Prop} {S : St} {e1 e2 : Ex} {T1 T2 : St} (hp : P) (hn : ∀ lo, loopK E2 C lo id live c S (KC2 m r) = some (.l e1 T1)) : Ends c P S e1 T1 e2 T2 :=
  ⟨fun _ => SL.by2 hC hX2 ltab2_nil (hn _), fun p => absurd hp p⟩
theorem all_from {n i r : Nat} {X : Nat → Prop} (h : i + (r + 1) = n) : (∀ j, i ≤ j → j < n → X j) ↔ (X i ∧ ∀ j, i + 1 ≤ j → j < n → X j) := by
  constructor
  · intro g; exact ⟨g i (Nat.le_refl _) (by omega), fun j h1 h2 => g j (by omega) h2⟩
  · rintro ⟨g1, g2⟩ j h1 h2
    by_cases hj : j = i
    · subst hj; exact g1
    · exact g2 j (by omega) h2
/-! ### The calls -/
def QRng (args : List V) : Prop := ∃ (nm : ByteArray) (ps vs : Int) (n : Nat) (op arg : Nat → Int) (i : Nat), args = [codV nm ps vs n op arg, i64 i] ∧ i < n ∧ n ≤ 300 ∧ 0 ≤ vs ∧ vs ≤ 12
def vRng : List V → V
  | [.agg [.sc (.string _), .sc (.int .i64 ps), .sc (.int .i64 vs), .ro 2 n g], .sc (.int .i64 i)] => match g i.toNat with
    | [.sc (.int .i64 o), .sc (.int .i64 a)] => .tup [i64 (Cv.rngL o i.toNat), i64 (Cv.rngH o i.toNat n vs)]
    | _ => .junk
  | _ => .junk
def QPl (n : Nat) (op arg : Nat → Int) (args : List V) : Prop := args = [cd n op arg]
def QBal (n : Nat) (op arg : Nat → Int) (args : List V) : Prop := args = [cd n op arg] ∧ ∀ i, i < n → Cv.jmp (op i) → 0 ≤ arg i
noncomputable def C56 (n : Nat) (op arg : Nat → Int) (F : V) (B : Bool) : CallT := ptab 69 QRng vRng (ptab 70 (QPl n op arg) (fun _ => F) (ptab 71 (QBal n op arg) (fun _ => bo B) (tab [])))
theorem sC56 {n : Nat} {op arg : Nat → Int} (vs : Int) (hn : n ≤ 300) (h1 : 1 ≤ n) {F : V} (hF : F = plV n (Cv.plcP (mkC vs n op arg) n 0 pl0)) : SoundC E2 (C56 n op arg F (balD (mkC vs n op arg))) := by
  subst hF
  refine ptab_cons (fun args h => ?_) (ptab_cons (fun args h => ?_) (ptab_cons (fun args h => ?_) tab_nil))
  · obtain ⟨nm, ps, vs, n, op, arg, i, rfl, g1, g2, g3, g4⟩ := h
    exact rng_sc g1 g2 g3 g4
  · cases h
    exact places_sc vs hn
  · obtain ⟨rfl, g⟩ := h
    exact bal_sc vs hn h1 g
def S56a (nm : ByteArray) (ps vs : Int) (n : Nat) (op arg : Nat → Int) (i : Nat) : St := { fr := [.junk, .ptr 0 0] ++ jk 35 ++ [cd n op arg, i64 n, i64 i] ++ jk 74, H := hp [some (.blk [st nm, i64 ps, i64 vs, cd n op arg])], nx := 1, rt := 0, me := 56 }
def T56a (nm : ByteArray) (ps vs : Int) (n : Nat) (op arg : Nat → Int) : St := { fr := [.junk, .ptr 0 0] ++ jk 112, H := hp [some (.blk [st nm, i64 ps, i64 vs, cd n op arg])], nx := 1, rt := 0, me := 56 }
def T56r : St := { fr := [.junk, .junk, i64 13] ++ jk 111, H := hp [], nx := 0, rt := 0, me := 56 }
def S56b (nm : ByteArray) (ps vs : Int) (n : Nat) (op arg : Nat → Int) (oL oW : Nat → Int) (i : Nat) : St := { fr := [.junk, .ptr 0 0] ++ jk 5 ++ [.ro 2 n (r2 oL oW)] ++ jk 74 ++ [cd n op arg, i64 n, i64 i] ++ jk 29, H := hp [some (.blk [st nm, i64 ps, i64 vs, cd n op arg])], nx := 1, rt := 0, me := 56 }
theorem r56a (nm : ByteArray) (B : Bool) (ps vs : Int) (n : Nat) (op arg : Nat → Int) (i : Nat) (F : V) (lo : LoopT) : loopK E2 (C56 n op arg F B) lo 0 962072674306 (bodyOf E2 56 0) (S56a nm ps vs n op arg i) (KC2 2 4) =
  if decide ((i : Int) < (n : Int)) = true then
   if (0 : Int) ≤ (i : Int) ∧ (i : Int) < (n : Int) then
    cl (QRng ([V.agg [V.sc (Value.string nm), i64 ps, i64 vs, V.ro 2 n (ins op arg)], i64 (i : Int)]) ∧ ([] : List (Option Chunk)) = []) (
     if decide (arg (Int.toNat (i : Int)) < Cv.rngL (op (Int.toNat (i : Int))) (Int.toNat (i : Int))) = true then
      some (Ans.l Ex.ret { fr := [V.junk, V.junk, i64 13] ++ jk 111, H := hp [], nx := 0, rt := 0, me := 56 })
     else
      if decide (arg (Int.toNat (i : Int)) > Cv.rngH (op (Int.toNat (i : Int))) (Int.toNat (i : Int)) n vs) = true then
       some (Ans.l Ex.ret { fr := [V.junk, V.junk, i64 13] ++ jk 111, H := hp [], nx := 0, rt := 0, me := 56 })
      else
       if (!(op (Int.toNat (i : Int)) == (28 : Int)) == ((i : Int) == w ((n : Int) - (1 : Int)))) = true then
        some (Ans.l Ex.ret { fr := [V.junk, V.junk, i64 13] ++ jk 111, H := hp [], nx := 0, rt := 0, me := 56 })
       else
        lo 0 962072674306 (bodyOf E2 56 0) ({ fr := [V.junk, V.ptr 0 0, V.junk, V.junk, V.junk, V.junk, V.junk, V.junk, V.junk, V.junk, V.junk, V.junk, V.junk, V.junk, V.junk, V.junk, V.junk, V.junk, V.junk, V.junk, V.junk, V.junk, V.junk, V.junk, V.junk, V.junk, V.junk, V.junk, V.junk, V.junk, V.junk, V.junk, V.junk, V.junk, V.junk, V.junk, V.junk, V.ro 2 n (ins op arg), i64 (n : Int), i64 (w ((i : Int) + (1 : Int)))] ++ jk 74, H := hp [some (Chunk.blk [V.sc (Value.string nm), i64 ps, i64 vs, V.ro 2 n (ins op arg)])], nx := 1, rt := 0, me := 56 }) (KC2 2 4)) (
     none)
   else
    none
  else
   some (Ans.l (Ex.exit 0) { fr := [V.junk, V.ptr 0 0] ++ jk 112, H := hp [some (Chunk.blk [V.sc (Value.string nm), i64 ps, i64 vs, V.ro 2 n (ins op arg)])], nx := 1, rt := 0, me := 56 }) := by kernel_rfl

theorem r56b (nm : ByteArray) (B : Bool) (ps vs : Int) (n : Nat) (op arg oL oW : Nat → Int) (i : Nat) (F : V) (lo : LoopT) : loopK E2 (C56 n op arg F B) lo 2 33849922949209616891773058 (bodyOf E2 56 2) (S56b nm ps vs n op arg oL oW i) (KC2 2 4) =
  if decide ((i : Int) < (n : Int)) = true then
   if (0 : Int) ≤ (i : Int) ∧ (i : Int) < (n : Int) then
    if (op (Int.toNat (i : Int)) == (14 : Int)) = true then
     if (0 : Int) ≤ arg (Int.toNat (i : Int)) ∧ arg (Int.toNat (i : Int)) < (n : Int) then
      if (0 : Int) ≤ (i : Int) ∧ (i : Int) < (n : Int) then
       if (if true = true then !(oL (Int.toNat (arg (Int.toNat (i : Int)))) == oL (Int.toNat (i : Int)) && (oW (Int.toNat (arg (Int.toNat (i : Int)))) == oW (Int.toNat (i : Int)) && true)) else oL (Int.toNat (arg (Int.toNat (i : Int)))) == oL (Int.toNat (i : Int)) && (oW (Int.toNat (arg (Int.toNat (i : Int)))) == oW (Int.toNat (i : Int)) && true)) = true then
        some (Ans.l Ex.ret { fr := [V.junk, V.junk, i64 13] ++ jk 111, H := hp [], nx := 0, rt := 0, me := 56 })
       else
        lo 2 33849922949209616891773058 (bodyOf E2 56 2) ({ fr := [V.junk, V.ptr 0 0, V.junk, V.junk, V.junk, V.junk, V.junk, V.ro 2 n (r2 oL oW), V.junk, V.junk, V.junk, V.junk, V.junk, V.junk, V.junk, V.junk, V.junk, V.junk, V.junk, V.junk, V.junk, V.junk, V.junk, V.junk, V.junk, V.junk, V.junk, V.junk, V.junk, V.junk, V.junk, V.junk, V.junk, V.junk, V.junk, V.junk, V.junk, V.junk, V.junk, V.junk, V.junk, V.junk, V.junk, V.junk, V.junk, V.junk, V.junk, V.junk, V.junk, V.junk, V.junk, V.junk, V.junk, V.junk, V.junk, V.junk, V.junk, V.junk, V.junk, V.junk, V.junk, V.junk, V.junk, V.junk, V.junk, V.junk, V.junk, V.junk, V.junk, V.junk, V.junk, V.junk, V.junk, V.junk, V.junk, V.junk, V.junk, V.junk, V.junk, V.junk, V.junk, V.junk, V.ro 2 n (ins op arg), i64 (n : Int), i64 (w ((i : Int) + (1 : Int)))] ++ jk 29, H := hp [some (Chunk.blk [V.sc (Value.string nm), i64 ps, i64 vs, V.ro 2 n (ins op arg)])], nx := 1, rt := 0, me := 56 }) (KC2 2 4)
      else
       none
     else
      none
    else
     if (op (Int.toNat (i : Int)) == (15 : Int)) = true then
      if (0 : Int) ≤ arg (Int.toNat (i : Int)) ∧ arg (Int.toNat (i : Int)) < (n : Int) then
       if (0 : Int) ≤ (i : Int) ∧ (i : Int) < (n : Int) then
        if (if true = true then !(oL (Int.toNat (arg (Int.toNat (i : Int)))) == oL (Int.toNat (i : Int)) && (oW (Int.toNat (arg (Int.toNat (i : Int)))) == oW (Int.toNat (i : Int)) && true)) else oL (Int.toNat (arg (Int.toNat (i : Int)))) == oL (Int.toNat (i : Int)) && (oW (Int.toNat (arg (Int.toNat (i : Int)))) == oW (Int.toNat (i : Int)) && true)) = true then
         some (Ans.l Ex.ret { fr := [V.junk, V.junk, i64 13] ++ jk 111, H := hp [], nx := 0, rt := 0, me := 56 })
        else
         lo 2 33849922949209616891773058 (bodyOf E2 56 2) ({ fr := [V.junk, V.ptr 0 0, V.junk, V.junk, V.junk, V.junk, V.junk, V.ro 2 n (r2 oL oW), V.junk, V.junk, V.junk, V.junk, V.junk, V.junk, V.junk, V.junk, V.junk, V.junk, V.junk, V.junk, V.junk, V.junk, V.junk, V.junk, V.junk, V.junk, V.junk, V.junk, V.junk, V.junk, V.junk, V.junk, V.junk, V.junk, V.junk, V.junk, V.junk, V.junk, V.junk, V.junk, V.junk, V.junk, V.junk, V.junk, V.junk, V.junk, V.junk, V.junk, V.junk, V.junk, V.junk, V.junk, V.junk, V.junk, V.junk, V.junk, V.junk, V.junk, V.junk, V.junk, V.junk, V.junk, V.junk, V.junk, V.junk, V.junk, V.junk, V.junk, V.junk, V.junk, V.junk, V.junk, V.junk, V.junk, V.junk, V.junk, V.junk, V.junk, V.junk, V.junk, V.junk, V.junk, V.ro 2 n (ins op arg), i64 (n : Int), i64 (w ((i : Int) + (1 : Int)))] ++ jk 29, H := hp [some (Chunk.blk [V.sc (Value.string nm), i64 ps, i64 vs, V.ro 2 n (ins op arg)])], nx := 1, rt := 0, me := 56 }) (KC2 2 4)
       else
        none
      else
       none
     else
      lo 2 33849922949209616891773058 (bodyOf E2 56 2) ({ fr := [V.junk, V.ptr 0 0, V.junk, V.junk, V.junk, V.junk, V.junk, V.ro 2 n (r2 oL oW), V.junk, V.junk, V.junk, V.junk, V.junk, V.junk, V.junk, V.junk, V.junk, V.junk, V.junk, V.junk, V.junk, V.junk, V.junk, V.junk, V.junk, V.junk, V.junk, V.junk, V.junk, V.junk, V.junk, V.junk, V.junk, V.junk, V.junk, V.junk, V.junk, V.junk, V.junk, V.junk, V.junk, V.junk, V.junk, V.junk, V.junk, V.junk, V.junk, V.junk, V.junk, V.junk, V.junk, V.junk, V.junk, V.junk, V.junk, V.junk, V.junk, V.junk, V.junk, V.junk, V.junk, V.junk, V.junk, V.junk, V.junk, V.junk, V.junk, V.junk, V.junk, V.junk, V.junk, V.junk, V.junk, V.junk, V.junk, V.junk, V.junk, V.junk, V.junk, V.junk, V.junk, V.junk, V.ro 2 n (ins op arg), i64 (n : Int), i64 (w ((i : Int) + (1 : Int)))] ++ jk 29, H := hp [some (Chunk.blk [V.sc (Value.string nm), i64 ps, i64 vs, V.ro 2 n (ins op arg)])], nx := 1, rt := 0, me := 56 }) (KC2 2 4)
   else
    none
  else
   some (Ans.l (Ex.exit 2) { fr := [V.junk, V.ptr 0 0] ++ jk 112, H := hp [some (Chunk.blk [V.sc (Value.string nm), i64 ps, i64 vs, V.ro 2 n (ins op arg)])], nx := 1, rt := 0, me := 56 }) := by kernel_rfl

theorem f56s (nm : ByteArray) (B : Bool) (ps vs : Int) (n : Nat) (op arg oL oW : Nat → Int) (b : Bool) (S1 S2 : St) (P P2 : Prop) : callK E2 (C56 n op arg (plS n oL oW b) B) (ltab2 [⟨0, bodyOf E2 56 0, S1, P, .exit 0, T56a nm ps vs n op arg, .ret, T56r⟩, ⟨2, bodyOf E2 56 2, S2, P2, .exit 2, T56a nm ps vs n op arg, .ret, T56r⟩]) 56 [codV nm ps vs n op arg] [] K =
  if decide ((n : Int) > (300 : Int)) = true then
   some (Ans.c (CRes.ret (i64 2) []))
  else
   if decide (vs > (12 : Int)) = true then
    some (Ans.c (CRes.ret (i64 2) []))
   else
    if decide (ps < (0 : Int)) = true then
     some (Ans.c (CRes.ret (i64 13) []))
    else
     if decide (ps > vs) = true then
      some (Ans.c (CRes.ret (i64 13) []))
     else
      if ((n : Int) == (0 : Int)) = true then
       some (Ans.c (CRes.ret (i64 13) []))
      else
       cl ((bodyOf E2 56 0) = (bodyOf E2 56 0) ∧ LeSt ({ fr := [V.junk, V.ptr 0 0, V.junk, V.junk, V.junk, V.junk, V.junk, V.junk, V.junk, V.junk, V.junk, V.junk, V.junk, V.junk, V.junk, V.junk, V.junk, V.junk, V.junk, V.junk, V.junk, V.junk, V.junk, V.junk, V.junk, V.junk, V.junk, V.junk, V.junk, V.junk, V.junk, V.junk, V.junk, V.junk, V.junk, V.junk, V.junk, V.ro 2 n (ins op arg), i64 (n : Int), i64 0] ++ jk 74, H := hp [some (Chunk.blk [V.sc (Value.string nm), i64 ps, i64 vs, V.ro 2 n (ins op arg)])], nx := 1, rt := 0, me := 56 }) (S1)) (
        cl (P) (
         cl ((QPl n op arg) ([V.ro 2 n (ins op arg)]) ∧ ([] : List (Option Chunk)) = []) (
          if (!b) = true then
           some (Ans.c (CRes.ret (i64 13) []))
          else
           cl ((bodyOf E2 56 2) = (bodyOf E2 56 2) ∧ LeSt ({ fr := [V.junk, V.ptr 0 0, V.junk, V.junk, V.junk, V.junk, V.junk, V.ro 2 n (r2 oL oW), V.junk, V.junk, V.junk, V.junk, V.junk, V.junk, V.junk, V.junk, V.junk, V.junk, V.junk, V.junk, V.junk, V.junk, V.junk, V.junk, V.junk, V.junk, V.junk, V.junk, V.junk, V.junk, V.junk, V.junk, V.junk, V.junk, V.junk, V.junk, V.junk, V.junk, V.junk, V.junk, V.junk, V.junk, V.junk, V.junk, V.junk, V.junk, V.junk, V.junk, V.junk, V.junk, V.junk, V.junk, V.junk, V.junk, V.junk, V.junk, V.junk, V.junk, V.junk, V.junk, V.junk, V.junk, V.junk, V.junk, V.junk, V.junk, V.junk, V.junk, V.junk, V.junk, V.junk, V.junk, V.junk, V.junk, V.junk, V.junk, V.junk, V.junk, V.junk, V.junk, V.junk, V.junk, V.ro 2 n (ins op arg), i64 (n : Int), i64 0] ++ jk 29, H := hp [some (Chunk.blk [V.sc (Value.string nm), i64 ps, i64 vs, V.ro 2 n (ins op arg)])], nx := 1, rt := 0, me := 56 }) (S2)) (
            cl (P2) (
             cl ((QBal n op arg) ([V.ro 2 n (ins op arg)]) ∧ ([] : List (Option Chunk)) = []) (
              if (!B) = true then
               some (Ans.c (CRes.ret (i64 13) []))
              else
               some (Ans.c (CRes.ret (i64 0) []))) (
              none)) (
             some (Ans.c (CRes.ret (i64 13) [])))) (
            none)) (
          none)) (
         some (Ans.c (CRes.ret (i64 13) [])))) (
        none) := by kernel_rfl

theorem f56n (nm : ByteArray) (B : Bool) (ps vs : Int) (n : Nat) (op arg : Nat → Int) (S1 : St) (P : Prop) : callK E2 (C56 n op arg plN B) (ltab2 [⟨0, bodyOf E2 56 0, S1, P, .exit 0, T56a nm ps vs n op arg, .ret, T56r⟩]) 56 [codV nm ps vs n op arg] [] K =
  if decide ((n : Int) > (300 : Int)) = true then
   some (Ans.c (CRes.ret (i64 2) []))
  else
   if decide (vs > (12 : Int)) = true then
    some (Ans.c (CRes.ret (i64 2) []))
   else
    if decide (ps < (0 : Int)) = true then
     some (Ans.c (CRes.ret (i64 13) []))
    else
     if decide (ps > vs) = true then
      some (Ans.c (CRes.ret (i64 13) []))
     else
      if ((n : Int) == (0 : Int)) = true then
       some (Ans.c (CRes.ret (i64 13) []))
      else
       cl ((bodyOf E2 56 0) = (bodyOf E2 56 0) ∧ LeSt ({ fr := [V.junk, V.ptr 0 0, V.junk, V.junk, V.junk, V.junk, V.junk, V.junk, V.junk, V.junk, V.junk, V.junk, V.junk, V.junk, V.junk, V.junk, V.junk, V.junk, V.junk, V.junk, V.junk, V.junk, V.junk, V.junk, V.junk, V.junk, V.junk, V.junk, V.junk, V.junk, V.junk, V.junk, V.junk, V.junk, V.junk, V.junk, V.junk, V.ro 2 n (ins op arg), i64 (n : Int), i64 0] ++ jk 74, H := hp [some (Chunk.blk [V.sc (Value.string nm), i64 ps, i64 vs, V.ro 2 n (ins op arg)])], nx := 1, rt := 0, me := 56 }) (S1)) (
        cl (P) (
         cl ((QPl n op arg) ([V.ro 2 n (ins op arg)]) ∧ ([] : List (Option Chunk)) = []) (
          some (Ans.c (CRes.ret (i64 13) []))) (
          none)) (
         some (Ans.c (CRes.ret (i64 13) [])))) (
        none) := by kernel_rfl

theorem f56_e (nm : ByteArray) (ps vs : Int) (n : Nat) (op arg : Nat → Int) : callK E2 (tab []) (ltab2 []) 56 [codV nm ps vs n op arg] [] K =
  if decide ((n : Int) > (300 : Int)) = true then
   some (Ans.c (CRes.ret (i64 2) []))
  else
   if decide (vs > (12 : Int)) = true then
    some (Ans.c (CRes.ret (i64 2) []))
   else
    if decide (ps < (0 : Int)) = true then
     some (Ans.c (CRes.ret (i64 13) []))
    else
     if decide (ps > vs) = true then
      some (Ans.c (CRes.ret (i64 13) []))
     else
      if ((n : Int) == (0 : Int)) = true then
       some (Ans.c (CRes.ret (i64 13) []))
      else
       none := by kernel_rfl

theorem k56a (nm : ByteArray) (ps vs : Int) (n : Nat) (op arg : Nat → Int) : KC2 2 4 (.exit 0) (T56a nm ps vs n op arg) = some (.l (.exit 0) (T56a nm ps vs n op arg)) := by kernel_rfl
theorem k56b (nm : ByteArray) (ps vs : Int) (n : Nat) (op arg : Nat → Int) : KC2 2 4 (.exit 2) (T56a nm ps vs n op arg) = some (.l (.exit 2) (T56a nm ps vs n op arg)) := by kernel_rfl
theorem k56r : KC2 2 4 .ret T56r = some (.l .ret T56r) := by kernel_rfl
set_option maxRecDepth 100000 in
theorem loop56a {nm : ByteArray} {ps vs : Int} {n : Nat} {op arg : Nat → Int} {F : V} {B : Bool} (hC : SoundC E2 (C56 n op arg F B)) (hn : n ≤ 300) (h0 : 0 ≤ vs) (hv : vs ≤ 12) : ∀ (r i : Nat), i + r = n → Ends (bodyOf E2 56 0) (∀ j, i ≤ j → j < n → Cv.rng (mkC vs n op arg) j ∧ Cv.stopOk (mkC vs n op arg) j) (S56a nm ps vs n op arg i) (.exit 0) (T56a nm ps vs n op arg) .ret T56r := by
  intro r
  induction r with
  | zero =>
    intro i hi
    exact Ends.fin hC (fun j h1 h2 => by omega) fun lo => (r56a _ _ _ _ _ _ _ _ _ _).trans (by rw [if_neg (by simp; omega)]; rfl)
  | succ r ih =>
    intro i hi
    have hi' : i < n := by omega
    have hid : decide ((i : Int) < (n : Int)) = true := by simpa using hi'
    have hbb : (0 : Int) ≤ (i : Int) ∧ (i : Int) < (n : Int) := by omega
    have hq : QRng [V.agg [V.sc (Value.string nm), i64 ps, i64 vs, V.ro 2 n (ins op arg)], i64 (i : Int)] ∧ True := ⟨⟨nm, ps, vs, n, op, arg, i, rfl, hi', hn, h0, hv⟩, trivial⟩
    have ew : w ((i : Int) + 1) = ((i + 1 : Nat) : Int) := by rw [w_in (by unfold inR; omega)]; omega
    have en : w ((n : Int) - 1) = (n : Int) - 1 := w_in (by unfold inR; omega)
    have tree := fun lo => r56a nm B ps vs n op arg i F lo
    simp only [if_pos hid, if_pos hbb, eq_self, cl_pos hq, Int.toNat_natCast, ew, en] at tree
    refine Ends.iff ?_ (all_from hi)
    have er : Cv.rng (mkC vs n op arg) i ↔ Cv.rngL (op i) i ≤ arg i ∧ arg i ≤ Cv.rngH (op i) i n vs := Iff.rfl
    have es : Cv.stopOk (mkC vs n op arg) i ↔ (op i = 28 ↔ i + 1 = n) := Iff.rfl
    rw [er, es]
    by_cases hlo : arg i < Cv.rngL (op i) i
    · refine Ends.ret hC (fun h => by omega) fun lo => (tree lo).trans ?_
      rw [if_pos (by simpa using hlo)]; rfl
    by_cases hhi : arg i > Cv.rngH (op i) i n vs
    · refine Ends.ret hC (fun h => by omega) fun lo => (tree lo).trans ?_
      rw [if_neg (by simpa using hlo), if_pos (by simpa using hhi)]; rfl
    have e28 : (!(op i == (28 : Int)) == ((i : Int) == (n : Int) - 1)) = true ↔ ¬ (op i = 28 ↔ i + 1 = n) := by
      have eb1 : ((i : Int) == (n : Int) - 1) = decide (i + 1 = n) := by rw [Bool.eq_iff_iff, beq_iff_eq, decide_eq_true_eq]; omega
      have eb2 : (op i == (28 : Int)) = decide (op i = 28) := rfl
      rw [eb1, eb2]
      by_cases a : op i = 28 <;> by_cases b : i + 1 = n
      · rw [decide_eq_true a, decide_eq_true b]; simp [a, b]
      · rw [decide_eq_true a, decide_eq_false b]; simp [a, b]
      · rw [decide_eq_false a, decide_eq_true b]; simp [a, b]
      · rw [decide_eq_false a, decide_eq_false b]; simp [a, b]
    by_cases hs : (op i = 28 ↔ i + 1 = n)
    · refine Ends.iff (Ends.next hC (ih (i + 1) (by omega)) (k56a _ _ _ _ _ _) k56r (LeSt.refl _) fun lo => (tree lo).trans ?_) ⟨fun h => h.2, fun h => ⟨⟨⟨by omega, by omega⟩, hs⟩, h⟩⟩
      rw [if_neg (by simpa using hlo), if_neg (by simpa using hhi), if_neg (fun h => e28.1 h hs)]; rfl
    · refine Ends.ret hC (fun h => hs h.1.2) fun lo => (tree lo).trans ?_
      rw [if_neg (by simpa using hlo), if_neg (by simpa using hhi), if_pos (e28.2 hs)]; rfl
theorem end56b {nm : ByteArray} {ps vs : Int} {n : Nat} {op arg oL oW : Nat → Int} {F : V} {B : Bool} (hC : SoundC E2 (C56 n op arg F B)) : Ends (bodyOf E2 56 2) True (S56b nm ps vs n op arg oL oW n) (.exit 2) (T56a nm ps vs n op arg) .ret T56r :=
  Ends.fin hC trivial fun lo => (r56b _ _ _ _ _ _ _ _ _ _ _ _).trans (by rw [if_neg (by simp)]; rfl)
def jump1 (c : Cv.Cd) (oL oW : Nat → Int) (i : Nat) : Prop := Cv.jmp (c.op i) → oL (c.arg i).toNat = oL i ∧ oW (c.arg i).toNat = oW i
set_option maxRecDepth 100000 in
theorem loop56b {nm : ByteArray} {ps vs : Int} {n : Nat} {op arg oL oW : Nat → Int} {F : V} {B : Bool} (hC : SoundC E2 (C56 n op arg F B)) (hn : n ≤ 300) (harg : ∀ i, i < n → Cv.jmp (op i) → 0 ≤ arg i ∧ arg i < n) : ∀ (r i : Nat), i + r = n → Ends (bodyOf E2 56 2) (∀ j, i ≤ j → j < n → jump1 (mkC vs n op arg) oL oW j) (S56b nm ps vs n op arg oL oW i) (.exit 2) (T56a nm ps vs n op arg) .ret T56r := by
  intro r
  induction r with
  | zero =>
    intro i hi
    exact Ends.fin hC (fun j h1 h2 => by omega) fun lo => (r56b _ _ _ _ _ _ _ _ _ _ _ _).trans (by rw [if_neg (by simp; omega)]; rfl)
  | succ r ih =>
    intro i hi
    have hi' : i < n := by omega
    have hid : decide ((i : Int) < (n : Int)) = true := by simpa using hi'
    have hbb : (0 : Int) ≤ (i : Int) ∧ (i : Int) < (n : Int) := by omega
    have ew : w ((i : Int) + 1) = ((i + 1 : Nat) : Int) := by rw [w_in (by unfold inR; omega)]; omega
    have tree := fun lo => r56b nm B ps vs n op arg oL oW i F lo
    simp only [if_pos hid, if_pos hbb, Int.toNat_natCast, ew, if_true] at tree
    refine Ends.iff ?_ (all_from hi)
    have ej : jump1 (mkC vs n op arg) oL oW i ↔ (Cv.jmp (op i) → oL (arg i).toNat = oL i ∧ oW (arg i).toNat = oW i) := Iff.rfl
    rw [ej]
    have eb : (!(oL (arg i).toNat == oL i && (oW (arg i).toNat == oW i && true))) = true ↔ ¬ (oL (arg i).toNat = oL i ∧ oW (arg i).toNat = oW i) := by
      rw [Bool.and_true]
      by_cases a : oL (arg i).toNat = oL i <;> by_cases b : oW (arg i).toNat = oW i <;> simp [a, b]
    by_cases h14 : op i = 14
    · have hj : Cv.jmp (op i) := .inl h14
      have ha := harg i hi' hj
      by_cases hs : (oL (arg i).toNat = oL i ∧ oW (arg i).toNat = oW i)
      · refine Ends.iff (Ends.next hC (ih (i + 1) (by omega)) (k56b _ _ _ _ _ _) k56r (LeSt.refl _) fun lo => (tree lo).trans ?_) ⟨fun h => h.2, fun h => ⟨fun _ => hs, h⟩⟩
        rw [if_pos (by simpa using h14), if_pos ha, if_neg (fun h => eb.1 h hs)]; rfl
      · refine Ends.ret hC (fun h => hs (h.1 hj)) fun lo => (tree lo).trans ?_
        rw [if_pos (by simpa using h14), if_pos ha, if_pos (eb.2 hs)]; rfl
    by_cases h15 : op i = 15
    · have hj : Cv.jmp (op i) := .inr h15
      have ha := harg i hi' hj
      by_cases hs : (oL (arg i).toNat = oL i ∧ oW (arg i).toNat = oW i)
      · refine Ends.iff (Ends.next hC (ih (i + 1) (by omega)) (k56b _ _ _ _ _ _) k56r (LeSt.refl _) fun lo => (tree lo).trans ?_) ⟨fun h => h.2, fun h => ⟨fun _ => hs, h⟩⟩
        rw [if_neg (by simpa using h14), if_pos (by simpa using h15), if_pos ha, if_neg (fun h => eb.1 h hs)]; rfl
      · refine Ends.ret hC (fun h => hs (h.1 hj)) fun lo => (tree lo).trans ?_
        rw [if_neg (by simpa using h14), if_pos (by simpa using h15), if_pos ha, if_pos (eb.2 hs)]; rfl
    refine Ends.iff (Ends.next hC (ih (i + 1) (by omega)) (k56b _ _ _ _ _ _) k56r (LeSt.refl _) fun lo => (tree lo).trans ?_) ⟨fun h => h.2, fun h => ⟨fun hj => (hj.elim h14 h15).elim, h⟩⟩
    rw [if_neg (by simpa using h14), if_neg (by simpa using h15)]; rfl
/-! ### The whole -/
open Classical in
/-- What both checks of code answer. -/
noncomputable def verV (ps : Int) (c : Cv.Cd) : Int := if c.n > 300 ∨ c.vars > 12 then 2 else if ps < 0 ∨ ps > c.vars ∨ c.n = 0 ∨ ¬ Cv.VP c then 13 else 0
theorem verV_2 {ps : Int} {c : Cv.Cd} (h : c.n > 300 ∨ c.vars > 12) : verV ps c = 2 := by unfold verV; exact if_pos h
theorem verV_13 {ps : Int} {c : Cv.Cd} (h : ¬ (c.n > 300 ∨ c.vars > 12)) (h2 : ps < 0 ∨ ps > c.vars ∨ c.n = 0 ∨ ¬ Cv.VP c) : verV ps c = 13 := by unfold verV; rw [if_neg h, if_pos h2]
theorem verV_0 {ps : Int} {c : Cv.Cd} (h : ¬ (c.n > 300 ∨ c.vars > 12)) (h2 : ¬ (ps < 0 ∨ ps > c.vars ∨ c.n = 0 ∨ ¬ Cv.VP c)) : verV ps c = 0 := by unfold verV; rw [if_neg h, if_neg h2]
theorem jmps_all (c : Cv.Cd) (oL oW : Nat → Int) : Cv.jmps c oL oW ↔ ∀ j, 0 ≤ j → j < c.n → jump1 c oL oW j := ⟨fun h j _ hj => h j hj, fun h j hj => h j (Nat.zero_le _) hj⟩
set_option maxRecDepth 100000 in
theorem verify_sc (nm : ByteArray) (ps vs : Int) (n : Nat) (op arg : Nat → Int) : SC E2 56 [codV nm ps vs n op arg] [] (.ret (i64 (verV ps (mkC vs n op arg))) []) := by
  have hcn : (mkC vs n op arg).n = n := rfl
  have hcv : (mkC vs n op arg).vars = vs := rfl
  by_cases hn : n > 300
  · rw [verV_2 (.inl hn)]
    refine SC.of hW2 hX2 tab_nil ltab2_nil ((f56_e ..).trans ?_)
    rw [if_pos (by simp; omega)]
  have hnn : ¬ decide ((n : Int) > (300 : Int)) = true := by simp; omega
  by_cases hv : vs > 12
  · rw [verV_2 (.inr hv)]
    refine SC.of hW2 hX2 tab_nil ltab2_nil ((f56_e ..).trans ?_)
    rw [if_neg hnn, if_pos (by simpa using hv)]
  have hvv : ¬ decide (vs > (12 : Int)) = true := by simpa using hv
  have h2 : ¬ ((mkC vs n op arg).n > 300 ∨ (mkC vs n op arg).vars > 12) := by rw [hcn, hcv]; omega
  by_cases hp : ps < 0
  · rw [verV_13 h2 (.inl hp)]
    refine SC.of hW2 hX2 tab_nil ltab2_nil ((f56_e ..).trans ?_)
    rw [if_neg hnn, if_neg hvv, if_pos (by simpa using hp)]
  have hpp : ¬ decide (ps < (0 : Int)) = true := by simpa using hp
  by_cases hp2 : ps > vs
  · rw [verV_13 h2 (.inr (.inl hp2))]
    refine SC.of hW2 hX2 tab_nil ltab2_nil ((f56_e ..).trans ?_)
    rw [if_neg hnn, if_neg hvv, if_neg hpp, if_pos (by simpa using hp2)]
  have hpp2 : ¬ decide (ps > vs) = true := by simpa using hp2
  by_cases hz : n = 0
  · rw [verV_13 h2 (.inr (.inr (.inl hz)))]
    refine SC.of hW2 hX2 tab_nil ltab2_nil ((f56_e ..).trans ?_)
    rw [if_neg hnn, if_neg hvv, if_neg hpp, if_neg hpp2, if_pos (by simp; omega)]
  have hzz : ¬ ((n : Int) == (0 : Int)) = true := by simp; omega
  have hn3 : n ≤ 300 := by omega
  have h0 : 0 ≤ vs := by omega
  have hv12 : vs ≤ 12 := by omega
  have bad : ¬ Cv.VP (mkC vs n op arg) → verV ps (mkC vs n op arg) = 13 := fun h => verV_13 h2 (.inr (.inr (.inr h)))
  have good : Cv.VP (mkC vs n op arg) → verV ps (mkC vs n op arg) = 0 := fun h => verV_0 h2 (fun g => by rcases g with g | g | g | g; exact hp g; exact hp2 g; exact hz g; exact g h)
  have hpl : ∀ q, Cv.plcP (mkC vs n op arg) n 0 pl0 = q → Cv.plcP (mkC vs n op arg) (mkC vs n op arg).n 0 ⟨Cv.zero, Cv.zero, -1, -1⟩ = q := fun q h => h
  cases hx : Cv.plcP (mkC vs n op arg) n 0 pl0 with
  | none =>
    have hC := sC56 (F := plN) vs hn3 (by omega) (by rw [hx]; rfl)
    have l1 := loop56a (nm := nm) (ps := ps) (vs := vs) hC hn3 h0 hv12 n 0 (by omega)
    have hnv : ¬ Cv.VP (mkC vs n op arg) := by
      rintro ⟨_, ⟨q, hq, _⟩, _⟩
      rw [hpl _ hx] at hq
      cases hq
    rw [bad hnv]
    refine SC.of hW2 hX2 hC (ltab2_cons (x := ⟨0, _, _, _, _, _, _, _⟩) l1 ltab2_nil) ((f56n _ _ _ _ _ _ _ _ _).trans ?_)
    rw [if_neg hnn, if_neg hvv, if_neg hpp, if_neg hpp2, if_neg hzz, cl_pos ⟨rfl, LeSt.refl _⟩]
    by_cases hP : (∀ j, 0 ≤ j → j < n → Cv.rng (mkC vs n op arg) j ∧ Cv.stopOk (mkC vs n op arg) j)
    · rw [cl_pos hP, cl_pos ⟨rfl, rfl⟩]
    · rw [cl_neg hP]
  | some q =>
    have hC := sC56 (F := plS n q.oL q.oW (decide (q.lo = -1 ∧ q.wa = -1))) vs hn3 (by omega) (by rw [hx]; rfl)
    have l1 := loop56a (nm := nm) (ps := ps) (vs := vs) hC hn3 h0 hv12 n 0 (by omega)
    by_cases hP : (∀ j, 0 ≤ j → j < n → Cv.rng (mkC vs n op arg) j ∧ Cv.stopOk (mkC vs n op arg) j)
    · have harg : ∀ i, i < n → Cv.jmp (op i) → 0 ≤ arg i ∧ arg i < n := by
        intro i hi hj
        have h1 := Cv.rng_jump (c := mkC vs n op arg) (i := i) hj (hP i (Nat.zero_le _) hi).1
        have e1 : (mkC vs n op arg).arg i = arg i := rfl
        rw [e1, hcn] at h1
        omega
      have l2 := loop56b (nm := nm) (ps := ps) (vs := vs) (oL := q.oL) (oW := q.oW) hC hn3 harg n 0 (by omega)
      refine SC.of hW2 hX2 hC (ltab2_cons (x := ⟨0, _, _, _, _, _, _, _⟩) l1 (ltab2_cons (x := ⟨2, _, _, _, _, _, _, _⟩) l2 ltab2_nil)) ((f56s _ _ _ _ _ _ _ _ _ _ _ _ _ _).trans ?_)
      rw [if_neg hnn, if_neg hvv, if_neg hpp, if_neg hpp2, if_neg hzz, cl_pos ⟨rfl, LeSt.refl _⟩, cl_pos hP, cl_pos ⟨rfl, rfl⟩]
      have hvp : Cv.VP (mkC vs n op arg) ↔ ((q.lo = -1 ∧ q.wa = -1) ∧ (∀ j, 0 ≤ j → j < n → jump1 (mkC vs n op arg) q.oL q.oW j) ∧ balD (mkC vs n op arg) = true) := by
        rw [balD_iff]
        constructor
        · rintro ⟨g1, ⟨q', g2, g3, g4⟩, g5⟩
          rw [hpl _ hx] at g2
          cases g2
          exact ⟨g3, (jmps_all _ _ _).1 g4, g5⟩
        · rintro ⟨g1, g2, g3⟩
          exact ⟨fun i hi => hP i (Nat.zero_le _) hi, ⟨q, hpl _ hx, g1, (jmps_all _ _ _).2 g2⟩, g3⟩
      by_cases hb : q.lo = -1 ∧ q.wa = -1
      · rw [if_neg (by rw [decide_eq_true hb]; decide), cl_pos ⟨rfl, LeSt.refl _⟩]
        by_cases hJ : ∀ j, 0 ≤ j → j < n → jump1 (mkC vs n op arg) q.oL q.oW j
        · rw [cl_pos hJ, cl_pos ⟨⟨rfl, fun i hi hj => (harg i hi hj).1⟩, rfl⟩]
          cases hB : balD (mkC vs n op arg) with
          | true => rw [if_neg (by decide), good (hvp.2 ⟨hb, hJ, hB⟩)]
          | false => rw [if_pos (by decide), bad (fun h => by have := (hvp.1 h).2.2; rw [hB] at this; cases this)]
        · rw [cl_neg hJ, bad (fun h => hJ (hvp.1 h).2.1)]
      · rw [if_pos (by rw [decide_eq_false hb]; decide), bad (fun h => hb (hvp.1 h).1)]
    · refine SC.of hW2 hX2 hC (ltab2_cons (x := ⟨0, _, _, _, _, _, _, _⟩) l1 (ltab2_cons (x := ⟨2, _, S56b nm ps vs n op arg q.oL q.oW n, True, _, _, _, _⟩) (end56b (nm := nm) (ps := ps) (vs := vs) (oL := q.oL) (oW := q.oW) hC) ltab2_nil)) ((f56s _ _ _ _ _ _ _ _ _ _ _ _ _ _).trans ?_)
      rw [if_neg hnn, if_neg hvv, if_neg hpp, if_neg hpp2, if_neg hzz, cl_pos ⟨rfl, LeSt.refl _⟩, cl_neg hP, bad (fun h => hP fun j _ hj => h.1 j hj)]
end Go.Proofs.Ythegipdgillngaa
