/- Texts joined. -/
import Derived.Test.YthegipdgillngaaQC
/- Where loops end (39, 65); what an instruction costs (59, 50); what the rest needs (40, 42): walked. -/
namespace Go.Proofs.Ythegipdgillngaa
open Go Go.Am Go.Proofs
set_option linter.unusedSimpArgs false
set_option linter.unusedVariables false
def S39 (n : Nat) (op arg : Nat → Int) (i : Nat) (e : Nat → Int) : St := { fr := [.junk, .junk, .junk, .sl 0 1 0 n] ++ jk 7 ++ [cd n op arg, i64 n, i64 i] ++ jk 15, H := hp [some (.row 3 1 n (r1 e))], nx := 1, rt := 0, me := 39 }
def T39 (n : Nat) (e : Nat → Int) : St := { fr := [.junk, .junk, .junk, .sl 0 1 0 n] ++ jk 25, H := hp [some (.row 3 1 n (r1 e))], nx := 1, rt := 0, me := 39 }
theorem r39 (n : Nat) (op arg : Nat → Int) (i : Nat) (e : Nat → Int) (lo : LoopT) : loopK E2 (tab []) lo 0 14344 (bodyOf E2 39 0) (S39 n op arg i e) (KC2 8 4) =
  if decide ((i : Int) < (n : Int)) = true then
   if (0 : Int) ≤ (i : Int) ∧ (i : Int) < (n : Int) then
    if (op (Int.toNat (i : Int)) == (17 : Int)) = true then
     if (0 : Int) ≤ w (arg (Int.toNat (i : Int)) - (1 : Int)) ∧ w (arg (Int.toNat (i : Int)) - (1 : Int)) < (n : Int) then
      if 0 + Int.toNat (w (arg (Int.toNat (i : Int)) - (1 : Int))) < n ∧ 1 = 1 then
       lo 0 14344 (bodyOf E2 39 0) ({ fr := [V.junk, V.junk, V.junk, V.sl 0 1 0 n, V.junk, V.junk, V.junk, V.junk, V.junk, V.junk, V.junk, V.ro 2 n (ins op arg), i64 (n : Int), i64 (w ((i : Int) + (1 : Int)))] ++ jk 15, H := hp [some (Chunk.row 3 1 n (putF true (0 + Int.toNat (w (arg (Int.toNat (i : Int)) - (1 : Int)))) 0 [i64 (i : Int)] (r1 e)))], nx := 1, rt := 0, me := 39 }) (KC2 8 4)
      else
       none
     else
      none
    else
     lo 0 14344 (bodyOf E2 39 0) ({ fr := [V.junk, V.junk, V.junk, V.sl 0 1 0 n, V.junk, V.junk, V.junk, V.junk, V.junk, V.junk, V.junk, V.ro 2 n (ins op arg), i64 (n : Int), i64 (w ((i : Int) + (1 : Int)))] ++ jk 15, H := hp [some (Chunk.row 3 1 n (r1 e))], nx := 1, rt := 0, me := 39 }) (KC2 8 4)
   else
    none
  else
   some (Ans.l (Ex.exit 0) { fr := [V.junk, V.junk, V.junk, V.sl 0 1 0 n] ++ jk 25, H := hp [some (Chunk.row 3 1 n (r1 e))], nx := 1, rt := 0, me := 39 }) := by kernel_rfl
theorem f39 (nm : ByteArray) (ps vs : Int) (n : Nat) (op arg e : Nat → Int) (S1 : St) (P : Prop) : callK E2 (tab []) (ltab2 [⟨0, bodyOf E2 39 0, S1, P, .exit 0, T39 n e, .ret, T39 n e⟩]) 39 [codV nm ps vs n op arg] [] K =
  if (n : Int) = (n : Int) ∧ (0 : Int) ≤ (n : Int) ∧ 0 < 1 ∧ 1 = 1 ∧ Int.toNat (n : Int) * 8 ≤ 281474976710656 ∧ Int.toNat (n : Int) ≤ maxLen ∧ (allOk 1 1 fun (x : Nat) => List.map V.sc (Array.toList (Value.cells (Value.int IntKind.i64 0)))) = true then
   cl ((bodyOf E2 39 0) = (bodyOf E2 39 0) ∧ LeSt ({ fr := [V.junk, V.junk, V.junk, V.sl 0 1 0 (Int.toNat (n : Int)), V.junk, V.junk, V.junk, V.junk, V.junk, V.junk, V.junk, V.ro 2 n (ins op arg), i64 (n : Int), i64 0] ++ jk 15, H := hp [some (Chunk.row 3 1 (Int.toNat (n : Int)) fun (x : Nat) => List.map V.sc (Array.toList (Value.cells (Value.int IntKind.i64 0))))], nx := 1, rt := 0, me := 39 }) (S1)) (
    cl (P) (
     some (Ans.c (CRes.ret (V.sl 0 1 0 n) [some (Chunk.row 3 1 n (r1 e))]))) (
     some (Ans.c (CRes.ret V.junk [])))) (
    none)
  else
   none := by kernel_rfl
theorem k39 (n : Nat) (e : Nat → Int) : KC2 8 4 (.exit 0) (T39 n e) = some (.l (.exit 0) (T39 n e)) := by kernel_rfl
def Next17 (n : Nat) (op arg : Nat → Int) : Prop := ∀ k, k < n → op k = 17 → 1 ≤ arg k ∧ arg k ≤ (k : Int)
theorem vp17 {vs : Int} {n : Nat} {op arg : Nat → Int} (h : Cv.VP (mkC vs n op arg)) : Next17 n op arg := fun k hk h17 => (Cv.rng_17 (c := mkC vs n op arg) (i := k) (.inl h17)).1 (h.1 k hk).1
set_option maxRecDepth 100000 in
theorem loop39 {n : Nat} {op arg : Nat → Int} (vs : Int) (hn : n ≤ 300) (h17 : Next17 n op arg) : ∀ (r i : Nat), i + r = n → SL E2 (bodyOf E2 39 0) (S39 n op arg i (Cv.endA (mkC vs n op arg) i)) (.exit 0) (T39 n (Cv.endA (mkC vs n op arg) n)) := by
  intro r
  induction r with
  | zero =>
    intro i hi
    have : i = n := by omega
    subst this
    exact SL.by2 (m := 8) (r := 4) tab_nil hX2 ltab2_nil ((r39 i op arg i _ _).trans (by rw [if_neg (by simp)]; rfl))
  | succ r ih =>
    intro i hi
    have hid : decide ((i : Int) < (n : Int)) = true := decide_eq_true (by omega)
    have hbb : (0 : Int) ≤ (i : Int) ∧ (i : Int) < (n : Int) := by omega
    have ew : w ((i : Int) + 1) = ((i + 1 : Nat) : Int) := by rw [w_in (by unfold inR; omega)]; omega
    have tree := r39 n op arg i (Cv.endA (mkC vs n op arg) i) (ltab2 [⟨0, bodyOf E2 39 0, S39 n op arg (i + 1) (Cv.endA (mkC vs n op arg) (i + 1)), True, .exit 0, T39 n (Cv.endA (mkC vs n op arg) n), .ret, T39 n (Cv.endA (mkC vs n op arg) n)⟩])
    simp only [if_pos hid, if_pos hbb, Int.toNat_natCast, ew, Nat.zero_add] at tree
    refine SL.by2 tab_nil hX2 (ltab2_cons (x := ⟨0, _, _, _, _, _, _, _⟩) ⟨fun _ => ih (i + 1) (by omega), fun h => absurd trivial h⟩ ltab2_nil) (tree.trans ?_)
    have eA : Cv.endA (mkC vs n op arg) (i + 1) = if op i = 17 then Cv.upd (Cv.endA (mkC vs n op arg) i) (arg i - 1).toNat i else Cv.endA (mkC vs n op arg) i := rfl
    by_cases h : op i = 17
    · have ha := h17 i (by omega) h
      have ea : w (arg i - 1) = arg i - 1 := w_in (by unfold inR; omega)
      rw [if_pos h] at eA
      rw [if_pos (by simpa using h), ea, if_pos (by omega), if_pos ⟨by omega, trivial⟩]
      refine (ltab2_hit ?_).trans ((cl_pos trivial).trans (k39 _ _))
      rw [eA]
      exact LeSt.mk' (LeL.refl _) ⟨ChLe.row fun j _ => row_put1 _ _ _ _, trivial⟩
    · rw [if_neg h] at eA
      rw [if_neg (by simpa using h)]
      refine (ltab2_hit ?_).trans ((cl_pos trivial).trans (k39 _ _))
      rw [eA]
      exact LeSt.refl _
theorem bw_one {n : Nat} {f : Nat → List V} : V.bw (hp [some (Chunk.row 3 1 n f)]) (.sl 0 1 0 n) = .ro 1 n (fun j => f (0 + j)) := by
  simp [V.bw, V.bw2, V.bw1, hp]
set_option maxRecDepth 100000 in
theorem ends_sc (nm : ByteArray) (ps vs : Int) {n : Nat} {op arg : Nat → Int} (hn : n ≤ 300) (h17 : Next17 n op arg) : SC E2 39 [codV nm ps vs n op arg] [] (.ret (.ro 1 n (r1 (Cv.endF (mkC vs n op arg)))) []) := by
  have l1 := loop39 vs hn h17 n 0 (by omega)
  have hc : (n : Int) = (n : Int) ∧ (0 : Int) ≤ (n : Int) ∧ 0 < 1 ∧ 1 = 1 ∧ Int.toNat (n : Int) * 8 ≤ 281474976710656 ∧ Int.toNat (n : Int) ≤ Go.maxLen ∧ (allOk 1 1 fun (x : Nat) => List.map V.sc (Array.toList (Value.cells (Value.int IntKind.i64 0)))) = true := by
    refine ⟨rfl, by omega, by decide, rfl, by rw [Int.toNat_natCast]; omega, by rw [Int.toNat_natCast]; unfold Go.maxLen; omega, by kernel_rfl⟩
  have h : SC E2 39 [codV nm ps vs n op arg] [] (.ret (.sl 0 1 0 n) [some (Chunk.row 3 1 n (r1 (Cv.endF (mkC vs n op arg))))]) := by
    refine SC.of hW2 hX2 tab_nil (ltab2_cons (x := ⟨0, _, _, True, _, _, .ret, T39 n (Cv.endA (mkC vs n op arg) n)⟩) ⟨fun _ => l1, fun h => absurd trivial h⟩ ltab2_nil) ((f39 nm ps vs n op arg _ _ _).trans ?_)
    rw [if_pos hc, cl_pos ⟨rfl, (by
      rw [Int.toNat_natCast]
      exact LeSt.mk' (LeL.refl _) ⟨ChLe.row fun j _ => rfl, trivial⟩)⟩, cl_pos trivial]
    rfl
  refine (SC.give h (by rw [bw_one]; rfl)).le ?_
  rw [bw_one]
  exact Le.ro_eq fun j hj => ⟨by rw [Nat.zero_add], rfl⟩
def addE (a b : Int) : Int := if (2147483647 : Int) < w (a + b) then (2147483647 : Int) else w (a + b)
def tmE (a b : Int) : Int := if (2147483647 : Int) < w (a * b) then (2147483647 : Int) else w (a * b)
def mxE (a b : Int) : Int := if b > a then b else a
def vAdd : List V → V
  | [.agg [.sc (.int .i64 a0), .sc (.int .i64 a1), .sc (.int .i64 a2), .sc (.int .i64 a3), .sc (.int .i64 a4), .sc (.int .i64 a5)], .agg [.sc (.int .i64 b0), .sc (.int .i64 b1), .sc (.int .i64 b2), .sc (.int .i64 b3), .sc (.int .i64 b4), .sc (.int .i64 b5)]] => .agg [i64 (addE a0 b0), i64 (addE a1 b1), i64 (addE a2 b2), i64 (addE a3 b3), i64 (addE a4 b4), i64 (addE a5 b5)]
  | _ => .junk
def vMx : List V → V
  | .agg [.sc (.int .i64 a0), .sc (.int .i64 a1), .sc (.int .i64 a2), .sc (.int .i64 a3), .sc (.int .i64 a4), .sc (.int .i64 a5)] :: .agg [.sc (.int .i64 b0), .sc (.int .i64 b1), .sc (.int .i64 b2), .sc (.int .i64 b3), .sc (.int .i64 b4), .sc (.int .i64 b5)] :: _ => .agg [i64 (mxE a0 b0), i64 (mxE a1 b1), i64 (mxE a2 b2), i64 (mxE a3 b3), i64 (mxE a4 b4), i64 (mxE a5 b5)]
  | _ => .junk
def vTm : List V → V
  | [.agg [.sc (.int .i64 a0), .sc (.int .i64 a1), .sc (.int .i64 a2), .sc (.int .i64 a3), .sc (.int .i64 a4), .sc (.int .i64 a5)], .sc (.int .i64 m)] => .agg [i64 (tmE a0 m), i64 (tmE a1 m), i64 (tmE a2 m), i64 (tmE a3 m), i64 (tmE a4 m), i64 (tmE a5 m)]
  | _ => .junk
def l6 (v0 v1 v2 v3 v4 v5 : Int) : Nat → Int := fun q => [v0, v1, v2, v3, v4, v5].getD q 0
/-- What one instruction costs by itself. -/
def owE (a b : Nat → Int) (R W : Int) (o t : Int) : Nat → Int :=
  if o = 18 ∨ o = 19 then l6 0 0 0 0 0 t
  else if o = 22 then l6 (trn R W) 0 0 0 360 1
  else if o = 23 then l6 (tmE (a (Int.toNat (w (Int.tdiv t 1000000)))) (Int.tmod t 1000000)) (tmE (b (Int.toNat (w (Int.tdiv t 1000000)))) (Int.tmod t 1000000)) (tmE 0 (Int.tmod t 1000000)) (tmE 0 (Int.tmod t 1000000)) (tmE 0 (Int.tmod t 1000000)) (tmE 1 (Int.tmod t 1000000))
  else if o = 24 then l6 0 0 0 (w (Int.tdiv t 8)) 0 0
  else if o = 25 then l6 0 0 t 0 0 0
  else l6 0 0 0 0 0 0
def vOw (a b : Nat → Int) (R W : Int) : List V → V
  | [.agg [.sc (.int .i64 o), .sc (.int .i64 t)], _] => c6 (owE a b R W o t)
  | _ => .junk
def QAdd (args : List V) : Prop := ∃ a b : Nat → Int, args = [c6 a, c6 b]
def QTm (args : List V) : Prop := ∃ (a : Nat → Int) (m : Int), args = [c6 a, i64 m]
def QMx3 (args : List V) : Prop := ∃ a b : Nat → Int, args = [c6 a, c6 b, .fn 49 []]
def QOw (n : Nat) (op arg : Nat → Int) (k : Nat) (a b c : Nat → Int) (R W : Int) (args : List V) : Prop := ∃ o t : Int, args = [.agg [i64 o, i64 t], rigV k a b c R W] ∧ (o = 23 → 0 ≤ w (Int.tdiv t 1000000) ∧ w (Int.tdiv t 1000000) < k)
theorem qadd (a0 a1 a2 a3 a4 a5 b0 b1 b2 b3 b4 b5 : Int) : QAdd [V.agg [i64 a0, i64 a1, i64 a2, i64 a3, i64 a4, i64 a5], V.agg [i64 b0, i64 b1, i64 b2, i64 b3, i64 b4, i64 b5]] := ⟨l6 a0 a1 a2 a3 a4 a5, l6 b0 b1 b2 b3 b4 b5, rfl⟩
theorem qmx3 (a0 a1 a2 a3 a4 a5 b0 b1 b2 b3 b4 b5 : Int) : QMx3 [V.agg [i64 a0, i64 a1, i64 a2, i64 a3, i64 a4, i64 a5], V.agg [i64 b0, i64 b1, i64 b2, i64 b3, i64 b4, i64 b5], .fn 49 []] := ⟨l6 a0 a1 a2 a3 a4 a5, l6 b0 b1 b2 b3 b4 b5, rfl⟩
theorem qtm (a0 a1 a2 a3 a4 a5 m : Int) : QTm [V.agg [i64 a0, i64 a1, i64 a2, i64 a3, i64 a4, i64 a5], i64 m] := ⟨l6 a0 a1 a2 a3 a4 a5, m, rfl⟩
theorem g29 (a b : Nat → Int) : callG E2 20 29 [c6 a, c6 b] [] K =
  some (Ans.c (CRes.ret (V.agg [i64 (if (2147483647 : Int) < w (a 0 + b 0) then (2147483647 : Int) else w (a 0 + b 0)), i64 (if (2147483647 : Int) < w (a 1 + b 1) then (2147483647 : Int) else w (a 1 + b 1)), i64 (if (2147483647 : Int) < w (a 2 + b 2) then (2147483647 : Int) else w (a 2 + b 2)), i64 (if (2147483647 : Int) < w (a 3 + b 3) then (2147483647 : Int) else w (a 3 + b 3)), i64 (if (2147483647 : Int) < w (a 4 + b 4) then (2147483647 : Int) else w (a 4 + b 4)), i64 (if (2147483647 : Int) < w (a 5 + b 5) then (2147483647 : Int) else w (a 5 + b 5))]) [])) := by kernel_rfl
theorem g48 (a b : Nat → Int) : callG E2 20 48 [c6 a, c6 b, .fn 49 []] [] K =
  some (Ans.c (CRes.ret (V.agg [i64 (if b 0 > a 0 then b 0 else a 0), i64 (if b 1 > a 1 then b 1 else a 1), i64 (if b 2 > a 2 then b 2 else a 2), i64 (if b 3 > a 3 then b 3 else a 3), i64 (if b 4 > a 4 then b 4 else a 4), i64 (if b 5 > a 5 then b 5 else a 5)]) [])) := by kernel_rfl
theorem g58 (a : Nat → Int) (m : Int) : callG E2 20 58 [c6 a, i64 m] [] K =
  some (Ans.c (CRes.ret (V.agg [i64 (if (2147483647 : Int) < w (a 0 * m) then (2147483647 : Int) else w (a 0 * m)), i64 (if (2147483647 : Int) < w (a 1 * m) then (2147483647 : Int) else w (a 1 * m)), i64 (if (2147483647 : Int) < w (a 2 * m) then (2147483647 : Int) else w (a 2 * m)), i64 (if (2147483647 : Int) < w (a 3 * m) then (2147483647 : Int) else w (a 3 * m)), i64 (if (2147483647 : Int) < w (a 4 * m) then (2147483647 : Int) else w (a 4 * m)), i64 (if (2147483647 : Int) < w (a 5 * m) then (2147483647 : Int) else w (a 5 * m))]) [])) := by kernel_rfl
theorem g59 (o a0 : Int) (k : Nat) (a b c : Nat → Int) (R W : Int) : callG E2 20 59 [.agg [i64 o, i64 a0], rigV k a b c R W] [] K =
  if (o == (18 : Int)) = true then
   some (Ans.c (CRes.ret (V.agg [i64 0, i64 0, i64 0, i64 0, i64 0, i64 a0]) []))
  else
   if (o == (19 : Int)) = true then
    some (Ans.c (CRes.ret (V.agg [i64 0, i64 0, i64 0, i64 0, i64 0, i64 a0]) []))
   else
    if (o == (22 : Int)) = true then
     if R = (0 : Int) then
      none
     else
      some (Ans.c (CRes.ret (V.agg [i64 (w (W * w (Int.tdiv (w (w ((360 : Int) + R) - (1 : Int))) R))), i64 0, i64 0, i64 0, i64 360, i64 1]) []))
    else
     if (o == (23 : Int)) = true then
      if (0 : Int) ≤ w (Int.tdiv a0 (1000000 : Int)) ∧ w (Int.tdiv a0 (1000000 : Int)) < (k : Int) then
       some (Ans.c (CRes.ret (V.agg [i64 (if (2147483647 : Int) < w (a (Int.toNat (w (Int.tdiv a0 (1000000 : Int)))) * Int.tmod a0 (1000000 : Int)) then (2147483647 : Int) else w (a (Int.toNat (w (Int.tdiv a0 (1000000 : Int)))) * Int.tmod a0 (1000000 : Int))), i64 (if (2147483647 : Int) < w (b (Int.toNat (w (Int.tdiv a0 (1000000 : Int)))) * Int.tmod a0 (1000000 : Int)) then (2147483647 : Int) else w (b (Int.toNat (w (Int.tdiv a0 (1000000 : Int)))) * Int.tmod a0 (1000000 : Int))), i64 (if (2147483647 : Int) < w ((0 : Int) * Int.tmod a0 (1000000 : Int)) then (2147483647 : Int) else w ((0 : Int) * Int.tmod a0 (1000000 : Int))), i64 (if (2147483647 : Int) < w ((0 : Int) * Int.tmod a0 (1000000 : Int)) then (2147483647 : Int) else w ((0 : Int) * Int.tmod a0 (1000000 : Int))), i64 (if (2147483647 : Int) < w ((0 : Int) * Int.tmod a0 (1000000 : Int)) then (2147483647 : Int) else w ((0 : Int) * Int.tmod a0 (1000000 : Int))), i64 (if (2147483647 : Int) < w ((1 : Int) * Int.tmod a0 (1000000 : Int)) then (2147483647 : Int) else w ((1 : Int) * Int.tmod a0 (1000000 : Int)))]) []))
      else
       none
     else
      if (o == (24 : Int)) = true then
       some (Ans.c (CRes.ret (V.agg [i64 0, i64 0, i64 0, i64 (w (Int.tdiv a0 (8 : Int))), i64 0, i64 0]) []))
      else
       if (o == (25 : Int)) = true then
        some (Ans.c (CRes.ret (V.agg [i64 0, i64 0, i64 a0, i64 0, i64 0, i64 0]) []))
       else
        some (Ans.c (CRes.ret (V.agg [i64 0, i64 0, i64 0, i64 0, i64 0, i64 0]) [])) := by kernel_rfl
theorem add_sc (a b : Nat → Int) : SC E2 29 [c6 a, c6 b] [] (.ret (vAdd [c6 a, c6 b]) []) := SC.g2 (g29 a b)
theorem mx_sc (a b : Nat → Int) : SC E2 48 [c6 a, c6 b, .fn 49 []] [] (.ret (vMx [c6 a, c6 b, .fn 49 []]) []) := SC.g2 (g48 a b)
theorem tm_sc (a : Nat → Int) (m : Int) : SC E2 58 [c6 a, i64 m] [] (.ret (vTm [c6 a, i64 m]) []) := SC.g2 (g58 a m)
theorem own_sc {o t : Int} {k : Nat} {a b c : Nat → Int} {R W : Int} (hR : 1 ≤ R) (h23 : o = 23 → 0 ≤ w (Int.tdiv t 1000000) ∧ w (Int.tdiv t 1000000) < k) : SC E2 59 [.agg [i64 o, i64 t], rigV k a b c R W] [] (.ret (c6 (owE a b R W o t)) []) := by
  refine SC.g2 ((g59 o t k a b c R W).trans ?_)
  unfold owE
  by_cases h18 : o = 18
  · rw [if_pos (by simpa using h18), if_pos (.inl h18)]; rfl
  by_cases h19 : o = 19
  · rw [if_neg (by simpa using h18), if_pos (by simpa using h19), if_pos (.inr h19)]; rfl
  rw [if_neg (by simpa using h18), if_neg (by simpa using h19), if_neg (show ¬ (o = 18 ∨ o = 19) by omega)]
  by_cases h22 : o = 22
  · rw [if_pos (by simpa using h22), if_pos h22, if_neg (by omega)]; rfl
  rw [if_neg (by simpa using h22), if_neg h22]
  by_cases g23 : o = 23
  · rw [if_pos (by simpa using g23), if_pos g23, if_pos (h23 g23)]; rfl
  rw [if_neg (by simpa using g23), if_neg g23]
  by_cases h24 : o = 24
  · rw [if_pos (by simpa using h24), if_pos h24]; rfl
  rw [if_neg (by simpa using h24), if_neg h24]
  by_cases h25 : o = 25
  · rw [if_pos (by simpa using h25), if_pos h25]; rfl
  rw [if_neg (by simpa using h25), if_neg h25]; rfl
theorem ceil_le {R : Int} (h1 : 1 ≤ R) (h2 : R ≤ 360) : 0 ≤ w (Int.tdiv (w (w (360 + R) - 1)) R) ∧ w (Int.tdiv (w (w (360 + R) - 1)) R) ≤ 719 := by
  have e1 : w (w (360 + R) - 1) = 360 + R - 1 := by rw [w_in (n := 360 + R) (by unfold inR; omega), w_in (by unfold inR; omega)]
  rw [e1, Int.tdiv_eq_ediv_of_nonneg (by omega)]
  have hq : 0 ≤ (360 + R - 1) / R := Int.ediv_nonneg (by omega) (by omega)
  have hq' : (360 + R - 1) / R ≤ 719 := by
    have := Int.ediv_le_self R (show 0 ≤ 360 + R - 1 by omega)
    omega
  rw [w_in (by unfold inR; omega)]
  omega
theorem trn_le {R W : Int} (h1 : 1 ≤ R) (h2 : R ≤ 360) (h3 : 0 ≤ W) (h4 : W ≤ 1000000) : 0 ≤ trn R W ∧ trn R W ≤ 719000000 := by
  obtain ⟨c1, c2⟩ := ceil_le h1 h2
  unfold trn
  generalize w (Int.tdiv (w (w (360 + R) - 1)) R) = q at *
  have a1 : 0 ≤ W * q := Int.mul_nonneg h3 c1
  have a2 : W * q ≤ 1000000 * 719 := Int.mul_le_mul h4 c2 c1 (by omega)
  rw [w_in (by unfold inR; omega)]
  omega
/-- What is needed from instruction i on. -/
def ndF (c : Cv.Cd) (a b : Nat → Int) (R W : Int) (x : Nat → Nat → Int) (i : Nat) : Nat → Int :=
  if c.op i = 28 ∨ c.op i = 27 ∨ c.op i = 17 then fun _ => 0
  else if c.op i = 14 then nthI (rc x (c.arg i).toNat)
  else if c.op i = 15 then fun q => mxE (nthI (rc x (i + 1)) q) (nthI (rc x (c.arg i).toNat) q)
  else if c.op i = 16 then fun q => addE (tmE (nthI (rc x (i + 1)) q) (c.arg i)) (nthI (rc x (Cv.endF c i + 1).toNat) q)
  else fun q => addE (owE a b R W (c.op i) (c.arg i) q) (nthI (rc x (i + 1)) q)
noncomputable def C40 (n : Nat) (op arg : Nat → Int) (k : Nat) (a b c : Nat → Int) (R W : Int) : CallT := ptab 58 QTm vTm (ptab 48 QMx3 vMx (ptab 29 QAdd vAdd (ptab 59 (QOw n op arg k a b c R W) (vOw a b R W) (tab []))))
theorem sC40 {n : Nat} {op arg : Nat → Int} {k : Nat} {a b c : Nat → Int} {R W : Int} (hR : 1 ≤ R) : SoundC E2 (C40 n op arg k a b c R W) := by
  refine ptab_cons (fun args h => ?_) (ptab_cons (fun args h => ?_) (ptab_cons (fun args h => ?_) (ptab_cons (fun args h => ?_) tab_nil)))
  · obtain ⟨a, m, rfl⟩ := h; exact tm_sc a m
  · obtain ⟨a, b, rfl⟩ := h; exact mx_sc a b
  · obtain ⟨a, b, rfl⟩ := h; exact add_sc a b
  · obtain ⟨o, t, rfl, h⟩ := h; exact own_sc hR h
theorem f40 (nm : ByteArray) (ps vs : Int) (n : Nat) (op arg : Nat → Int) (k : Nat) (a b c : Nat → Int) (R W : Int) (e : Nat → Int) (x : Nat → Nat → Int) (i : Nat) : callK E2 (C40 n op arg k a b c R W) (ltab2 []) 40 [codV nm ps vs n op arg, rigV k a b c R W, .ro 1 n (r1 e), .ro 6 n (rc x), i64 i] [] K =
  if (0 : Int) ≤ (i : Int) ∧ (i : Int) < (n : Int) then
   if (op (Int.toNat (i : Int)) == (28 : Int)) = true then
    some (Ans.c (CRes.ret (V.agg [i64 0, i64 0, i64 0, i64 0, i64 0, i64 0]) []))
   else
    if (op (Int.toNat (i : Int)) == (27 : Int)) = true then
     some (Ans.c (CRes.ret (V.agg [i64 0, i64 0, i64 0, i64 0, i64 0, i64 0]) []))
    else
     if (op (Int.toNat (i : Int)) == (17 : Int)) = true then
      some (Ans.c (CRes.ret (V.agg [i64 0, i64 0, i64 0, i64 0, i64 0, i64 0]) []))
     else
      if (op (Int.toNat (i : Int)) == (14 : Int)) = true then
       if (0 : Int) ≤ arg (Int.toNat (i : Int)) ∧ arg (Int.toNat (i : Int)) < (n : Int) then
        some (Ans.c (CRes.ret (V.agg [i64 (x 0 (Int.toNat (arg (Int.toNat (i : Int))))), i64 (x 1 (Int.toNat (arg (Int.toNat (i : Int))))), i64 (x 2 (Int.toNat (arg (Int.toNat (i : Int))))), i64 (x 3 (Int.toNat (arg (Int.toNat (i : Int))))), i64 (x 4 (Int.toNat (arg (Int.toNat (i : Int))))), i64 (x 5 (Int.toNat (arg (Int.toNat (i : Int)))))]) []))
       else
        none
      else
       if (op (Int.toNat (i : Int)) == (15 : Int)) = true then
        if (0 : Int) ≤ w ((i : Int) + (1 : Int)) ∧ w ((i : Int) + (1 : Int)) < (n : Int) then
         if (0 : Int) ≤ arg (Int.toNat (i : Int)) ∧ arg (Int.toNat (i : Int)) < (n : Int) then
          cl (QMx3 ([V.agg [i64 (x 0 (Int.toNat (w ((i : Int) + (1 : Int))))), i64 (x 1 (Int.toNat (w ((i : Int) + (1 : Int))))), i64 (x 2 (Int.toNat (w ((i : Int) + (1 : Int))))), i64 (x 3 (Int.toNat (w ((i : Int) + (1 : Int))))), i64 (x 4 (Int.toNat (w ((i : Int) + (1 : Int))))), i64 (x 5 (Int.toNat (w ((i : Int) + (1 : Int)))))], V.agg [i64 (x 0 (Int.toNat (arg (Int.toNat (i : Int))))), i64 (x 1 (Int.toNat (arg (Int.toNat (i : Int))))), i64 (x 2 (Int.toNat (arg (Int.toNat (i : Int))))), i64 (x 3 (Int.toNat (arg (Int.toNat (i : Int))))), i64 (x 4 (Int.toNat (arg (Int.toNat (i : Int))))), i64 (x 5 (Int.toNat (arg (Int.toNat (i : Int)))))], V.fn 49 []]) ∧ ([] : List (Option Chunk)) = []) (
           some (Ans.c (CRes.ret (V.agg [i64 (mxE (x 0 (Int.toNat (w ((i : Int) + (1 : Int))))) (x 0 (Int.toNat (arg (Int.toNat (i : Int)))))), i64 (mxE (x 1 (Int.toNat (w ((i : Int) + (1 : Int))))) (x 1 (Int.toNat (arg (Int.toNat (i : Int)))))), i64 (mxE (x 2 (Int.toNat (w ((i : Int) + (1 : Int))))) (x 2 (Int.toNat (arg (Int.toNat (i : Int)))))), i64 (mxE (x 3 (Int.toNat (w ((i : Int) + (1 : Int))))) (x 3 (Int.toNat (arg (Int.toNat (i : Int)))))), i64 (mxE (x 4 (Int.toNat (w ((i : Int) + (1 : Int))))) (x 4 (Int.toNat (arg (Int.toNat (i : Int)))))), i64 (mxE (x 5 (Int.toNat (w ((i : Int) + (1 : Int))))) (x 5 (Int.toNat (arg (Int.toNat (i : Int))))))]) []))) (
           none)
         else
          none
        else
         none
       else
        if (op (Int.toNat (i : Int)) == (16 : Int)) = true then
         if (0 : Int) ≤ w ((i : Int) + (1 : Int)) ∧ w ((i : Int) + (1 : Int)) < (n : Int) then
          cl (QTm ([V.agg [i64 (x 0 (Int.toNat (w ((i : Int) + (1 : Int))))), i64 (x 1 (Int.toNat (w ((i : Int) + (1 : Int))))), i64 (x 2 (Int.toNat (w ((i : Int) + (1 : Int))))), i64 (x 3 (Int.toNat (w ((i : Int) + (1 : Int))))), i64 (x 4 (Int.toNat (w ((i : Int) + (1 : Int))))), i64 (x 5 (Int.toNat (w ((i : Int) + (1 : Int)))))], i64 (arg (Int.toNat (i : Int)))]) ∧ ([] : List (Option Chunk)) = []) (
           if (0 : Int) ≤ (i : Int) ∧ (i : Int) < (n : Int) then
            if (0 : Int) ≤ w (e (Int.toNat (i : Int)) + (1 : Int)) ∧ w (e (Int.toNat (i : Int)) + (1 : Int)) < (n : Int) then
             cl (QAdd ([V.agg [i64 (tmE (x 0 (Int.toNat (w ((i : Int) + (1 : Int))))) (arg (Int.toNat (i : Int)))), i64 (tmE (x 1 (Int.toNat (w ((i : Int) + (1 : Int))))) (arg (Int.toNat (i : Int)))), i64 (tmE (x 2 (Int.toNat (w ((i : Int) + (1 : Int))))) (arg (Int.toNat (i : Int)))), i64 (tmE (x 3 (Int.toNat (w ((i : Int) + (1 : Int))))) (arg (Int.toNat (i : Int)))), i64 (tmE (x 4 (Int.toNat (w ((i : Int) + (1 : Int))))) (arg (Int.toNat (i : Int)))), i64 (tmE (x 5 (Int.toNat (w ((i : Int) + (1 : Int))))) (arg (Int.toNat (i : Int))))], V.agg [i64 (x 0 (Int.toNat (w (e (Int.toNat (i : Int)) + (1 : Int))))), i64 (x 1 (Int.toNat (w (e (Int.toNat (i : Int)) + (1 : Int))))), i64 (x 2 (Int.toNat (w (e (Int.toNat (i : Int)) + (1 : Int))))), i64 (x 3 (Int.toNat (w (e (Int.toNat (i : Int)) + (1 : Int))))), i64 (x 4 (Int.toNat (w (e (Int.toNat (i : Int)) + (1 : Int))))), i64 (x 5 (Int.toNat (w (e (Int.toNat (i : Int)) + (1 : Int)))))]]) ∧ ([] : List (Option Chunk)) = []) (
              some (Ans.c (CRes.ret (V.agg [i64 (addE (tmE (x 0 (Int.toNat (w ((i : Int) + (1 : Int))))) (arg (Int.toNat (i : Int)))) (x 0 (Int.toNat (w (e (Int.toNat (i : Int)) + (1 : Int)))))), i64 (addE (tmE (x 1 (Int.toNat (w ((i : Int) + (1 : Int))))) (arg (Int.toNat (i : Int)))) (x 1 (Int.toNat (w (e (Int.toNat (i : Int)) + (1 : Int)))))), i64 (addE (tmE (x 2 (Int.toNat (w ((i : Int) + (1 : Int))))) (arg (Int.toNat (i : Int)))) (x 2 (Int.toNat (w (e (Int.toNat (i : Int)) + (1 : Int)))))), i64 (addE (tmE (x 3 (Int.toNat (w ((i : Int) + (1 : Int))))) (arg (Int.toNat (i : Int)))) (x 3 (Int.toNat (w (e (Int.toNat (i : Int)) + (1 : Int)))))), i64 (addE (tmE (x 4 (Int.toNat (w ((i : Int) + (1 : Int))))) (arg (Int.toNat (i : Int)))) (x 4 (Int.toNat (w (e (Int.toNat (i : Int)) + (1 : Int)))))), i64 (addE (tmE (x 5 (Int.toNat (w ((i : Int) + (1 : Int))))) (arg (Int.toNat (i : Int)))) (x 5 (Int.toNat (w (e (Int.toNat (i : Int)) + (1 : Int))))))]) []))) (
              none)
            else
             none
           else
            none) (
           none)
         else
          none
        else
         cl ((QOw n op arg k a b c R W) ([V.agg [i64 (op (Int.toNat (i : Int))), i64 (arg (Int.toNat (i : Int)))], V.agg [V.ro 3 k (r3 a b c), i64 R, i64 W]]) ∧ ([] : List (Option Chunk)) = []) (
          if (0 : Int) ≤ w ((i : Int) + (1 : Int)) ∧ w ((i : Int) + (1 : Int)) < (n : Int) then
           cl (QAdd ([V.agg [i64 (owE a b R W (op (Int.toNat (i : Int))) (arg (Int.toNat (i : Int))) 0), i64 (owE a b R W (op (Int.toNat (i : Int))) (arg (Int.toNat (i : Int))) 1), i64 (owE a b R W (op (Int.toNat (i : Int))) (arg (Int.toNat (i : Int))) 2), i64 (owE a b R W (op (Int.toNat (i : Int))) (arg (Int.toNat (i : Int))) 3), i64 (owE a b R W (op (Int.toNat (i : Int))) (arg (Int.toNat (i : Int))) 4), i64 (owE a b R W (op (Int.toNat (i : Int))) (arg (Int.toNat (i : Int))) 5)], V.agg [i64 (x 0 (Int.toNat (w ((i : Int) + (1 : Int))))), i64 (x 1 (Int.toNat (w ((i : Int) + (1 : Int))))), i64 (x 2 (Int.toNat (w ((i : Int) + (1 : Int))))), i64 (x 3 (Int.toNat (w ((i : Int) + (1 : Int))))), i64 (x 4 (Int.toNat (w ((i : Int) + (1 : Int))))), i64 (x 5 (Int.toNat (w ((i : Int) + (1 : Int)))))]]) ∧ ([] : List (Option Chunk)) = []) (
            some (Ans.c (CRes.ret (V.agg [i64 (addE (owE a b R W (op (Int.toNat (i : Int))) (arg (Int.toNat (i : Int))) 0) (x 0 (Int.toNat (w ((i : Int) + (1 : Int)))))), i64 (addE (owE a b R W (op (Int.toNat (i : Int))) (arg (Int.toNat (i : Int))) 1) (x 1 (Int.toNat (w ((i : Int) + (1 : Int)))))), i64 (addE (owE a b R W (op (Int.toNat (i : Int))) (arg (Int.toNat (i : Int))) 2) (x 2 (Int.toNat (w ((i : Int) + (1 : Int)))))), i64 (addE (owE a b R W (op (Int.toNat (i : Int))) (arg (Int.toNat (i : Int))) 3) (x 3 (Int.toNat (w ((i : Int) + (1 : Int)))))), i64 (addE (owE a b R W (op (Int.toNat (i : Int))) (arg (Int.toNat (i : Int))) 4) (x 4 (Int.toNat (w ((i : Int) + (1 : Int)))))), i64 (addE (owE a b R W (op (Int.toNat (i : Int))) (arg (Int.toNat (i : Int))) 5) (x 5 (Int.toNat (w ((i : Int) + (1 : Int))))))]) []))) (
            none)
          else
           none) (
          none)
  else
   none := by kernel_rfl

/-- The code is valid and suits the rig. -/
structure Fit (vs : Int) (n : Nat) (op arg : Nat → Int) (k : Nat) (a b c : Nat → Int) (R W : Int) : Prop where
  vp : Cv.VP (mkC vs n op arg)
  n3 : n ≤ 300
  n0 : n ≠ 0
  rig : rigP k a b c R W
  job : jobP n op arg k
theorem Fit.stop {vs : Int} {n : Nat} {op arg : Nat → Int} {k : Nat} {a b c : Nat → Int} {R W : Int} (h : Fit vs n op arg k a b c R W) {i : Nat} (hi : i < n) (h28 : op i ≠ 28) : i + 1 < n := by
  have hs : op i = 28 ↔ i + 1 = n := (h.vp.1 i hi).2
  by_cases g : i + 1 = n
  · exact absurd (hs.2 g) h28
  · omega
theorem Fit.jump {vs : Int} {n : Nat} {op arg : Nat → Int} {k : Nat} {a b c : Nat → Int} {R W : Int} (h : Fit vs n op arg k a b c R W) {i : Nat} (hi : i < n) (hj : op i = 14 ∨ op i = 15) : (i : Int) + 1 ≤ arg i ∧ arg i ≤ (n : Int) - 1 := Cv.rng_jump (c := mkC vs n op arg) (i := i) hj (h.vp.1 i hi).1
theorem Fit.work {vs : Int} {n : Nat} {op arg : Nat → Int} {k : Nat} {a b c : Nat → Int} {R W : Int} (h : Fit vs n op arg k a b c R W) {i : Nat} (hi : i < n) (hj : op i = 23) : 0 ≤ w (Int.tdiv (arg i) 1000000) ∧ w (Int.tdiv (arg i) 1000000) < k := by
  refine ⟨?_, h.job i (Nat.zero_le _) hi hj⟩
  have hr : Cv.rng (mkC vs n op arg) i := (h.vp.1 i hi).1
  unfold Cv.rng Cv.rngL Cv.rngH at hr
  have e1 : (mkC vs n op arg).op i = op i := rfl
  have e2 : (mkC vs n op arg).arg i = arg i := rfl
  rw [e1, e2, hj] at hr
  have h0 : 0 ≤ arg i ∧ arg i ≤ 7999999 := by simpa using hr
  rw [Int.tdiv_eq_ediv_of_nonneg h0.1, w_in (by unfold inR; omega)]
  omega
theorem Fit.loop {vs : Int} {n : Nat} {op arg : Nat → Int} {k : Nat} {a b c : Nat → Int} {R W : Int} (h : Fit vs n op arg k a b c R W) {i : Nat} (hi : i < n) (hj : op i = 16) : Cv.endF (mkC vs n op arg) i = Cv.endR (mkC vs n op arg) i ∧ (i : Int) < Cv.endF (mkC vs n op arg) i ∧ Cv.endF (mkC vs n op arg) i + 1 < n := Cv.end_same h.vp hi hj
set_option maxRecDepth 100000 in
theorem need_sc (nm : ByteArray) (ps : Int) {vs : Int} {n : Nat} {op arg : Nat → Int} {k : Nat} {a b c : Nat → Int} {R W : Int} (hf : Fit vs n op arg k a b c R W) (x : Nat → Nat → Int) {i : Nat} (hi : i < n) : SC E2 40 [codV nm ps vs n op arg, rigV k a b c R W, .ro 1 n (r1 (Cv.endF (mkC vs n op arg))), crt n x, i64 i] [] (.ret (c6 (ndF (mkC vs n op arg) a b R W x i)) []) := by
  have hn := hf.n3
  refine SC.of hW2 hX2 (sC40 (n := n) (op := op) (arg := arg) hf.rig.1.2.1) ltab2_nil ((f40 nm ps vs n op arg k a b c R W (Cv.endF (mkC vs n op arg)) x i).trans ?_)
  have hbb : (0 : Int) ≤ (i : Int) ∧ (i : Int) < (n : Int) := by omega
  have ew : w ((i : Int) + 1) = ((i + 1 : Nat) : Int) := by rw [w_in (by unfold inR; omega)]; omega
  have eo : (mkC vs n op arg).op i = op i := rfl
  have ea : (mkC vs n op arg).arg i = arg i := rfl
  rw [if_pos hbb]
  unfold ndF
  rw [eo, ea]
  simp only [Int.toNat_natCast, ew, eq_self]
  by_cases h28 : op i = 28
  · rw [if_pos (by simpa using h28), if_pos (.inl h28)]; rfl
  have hs := hf.stop hi h28
  have hb1 : (0 : Int) ≤ ((i + 1 : Nat) : Int) ∧ ((i + 1 : Nat) : Int) < (n : Int) := by omega
  rw [if_neg (by simpa using h28)]
  by_cases h27 : op i = 27
  · rw [if_pos (by simpa using h27), if_pos (.inr (.inl h27))]; rfl
  rw [if_neg (by simpa using h27)]
  by_cases h17 : op i = 17
  · rw [if_pos (by simpa using h17), if_pos (.inr (.inr h17))]; rfl
  rw [if_neg (by simpa using h17), if_neg (show ¬ (op i = 28 ∨ op i = 27 ∨ op i = 17) by omega)]
  by_cases h14 : op i = 14
  · have hj := hf.jump hi (.inl h14)
    rw [if_pos (by simpa using h14), if_pos h14, if_pos (by omega)]; rfl
  rw [if_neg (by simpa using h14), if_neg h14]
  by_cases h15 : op i = 15
  · have hj := hf.jump hi (.inr h15)
    rw [if_pos (by simpa using h15), if_pos h15, if_pos hb1, if_pos (by omega), cl_pos ⟨qmx3 _ _ _ _ _ _ _ _ _ _ _ _, trivial⟩]; rfl
  rw [if_neg (by simpa using h15), if_neg h15]
  by_cases h16 : op i = 16
  · obtain ⟨_, e1, e2⟩ := hf.loop hi h16
    have ee : w (Cv.endF (mkC vs n op arg) i + 1) = Cv.endF (mkC vs n op arg) i + 1 := w_in (by unfold inR; omega)
    rw [if_pos (by simpa using h16), if_pos h16, if_pos hb1, cl_pos ⟨qtm _ _ _ _ _ _ _, trivial⟩, if_pos hbb, ee, if_pos (by omega), cl_pos ⟨qadd _ _ _ _ _ _ _ _ _ _ _ _, trivial⟩]; rfl
  rw [if_neg (by simpa using h16), if_neg h16, cl_pos ⟨⟨_, _, rfl, fun g => hf.work hi g⟩, trivial⟩, if_pos hb1, cl_pos ⟨qadd _ _ _ _ _ _ _ _ _ _ _ _, trivial⟩]; rfl
end Go.Proofs.Ythegipdgillngaa
/- Certify (14, 15), walked. -/
namespace Go.Proofs.Ythegipdgillngaa
open Go Go.Am Go.Proofs
set_option linter.unusedSimpArgs false
set_option linter.unusedVariables false
def S14 (nm : ByteArray) (ps vs : Int) (n : Nat) (op arg : Nat → Int) (k : Nat) (a b c : Nat → Int) (R W : Int) (e : Nat → Int) (i : Nat) (x : Nat → Nat → Int) : St := { fr := [.junk, .junk, .ptr 0 0, .ptr 1 0, .junk, .junk, .junk, .sl 2 6 0 n, .ro 1 n (r1 e), i64 i] ++ jk 29, H := hp [some (.blk [st nm, i64 ps, i64 vs, cd n op arg]), some (.blk [.ro 3 k (r3 a b c), i64 R, i64 W]), some (.row 45 6 n (rc x))], nx := 3, rt := 0, me := 14 }
def S14m (nm : ByteArray) (ps vs : Int) (n : Nat) (op arg : Nat → Int) (k : Nat) (a b c : Nat → Int) (R W : Int) (e : Nat → Int) (x : Nat → Nat → Int) : St := { fr := [.junk, .junk, .ptr 0 0, .ptr 1 0, .junk, .junk, .junk, .sl 2 6 0 n, .ro 1 n (r1 e), i64 (-1)] ++ jk 29, H := hp [some (.blk [st nm, i64 ps, i64 vs, cd n op arg]), some (.blk [.ro 3 k (r3 a b c), i64 R, i64 W]), some (.row 45 6 n (rc x))], nx := 3, rt := 0, me := 14 }
def T14 (n : Nat) (x : Nat → Nat → Int) : St := { fr := jk 7 ++ [.sl 0 6 0 n] ++ jk 31, H := hp [some (.row 45 6 n (rc x))], nx := 1, rt := 0, me := 14 }
noncomputable def C14n (nm : ByteArray) (ps vs : Int) (n : Nat) (op arg : Nat → Int) (k : Nat) (a b c : Nat → Int) (R W : Int) (e : Nat → Int) (x : Nat → Nat → Int) (i : Nat) (nv : Nat → Int) : CallT := ptab 40 (fun args => args = [codV nm ps vs n op arg, rigV k a b c R W, .ro 1 n (r1 e), crt n x, i64 i]) (fun _ => c6 nv) (tab [])
noncomputable def C14f (nm : ByteArray) (ps vs : Int) (n : Nat) (op arg : Nat → Int) (k : Nat) (a b c : Nat → Int) (R W : Int) (e : Nat → Int) : CallT := ptab 38 (QCR nm ps vs n op arg k a b c R W) (fun _ => i64 (chkV ps vs n op arg k a b c R W)) (ptab 39 (fun args => args = [codV nm ps vs n op arg] ∧ chkV ps vs n op arg k a b c R W = 0) (fun _ => .ro 1 n (r1 e)) (tab []))
theorem r14 (nm : ByteArray) (ps vs : Int) (n : Nat) (op arg : Nat → Int) (k : Nat) (a b c : Nat → Int) (R W : Int) (e : Nat → Int) (i : Nat) (x : Nat → Nat → Int) (nv : Nat → Int) (lo : LoopT) : loopK E2 (C14n nm ps vs n op arg k a b c R W e x i nv) lo 0 908 (bodyOf E2 14 0) (S14 nm ps vs n op arg k a b c R W e i x) (KC2 128 48) =
  if 0 + n ≤ n ∧ 6 = 6 then
   cl ((fun args => args = [codV nm ps vs n op arg, rigV k a b c R W, .ro 1 n (r1 e), crt n x, i64 i]) ([V.agg [V.sc (Value.string nm), i64 ps, i64 vs, V.ro 2 n (ins op arg)], V.agg [V.ro 3 k (r3 a b c), i64 R, i64 W], V.ro 1 n (r1 e), V.ro 6 n fun (j : Nat) => rc x (0 + j), i64 (i : Int)]) ∧ ([] : List (Option Chunk)) = []) (
    if (0 : Int) ≤ (i : Int) ∧ (i : Int) < (n : Int) then
     if 0 + Int.toNat (i : Int) < n ∧ 6 = 6 then
      lo 0 908 (bodyOf E2 14 0) ({ fr := [V.junk, V.junk, V.ptr 0 0, V.ptr 1 0, V.junk, V.junk, V.junk, V.sl 2 6 0 n, V.ro 1 n (r1 e), i64 (w ((i : Int) - (1 : Int)))] ++ jk 29, H := hp [some (Chunk.blk [V.sc (Value.string nm), i64 ps, i64 vs, V.ro 2 n (ins op arg)]), some (Chunk.blk [V.ro 3 k (r3 a b c), i64 R, i64 W]), some (Chunk.row 45 6 n (putF true (0 + Int.toNat (i : Int)) 0 [i64 (nv 0), i64 (nv 1), i64 (nv 2), i64 (nv 3), i64 (nv 4), i64 (nv 5)] (rc x)))], nx := 3, rt := 0, me := 14 }) (KC2 128 48)
     else
      none
    else
     none) (
    none)
  else
   none := by kernel_rfl
theorem r14m (nm : ByteArray) (ps vs : Int) (n : Nat) (op arg : Nat → Int) (k : Nat) (a b c : Nat → Int) (R W : Int) (e : Nat → Int) (x : Nat → Nat → Int) (lo : LoopT) : loopK E2 (tab []) lo 0 908 (bodyOf E2 14 0) (S14m nm ps vs n op arg k a b c R W e x) (KC2 128 48) =
  some (Ans.l (Ex.exit 0) { fr := [V.junk, V.junk, V.junk, V.junk, V.junk, V.junk, V.junk, V.sl 0 6 0 n] ++ jk 31, H := hp [some (Chunk.row 45 6 n (rc x))], nx := 1, rt := 0, me := 14 }) := by kernel_rfl
theorem f14 (nm : ByteArray) (ps vs : Int) (n : Nat) (op arg : Nat → Int) (k : Nat) (a b c : Nat → Int) (R W : Int) (e : Nat → Int) (x : Nat → Nat → Int) (S1 : St) (P : Prop) : callK E2 (C14f nm ps vs n op arg k a b c R W e) (ltab2 [⟨0, bodyOf E2 14 0, S1, P, .exit 0, T14 n x, .exit 0, T14 n x⟩]) 14 [codV nm ps vs n op arg, rigV k a b c R W] [] K =
  cl ((QCR nm ps vs n op arg k a b c R W) ([V.agg [V.sc (Value.string nm), i64 ps, i64 vs, V.ro 2 n (ins op arg)], V.agg [V.ro 3 k (r3 a b c), i64 R, i64 W]]) ∧ ([] : List (Option Chunk)) = []) (
   if (chkV ps vs n op arg k a b c R W != (0 : Int)) = true then
    some (Ans.c (CRes.ret (V.tup [V.sc (Value.slice none 0 0), i64 (chkV ps vs n op arg k a b c R W)]) []))
   else
    if (n : Int) = (n : Int) ∧ (0 : Int) ≤ (n : Int) ∧ 0 < 6 ∧ 6 = 6 ∧ Int.toNat (n : Int) * 48 ≤ 281474976710656 ∧ Int.toNat (n : Int) ≤ maxLen ∧ (allOk 6 1 fun (x : Nat) => List.map V.sc (Array.toList (Value.cells (Value.agg #[Value.int IntKind.i64 0, Value.int IntKind.i64 0, Value.int IntKind.i64 0, Value.int IntKind.i64 0, Value.int IntKind.i64 0, Value.int IntKind.i64 0])))) = true then
     cl ((fun args => args = [codV nm ps vs n op arg] ∧ chkV ps vs n op arg k a b c R W = 0) ([V.agg [V.sc (Value.string nm), i64 ps, i64 vs, V.ro 2 n (ins op arg)]]) ∧ ([] : List (Option Chunk)) = []) (
      cl ((bodyOf E2 14 0) = (bodyOf E2 14 0) ∧ LeSt ({ fr := [V.junk, V.junk, V.ptr 0 0, V.ptr 1 0, V.junk, V.junk, V.junk, V.sl 2 6 0 (Int.toNat (n : Int)), V.ro 1 n (r1 e), i64 (w (((Int.toNat (n : Int) : Nat) : Int) - (1 : Int)))] ++ jk 29, H := hp [some (Chunk.blk [V.sc (Value.string nm), i64 ps, i64 vs, V.ro 2 n (ins op arg)]), some (Chunk.blk [V.ro 3 k (r3 a b c), i64 R, i64 W]), some (Chunk.row 45 6 (Int.toNat (n : Int)) fun (x : Nat) => List.map V.sc (Array.toList (Value.cells (Value.agg #[Value.int IntKind.i64 0, Value.int IntKind.i64 0, Value.int IntKind.i64 0, Value.int IntKind.i64 0, Value.int IntKind.i64 0, Value.int IntKind.i64 0]))))], nx := 3, rt := 0, me := 14 }) (S1)) (
       cl (P) (
        some (Ans.c (CRes.ret (V.tup [V.sl 0 6 0 n, i64 0]) [some (Chunk.row 45 6 n (rc x))]))) (
        some (Ans.c (CRes.ret (V.tup [V.sl 0 6 0 n, i64 0]) [some (Chunk.row 45 6 n (rc x))])))) (
       none)) (
      none)
    else
     none) (
   none) := by kernel_rfl
theorem k14 (n : Nat) (x : Nat → Nat → Int) : KC2 128 48 (.exit 0) (T14 n x) = some (.l (.exit 0) (T14 n x)) := by kernel_rfl
def putR (x : Nat → Nat → Int) (i : Nat) (v : Nat → Int) : Nat → Nat → Int := fun q p => if p = i then v q else x q p
/-- The certificate's rows, from the last one on. -/
def certX (F : (Nat → Nat → Int) → Nat → Nat → Int) (n : Nat) : Nat → Nat → Nat → Int
  | 0 => fun _ _ => 0
  | r + 1 => putR (certX F n r) (n - 1 - r) (F (certX F n r) (n - 1 - r))
theorem certX_step (F : (Nat → Nat → Int) → Nat → Nat → Int) {n i : Nat} (hi : i < n) : certX F n (n - i) = putR (certX F n (n - 1 - i)) i (F (certX F n (n - 1 - i)) i) := by
  have e1 : n - i = (n - 1 - i) + 1 := by omega
  have e2 : n - 1 - (n - 1 - i) = i := by omega
  rw [e1, certX, e2]
theorem row_put6 (x : Nat → Nat → Int) (i : Nat) (v : Nat → Int) (j : Nat) : putF true i 0 [i64 (v 0), i64 (v 1), i64 (v 2), i64 (v 3), i64 (v 4), i64 (v 5)] (rc x) j = rc (putR x i v) j := by
  rw [putF_eq]
  unfold rc putR
  by_cases h : j = i
  · simp only [if_pos h]; rfl
  · simp only [if_neg h]
set_option maxRecDepth 100000 in
theorem loop14 (nm : ByteArray) (ps : Int) {vs : Int} {n : Nat} {op arg : Nat → Int} {k : Nat} {a b c : Nat → Int} {R W : Int} (hf : Fit vs n op arg k a b c R W) : ∀ i, i < n → SL E2 (bodyOf E2 14 0) (S14 nm ps vs n op arg k a b c R W (Cv.endF (mkC vs n op arg)) i (certX (ndF (mkC vs n op arg) a b R W) n (n - 1 - i))) (.exit 0) (T14 n (certX (ndF (mkC vs n op arg) a b R W) n n)) := by
  have hn := hf.n3
  intro i
  induction i with
  | zero =>
    intro hi
    have st := certX_step (ndF (mkC vs n op arg) a b R W) hi
    rw [Nat.sub_zero, Nat.sub_zero] at st
    rw [Nat.sub_zero]
    generalize hX : certX (ndF (mkC vs n op arg) a b R W) n (n - 1) = X at st ⊢
    have hC : SoundC E2 (C14n nm ps vs n op arg k a b c R W (Cv.endF (mkC vs n op arg)) X 0 ((ndF (mkC vs n op arg) a b R W) X 0)) := ptab_cons (fun args h => by cases h; exact need_sc nm ps hf X hi) tab_nil
    have fin : SL E2 (bodyOf E2 14 0) (S14m nm ps vs n op arg k a b c R W (Cv.endF (mkC vs n op arg)) (certX (ndF (mkC vs n op arg) a b R W) n n)) (.exit 0) (T14 n (certX (ndF (mkC vs n op arg) a b R W) n n)) := SL.by2 (m := 128) (r := 48) tab_nil hX2 ltab2_nil ((r14m nm ps vs n op arg k a b c R W (Cv.endF (mkC vs n op arg)) _ _).trans rfl)
    have tree := fun lo => r14 nm ps vs n op arg k a b c R W (Cv.endF (mkC vs n op arg)) 0 X ((ndF (mkC vs n op arg) a b R W) X 0) lo
    have hc1 : n ≤ n ∧ True := ⟨Nat.le_refl _, trivial⟩
    have hbb : (0 : Int) ≤ ((0 : Nat) : Int) ∧ ((0 : Nat) : Int) < (n : Int) := by omega
    have hc2 : 0 < n ∧ True := ⟨hi, trivial⟩
    have ew : w (((0 : Nat) : Int) - 1) = -1 := by decide
    simp only [Nat.zero_add, eq_self, if_pos hc1, Int.toNat_natCast, if_pos hbb, if_pos hc2, ew] at tree
    refine (Ends.next (e2 := .exit 0) (T2 := T14 n (certX (ndF (mkC vs n op arg) a b R W) n n)) (P := True) (m := 128) (r := 48) hC ⟨fun _ => fin, fun h => absurd trivial h⟩ (k14 _ _) ?_ ?_ fun lo => (tree lo).trans (cl_pos ⟨rfl, trivial⟩)).1 trivial
    · exact k14 _ _
    · rw [st]
      exact LeSt.mk' (LeL.refl _) ⟨ChLe.refl _, ChLe.refl _, ChLe.row fun j _ => row_put6 _ _ _ _, trivial⟩
  | succ i ih =>
    intro hi
    have st := certX_step (ndF (mkC vs n op arg) a b R W) hi
    rw [show n - (i + 1) = n - 1 - i by omega] at st
    have ih' := ih (by omega)
    generalize hX : certX (ndF (mkC vs n op arg) a b R W) n (n - 1 - (i + 1)) = X at st ⊢
    have hC : SoundC E2 (C14n nm ps vs n op arg k a b c R W (Cv.endF (mkC vs n op arg)) X (i + 1) ((ndF (mkC vs n op arg) a b R W) X (i + 1))) := ptab_cons (fun args h => by cases h; exact need_sc nm ps hf X hi) tab_nil
    have tree := fun lo => r14 nm ps vs n op arg k a b c R W (Cv.endF (mkC vs n op arg)) (i + 1) X ((ndF (mkC vs n op arg) a b R W) X (i + 1)) lo
    have hc1 : n ≤ n ∧ True := ⟨Nat.le_refl _, trivial⟩
    have hbb : (0 : Int) ≤ ((i + 1 : Nat) : Int) ∧ ((i + 1 : Nat) : Int) < (n : Int) := by omega
    have hc2 : i + 1 < n ∧ True := ⟨hi, trivial⟩
    have ew : w (((i + 1 : Nat) : Int) - 1) = (i : Int) := by rw [w_in (by unfold inR; omega)]; omega
    simp only [Nat.zero_add, eq_self, if_pos hc1, Int.toNat_natCast, if_pos hbb, if_pos hc2, ew] at tree
    refine (Ends.next (e2 := .exit 0) (T2 := T14 n (certX (ndF (mkC vs n op arg) a b R W) n n)) (P := True) (m := 128) (r := 48) hC ⟨fun _ => ih', fun h => absurd trivial h⟩ (k14 _ _) ?_ ?_ fun lo => (tree lo).trans (cl_pos ⟨rfl, trivial⟩)).1 trivial
    · exact k14 _ _
    · rw [st]
      exact LeSt.mk' (LeL.refl _) ⟨ChLe.refl _, ChLe.refl _, ChLe.row fun j _ => row_put6 _ _ _ _, trivial⟩
/-- The certificate of the code for the rig. -/
def certF (vs : Int) (n : Nat) (op arg : Nat → Int) (a b : Nat → Int) (R W : Int) : Nat → Nat → Int := certX (ndF (mkC vs n op arg) a b R W) n n
open Classical in
noncomputable def certN (ps vs : Int) (n : Nat) (op arg : Nat → Int) (k : Nat) (a b c : Nat → Int) (R W : Int) : Nat := if chkV ps vs n op arg k a b c R W = 0 then n else 0
noncomputable def certV (ps vs : Int) (n : Nat) (op arg : Nat → Int) (k : Nat) (a b c : Nat → Int) (R W : Int) : V := .tup [crt (certN ps vs n op arg k a b c R W) (certF vs n op arg a b R W), i64 (chkV ps vs n op arg k a b c R W)]
theorem fit_of {ps vs : Int} {n : Nat} {op arg : Nat → Int} {k : Nat} {a b c : Nat → Int} {R W : Int} (h : chkV ps vs n op arg k a b c R W = 0) : Fit vs n op arg k a b c R W := by
  obtain ⟨h1, h2, h3, h4, h5⟩ := chk0 h
  exact ⟨h1, h2, h3, h4, h5⟩
theorem bw_cert {n : Nat} {f : Nat → List V} : V.bw (hp [some (Chunk.row 45 6 n f)]) (.tup [.sl 0 6 0 n, i64 0]) = .tup [.ro 6 n (fun j => f (0 + j)), i64 0] := by
  simp [V.bw, V.bw2, V.bw1, hp]
theorem cert_give {f : FuncId} {args : List V} {n : Nat} {x : Nat → Nat → Int} (h : SC E2 f args [] (.ret (.tup [.sl 0 6 0 n, i64 0]) [some (Chunk.row 45 6 n (rc x))])) : SC E2 f args [] (.ret (.tup [crt n x, i64 0]) []) := by
  refine (SC.give h (by rw [bw_cert]; rfl)).le ?_
  rw [bw_cert]
  exact Le.tup (LeL.cons (Le.ro_eq fun j hj => ⟨by rw [Nat.zero_add], rfl⟩) (LeL.refl _))
set_option maxRecDepth 100000 in
theorem certify_sc (nm : ByteArray) (ps vs : Int) (n : Nat) (op arg : Nat → Int) (k : Nat) (a b c : Nat → Int) (R W : Int) (hn : n ≤ Go.maxLen) : SC E2 14 [codV nm ps vs n op arg, rigV k a b c R W] [] (.ret (certV ps vs n op arg k a b c R W) []) := by
  have hC : SoundC E2 (C14f nm ps vs n op arg k a b c R W (Cv.endF (mkC vs n op arg))) := ptab_cons (fun args h => by cases h; exact check_sc nm ps vs n op arg k a b c R W hn) (ptab_cons (fun args h => by
    obtain ⟨rfl, h⟩ := h
    have hf := fit_of h
    exact ends_sc nm ps vs hf.n3 (vp17 hf.vp)) tab_nil)
  unfold certV certN
  by_cases h : chkV ps vs n op arg k a b c R W = 0
  · have hf := fit_of h
    have hn3 := hf.n3
    have hn0 := hf.n0
    rw [if_pos h, h]
    refine cert_give ?_
    have l1 := loop14 nm ps hf (n - 1) (by omega)
    rw [Nat.sub_self] at l1
    refine SC.of hW2 hX2 hC (ltab2_cons (x := ⟨0, _, _, True, _, _, .exit 0, T14 n (certX (ndF (mkC vs n op arg) a b R W) n n)⟩) ⟨fun _ => l1, fun g => absurd trivial g⟩ ltab2_nil) ((f14 nm ps vs n op arg k a b c R W (Cv.endF (mkC vs n op arg)) _ _ _).trans ?_)
    have hc : (n : Int) = (n : Int) ∧ (0 : Int) ≤ (n : Int) ∧ 0 < 6 ∧ 6 = 6 ∧ Int.toNat (n : Int) * 48 ≤ 281474976710656 ∧ Int.toNat (n : Int) ≤ Go.maxLen ∧ (allOk 6 1 fun (x : Nat) => List.map V.sc (Array.toList (Value.cells (Value.agg #[Value.int IntKind.i64 0, Value.int IntKind.i64 0, Value.int IntKind.i64 0, Value.int IntKind.i64 0, Value.int IntKind.i64 0, Value.int IntKind.i64 0])))) = true := by
      refine ⟨rfl, by omega, by decide, rfl, by rw [Int.toNat_natCast]; omega, by rw [Int.toNat_natCast]; unfold Go.maxLen; omega, by kernel_rfl⟩
    have ew : w ((((Int.toNat (n : Int)) : Nat) : Int) - 1) = ((n - 1 : Nat) : Int) := by rw [Int.toNat_natCast, w_in (by unfold inR; omega)]; omega
    rw [cl_pos ⟨rfl, rfl⟩, if_neg (by rw [h]; decide), if_pos hc, cl_pos ⟨⟨rfl, h⟩, rfl⟩, ew, cl_pos ⟨rfl, (by
      rw [Int.toNat_natCast]
      exact LeSt.mk' (LeL.refl _) ⟨ChLe.refl _, ChLe.refl _, ChLe.row fun j _ => rfl, trivial⟩)⟩, cl_pos trivial]
    rfl
  · rw [if_neg h]
    refine (SC.of (cr := .ret (.tup [.sc (.slice none 0 0), i64 (chkV ps vs n op arg k a b c R W)]) []) hW2 hX2 hC (ltab2_cons (x := ⟨0, bodyOf E2 14 0, S14m nm ps vs n op arg k a b c R W (Cv.endF (mkC vs n op arg)) (fun _ _ => 0), True, .exit 0, T14 n (fun _ _ => 0), .exit 0, T14 n (fun _ _ => 0)⟩) ⟨fun _ => SL.by2 (m := 128) (r := 48) tab_nil hX2 ltab2_nil ((r14m nm ps vs n op arg k a b c R W (Cv.endF (mkC vs n op arg)) _ _).trans rfl), fun g => absurd trivial g⟩ ltab2_nil) ((f14 nm ps vs n op arg k a b c R W (Cv.endF (mkC vs n op arg)) (fun _ _ => 0) _ _).trans ?_)).le ?_
    · rw [cl_pos ⟨rfl, rfl⟩, if_pos (neT h)]
    · exact Le.tup (LeL.cons Le.nil_ro (LeL.refl _))
end Go.Proofs.Ythegipdgillngaa
/- Verify of certificates (19, 20), walked. -/
namespace Go.Proofs.Ythegipdgillngaa
open Go Go.Am Go.Proofs
set_option linter.unusedSimpArgs false
set_option linter.unusedVariables false
noncomputable def gtab (fs : List Nat) (ca : CallT) : CallT := fun f args L k => if fs.contains f then callG E2 20 f args L k else ca f args L k
theorem gtab_sound {fs : List Nat} {ca : CallT} (h : SoundC E2 ca) : SoundC E2 (gtab fs ca) := by
  intro f args L k r hr
  unfold gtab at hr
  split at hr
  · exact (sound_G hW2 hX2 20).1 f args L k r hr
  · exact h f args L k r hr
noncomputable def lo2 (l : LoopT) : LoopT := fun id live c s k => if id == 2 then loopG E2 20 id live c s k else l id live c s k
theorem lo2_sound {l : LoopT} (h : SoundL E2 l) : SoundL E2 (lo2 l) := by
  intro id live c s k r hr
  unfold lo2 at hr
  split at hr
  · exact (sound_G hW2 hX2 20).2 id live c s k r hr
  · exact h id live c s k r hr
theorem Ends.next2 {C : CallT} (hC : SoundC E2 C) {live m r : Nat} {c : ACode} {P : Prop} {S S' S1 : St} {e1 e2 : Ex} {T1 T2 : St} (h : Ends c P S1 e1 T1 e2 T2) (k1 : KC2 m r e1 T1 = some (.l e1 T1)) (k2 : KC2 m r e2 T2 = some (.l e2 T2)) (hle : LeSt S' S1) (hn : ∀ lo, loopK E2 C (lo2 lo) 0 live c S (KC2 m r) = lo 0 live c S' (KC2 m r)) : Ends c P S e1 T1 e2 T2 := by
  have h0 : loopK E2 C (lo2 (ltab2 [⟨0, c, S1, P, e1, T1, e2, T2⟩])) 0 live c S (KC2 m r) = cl P (some (.l e1 T1)) (some (.l e2 T2)) := by
    refine (hn _).trans ((ltab2_hit hle).trans ?_)
    rw [k1, k2]
  have hs := lo2_sound (ltab2_cons (x := ⟨0, c, S1, P, e1, T1, e2, T2⟩) h ltab2_nil)
  exact ⟨fun p => SL.by2 hC hX2 hs (h0.trans (cl_pos p)), fun p => SL.by2 hC hX2 hs (h0.trans (cl_neg p))⟩
theorem Ends.ret2 {C : CallT} (hC : SoundC E2 C) {live m r : Nat} {c : ACode} {P : Prop} {S : St} {e1 e2 : Ex} {T1 T2 : St} (hp : ¬ P) (hn : ∀ lo, loopK E2 C (lo2 lo) 0 live c S (KC2 m r) = some (.l e2 T2)) : Ends c P S e1 T1 e2 T2 :=
  ⟨fun p => absurd p hp, fun _ => SL.by2 hC hX2 (lo2_sound ltab2_nil) (hn _)⟩
theorem Ends.fin2 {C : CallT} (hC : SoundC E2 C) {live m r : Nat} {c : ACode} {P : Prop} {S : St} {e1 e2 : Ex} {T1 T2 : St} (hp : P) (hn : ∀ lo, loopK E2 C (lo2 lo) 0 live c S (KC2 m r) = some (.l e1 T1)) : Ends c P S e1 T1 e2 T2 :=
  ⟨fun _ => SL.by2 hC hX2 (lo2_sound ltab2_nil) (hn _), fun p => absurd hp p⟩
def S19a (nm : ByteArray) (ps vs : Int) (n : Nat) (op arg : Nat → Int) (k : Nat) (a b c : Nat → Int) (R W : Int) (x : Nat → Nat → Int) (i : Nat) : St := { fr := [.junk, .junk, crt n x, .ptr 0 0, .ptr 1 0] ++ jk 21 ++ [crt n x, i64 n, i64 i] ++ jk 33, H := hp [some (.blk [st nm, i64 ps, i64 vs, cd n op arg]), some (.blk [.ro 3 k (r3 a b c), i64 R, i64 W])], nx := 2, rt := 0, me := 19 }
def T19a (nm : ByteArray) (ps vs : Int) (n : Nat) (op arg : Nat → Int) (k : Nat) (a b c : Nat → Int) (R W : Int) (x : Nat → Nat → Int) : St := { fr := [.junk, .junk, crt n x, .ptr 0 0, .ptr 1 0] ++ jk 57, H := hp [some (.blk [st nm, i64 ps, i64 vs, cd n op arg]), some (.blk [.ro 3 k (r3 a b c), i64 R, i64 W])], nx := 2, rt := 0, me := 19 }
def T19r : St := { fr := jk 6 ++ [i64 14] ++ jk 55, H := hp [], nx := 0, rt := 0, me := 19 }
def S19b (nm : ByteArray) (ps vs : Int) (n : Nat) (op arg : Nat → Int) (k : Nat) (a b c : Nat → Int) (R W : Int) (e : Nat → Int) (x : Nat → Nat → Int) (i : Nat) : St := { fr := [.junk, .junk, crt n x, .ptr 0 0, .ptr 1 0] ++ jk 7 ++ [.ro 1 n (r1 e)] ++ jk 32 ++ [i64 n, i64 i] ++ jk 15, H := hp [some (.blk [st nm, i64 ps, i64 vs, cd n op arg]), some (.blk [.ro 3 k (r3 a b c), i64 R, i64 W])], nx := 2, rt := 0, me := 19 }
def T19b : St := { fr := jk 62, H := hp [], nx := 0, rt := 0, me := 19 }
noncomputable def C19b (nm : ByteArray) (ps vs : Int) (n : Nat) (op arg : Nat → Int) (k : Nat) (a b c : Nat → Int) (R W : Int) (e : Nat → Int) (x : Nat → Nat → Int) (i : Nat) (nv : Nat → Int) : CallT := ptab 40 (fun args => args = [codV nm ps vs n op arg, rigV k a b c R W, .ro 1 n (r1 e), crt n x, i64 i]) (fun _ => c6 nv) (gtab [24] (tab []))
theorem r19a (nm : ByteArray) (ps vs : Int) (n : Nat) (op arg : Nat → Int) (k : Nat) (a b c : Nat → Int) (R W : Int) (x : Nat → Nat → Int) (i : Nat) (lo : LoopT) : loopK E2 (gtab [44, 45] (tab [])) (lo2 lo) 0 469762076 (bodyOf E2 19 0) (S19a nm ps vs n op arg k a b c R W x i) (KC2 28 64) =
  if decide ((i : Int) < (n : Int)) = true then
   if (0 : Int) ≤ (i : Int) ∧ (i : Int) < (n : Int) then
    if decide (x 0 (Int.toNat (i : Int)) ≥ (0 : Int)) = true then
     if (!decide (x 0 (Int.toNat (i : Int)) ≤ (2147483647 : Int))) = true then
      some (Ans.l Ex.ret { fr := [V.junk, V.junk, V.junk, V.junk, V.junk, V.junk, i64 14] ++ jk 55, H := hp [], nx := 0, rt := 0, me := 19 })
     else
      if decide (x 1 (Int.toNat (i : Int)) ≥ (0 : Int)) = true then
       if (!decide (x 1 (Int.toNat (i : Int)) ≤ (2147483647 : Int))) = true then
        some (Ans.l Ex.ret { fr := [V.junk, V.junk, V.junk, V.junk, V.junk, V.junk, i64 14] ++ jk 55, H := hp [], nx := 0, rt := 0, me := 19 })
       else
        if decide (x 2 (Int.toNat (i : Int)) ≥ (0 : Int)) = true then
         if (!decide (x 2 (Int.toNat (i : Int)) ≤ (2147483647 : Int))) = true then
          some (Ans.l Ex.ret { fr := [V.junk, V.junk, V.junk, V.junk, V.junk, V.junk, i64 14] ++ jk 55, H := hp [], nx := 0, rt := 0, me := 19 })
         else
          if decide (x 3 (Int.toNat (i : Int)) ≥ (0 : Int)) = true then
           if (!decide (x 3 (Int.toNat (i : Int)) ≤ (2147483647 : Int))) = true then
            some (Ans.l Ex.ret { fr := [V.junk, V.junk, V.junk, V.junk, V.junk, V.junk, i64 14] ++ jk 55, H := hp [], nx := 0, rt := 0, me := 19 })
           else
            if decide (x 4 (Int.toNat (i : Int)) ≥ (0 : Int)) = true then
             if (!decide (x 4 (Int.toNat (i : Int)) ≤ (2147483647 : Int))) = true then
              some (Ans.l Ex.ret { fr := [V.junk, V.junk, V.junk, V.junk, V.junk, V.junk, i64 14] ++ jk 55, H := hp [], nx := 0, rt := 0, me := 19 })
             else
              if decide (x 5 (Int.toNat (i : Int)) ≥ (0 : Int)) = true then
               if (!decide (x 5 (Int.toNat (i : Int)) ≤ (2147483647 : Int))) = true then
                some (Ans.l Ex.ret { fr := [V.junk, V.junk, V.junk, V.junk, V.junk, V.junk, i64 14] ++ jk 55, H := hp [], nx := 0, rt := 0, me := 19 })
               else
                lo 0 469762076 (bodyOf E2 19 0) ({ fr := [V.junk, V.junk, V.ro 6 n (rc x), V.ptr 0 0, V.ptr 1 0, V.junk, V.junk, V.junk, V.junk, V.junk, V.junk, V.junk, V.junk, V.junk, V.junk, V.junk, V.junk, V.junk, V.junk, V.junk, V.junk, V.junk, V.junk, V.junk, V.junk, V.junk, V.ro 6 n (rc x), i64 (n : Int), i64 (w ((i : Int) + (1 : Int)))] ++ jk 33, H := hp [some (Chunk.blk [V.sc (Value.string nm), i64 ps, i64 vs, V.ro 2 n (ins op arg)]), some (Chunk.blk [V.ro 3 k (r3 a b c), i64 R, i64 W])], nx := 2, rt := 0, me := 19 }) (KC2 28 64)
              else
               some (Ans.l Ex.ret { fr := [V.junk, V.junk, V.junk, V.junk, V.junk, V.junk, i64 14] ++ jk 55, H := hp [], nx := 0, rt := 0, me := 19 })
            else
             some (Ans.l Ex.ret { fr := [V.junk, V.junk, V.junk, V.junk, V.junk, V.junk, i64 14] ++ jk 55, H := hp [], nx := 0, rt := 0, me := 19 })
          else
           some (Ans.l Ex.ret { fr := [V.junk, V.junk, V.junk, V.junk, V.junk, V.junk, i64 14] ++ jk 55, H := hp [], nx := 0, rt := 0, me := 19 })
        else
         some (Ans.l Ex.ret { fr := [V.junk, V.junk, V.junk, V.junk, V.junk, V.junk, i64 14] ++ jk 55, H := hp [], nx := 0, rt := 0, me := 19 })
      else
       some (Ans.l Ex.ret { fr := [V.junk, V.junk, V.junk, V.junk, V.junk, V.junk, i64 14] ++ jk 55, H := hp [], nx := 0, rt := 0, me := 19 })
    else
     some (Ans.l Ex.ret { fr := [V.junk, V.junk, V.junk, V.junk, V.junk, V.junk, i64 14] ++ jk 55, H := hp [], nx := 0, rt := 0, me := 19 })
   else
    none
  else
   some (Ans.l (Ex.exit 0) { fr := [V.junk, V.junk, V.ro 6 n (rc x), V.ptr 0 0, V.ptr 1 0] ++ jk 57, H := hp [some (Chunk.blk [V.sc (Value.string nm), i64 ps, i64 vs, V.ro 2 n (ins op arg)]), some (Chunk.blk [V.ro 3 k (r3 a b c), i64 R, i64 W])], nx := 2, rt := 0, me := 19 }) := by kernel_rfl
theorem r19b (nm : ByteArray) (ps vs : Int) (n : Nat) (op arg : Nat → Int) (k : Nat) (a b c : Nat → Int) (R W : Int) (e : Nat → Int) (x : Nat → Nat → Int) (i : Nat) (nv : Nat → Int) (lo : LoopT) : loopK E2 (C19b nm ps vs n op arg k a b c R W e x i nv) lo 4 105553116270620 (bodyOf E2 19 4) (S19b nm ps vs n op arg k a b c R W e x i) (KC2 0 64) =
  if decide ((i : Int) < (n : Int)) = true then
   cl ((fun args => args = [codV nm ps vs n op arg, rigV k a b c R W, .ro 1 n (r1 e), crt n x, i64 i]) ([V.agg [V.sc (Value.string nm), i64 ps, i64 vs, V.ro 2 n (ins op arg)], V.agg [V.ro 3 k (r3 a b c), i64 R, i64 W], V.ro 1 n (r1 e), V.ro 6 n (rc x), i64 (i : Int)]) ∧ ([] : List (Option Chunk)) = []) (
    if (0 : Int) ≤ (i : Int) ∧ (i : Int) < (n : Int) then
     if (!if false = true then !((if x 0 (Int.toNat (i : Int)) > nv 0 then x 0 (Int.toNat (i : Int)) else nv 0) == x 0 (Int.toNat (i : Int)) && ((if x 1 (Int.toNat (i : Int)) > nv 1 then x 1 (Int.toNat (i : Int)) else nv 1) == x 1 (Int.toNat (i : Int)) && ((if x 2 (Int.toNat (i : Int)) > nv 2 then x 2 (Int.toNat (i : Int)) else nv 2) == x 2 (Int.toNat (i : Int)) && ((if x 3 (Int.toNat (i : Int)) > nv 3 then x 3 (Int.toNat (i : Int)) else nv 3) == x 3 (Int.toNat (i : Int)) && ((if x 4 (Int.toNat (i : Int)) > nv 4 then x 4 (Int.toNat (i : Int)) else nv 4) == x 4 (Int.toNat (i : Int)) && ((if x 5 (Int.toNat (i : Int)) > nv 5 then x 5 (Int.toNat (i : Int)) else nv 5) == x 5 (Int.toNat (i : Int)) && true)))))) else (if x 0 (Int.toNat (i : Int)) > nv 0 then x 0 (Int.toNat (i : Int)) else nv 0) == x 0 (Int.toNat (i : Int)) && ((if x 1 (Int.toNat (i : Int)) > nv 1 then x 1 (Int.toNat (i : Int)) else nv 1) == x 1 (Int.toNat (i : Int)) && ((if x 2 (Int.toNat (i : Int)) > nv 2 then x 2 (Int.toNat (i : Int)) else nv 2) == x 2 (Int.toNat (i : Int)) && ((if x 3 (Int.toNat (i : Int)) > nv 3 then x 3 (Int.toNat (i : Int)) else nv 3) == x 3 (Int.toNat (i : Int)) && ((if x 4 (Int.toNat (i : Int)) > nv 4 then x 4 (Int.toNat (i : Int)) else nv 4) == x 4 (Int.toNat (i : Int)) && ((if x 5 (Int.toNat (i : Int)) > nv 5 then x 5 (Int.toNat (i : Int)) else nv 5) == x 5 (Int.toNat (i : Int)) && true)))))) = true then
      some (Ans.l Ex.ret { fr := [V.junk, V.junk, V.junk, V.junk, V.junk, V.junk, i64 14] ++ jk 55, H := hp [], nx := 0, rt := 0, me := 19 })
     else
      lo 4 105553116270620 (bodyOf E2 19 4) ({ fr := [V.junk, V.junk, V.ro 6 n (rc x), V.ptr 0 0, V.ptr 1 0, V.junk, V.junk, V.junk, V.junk, V.junk, V.junk, V.junk, V.ro 1 n (r1 e), V.junk, V.junk, V.junk, V.junk, V.junk, V.junk, V.junk, V.junk, V.junk, V.junk, V.junk, V.junk, V.junk, V.junk, V.junk, V.junk, V.junk, V.junk, V.junk, V.junk, V.junk, V.junk, V.junk, V.junk, V.junk, V.junk, V.junk, V.junk, V.junk, V.junk, V.junk, V.junk, i64 (n : Int), i64 (w ((i : Int) + (1 : Int)))] ++ jk 15, H := hp [some (Chunk.blk [V.sc (Value.string nm), i64 ps, i64 vs, V.ro 2 n (ins op arg)]), some (Chunk.blk [V.ro 3 k (r3 a b c), i64 R, i64 W])], nx := 2, rt := 0, me := 19 }) (KC2 0 64)
    else
     none) (
    none)
  else
   some (Ans.l (Ex.exit 4) { fr := [V.junk] ++ jk 61, H := hp [], nx := 0, rt := 0, me := 19 }) := by kernel_rfl
theorem f19 (nm : ByteArray) (ps vs : Int) (n : Nat) (op arg : Nat → Int) (k : Nat) (a b c : Nat → Int) (R W : Int) (m : Nat) (e : Nat → Int) (x : Nat → Nat → Int) (S1 S2 : St) (P P2 : Prop) : callK E2 (C14f nm ps vs n op arg k a b c R W e) (ltab2 [⟨0, bodyOf E2 19 0, S1, P, .exit 0, T19a nm ps vs n op arg k a b c R W x, .ret, T19r⟩, ⟨4, bodyOf E2 19 4, S2, P2, .exit 4, T19b, .ret, T19r⟩]) 19 [codV nm ps vs n op arg, rigV k a b c R W, crt m x] [] K =
  cl ((QCR nm ps vs n op arg k a b c R W) ([V.agg [V.sc (Value.string nm), i64 ps, i64 vs, V.ro 2 n (ins op arg)], V.agg [V.ro 3 k (r3 a b c), i64 R, i64 W]]) ∧ ([] : List (Option Chunk)) = []) (
   if (chkV ps vs n op arg k a b c R W != (0 : Int)) = true then
    some (Ans.c (CRes.ret (i64 (chkV ps vs n op arg k a b c R W)) []))
   else
    if ((m : Int) != (n : Int)) = true then
     some (Ans.c (CRes.ret (i64 14) []))
    else
     cl ((bodyOf E2 19 0) = (bodyOf E2 19 0) ∧ LeSt ({ fr := [V.junk, V.junk, V.ro 6 m (rc x), V.ptr 0 0, V.ptr 1 0, V.junk, V.junk, V.junk, V.junk, V.junk, V.junk, V.junk, V.junk, V.junk, V.junk, V.junk, V.junk, V.junk, V.junk, V.junk, V.junk, V.junk, V.junk, V.junk, V.junk, V.junk, V.ro 6 m (rc x), i64 (m : Int), i64 0] ++ jk 33, H := hp [some (Chunk.blk [V.sc (Value.string nm), i64 ps, i64 vs, V.ro 2 n (ins op arg)]), some (Chunk.blk [V.ro 3 k (r3 a b c), i64 R, i64 W])], nx := 2, rt := 0, me := 19 }) (S1)) (
      cl (P) (
       cl ((fun args => args = [codV nm ps vs n op arg] ∧ chkV ps vs n op arg k a b c R W = 0) ([V.agg [V.sc (Value.string nm), i64 ps, i64 vs, V.ro 2 n (ins op arg)]]) ∧ ([] : List (Option Chunk)) = []) (
        cl ((bodyOf E2 19 4) = (bodyOf E2 19 4) ∧ LeSt ({ fr := [V.junk, V.junk, V.ro 6 n (rc x), V.ptr 0 0, V.ptr 1 0, V.junk, V.junk, V.junk, V.junk, V.junk, V.junk, V.junk, V.ro 1 n (r1 e), V.junk, V.junk, V.junk, V.junk, V.junk, V.junk, V.junk, V.junk, V.junk, V.junk, V.junk, V.junk, V.junk, V.junk, V.junk, V.junk, V.junk, V.junk, V.junk, V.junk, V.junk, V.junk, V.junk, V.junk, V.junk, V.junk, V.junk, V.junk, V.junk, V.junk, V.junk, V.junk, i64 (n : Int), i64 0] ++ jk 15, H := hp [some (Chunk.blk [V.sc (Value.string nm), i64 ps, i64 vs, V.ro 2 n (ins op arg)]), some (Chunk.blk [V.ro 3 k (r3 a b c), i64 R, i64 W])], nx := 2, rt := 0, me := 19 }) (S2)) (
         cl (P2) (
          some (Ans.c (CRes.ret (i64 0) []))) (
          some (Ans.c (CRes.ret (i64 14) [])))) (
         none)) (
        none)) (
       some (Ans.c (CRes.ret (i64 14) [])))) (
      none)) (
   none) := by kernel_rfl
theorem k19a (nm : ByteArray) (ps vs : Int) (n : Nat) (op arg : Nat → Int) (k : Nat) (a b c : Nat → Int) (R W : Int) (x : Nat → Nat → Int) : KC2 28 64 (.exit 0) (T19a nm ps vs n op arg k a b c R W x) = some (.l (.exit 0) (T19a nm ps vs n op arg k a b c R W x)) := by kernel_rfl
theorem k19ar : KC2 28 64 .ret T19r = some (.l .ret T19r) := by kernel_rfl
theorem k19b : KC2 0 64 (.exit 4) T19b = some (.l (.exit 4) T19b) := by kernel_rfl
theorem k19br : KC2 0 64 .ret T19r = some (.l .ret T19r) := by kernel_rfl
/-- A row is within the bounds of amounts. -/
def rng6 (x : Nat → Nat → Int) (i : Nat) : Prop := (0 ≤ x 0 i ∧ x 0 i ≤ 2147483647) ∧ (0 ≤ x 1 i ∧ x 1 i ≤ 2147483647) ∧ (0 ≤ x 2 i ∧ x 2 i ≤ 2147483647) ∧ (0 ≤ x 3 i ∧ x 3 i ≤ 2147483647) ∧ (0 ≤ x 4 i ∧ x 4 i ≤ 2147483647) ∧ (0 ≤ x 5 i ∧ x 5 i ≤ 2147483647)
/-- A row holds no less than an amount. -/
def wit6 (v : Nat → Int) (x : Nat → Nat → Int) (i : Nat) : Prop := v 0 ≤ x 0 i ∧ v 1 ≤ x 1 i ∧ v 2 ≤ x 2 i ∧ v 3 ≤ x 3 i ∧ v 4 ≤ x 4 i ∧ v 5 ≤ x 5 i
set_option maxRecDepth 100000 in
theorem loop19a {nm : ByteArray} {ps vs : Int} {n : Nat} {op arg : Nat → Int} {k : Nat} {a b c : Nat → Int} {R W : Int} {x : Nat → Nat → Int} (hn : n ≤ 300) : ∀ (r i : Nat), i + r = n → Ends (bodyOf E2 19 0) (∀ j, i ≤ j → j < n → rng6 x j) (S19a nm ps vs n op arg k a b c R W x i) (.exit 0) (T19a nm ps vs n op arg k a b c R W x) .ret T19r := by
  have hC : SoundC E2 (gtab [44, 45] (tab [])) := gtab_sound tab_nil
  intro r
  induction r with
  | zero =>
    intro i hi
    exact Ends.fin2 hC (fun j h1 h2 => by omega) fun lo => (r19a nm ps vs n op arg k a b c R W x i lo).trans (by rw [if_neg (by simp; omega)]; rfl)
  | succ r ih =>
    intro i hi
    have hid : decide ((i : Int) < (n : Int)) = true := decide_eq_true (by omega)
    have hbb : (0 : Int) ≤ (i : Int) ∧ (i : Int) < (n : Int) := by omega
    have ew : w ((i : Int) + 1) = ((i + 1 : Nat) : Int) := by rw [w_in (by unfold inR; omega)]; omega
    have tree := fun lo => r19a nm ps vs n op arg k a b c R W x i lo
    simp only [if_pos hid, if_pos hbb, Int.toNat_natCast, ew] at tree
    refine Ends.iff ?_ (all_from hi)
    unfold rng6
    by_cases l0 : ¬ (x 0 i ≥ 0)
    · refine Ends.ret2 hC (fun h => l0 (by have := h.1; omega)) fun lo => (tree lo).trans ?_
      simp only [dF l0, if_true, if_false, Bool.false_eq_true, reduceIte]; rfl
    replace l0 := Classical.not_not.1 l0
    by_cases u0 : ¬ (x 0 i ≤ 2147483647)
    · refine Ends.ret2 hC (fun h => u0 (by have := h.1; omega)) fun lo => (tree lo).trans ?_
      simp only [dT l0, dF u0, Bool.not_false, if_true, if_false, Bool.false_eq_true, reduceIte]; rfl
    replace u0 := Classical.not_not.1 u0
    by_cases l1 : ¬ (x 1 i ≥ 0)
    · refine Ends.ret2 hC (fun h => l1 (by have := h.1; omega)) fun lo => (tree lo).trans ?_
      simp only [dT l0, dT u0, Bool.not_true, dF l1, if_true, if_false, Bool.false_eq_true, reduceIte]; rfl
    replace l1 := Classical.not_not.1 l1
    by_cases u1 : ¬ (x 1 i ≤ 2147483647)
    · refine Ends.ret2 hC (fun h => u1 (by have := h.1; omega)) fun lo => (tree lo).trans ?_
      simp only [dT l0, dT u0, Bool.not_true, dT l1, dF u1, Bool.not_false, if_true, if_false, Bool.false_eq_true, reduceIte]; rfl
    replace u1 := Classical.not_not.1 u1
    by_cases l2 : ¬ (x 2 i ≥ 0)
    · refine Ends.ret2 hC (fun h => l2 (by have := h.1; omega)) fun lo => (tree lo).trans ?_
      simp only [dT l0, dT u0, Bool.not_true, dT l1, dT u1, Bool.not_true, dF l2, if_true, if_false, Bool.false_eq_true, reduceIte]; rfl
    replace l2 := Classical.not_not.1 l2
    by_cases u2 : ¬ (x 2 i ≤ 2147483647)
    · refine Ends.ret2 hC (fun h => u2 (by have := h.1; omega)) fun lo => (tree lo).trans ?_
      simp only [dT l0, dT u0, Bool.not_true, dT l1, dT u1, Bool.not_true, dT l2, dF u2, Bool.not_false, if_true, if_false, Bool.false_eq_true, reduceIte]; rfl
    replace u2 := Classical.not_not.1 u2
    by_cases l3 : ¬ (x 3 i ≥ 0)
    · refine Ends.ret2 hC (fun h => l3 (by have := h.1; omega)) fun lo => (tree lo).trans ?_
      simp only [dT l0, dT u0, Bool.not_true, dT l1, dT u1, Bool.not_true, dT l2, dT u2, Bool.not_true, dF l3, if_true, if_false, Bool.false_eq_true, reduceIte]; rfl
    replace l3 := Classical.not_not.1 l3
    by_cases u3 : ¬ (x 3 i ≤ 2147483647)
    · refine Ends.ret2 hC (fun h => u3 (by have := h.1; omega)) fun lo => (tree lo).trans ?_
      simp only [dT l0, dT u0, Bool.not_true, dT l1, dT u1, Bool.not_true, dT l2, dT u2, Bool.not_true, dT l3, dF u3, Bool.not_false, if_true, if_false, Bool.false_eq_true, reduceIte]; rfl
    replace u3 := Classical.not_not.1 u3
    by_cases l4 : ¬ (x 4 i ≥ 0)
    · refine Ends.ret2 hC (fun h => l4 (by have := h.1; omega)) fun lo => (tree lo).trans ?_
      simp only [dT l0, dT u0, Bool.not_true, dT l1, dT u1, Bool.not_true, dT l2, dT u2, Bool.not_true, dT l3, dT u3, Bool.not_true, dF l4, if_true, if_false, Bool.false_eq_true, reduceIte]; rfl
    replace l4 := Classical.not_not.1 l4
    by_cases u4 : ¬ (x 4 i ≤ 2147483647)
    · refine Ends.ret2 hC (fun h => u4 (by have := h.1; omega)) fun lo => (tree lo).trans ?_
      simp only [dT l0, dT u0, Bool.not_true, dT l1, dT u1, Bool.not_true, dT l2, dT u2, Bool.not_true, dT l3, dT u3, Bool.not_true, dT l4, dF u4, Bool.not_false, if_true, if_false, Bool.false_eq_true, reduceIte]; rfl
    replace u4 := Classical.not_not.1 u4
    by_cases l5 : ¬ (x 5 i ≥ 0)
    · refine Ends.ret2 hC (fun h => l5 (by have := h.1; omega)) fun lo => (tree lo).trans ?_
      simp only [dT l0, dT u0, Bool.not_true, dT l1, dT u1, Bool.not_true, dT l2, dT u2, Bool.not_true, dT l3, dT u3, Bool.not_true, dT l4, dT u4, Bool.not_true, dF l5, if_true, if_false, Bool.false_eq_true, reduceIte]; rfl
    replace l5 := Classical.not_not.1 l5
    by_cases u5 : ¬ (x 5 i ≤ 2147483647)
    · refine Ends.ret2 hC (fun h => u5 (by have := h.1; omega)) fun lo => (tree lo).trans ?_
      simp only [dT l0, dT u0, Bool.not_true, dT l1, dT u1, Bool.not_true, dT l2, dT u2, Bool.not_true, dT l3, dT u3, Bool.not_true, dT l4, dT u4, Bool.not_true, dT l5, dF u5, Bool.not_false, if_true, if_false, Bool.false_eq_true, reduceIte]; rfl
    replace u5 := Classical.not_not.1 u5
    refine Ends.iff (Ends.next2 hC (ih (i + 1) (by omega)) (k19a _ _ _ _ _ _ _ _ _ _ _ _ _) k19ar (LeSt.refl _) fun lo => (tree lo).trans ?_) ⟨fun h => h.2, fun h => ⟨by omega, h⟩⟩
    simp only [dT l0, dT u0, dT l1, dT u1, dT l2, dT u2, dT l3, dT u3, dT l4, dT u4, dT l5, dT u5, Bool.not_true, if_true, if_false, Bool.false_eq_true, reduceIte]; rfl
theorem r19bz (nm : ByteArray) (ps vs : Int) (n : Nat) (op arg : Nat → Int) (k : Nat) (a b c : Nat → Int) (R W : Int) (e : Nat → Int) (x : Nat → Nat → Int) (i : Nat) (lo : LoopT) : loopK E2 (tab []) lo 4 105553116270620 (bodyOf E2 19 4) (S19b nm ps vs n op arg k a b c R W e x i) (KC2 0 64) =
  if decide ((i : Int) < (n : Int)) = true then
   none
  else
   some (Ans.l (Ex.exit 4) { fr := [V.junk] ++ jk 61, H := hp [], nx := 0, rt := 0, me := 19 }) := by kernel_rfl

theorem end19b (nm : ByteArray) (ps vs : Int) (n : Nat) (op arg : Nat → Int) (k : Nat) (a b c : Nat → Int) (R W : Int) (e : Nat → Int) (x : Nat → Nat → Int) : Ends (bodyOf E2 19 4) True (S19b nm ps vs n op arg k a b c R W e x n) (.exit 4) T19b .ret T19r := by
  have t := r19bz nm ps vs n op arg k a b c R W e x n
  exact Ends.fin (m := 0) (r := 64) (tab_nil (E := E2)) trivial fun lo => (t lo).trans (by rw [if_neg (by simp)]; rfl)
theorem mxLe (v x : Int) : ((if x > v then x else v) == x) = decide (v ≤ x) := by
  rw [Bool.eq_iff_iff, beq_iff_eq, decide_eq_true_eq]
  split <;> omega
set_option maxRecDepth 100000 in
theorem loop19b (nm : ByteArray) (ps : Int) {vs : Int} {n : Nat} {op arg : Nat → Int} {k : Nat} {a b c : Nat → Int} {R W : Int} (hf : Fit vs n op arg k a b c R W) (x : Nat → Nat → Int) : ∀ (r i : Nat), i + r = n → Ends (bodyOf E2 19 4) (∀ j, i ≤ j → j < n → wit6 ((ndF (mkC vs n op arg) a b R W) x j) x j) (S19b nm ps vs n op arg k a b c R W (Cv.endF (mkC vs n op arg)) x i) (.exit 4) T19b .ret T19r := by
  have hn := hf.n3
  intro r
  induction r with
  | zero =>
    intro i hi
    have : i = n := by omega
    subst this
    exact (end19b _ _ _ _ _ _ _ _ _ _ _ _ _ _).iff ⟨fun _ => trivial, fun _ j h1 h2 => by omega⟩
  | succ r ih =>
    intro i hi
    have hi' : i < n := by omega
    have hid : decide ((i : Int) < (n : Int)) = true := decide_eq_true (by omega)
    have hbb : (0 : Int) ≤ (i : Int) ∧ (i : Int) < (n : Int) := by omega
    have ew : w ((i : Int) + 1) = ((i + 1 : Nat) : Int) := by rw [w_in (by unfold inR; omega)]; omega
    have hC : SoundC E2 (C19b nm ps vs n op arg k a b c R W (Cv.endF (mkC vs n op arg)) x i ((ndF (mkC vs n op arg) a b R W) x i)) := ptab_cons (fun args h => by cases h; exact need_sc nm ps hf x hi') (gtab_sound tab_nil)
    refine Ends.iff ?_ (all_from hi)
    have tree := fun lo => r19b nm ps vs n op arg k a b c R W (Cv.endF (mkC vs n op arg)) x i ((ndF (mkC vs n op arg) a b R W) x i) lo
    generalize (ndF (mkC vs n op arg) a b R W) x i = v at *
    simp only [if_pos hid, eq_self, Int.toNat_natCast, if_pos hbb, ew, mxLe, Bool.and_true, Bool.false_eq_true, if_false] at tree
    by_cases hw : wit6 v x i
    · have hb : (decide (v 0 ≤ x 0 i) && (decide (v 1 ≤ x 1 i) && (decide (v 2 ≤ x 2 i) && (decide (v 3 ≤ x 3 i) && (decide (v 4 ≤ x 4 i) && decide (v 5 ≤ x 5 i)))))) = true := by
        unfold wit6 at hw
        simp only [Bool.and_eq_true, decide_eq_true_eq]
        exact hw
      refine Ends.iff (Ends.next hC (ih (i + 1) (by omega)) k19b k19br (LeSt.refl _) fun lo => (tree lo).trans ?_) ⟨fun h => h.2, fun h => ⟨hw, h⟩⟩
      rw [cl_pos ⟨rfl, trivial⟩, hb]; rfl
    · have hb : (decide (v 0 ≤ x 0 i) && (decide (v 1 ≤ x 1 i) && (decide (v 2 ≤ x 2 i) && (decide (v 3 ≤ x 3 i) && (decide (v 4 ≤ x 4 i) && decide (v 5 ≤ x 5 i)))))) = false := by
        cases hc : (decide (v 0 ≤ x 0 i) && (decide (v 1 ≤ x 1 i) && (decide (v 2 ≤ x 2 i) && (decide (v 3 ≤ x 3 i) && (decide (v 4 ≤ x 4 i) && decide (v 5 ≤ x 5 i)))))) with
        | false => rfl
        | true =>
          simp only [Bool.and_eq_true, decide_eq_true_eq] at hc
          exact absurd hc hw
      refine Ends.ret hC (fun h => hw h.1) fun lo => (tree lo).trans ?_
      rw [cl_pos ⟨rfl, trivial⟩, hb]; rfl
def okC (vs : Int) (n : Nat) (op arg : Nat → Int) (a b : Nat → Int) (R W : Int) (x : Nat → Nat → Int) : Prop := (∀ j, 0 ≤ j → j < n → rng6 x j) ∧ ∀ j, 0 ≤ j → j < n → wit6 ((ndF (mkC vs n op arg) a b R W) x j) x j
open Classical in
noncomputable def cverV (ps vs : Int) (n : Nat) (op arg : Nat → Int) (k : Nat) (a b c : Nat → Int) (R W : Int) (m : Nat) (x : Nat → Nat → Int) : Int := if chkV ps vs n op arg k a b c R W ≠ 0 then chkV ps vs n op arg k a b c R W else if m = n ∧ okC vs n op arg a b R W x then 0 else 14
set_option maxRecDepth 100000 in
theorem cverify_sc (nm : ByteArray) (ps vs : Int) (n : Nat) (op arg : Nat → Int) (k : Nat) (a b c : Nat → Int) (R W : Int) (m : Nat) (x : Nat → Nat → Int) (hn : n ≤ Go.maxLen) : SC E2 19 [codV nm ps vs n op arg, rigV k a b c R W, crt m x] [] (.ret (i64 (cverV ps vs n op arg k a b c R W m x)) []) := by
  have hC : SoundC E2 (C14f nm ps vs n op arg k a b c R W (Cv.endF (mkC vs n op arg))) := ptab_cons (fun args h => by cases h; exact check_sc nm ps vs n op arg k a b c R W hn) (ptab_cons (fun args h => by
    obtain ⟨rfl, h⟩ := h
    have hf := fit_of h
    exact ends_sc nm ps vs hf.n3 (vp17 hf.vp)) tab_nil)
  have z0 : Ends (bodyOf E2 19 0) True (S19a nm ps vs 0 op arg k a b c R W x 0) (.exit 0) (T19a nm ps vs 0 op arg k a b c R W x) .ret T19r := (loop19a (Nat.zero_le _) 0 0 rfl).iff ⟨fun _ j h1 h2 => by omega, fun _ => trivial⟩
  unfold cverV
  by_cases h : chkV ps vs n op arg k a b c R W = 0
  · have hf := fit_of h
    have hn3 := hf.n3
    have l1 := loop19a (nm := nm) (ps := ps) (vs := vs) (op := op) (arg := arg) (k := k) (a := a) (b := b) (c := c) (R := R) (W := W) (x := x) hn3 n 0 (by omega)
    have l2 := loop19b nm ps hf x n 0 (by omega)
    have hs := ltab2_cons (x := ⟨0, _, _, _, _, _, _, _⟩) l1 (ltab2_cons (x := ⟨4, _, _, _, _, _, _, _⟩) l2 ltab2_nil)
    rw [if_neg (fun g => g h)]
    refine SC.of hW2 hX2 hC hs ((f19 nm ps vs n op arg k a b c R W m (Cv.endF (mkC vs n op arg)) x _ _ _ _).trans ?_)
    rw [cl_pos ⟨rfl, rfl⟩, if_neg (by rw [h]; decide)]
    by_cases hm : m = n
    · subst hm
      rw [if_neg (by simp), cl_pos ⟨rfl, LeSt.refl _⟩]
      by_cases hP : ∀ j, 0 ≤ j → j < m → rng6 x j
      · rw [cl_pos hP, cl_pos ⟨⟨rfl, h⟩, rfl⟩, cl_pos ⟨rfl, LeSt.refl _⟩]
        by_cases hW : ∀ j, 0 ≤ j → j < m → wit6 (ndF (mkC vs m op arg) a b R W x j) x j
        · rw [cl_pos hW, if_pos ⟨rfl, hP, hW⟩]
        · rw [cl_neg hW, if_neg (fun g => hW g.2.2)]
      · rw [cl_neg hP, if_neg (fun g => hP g.2.1)]
    · rw [if_pos (neT (show ¬ (m : Int) = (n : Int) by omega)), if_neg (fun g => hm g.1)]
  · rw [if_pos h]
    have v1 : Ends (bodyOf E2 19 0) True (S19a nm ps vs n op arg k a b c R W x n) (.exit 0) (T19a nm ps vs n op arg k a b c R W x) .ret T19r := Ends.fin2 (m := 28) (r := 64) (gtab_sound (fs := [44, 45]) tab_nil) trivial fun lo => (r19a nm ps vs n op arg k a b c R W x n lo).trans (by rw [if_neg (by simp)]; rfl)
    have v2 : Ends (bodyOf E2 19 4) True (S19b nm ps vs n op arg k a b c R W (Cv.endF (mkC vs n op arg)) x n) (.exit 4) T19b .ret T19r := end19b _ _ _ _ _ _ _ _ _ _ _ _ _ _
    have hs := ltab2_cons (x := ⟨0, _, _, _, _, _, _, _⟩) v1 (ltab2_cons (x := ⟨4, _, _, _, _, _, _, _⟩) v2 ltab2_nil)
    refine SC.of hW2 hX2 hC hs ((f19 nm ps vs n op arg k a b c R W m (Cv.endF (mkC vs n op arg)) x _ _ _ _).trans ?_)
    rw [cl_pos ⟨rfl, rfl⟩, if_pos (neT h)]
end Go.Proofs.Ythegipdgillngaa
