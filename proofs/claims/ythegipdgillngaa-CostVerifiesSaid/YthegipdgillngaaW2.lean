/- Where loops end (39, 65); what an instruction costs (59, 50); what the rest needs (40, 42): walked. -/
import Derived.Test.YthegipdgillngaaW1
namespace Go.Proofs.Ythegipdgillngaa
open Go Go.Am Go.Proofs
set_option linter.unusedSimpArgs false
set_option linter.unusedVariables false
def S39 (n : Nat) (op arg : Nat → Int) (i : Nat) (e : Nat → Int) : St := { fr := [.junk, .junk, .junk, .sl 0 1 0 n] ++ jk 7 ++ [cd n op arg, i64 n, i64 i] ++ jk 15, H := hp [some (.row 3 1 n (r1 e))], nx := 1, rt := 0, me := 39 }
def T39 (n : Nat) (e : Nat → Int) : St := { fr := [.junk, .junk, .junk, .sl 0 1 0 n] ++ jk 25, H := hp [some (.row 3 1 n (r1 e))], nx := 1, rt := 0, me := 39 }
def S65 (nm : ByteArray) (ps vs : Int) (n : Nat) (op arg : Nat → Int) (i j : Nat) : St := { fr := [.junk, i64 i, .ptr 0 0, .junk, .junk, i64 j] ++ jk 29, H := hp [some (.blk [st nm, i64 ps, i64 vs, cd n op arg])], nx := 1, rt := 0, me := 65 }
def T65 (i : Nat) : St := { fr := [.junk, i64 i] ++ jk 33, H := hp [], nx := 0, rt := 0, me := 65 }
def T65r (v : Int) : St := { fr := jk 4 ++ [i64 v] ++ jk 30, H := hp [], nx := 0, rt := 0, me := 65 }
theorem r39 (n : Nat) (op arg : Nat → Int) (i : Nat) (e : Nat → Int) (lo : LoopT) : loopK E2 (tab []) lo 0 14344 (bodyOf E2 39 0) (S39 n op arg i e) (KC2 8 4) =
  if decide ((i : Int) < (n : Int)) = true then
   if (0 : Int) ≤ (i : Int) ∧ (i : Int) < (n : Int) then
    if (op (Int.toNat (i : Int)) == (17 : Int)) = true then
     if (0 : Int) ≤ w (arg (Int.toNat (i : Int)) - (1 : Int)) ∧ w (arg (Int.toNat (i : Int)) - (1 : Int)) < (n : Int) then
      if 0 + Int.toNat (w (arg (Int.toNat (i : Int)) - (1 : Int))) < n ∧ 1 = 1 then
       lo 0 14344 (bodyOf E2 39 0) ({ fr := [V.junk, V.junk, V.junk, V.sl 0 1 0 n, V.junk, V.junk, V.junk, V.junk, V.junk, V.junk, V.junk, V.ro 2 n (ins op arg), i64 (n : Int), i64 (w ((i : Int) + (1 : Int)))] ++ jk 15, H := hp [some (Chunk.row 3 1 n (putF true (0 + Int.toNat (w (arg (Int.toNat (i : Int)) - (1 : Int)))) 0 [i64 (i : Int)] (r1 e)))], nx := 1, rt := 0, me := 39 }) (KC2 8 4)
      else
       none
     else
      none
    else
     lo 0 14344 (bodyOf E2 39 0) ({ fr := [V.junk, V.junk, V.junk, V.sl 0 1 0 n, V.junk, V.junk, V.junk, V.junk, V.junk, V.junk, V.junk, V.ro 2 n (ins op arg), i64 (n : Int), i64 (w ((i : Int) + (1 : Int)))] ++ jk 15, H := hp [some (Chunk.row 3 1 n (r1 e))], nx := 1, rt := 0, me := 39 }) (KC2 8 4)
   else
    none
  else
   some (Ans.l (Ex.exit 0) { fr := [V.junk, V.junk, V.junk, V.sl 0 1 0 n] ++ jk 25, H := hp [some (Chunk.row 3 1 n (r1 e))], nx := 1, rt := 0, me := 39 }) := by kernel_rfl
theorem f39 (nm : ByteArray) (ps vs : Int) (n : Nat) (op arg e : Nat → Int) (S1 : St) (P : Prop) : callK E2 (tab []) (ltab2 [⟨0, bodyOf E2 39 0, S1, P, .exit 0, T39 n e, .ret, T39 n e⟩]) 39 [codV nm ps vs n op arg] [] K =
  if (n : Int) = (n : Int) ∧ (0 : Int) ≤ (n : Int) ∧ 0 < 1 ∧ 1 = 1 ∧ Int.toNat (n : Int) * 8 ≤ 281474976710656 ∧ Int.toNat (n : Int) ≤ maxLen ∧ (allOk 1 1 fun (x : Nat) => List.map V.sc (Array.toList (Value.cells (Value.int IntKind.i64 0)))) = true then
   cl ((bodyOf E2 39 0) = (bodyOf E2 39 0) ∧ LeSt ({ fr := [V.junk, V.junk, V.junk, V.sl 0 1 0 (Int.toNat (n : Int)), V.junk, V.junk, V.junk, V.junk, V.junk, V.junk, V.junk, V.ro 2 n (ins op arg), i64 (n : Int), i64 0] ++ jk 15, H := hp [some (Chunk.row 3 1 (Int.toNat (n : Int)) fun (x : Nat) => List.map V.sc (Array.toList (Value.cells (Value.int IntKind.i64 0))))], nx := 1, rt := 0, me := 39 }) (S1)) (
    cl (P) (
     some (Ans.c (CRes.ret (V.sl 0 1 0 n) [some (Chunk.row 3 1 n (r1 e))]))) (
     some (Ans.c (CRes.ret V.junk [])))) (
    none)
  else
   none := by kernel_rfl
theorem r65 (nm : ByteArray) (ps vs : Int) (n : Nat) (op arg : Nat → Int) (i j : Nat) (lo : LoopT) : loopK E2 (tab []) lo 0 38 (bodyOf E2 65 0) (S65 nm ps vs n op arg i j) (KC2 2 16) =
  if decide ((j : Int) < (n : Int)) = true then
   if (0 : Int) ≤ (j : Int) ∧ (j : Int) < (n : Int) then
    if (op (Int.toNat (j : Int)) == (17 : Int)) = true then
     if (0 : Int) ≤ (j : Int) ∧ (j : Int) < (n : Int) then
      if (arg (Int.toNat (j : Int)) == w ((i : Int) + (1 : Int))) = true then
       some (Ans.l Ex.ret { fr := [V.junk, V.junk, V.junk, V.junk, i64 (j : Int)] ++ jk 30, H := hp [], nx := 0, rt := 0, me := 65 })
      else
       lo 0 38 (bodyOf E2 65 0) ({ fr := [V.junk, i64 (i : Int), V.ptr 0 0, V.junk, V.junk, i64 (w ((j : Int) + (1 : Int)))] ++ jk 29, H := hp [some (Chunk.blk [V.sc (Value.string nm), i64 ps, i64 vs, V.ro 2 n (ins op arg)])], nx := 1, rt := 0, me := 65 }) (KC2 2 16)
     else
      none
    else
     lo 0 38 (bodyOf E2 65 0) ({ fr := [V.junk, i64 (i : Int), V.ptr 0 0, V.junk, V.junk, i64 (w ((j : Int) + (1 : Int)))] ++ jk 29, H := hp [some (Chunk.blk [V.sc (Value.string nm), i64 ps, i64 vs, V.ro 2 n (ins op arg)])], nx := 1, rt := 0, me := 65 }) (KC2 2 16)
   else
    none
  else
   some (Ans.l (Ex.exit 0) { fr := [V.junk, i64 (i : Int)] ++ jk 33, H := hp [], nx := 0, rt := 0, me := 65 }) := by kernel_rfl
theorem f65 (nm : ByteArray) (ps vs : Int) (n : Nat) (op arg : Nat → Int) (i : Nat) (v : Int) (S1 : St) (P : Prop) : callK E2 (tab []) (ltab2 [⟨0, bodyOf E2 65 0, S1, P, .exit 0, T65 i, .ret, T65r v⟩]) 65 [codV nm ps vs n op arg, i64 i] [] K =
  cl ((bodyOf E2 65 0) = (bodyOf E2 65 0) ∧ LeSt ({ fr := [V.junk, i64 (i : Int), V.ptr 0 0, V.junk, V.junk, i64 (w ((i : Int) + (1 : Int)))] ++ jk 29, H := hp [some (Chunk.blk [V.sc (Value.string nm), i64 ps, i64 vs, V.ro 2 n (ins op arg)])], nx := 1, rt := 0, me := 65 }) (S1)) (
   cl (P) (
    some (Ans.c (CRes.ret (i64 (i : Int)) []))) (
    some (Ans.c (CRes.ret (i64 v) [])))) (
   none) := by kernel_rfl

theorem k39 (n : Nat) (e : Nat → Int) : KC2 8 4 (.exit 0) (T39 n e) = some (.l (.exit 0) (T39 n e)) := by kernel_rfl
theorem k65 (i : Nat) : KC2 2 16 (.exit 0) (T65 i) = some (.l (.exit 0) (T65 i)) := by kernel_rfl
theorem k65r (v : Int) : KC2 2 16 .ret (T65r v) = some (.l .ret (T65r v)) := by kernel_rfl
def Next17 (n : Nat) (op arg : Nat → Int) : Prop := ∀ k, k < n → op k = 17 → 1 ≤ arg k ∧ arg k ≤ (k : Int)
theorem vp17 {vs : Int} {n : Nat} {op arg : Nat → Int} (h : Cv.VP (mkC vs n op arg)) : Next17 n op arg := fun k hk h17 => (Cv.rng_17 (c := mkC vs n op arg) (i := k) (.inl h17)).1 (h.1 k hk).1
set_option maxRecDepth 100000 in
theorem loop39 {n : Nat} {op arg : Nat → Int} (vs : Int) (hn : n ≤ 300) (h17 : Next17 n op arg) : ∀ (r i : Nat), i + r = n → SL E2 (bodyOf E2 39 0) (S39 n op arg i (Cv.endA (mkC vs n op arg) i)) (.exit 0) (T39 n (Cv.endA (mkC vs n op arg) n)) := by
  intro r
  induction r with
  | zero =>
    intro i hi
    have : i = n := by omega
    subst this
    exact SL.by2 (m := 8) (r := 4) tab_nil hX2 ltab2_nil ((r39 i op arg i _ _).trans (by rw [if_neg (by simp)]; rfl))
  | succ r ih =>
    intro i hi
    have hid : decide ((i : Int) < (n : Int)) = true := decide_eq_true (by omega)
    have hbb : (0 : Int) ≤ (i : Int) ∧ (i : Int) < (n : Int) := by omega
    have ew : w ((i : Int) + 1) = ((i + 1 : Nat) : Int) := by rw [w_in (by unfold inR; omega)]; omega
    have tree := r39 n op arg i (Cv.endA (mkC vs n op arg) i) (ltab2 [⟨0, bodyOf E2 39 0, S39 n op arg (i + 1) (Cv.endA (mkC vs n op arg) (i + 1)), True, .exit 0, T39 n (Cv.endA (mkC vs n op arg) n), .ret, T39 n (Cv.endA (mkC vs n op arg) n)⟩])
    simp only [if_pos hid, if_pos hbb, Int.toNat_natCast, ew, Nat.zero_add] at tree
    refine SL.by2 tab_nil hX2 (ltab2_cons (x := ⟨0, _, _, _, _, _, _, _⟩) ⟨fun _ => ih (i + 1) (by omega), fun h => absurd trivial h⟩ ltab2_nil) (tree.trans ?_)
    have eA : Cv.endA (mkC vs n op arg) (i + 1) = if op i = 17 then Cv.upd (Cv.endA (mkC vs n op arg) i) (arg i - 1).toNat i else Cv.endA (mkC vs n op arg) i := rfl
    by_cases h : op i = 17
    · have ha := h17 i (by omega) h
      have ea : w (arg i - 1) = arg i - 1 := w_in (by unfold inR; omega)
      rw [if_pos h] at eA
      rw [if_pos (by simpa using h), ea, if_pos (by omega), if_pos ⟨by omega, trivial⟩]
      refine (ltab2_hit ?_).trans ((cl_pos trivial).trans (k39 _ _))
      rw [eA]
      exact LeSt.mk' (LeL.refl _) ⟨ChLe.row fun j _ => row_put1 _ _ _ _, trivial⟩
    · rw [if_neg h] at eA
      rw [if_neg (by simpa using h)]
      refine (ltab2_hit ?_).trans ((cl_pos trivial).trans (k39 _ _))
      rw [eA]
      exact LeSt.refl _
theorem bw_one {n : Nat} {f : Nat → List V} : V.bw (hp [some (Chunk.row 3 1 n f)]) (.sl 0 1 0 n) = .ro 1 n (fun j => f (0 + j)) := by
  simp [V.bw, V.bw2, V.bw1, hp]
set_option maxRecDepth 100000 in
theorem ends_sc (nm : ByteArray) (ps vs : Int) {n : Nat} {op arg : Nat → Int} (hn : n ≤ 300) (h17 : Next17 n op arg) : SC E2 39 [codV nm ps vs n op arg] [] (.ret (.ro 1 n (r1 (Cv.endF (mkC vs n op arg)))) []) := by
  have l1 := loop39 vs hn h17 n 0 (by omega)
  have hc : (n : Int) = (n : Int) ∧ (0 : Int) ≤ (n : Int) ∧ 0 < 1 ∧ 1 = 1 ∧ Int.toNat (n : Int) * 8 ≤ 281474976710656 ∧ Int.toNat (n : Int) ≤ Go.maxLen ∧ (allOk 1 1 fun (x : Nat) => List.map V.sc (Array.toList (Value.cells (Value.int IntKind.i64 0)))) = true := by
    refine ⟨rfl, by omega, by decide, rfl, by rw [Int.toNat_natCast]; omega, by rw [Int.toNat_natCast]; unfold Go.maxLen; omega, by kernel_rfl⟩
  have h : SC E2 39 [codV nm ps vs n op arg] [] (.ret (.sl 0 1 0 n) [some (Chunk.row 3 1 n (r1 (Cv.endF (mkC vs n op arg))))]) := by
    refine SC.of hW2 hX2 tab_nil (ltab2_cons (x := ⟨0, _, _, True, _, _, .ret, T39 n (Cv.endA (mkC vs n op arg) n)⟩) ⟨fun _ => l1, fun h => absurd trivial h⟩ ltab2_nil) ((f39 nm ps vs n op arg _ _ _).trans ?_)
    rw [if_pos hc, cl_pos ⟨rfl, (by
      rw [Int.toNat_natCast]
      exact LeSt.mk' (LeL.refl _) ⟨ChLe.row fun j _ => rfl, trivial⟩)⟩, cl_pos trivial]
    rfl
  refine (SC.give h (by rw [bw_one]; rfl)).le ?_
  rw [bw_one]
  exact Le.ro_eq fun j hj => ⟨by rw [Nat.zero_add], rfl⟩
set_option maxRecDepth 100000 in
theorem loop65 {nm : ByteArray} {ps vs : Int} {n : Nat} {op arg : Nat → Int} {i : Nat} (hn : n ≤ 300) (hi : i < n) : ∀ (r j : Nat), j + r = n → Ends (bodyOf E2 65 0) (∀ j', j ≤ j' → j' < n → ¬ Cv.hit (mkC vs n op arg) j' i) (S65 nm ps vs n op arg i j) (.exit 0) (T65 i) .ret (T65r (Cv.endB (mkC vs n op arg) i r j)) := by
  intro r
  induction r with
  | zero =>
    intro j hj
    exact Ends.fin tab_nil (fun j' h1 h2 => by omega) fun lo => (r65 nm ps vs n op arg i j lo).trans (by rw [if_neg (by simp; omega)]; rfl)
  | succ r ih =>
    intro j hj
    have hid : decide ((j : Int) < (n : Int)) = true := decide_eq_true (by omega)
    have hbb : (0 : Int) ≤ (j : Int) ∧ (j : Int) < (n : Int) := by omega
    have ew : w ((j : Int) + 1) = ((j + 1 : Nat) : Int) := by rw [w_in (by unfold inR; omega)]; omega
    have ei : w ((i : Int) + 1) = (i : Int) + 1 := w_in (by unfold inR; omega)
    have tree := fun lo => r65 nm ps vs n op arg i j lo
    simp only [if_pos hid, if_pos hbb, Int.toNat_natCast, ew, ei] at tree
    refine Ends.iff ?_ (all_from hj)
    by_cases hh : Cv.hit (mkC vs n op arg) j i
    · have eb : Cv.endB (mkC vs n op arg) i (r + 1) j = j := by rw [Cv.endB, if_pos hh]
      rw [eb]
      have h1 : op j = 17 := hh.1
      have h2 : arg j = (i : Int) + 1 := hh.2
      refine Ends.ret tab_nil (fun h => h.1 hh) fun lo => (tree lo).trans ?_
      rw [if_pos (by simpa using h1), if_pos (by simpa using h2)]; rfl
    · have eb : Cv.endB (mkC vs n op arg) i (r + 1) j = Cv.endB (mkC vs n op arg) i r (j + 1) := by rw [Cv.endB, if_neg hh]
      rw [eb]
      refine Ends.iff (Ends.next tab_nil (ih (j + 1) (by omega)) (k65 _) (k65r _) (LeSt.refl _) fun lo => (tree lo).trans ?_) ⟨fun h => h.2, fun h => ⟨hh, h⟩⟩
      by_cases h1 : op j = 17
      · have h2 : ¬ arg j = (i : Int) + 1 := fun g => hh ⟨h1, g⟩
        rw [if_pos (by simpa using h1), if_neg (by simpa using h2)]; rfl
      · rw [if_neg (by simpa using h1)]; rfl
theorem endB_no {c : Cv.Cd} {i : Nat} : ∀ (r j : Nat), (∀ j', j ≤ j' → j' < j + r → ¬ Cv.hit c j' i) → Cv.endB c i r j = i := by
  intro r
  induction r with
  | zero => intro j _; rfl
  | succ r ih =>
    intro j h
    rw [Cv.endB, if_neg (h j (Nat.le_refl _) (by omega))]
    exact ih (j + 1) fun j' h1 h2 => h j' (by omega) (by omega)
theorem refEnd_sc (nm : ByteArray) (ps vs : Int) {n : Nat} {op arg : Nat → Int} {i : Nat} (hn : n ≤ 300) (hi : i < n) : SC E2 65 [codV nm ps vs n op arg, i64 i] [] (.ret (i64 (Cv.endR (mkC vs n op arg) i)) []) := by
  have l1 := loop65 (nm := nm) (ps := ps) (vs := vs) (op := op) (arg := arg) hn hi (n - (i + 1)) (i + 1) (by omega)
  have ei : w ((i : Int) + 1) = ((i + 1 : Nat) : Int) := by rw [w_in (by unfold inR; omega)]; omega
  refine SC.of hW2 hX2 tab_nil (ltab2_cons (x := ⟨0, _, _, _, _, _, _, _⟩) l1 ltab2_nil) ((f65 nm ps vs n op arg i _ _ _).trans ?_)
  rw [ei, cl_pos ⟨rfl, LeSt.refl _⟩]
  by_cases hP : (∀ j', i + 1 ≤ j' → j' < n → ¬ Cv.hit (mkC vs n op arg) j' i)
  · rw [cl_pos hP]
    have : Cv.endR (mkC vs n op arg) i = i := endB_no _ _ fun j' h1 h2 => hP j' h1 (by have e : (mkC vs n op arg).n = n := rfl; rw [e] at h2; omega)
    rw [this]
  · rw [cl_neg hP]
    rfl
/-! ### Amounts -/
def addE (a b : Int) : Int := if (2147483647 : Int) < w (a + b) then (2147483647 : Int) else w (a + b)
def tmE (a b : Int) : Int := if (2147483647 : Int) < w (a * b) then (2147483647 : Int) else w (a * b)
def mxE (a b : Int) : Int := if b > a then b else a
def vAdd : List V → V
  | [.agg [.sc (.int .i64 a0), .sc (.int .i64 a1), .sc (.int .i64 a2), .sc (.int .i64 a3), .sc (.int .i64 a4), .sc (.int .i64 a5)], .agg [.sc (.int .i64 b0), .sc (.int .i64 b1), .sc (.int .i64 b2), .sc (.int .i64 b3), .sc (.int .i64 b4), .sc (.int .i64 b5)]] => .agg [i64 (addE a0 b0), i64 (addE a1 b1), i64 (addE a2 b2), i64 (addE a3 b3), i64 (addE a4 b4), i64 (addE a5 b5)]
  | _ => .junk
def vMx : List V → V
  | .agg [.sc (.int .i64 a0), .sc (.int .i64 a1), .sc (.int .i64 a2), .sc (.int .i64 a3), .sc (.int .i64 a4), .sc (.int .i64 a5)] :: .agg [.sc (.int .i64 b0), .sc (.int .i64 b1), .sc (.int .i64 b2), .sc (.int .i64 b3), .sc (.int .i64 b4), .sc (.int .i64 b5)] :: _ => .agg [i64 (mxE a0 b0), i64 (mxE a1 b1), i64 (mxE a2 b2), i64 (mxE a3 b3), i64 (mxE a4 b4), i64 (mxE a5 b5)]
  | _ => .junk
def vTm : List V → V
  | [.agg [.sc (.int .i64 a0), .sc (.int .i64 a1), .sc (.int .i64 a2), .sc (.int .i64 a3), .sc (.int .i64 a4), .sc (.int .i64 a5)], .sc (.int .i64 m)] => .agg [i64 (tmE a0 m), i64 (tmE a1 m), i64 (tmE a2 m), i64 (tmE a3 m), i64 (tmE a4 m), i64 (tmE a5 m)]
  | _ => .junk
def pt (m : Nat) (g : Nat → List V) (j : Int) : Nat → Int := fun q => if j < 0 ∨ j ≥ m then 0 else nthI (g j.toNat) q
def vPart : List V → V
  | [.ro 6 m g, .sc (.int .i64 i)] => c6 (pt m g i)
  | [.sc (.slice none 0 0), .sc (.int .i64 i)] => c6 (pt 0 (fun _ => []) i)
  | _ => .junk
def l6 (v0 v1 v2 v3 v4 v5 : Int) : Nat → Int := fun q => [v0, v1, v2, v3, v4, v5].getD q 0
/-- What one instruction costs by itself. -/
def owE (a b : Nat → Int) (R W : Int) (o t : Int) : Nat → Int :=
  if o = 18 ∨ o = 19 then l6 0 0 0 0 0 t
  else if o = 22 then l6 (trn R W) 0 0 0 360 1
  else if o = 23 then l6 (tmE (a (Int.toNat (w (Int.tdiv t 1000000)))) (Int.tmod t 1000000)) (tmE (b (Int.toNat (w (Int.tdiv t 1000000)))) (Int.tmod t 1000000)) (tmE 0 (Int.tmod t 1000000)) (tmE 0 (Int.tmod t 1000000)) (tmE 0 (Int.tmod t 1000000)) (tmE 1 (Int.tmod t 1000000))
  else if o = 24 then l6 0 0 0 (w (Int.tdiv t 8)) 0 0
  else if o = 25 then l6 0 0 t 0 0 0
  else l6 0 0 0 0 0 0
def vOw (a b : Nat → Int) (R W : Int) : List V → V
  | [.agg [.sc (.int .i64 o), .sc (.int .i64 t)], _] => c6 (owE a b R W o t)
  | _ => .junk
def QAdd (args : List V) : Prop := ∃ a b : Nat → Int, args = [c6 a, c6 b]
def QTm (args : List V) : Prop := ∃ (a : Nat → Int) (m : Int), args = [c6 a, i64 m]
def QMx3 (args : List V) : Prop := ∃ a b : Nat → Int, args = [c6 a, c6 b, .fn 49 []]
def QPart (args : List V) : Prop := ∃ (l : Nat) (x : Nat → Nat → Int) (j : Int), args = [crt l x, i64 j]
def QOw (n : Nat) (op arg : Nat → Int) (k : Nat) (a b c : Nat → Int) (R W : Int) (args : List V) : Prop := ∃ o t : Int, args = [.agg [i64 o, i64 t], rigV k a b c R W] ∧ (o = 23 → 0 ≤ w (Int.tdiv t 1000000) ∧ w (Int.tdiv t 1000000) < k)
theorem qadd (a0 a1 a2 a3 a4 a5 b0 b1 b2 b3 b4 b5 : Int) : QAdd [V.agg [i64 a0, i64 a1, i64 a2, i64 a3, i64 a4, i64 a5], V.agg [i64 b0, i64 b1, i64 b2, i64 b3, i64 b4, i64 b5]] := ⟨l6 a0 a1 a2 a3 a4 a5, l6 b0 b1 b2 b3 b4 b5, rfl⟩
theorem qmx3 (a0 a1 a2 a3 a4 a5 b0 b1 b2 b3 b4 b5 : Int) : QMx3 [V.agg [i64 a0, i64 a1, i64 a2, i64 a3, i64 a4, i64 a5], V.agg [i64 b0, i64 b1, i64 b2, i64 b3, i64 b4, i64 b5], .fn 49 []] := ⟨l6 a0 a1 a2 a3 a4 a5, l6 b0 b1 b2 b3 b4 b5, rfl⟩
theorem qtm (a0 a1 a2 a3 a4 a5 m : Int) : QTm [V.agg [i64 a0, i64 a1, i64 a2, i64 a3, i64 a4, i64 a5], i64 m] := ⟨l6 a0 a1 a2 a3 a4 a5, m, rfl⟩
theorem qpart (l : Nat) (x : Nat → Nat → Int) (j : Int) : QPart [V.ro 6 l (rc x), i64 j] := ⟨l, x, j, rfl⟩
theorem g29 (a b : Nat → Int) : callG E2 20 29 [c6 a, c6 b] [] K =
  some (Ans.c (CRes.ret (V.agg [i64 (if (2147483647 : Int) < w (a 0 + b 0) then (2147483647 : Int) else w (a 0 + b 0)), i64 (if (2147483647 : Int) < w (a 1 + b 1) then (2147483647 : Int) else w (a 1 + b 1)), i64 (if (2147483647 : Int) < w (a 2 + b 2) then (2147483647 : Int) else w (a 2 + b 2)), i64 (if (2147483647 : Int) < w (a 3 + b 3) then (2147483647 : Int) else w (a 3 + b 3)), i64 (if (2147483647 : Int) < w (a 4 + b 4) then (2147483647 : Int) else w (a 4 + b 4)), i64 (if (2147483647 : Int) < w (a 5 + b 5) then (2147483647 : Int) else w (a 5 + b 5))]) [])) := by kernel_rfl
theorem g32 (a b : Nat → Int) : callG E2 20 32 [c6 a, c6 b] [] K =
  some (Ans.c (CRes.ret (V.agg [i64 (if (2147483647 : Int) < w (a 0 + b 0) then (2147483647 : Int) else w (a 0 + b 0)), i64 (if (2147483647 : Int) < w (a 1 + b 1) then (2147483647 : Int) else w (a 1 + b 1)), i64 (if (2147483647 : Int) < w (a 2 + b 2) then (2147483647 : Int) else w (a 2 + b 2)), i64 (if (2147483647 : Int) < w (a 3 + b 3) then (2147483647 : Int) else w (a 3 + b 3)), i64 (if (2147483647 : Int) < w (a 4 + b 4) then (2147483647 : Int) else w (a 4 + b 4)), i64 (if (2147483647 : Int) < w (a 5 + b 5) then (2147483647 : Int) else w (a 5 + b 5))]) [])) := by kernel_rfl
theorem g48 (a b : Nat → Int) : callG E2 20 48 [c6 a, c6 b, .fn 49 []] [] K =
  some (Ans.c (CRes.ret (V.agg [i64 (if b 0 > a 0 then b 0 else a 0), i64 (if b 1 > a 1 then b 1 else a 1), i64 (if b 2 > a 2 then b 2 else a 2), i64 (if b 3 > a 3 then b 3 else a 3), i64 (if b 4 > a 4 then b 4 else a 4), i64 (if b 5 > a 5 then b 5 else a 5)]) [])) := by kernel_rfl
theorem g63 (a b : Nat → Int) : callG E2 20 63 [c6 a, c6 b] [] K =
  some (Ans.c (CRes.ret (V.agg [i64 (if b 0 > a 0 then b 0 else a 0), i64 (if b 1 > a 1 then b 1 else a 1), i64 (if b 2 > a 2 then b 2 else a 2), i64 (if b 3 > a 3 then b 3 else a 3), i64 (if b 4 > a 4 then b 4 else a 4), i64 (if b 5 > a 5 then b 5 else a 5)]) [])) := by kernel_rfl
theorem g58 (a : Nat → Int) (m : Int) : callG E2 20 58 [c6 a, i64 m] [] K =
  some (Ans.c (CRes.ret (V.agg [i64 (if (2147483647 : Int) < w (a 0 * m) then (2147483647 : Int) else w (a 0 * m)), i64 (if (2147483647 : Int) < w (a 1 * m) then (2147483647 : Int) else w (a 1 * m)), i64 (if (2147483647 : Int) < w (a 2 * m) then (2147483647 : Int) else w (a 2 * m)), i64 (if (2147483647 : Int) < w (a 3 * m) then (2147483647 : Int) else w (a 3 * m)), i64 (if (2147483647 : Int) < w (a 4 * m) then (2147483647 : Int) else w (a 4 * m)), i64 (if (2147483647 : Int) < w (a 5 * m) then (2147483647 : Int) else w (a 5 * m))]) [])) := by kernel_rfl
theorem g64 (a : Nat → Int) (m : Int) : callG E2 20 64 [c6 a, i64 m] [] K =
  some (Ans.c (CRes.ret (V.agg [i64 (if (2147483647 : Int) < w (a 0 * m) then (2147483647 : Int) else w (a 0 * m)), i64 (if (2147483647 : Int) < w (a 1 * m) then (2147483647 : Int) else w (a 1 * m)), i64 (if (2147483647 : Int) < w (a 2 * m) then (2147483647 : Int) else w (a 2 * m)), i64 (if (2147483647 : Int) < w (a 3 * m) then (2147483647 : Int) else w (a 3 * m)), i64 (if (2147483647 : Int) < w (a 4 * m) then (2147483647 : Int) else w (a 4 * m)), i64 (if (2147483647 : Int) < w (a 5 * m) then (2147483647 : Int) else w (a 5 * m))]) [])) := by kernel_rfl
theorem g62 (n : Nat) (x : Nat → Nat → Int) (i : Int) : callG E2 20 62 [crt n x, i64 i] [] K =
  if decide (i < (0 : Int)) = true then
   some (Ans.c (CRes.ret (V.agg [i64 0, i64 0, i64 0, i64 0, i64 0, i64 0]) []))
  else
   if decide (i ≥ (n : Int)) = true then
    some (Ans.c (CRes.ret (V.agg [i64 0, i64 0, i64 0, i64 0, i64 0, i64 0]) []))
   else
    if (0 : Int) ≤ i ∧ i < (n : Int) then
     some (Ans.c (CRes.ret (V.agg [i64 (x 0 (Int.toNat i)), i64 (x 1 (Int.toNat i)), i64 (x 2 (Int.toNat i)), i64 (x 3 (Int.toNat i)), i64 (x 4 (Int.toNat i)), i64 (x 5 (Int.toNat i))]) []))
    else
     none := by kernel_rfl
theorem g59 (o a0 : Int) (k : Nat) (a b c : Nat → Int) (R W : Int) : callG E2 20 59 [.agg [i64 o, i64 a0], rigV k a b c R W] [] K =
  if (o == (18 : Int)) = true then
   some (Ans.c (CRes.ret (V.agg [i64 0, i64 0, i64 0, i64 0, i64 0, i64 a0]) []))
  else
   if (o == (19 : Int)) = true then
    some (Ans.c (CRes.ret (V.agg [i64 0, i64 0, i64 0, i64 0, i64 0, i64 a0]) []))
   else
    if (o == (22 : Int)) = true then
     if R = (0 : Int) then
      none
     else
      some (Ans.c (CRes.ret (V.agg [i64 (w (W * w (Int.tdiv (w (w ((360 : Int) + R) - (1 : Int))) R))), i64 0, i64 0, i64 0, i64 360, i64 1]) []))
    else
     if (o == (23 : Int)) = true then
      if (0 : Int) ≤ w (Int.tdiv a0 (1000000 : Int)) ∧ w (Int.tdiv a0 (1000000 : Int)) < (k : Int) then
       some (Ans.c (CRes.ret (V.agg [i64 (if (2147483647 : Int) < w (a (Int.toNat (w (Int.tdiv a0 (1000000 : Int)))) * Int.tmod a0 (1000000 : Int)) then (2147483647 : Int) else w (a (Int.toNat (w (Int.tdiv a0 (1000000 : Int)))) * Int.tmod a0 (1000000 : Int))), i64 (if (2147483647 : Int) < w (b (Int.toNat (w (Int.tdiv a0 (1000000 : Int)))) * Int.tmod a0 (1000000 : Int)) then (2147483647 : Int) else w (b (Int.toNat (w (Int.tdiv a0 (1000000 : Int)))) * Int.tmod a0 (1000000 : Int))), i64 (if (2147483647 : Int) < w ((0 : Int) * Int.tmod a0 (1000000 : Int)) then (2147483647 : Int) else w ((0 : Int) * Int.tmod a0 (1000000 : Int))), i64 (if (2147483647 : Int) < w ((0 : Int) * Int.tmod a0 (1000000 : Int)) then (2147483647 : Int) else w ((0 : Int) * Int.tmod a0 (1000000 : Int))), i64 (if (2147483647 : Int) < w ((0 : Int) * Int.tmod a0 (1000000 : Int)) then (2147483647 : Int) else w ((0 : Int) * Int.tmod a0 (1000000 : Int))), i64 (if (2147483647 : Int) < w ((1 : Int) * Int.tmod a0 (1000000 : Int)) then (2147483647 : Int) else w ((1 : Int) * Int.tmod a0 (1000000 : Int)))]) []))
      else
       none
     else
      if (o == (24 : Int)) = true then
       some (Ans.c (CRes.ret (V.agg [i64 0, i64 0, i64 0, i64 (w (Int.tdiv a0 (8 : Int))), i64 0, i64 0]) []))
      else
       if (o == (25 : Int)) = true then
        some (Ans.c (CRes.ret (V.agg [i64 0, i64 0, i64 a0, i64 0, i64 0, i64 0]) []))
       else
        some (Ans.c (CRes.ret (V.agg [i64 0, i64 0, i64 0, i64 0, i64 0, i64 0]) [])) := by kernel_rfl
theorem g50 (o a0 : Int) (k : Nat) (a b c : Nat → Int) (R W : Int) : callG E2 20 50 [.agg [i64 o, i64 a0], rigV k a b c R W] [] K =
  if (o == (18 : Int)) = true then
   some (Ans.c (CRes.ret (V.agg [i64 0, i64 0, i64 0, i64 0, i64 0, i64 a0]) []))
  else
   if (o == (19 : Int)) = true then
    some (Ans.c (CRes.ret (V.agg [i64 0, i64 0, i64 0, i64 0, i64 0, i64 a0]) []))
   else
    if (o == (22 : Int)) = true then
     if R = (0 : Int) then
      none
     else
      if R = (0 : Int) then
       none
      else
       some (Ans.c (CRes.ret (V.agg [i64 (if (2147483647 : Int) < w (w (W * w (w (Int.tdiv (360 : Int) R) + if (1 : Int) < Int.tmod (360 : Int) R then (1 : Int) else Int.tmod (360 : Int) R)) + (0 : Int)) then (2147483647 : Int) else w (w (W * w (w (Int.tdiv (360 : Int) R) + if (1 : Int) < Int.tmod (360 : Int) R then (1 : Int) else Int.tmod (360 : Int) R)) + (0 : Int))), i64 (if (2147483647 : Int) < w ((0 : Int) + (0 : Int)) then (2147483647 : Int) else w ((0 : Int) + (0 : Int))), i64 (if (2147483647 : Int) < w ((0 : Int) + (0 : Int)) then (2147483647 : Int) else w ((0 : Int) + (0 : Int))), i64 (if (2147483647 : Int) < w ((0 : Int) + (0 : Int)) then (2147483647 : Int) else w ((0 : Int) + (0 : Int))), i64 (if (2147483647 : Int) < w ((360 : Int) + (0 : Int)) then (2147483647 : Int) else w ((360 : Int) + (0 : Int))), i64 (if (2147483647 : Int) < w ((0 : Int) + (1 : Int)) then (2147483647 : Int) else w ((0 : Int) + (1 : Int)))]) []))
    else
     if (o == (23 : Int)) = true then
      if (0 : Int) ≤ w (Int.tdiv a0 (1000000 : Int)) ∧ w (Int.tdiv a0 (1000000 : Int)) < (k : Int) then
       some (Ans.c (CRes.ret (V.agg [i64 (if (2147483647 : Int) < w (a (Int.toNat (w (Int.tdiv a0 (1000000 : Int)))) * Int.tmod a0 (1000000 : Int)) then (2147483647 : Int) else w (a (Int.toNat (w (Int.tdiv a0 (1000000 : Int)))) * Int.tmod a0 (1000000 : Int))), i64 (if (2147483647 : Int) < w (b (Int.toNat (w (Int.tdiv a0 (1000000 : Int)))) * Int.tmod a0 (1000000 : Int)) then (2147483647 : Int) else w (b (Int.toNat (w (Int.tdiv a0 (1000000 : Int)))) * Int.tmod a0 (1000000 : Int))), i64 (if (2147483647 : Int) < w ((0 : Int) * Int.tmod a0 (1000000 : Int)) then (2147483647 : Int) else w ((0 : Int) * Int.tmod a0 (1000000 : Int))), i64 (if (2147483647 : Int) < w ((0 : Int) * Int.tmod a0 (1000000 : Int)) then (2147483647 : Int) else w ((0 : Int) * Int.tmod a0 (1000000 : Int))), i64 (if (2147483647 : Int) < w ((0 : Int) * Int.tmod a0 (1000000 : Int)) then (2147483647 : Int) else w ((0 : Int) * Int.tmod a0 (1000000 : Int))), i64 (if (2147483647 : Int) < w ((1 : Int) * Int.tmod a0 (1000000 : Int)) then (2147483647 : Int) else w ((1 : Int) * Int.tmod a0 (1000000 : Int)))]) []))
      else
       none
     else
      if (o == (24 : Int)) = true then
       some (Ans.c (CRes.ret (V.agg [i64 0, i64 0, i64 0, i64 (w (Int.tdiv a0 (8 : Int))), i64 0, i64 0]) []))
      else
       if (o == (25 : Int)) = true then
        some (Ans.c (CRes.ret (V.agg [i64 0, i64 0, i64 a0, i64 0, i64 0, i64 0]) []))
       else
        some (Ans.c (CRes.ret (V.agg [i64 0, i64 0, i64 0, i64 0, i64 0, i64 0]) [])) := by kernel_rfl

theorem add_sc (a b : Nat → Int) : SC E2 29 [c6 a, c6 b] [] (.ret (vAdd [c6 a, c6 b]) []) := SC.g2 (g29 a b)
theorem refAdd_sc (a b : Nat → Int) : SC E2 32 [c6 a, c6 b] [] (.ret (vAdd [c6 a, c6 b]) []) := SC.g2 (g32 a b)
theorem mx_sc (a b : Nat → Int) : SC E2 48 [c6 a, c6 b, .fn 49 []] [] (.ret (vMx [c6 a, c6 b, .fn 49 []]) []) := SC.g2 (g48 a b)
theorem refMx_sc (a b : Nat → Int) : SC E2 63 [c6 a, c6 b] [] (.ret (vMx [c6 a, c6 b]) []) := SC.g2 (g63 a b)
theorem tm_sc (a : Nat → Int) (m : Int) : SC E2 58 [c6 a, i64 m] [] (.ret (vTm [c6 a, i64 m]) []) := SC.g2 (g58 a m)
theorem refTm_sc (a : Nat → Int) (m : Int) : SC E2 64 [c6 a, i64 m] [] (.ret (vTm [c6 a, i64 m]) []) := SC.g2 (g64 a m)
theorem part_sc (l : Nat) (x : Nat → Nat → Int) (j : Int) : SC E2 62 [crt l x, i64 j] [] (.ret (vPart [crt l x, i64 j]) []) := by
  refine SC.g2 ((g62 l x j).trans ?_)
  show _ = some (Ans.c (CRes.ret (c6 (pt l (rc x) j)) []))
  by_cases h1 : j < 0
  · have : pt l (rc x) j = fun _ => 0 := by funext q; unfold pt; rw [if_pos (.inl h1)]
    rw [if_pos (by simpa using h1), this]; rfl
  · by_cases h2 : j ≥ l
    · have : pt l (rc x) j = fun _ => 0 := by funext q; unfold pt; rw [if_pos (.inr h2)]
      rw [if_neg (by simpa using h1), if_pos (by simpa using h2), this]; rfl
    · have : pt l (rc x) j = fun q => nthI (rc x j.toNat) q := by funext q; unfold pt; rw [if_neg (by omega)]
      rw [if_neg (by simpa using h1), if_neg (by simpa using h2), if_pos (by omega), this]; rfl
theorem own_sc {o t : Int} {k : Nat} {a b c : Nat → Int} {R W : Int} (hR : 1 ≤ R) (h23 : o = 23 → 0 ≤ w (Int.tdiv t 1000000) ∧ w (Int.tdiv t 1000000) < k) : SC E2 59 [.agg [i64 o, i64 t], rigV k a b c R W] [] (.ret (c6 (owE a b R W o t)) []) := by
  refine SC.g2 ((g59 o t k a b c R W).trans ?_)
  unfold owE
  by_cases h18 : o = 18
  · rw [if_pos (by simpa using h18), if_pos (.inl h18)]; rfl
  by_cases h19 : o = 19
  · rw [if_neg (by simpa using h18), if_pos (by simpa using h19), if_pos (.inr h19)]; rfl
  rw [if_neg (by simpa using h18), if_neg (by simpa using h19), if_neg (show ¬ (o = 18 ∨ o = 19) by omega)]
  by_cases h22 : o = 22
  · rw [if_pos (by simpa using h22), if_pos h22, if_neg (by omega)]; rfl
  rw [if_neg (by simpa using h22), if_neg h22]
  by_cases g23 : o = 23
  · rw [if_pos (by simpa using g23), if_pos g23, if_pos (h23 g23)]; rfl
  rw [if_neg (by simpa using g23), if_neg g23]
  by_cases h24 : o = 24
  · rw [if_pos (by simpa using h24), if_pos h24]; rfl
  rw [if_neg (by simpa using h24), if_neg h24]
  by_cases h25 : o = 25
  · rw [if_pos (by simpa using h25), if_pos h25]; rfl
  rw [if_neg (by simpa using h25), if_neg h25]; rfl
theorem ceil_le {R : Int} (h1 : 1 ≤ R) (h2 : R ≤ 360) : 0 ≤ w (Int.tdiv (w (w (360 + R) - 1)) R) ∧ w (Int.tdiv (w (w (360 + R) - 1)) R) ≤ 719 := by
  have e1 : w (w (360 + R) - 1) = 360 + R - 1 := by rw [w_in (n := 360 + R) (by unfold inR; omega), w_in (by unfold inR; omega)]
  rw [e1, Int.tdiv_eq_ediv_of_nonneg (by omega)]
  have hq : 0 ≤ (360 + R - 1) / R := Int.ediv_nonneg (by omega) (by omega)
  have hq' : (360 + R - 1) / R ≤ 719 := by
    have := Int.ediv_le_self R (show 0 ≤ 360 + R - 1 by omega)
    omega
  rw [w_in (by unfold inR; omega)]
  omega
theorem trn_le {R W : Int} (h1 : 1 ≤ R) (h2 : R ≤ 360) (h3 : 0 ≤ W) (h4 : W ≤ 1000000) : 0 ≤ trn R W ∧ trn R W ≤ 719000000 := by
  obtain ⟨c1, c2⟩ := ceil_le h1 h2
  unfold trn
  generalize w (Int.tdiv (w (w (360 + R) - 1)) R) = q at *
  have a1 : 0 ≤ W * q := Int.mul_nonneg h3 c1
  have a2 : W * q ≤ 1000000 * 719 := Int.mul_le_mul h4 c2 c1 (by omega)
  rw [w_in (by unfold inR; omega)]
  omega
theorem refOwn_sc {o t : Int} {k : Nat} {a b c : Nat → Int} {R W : Int} (hR : 1 ≤ R) (hR2 : R ≤ 360) (hW0 : 0 ≤ W) (hW1 : W ≤ 1000000) (h23 : o = 23 → 0 ≤ w (Int.tdiv t 1000000) ∧ w (Int.tdiv t 1000000) < k) : SC E2 50 [.agg [i64 o, i64 t], rigV k a b c R W] [] (.ret (c6 (owE a b R W o t)) []) := by
  refine SC.g2 ((g50 o t k a b c R W).trans ?_)
  unfold owE
  by_cases h18 : o = 18
  · rw [if_pos (by simpa using h18), if_pos (.inl h18)]; rfl
  by_cases h19 : o = 19
  · rw [if_neg (by simpa using h18), if_pos (by simpa using h19), if_pos (.inr h19)]; rfl
  rw [if_neg (by simpa using h18), if_neg (by simpa using h19), if_neg (show ¬ (o = 18 ∨ o = 19) by omega)]
  by_cases h22 : o = 22
  · rw [if_pos (by simpa using h22), if_pos h22, if_neg (by omega), if_neg (by omega)]
    obtain ⟨t1, t2⟩ := trn_le hR hR2 hW0 hW1
    have e1 : w (W * w (w (Int.tdiv 360 R) + if 1 < Int.tmod 360 R then 1 else Int.tmod 360 R)) = trn R W := by rw [ceil_eq hR hR2]; rfl
    rw [e1]
    generalize trn R W = T at *
    have e2 : w (T + 0) = T := by rw [Int.add_zero]; exact w_in (by unfold inR; omega)
    rw [e2, if_neg (show ¬ 2147483647 < T by omega)]
    have e3 : w (0 + 0) = 0 := by decide
    have e4 : w (360 + 0) = 360 := by decide
    have e5 : w (0 + 1) = 1 := by decide
    rw [e3, e4, e5]
    rfl
  rw [if_neg (by simpa using h22), if_neg h22]
  by_cases g23 : o = 23
  · rw [if_pos (by simpa using g23), if_pos g23, if_pos (h23 g23)]; rfl
  rw [if_neg (by simpa using g23), if_neg g23]
  by_cases h24 : o = 24
  · rw [if_pos (by simpa using h24), if_pos h24]; rfl
  rw [if_neg (by simpa using h24), if_neg h24]
  by_cases h25 : o = 25
  · rw [if_pos (by simpa using h25), if_pos h25]; rfl
  rw [if_neg (by simpa using h25), if_neg h25]; rfl
/-! ### What the rest needs -/
/-- What is needed from instruction i on. -/
def ndF (c : Cv.Cd) (a b : Nat → Int) (R W : Int) (x : Nat → Nat → Int) (i : Nat) : Nat → Int :=
  if c.op i = 28 ∨ c.op i = 27 ∨ c.op i = 17 then fun _ => 0
  else if c.op i = 14 then nthI (rc x (c.arg i).toNat)
  else if c.op i = 15 then fun q => mxE (nthI (rc x (i + 1)) q) (nthI (rc x (c.arg i).toNat) q)
  else if c.op i = 16 then fun q => addE (tmE (nthI (rc x (i + 1)) q) (c.arg i)) (nthI (rc x (Cv.endF c i + 1).toNat) q)
  else fun q => addE (owE a b R W (c.op i) (c.arg i) q) (nthI (rc x (i + 1)) q)
noncomputable def C40 (n : Nat) (op arg : Nat → Int) (k : Nat) (a b c : Nat → Int) (R W : Int) : CallT := ptab 58 QTm vTm (ptab 48 QMx3 vMx (ptab 29 QAdd vAdd (ptab 59 (QOw n op arg k a b c R W) (vOw a b R W) (tab []))))
theorem sC40 {n : Nat} {op arg : Nat → Int} {k : Nat} {a b c : Nat → Int} {R W : Int} (hR : 1 ≤ R) : SoundC E2 (C40 n op arg k a b c R W) := by
  refine ptab_cons (fun args h => ?_) (ptab_cons (fun args h => ?_) (ptab_cons (fun args h => ?_) (ptab_cons (fun args h => ?_) tab_nil)))
  · obtain ⟨a, m, rfl⟩ := h; exact tm_sc a m
  · obtain ⟨a, b, rfl⟩ := h; exact mx_sc a b
  · obtain ⟨a, b, rfl⟩ := h; exact add_sc a b
  · obtain ⟨o, t, rfl, h⟩ := h; exact own_sc hR h
theorem f40 (nm : ByteArray) (ps vs : Int) (n : Nat) (op arg : Nat → Int) (k : Nat) (a b c : Nat → Int) (R W : Int) (e : Nat → Int) (x : Nat → Nat → Int) (i : Nat) : callK E2 (C40 n op arg k a b c R W) (ltab2 []) 40 [codV nm ps vs n op arg, rigV k a b c R W, .ro 1 n (r1 e), .ro 6 n (rc x), i64 i] [] K =
  if (0 : Int) ≤ (i : Int) ∧ (i : Int) < (n : Int) then
   if (op (Int.toNat (i : Int)) == (28 : Int)) = true then
    some (Ans.c (CRes.ret (V.agg [i64 0, i64 0, i64 0, i64 0, i64 0, i64 0]) []))
   else
    if (op (Int.toNat (i : Int)) == (27 : Int)) = true then
     some (Ans.c (CRes.ret (V.agg [i64 0, i64 0, i64 0, i64 0, i64 0, i64 0]) []))
    else
     if (op (Int.toNat (i : Int)) == (17 : Int)) = true then
      some (Ans.c (CRes.ret (V.agg [i64 0, i64 0, i64 0, i64 0, i64 0, i64 0]) []))
     else
      if (op (Int.toNat (i : Int)) == (14 : Int)) = true then
       if (0 : Int) ≤ arg (Int.toNat (i : Int)) ∧ arg (Int.toNat (i : Int)) < (n : Int) then
        some (Ans.c (CRes.ret (V.agg [i64 (x 0 (Int.toNat (arg (Int.toNat (i : Int))))), i64 (x 1 (Int.toNat (arg (Int.toNat (i : Int))))), i64 (x 2 (Int.toNat (arg (Int.toNat (i : Int))))), i64 (x 3 (Int.toNat (arg (Int.toNat (i : Int))))), i64 (x 4 (Int.toNat (arg (Int.toNat (i : Int))))), i64 (x 5 (Int.toNat (arg (Int.toNat (i : Int)))))]) []))
       else
        none
      else
       if (op (Int.toNat (i : Int)) == (15 : Int)) = true then
        if (0 : Int) ≤ w ((i : Int) + (1 : Int)) ∧ w ((i : Int) + (1 : Int)) < (n : Int) then
         if (0 : Int) ≤ arg (Int.toNat (i : Int)) ∧ arg (Int.toNat (i : Int)) < (n : Int) then
          cl (QMx3 ([V.agg [i64 (x 0 (Int.toNat (w ((i : Int) + (1 : Int))))), i64 (x 1 (Int.toNat (w ((i : Int) + (1 : Int))))), i64 (x 2 (Int.toNat (w ((i : Int) + (1 : Int))))), i64 (x 3 (Int.toNat (w ((i : Int) + (1 : Int))))), i64 (x 4 (Int.toNat (w ((i : Int) + (1 : Int))))), i64 (x 5 (Int.toNat (w ((i : Int) + (1 : Int)))))], V.agg [i64 (x 0 (Int.toNat (arg (Int.toNat (i : Int))))), i64 (x 1 (Int.toNat (arg (Int.toNat (i : Int))))), i64 (x 2 (Int.toNat (arg (Int.toNat (i : Int))))), i64 (x 3 (Int.toNat (arg (Int.toNat (i : Int))))), i64 (x 4 (Int.toNat (arg (Int.toNat (i : Int))))), i64 (x 5 (Int.toNat (arg (Int.toNat (i : Int)))))], V.fn 49 []]) ∧ ([] : List (Option Chunk)) = []) (
           some (Ans.c (CRes.ret (V.agg [i64 (mxE (x 0 (Int.toNat (w ((i : Int) + (1 : Int))))) (x 0 (Int.toNat (arg (Int.toNat (i : Int)))))), i64 (mxE (x 1 (Int.toNat (w ((i : Int) + (1 : Int))))) (x 1 (Int.toNat (arg (Int.toNat (i : Int)))))), i64 (mxE (x 2 (Int.toNat (w ((i : Int) + (1 : Int))))) (x 2 (Int.toNat (arg (Int.toNat (i : Int)))))), i64 (mxE (x 3 (Int.toNat (w ((i : Int) + (1 : Int))))) (x 3 (Int.toNat (arg (Int.toNat (i : Int)))))), i64 (mxE (x 4 (Int.toNat (w ((i : Int) + (1 : Int))))) (x 4 (Int.toNat (arg (Int.toNat (i : Int)))))), i64 (mxE (x 5 (Int.toNat (w ((i : Int) + (1 : Int))))) (x 5 (Int.toNat (arg (Int.toNat (i : Int))))))]) []))) (
           none)
         else
          none
        else
         none
       else
        if (op (Int.toNat (i : Int)) == (16 : Int)) = true then
         if (0 : Int) ≤ w ((i : Int) + (1 : Int)) ∧ w ((i : Int) + (1 : Int)) < (n : Int) then
          cl (QTm ([V.agg [i64 (x 0 (Int.toNat (w ((i : Int) + (1 : Int))))), i64 (x 1 (Int.toNat (w ((i : Int) + (1 : Int))))), i64 (x 2 (Int.toNat (w ((i : Int) + (1 : Int))))), i64 (x 3 (Int.toNat (w ((i : Int) + (1 : Int))))), i64 (x 4 (Int.toNat (w ((i : Int) + (1 : Int))))), i64 (x 5 (Int.toNat (w ((i : Int) + (1 : Int)))))], i64 (arg (Int.toNat (i : Int)))]) ∧ ([] : List (Option Chunk)) = []) (
           if (0 : Int) ≤ (i : Int) ∧ (i : Int) < (n : Int) then
            if (0 : Int) ≤ w (e (Int.toNat (i : Int)) + (1 : Int)) ∧ w (e (Int.toNat (i : Int)) + (1 : Int)) < (n : Int) then
             cl (QAdd ([V.agg [i64 (tmE (x 0 (Int.toNat (w ((i : Int) + (1 : Int))))) (arg (Int.toNat (i : Int)))), i64 (tmE (x 1 (Int.toNat (w ((i : Int) + (1 : Int))))) (arg (Int.toNat (i : Int)))), i64 (tmE (x 2 (Int.toNat (w ((i : Int) + (1 : Int))))) (arg (Int.toNat (i : Int)))), i64 (tmE (x 3 (Int.toNat (w ((i : Int) + (1 : Int))))) (arg (Int.toNat (i : Int)))), i64 (tmE (x 4 (Int.toNat (w ((i : Int) + (1 : Int))))) (arg (Int.toNat (i : Int)))), i64 (tmE (x 5 (Int.toNat (w ((i : Int) + (1 : Int))))) (arg (Int.toNat (i : Int))))], V.agg [i64 (x 0 (Int.toNat (w (e (Int.toNat (i : Int)) + (1 : Int))))), i64 (x 1 (Int.toNat (w (e (Int.toNat (i : Int)) + (1 : Int))))), i64 (x 2 (Int.toNat (w (e (Int.toNat (i : Int)) + (1 : Int))))), i64 (x 3 (Int.toNat (w (e (Int.toNat (i : Int)) + (1 : Int))))), i64 (x 4 (Int.toNat (w (e (Int.toNat (i : Int)) + (1 : Int))))), i64 (x 5 (Int.toNat (w (e (Int.toNat (i : Int)) + (1 : Int)))))]]) ∧ ([] : List (Option Chunk)) = []) (
              some (Ans.c (CRes.ret (V.agg [i64 (addE (tmE (x 0 (Int.toNat (w ((i : Int) + (1 : Int))))) (arg (Int.toNat (i : Int)))) (x 0 (Int.toNat (w (e (Int.toNat (i : Int)) + (1 : Int)))))), i64 (addE (tmE (x 1 (Int.toNat (w ((i : Int) + (1 : Int))))) (arg (Int.toNat (i : Int)))) (x 1 (Int.toNat (w (e (Int.toNat (i : Int)) + (1 : Int)))))), i64 (addE (tmE (x 2 (Int.toNat (w ((i : Int) + (1 : Int))))) (arg (Int.toNat (i : Int)))) (x 2 (Int.toNat (w (e (Int.toNat (i : Int)) + (1 : Int)))))), i64 (addE (tmE (x 3 (Int.toNat (w ((i : Int) + (1 : Int))))) (arg (Int.toNat (i : Int)))) (x 3 (Int.toNat (w (e (Int.toNat (i : Int)) + (1 : Int)))))), i64 (addE (tmE (x 4 (Int.toNat (w ((i : Int) + (1 : Int))))) (arg (Int.toNat (i : Int)))) (x 4 (Int.toNat (w (e (Int.toNat (i : Int)) + (1 : Int)))))), i64 (addE (tmE (x 5 (Int.toNat (w ((i : Int) + (1 : Int))))) (arg (Int.toNat (i : Int)))) (x 5 (Int.toNat (w (e (Int.toNat (i : Int)) + (1 : Int))))))]) []))) (
              none)
            else
             none
           else
            none) (
           none)
         else
          none
        else
         cl ((QOw n op arg k a b c R W) ([V.agg [i64 (op (Int.toNat (i : Int))), i64 (arg (Int.toNat (i : Int)))], V.agg [V.ro 3 k (r3 a b c), i64 R, i64 W]]) ∧ ([] : List (Option Chunk)) = []) (
          if (0 : Int) ≤ w ((i : Int) + (1 : Int)) ∧ w ((i : Int) + (1 : Int)) < (n : Int) then
           cl (QAdd ([V.agg [i64 (owE a b R W (op (Int.toNat (i : Int))) (arg (Int.toNat (i : Int))) 0), i64 (owE a b R W (op (Int.toNat (i : Int))) (arg (Int.toNat (i : Int))) 1), i64 (owE a b R W (op (Int.toNat (i : Int))) (arg (Int.toNat (i : Int))) 2), i64 (owE a b R W (op (Int.toNat (i : Int))) (arg (Int.toNat (i : Int))) 3), i64 (owE a b R W (op (Int.toNat (i : Int))) (arg (Int.toNat (i : Int))) 4), i64 (owE a b R W (op (Int.toNat (i : Int))) (arg (Int.toNat (i : Int))) 5)], V.agg [i64 (x 0 (Int.toNat (w ((i : Int) + (1 : Int))))), i64 (x 1 (Int.toNat (w ((i : Int) + (1 : Int))))), i64 (x 2 (Int.toNat (w ((i : Int) + (1 : Int))))), i64 (x 3 (Int.toNat (w ((i : Int) + (1 : Int))))), i64 (x 4 (Int.toNat (w ((i : Int) + (1 : Int))))), i64 (x 5 (Int.toNat (w ((i : Int) + (1 : Int)))))]]) ∧ ([] : List (Option Chunk)) = []) (
            some (Ans.c (CRes.ret (V.agg [i64 (addE (owE a b R W (op (Int.toNat (i : Int))) (arg (Int.toNat (i : Int))) 0) (x 0 (Int.toNat (w ((i : Int) + (1 : Int)))))), i64 (addE (owE a b R W (op (Int.toNat (i : Int))) (arg (Int.toNat (i : Int))) 1) (x 1 (Int.toNat (w ((i : Int) + (1 : Int)))))), i64 (addE (owE a b R W (op (Int.toNat (i : Int))) (arg (Int.toNat (i : Int))) 2) (x 2 (Int.toNat (w ((i : Int) + (1 : Int)))))), i64 (addE (owE a b R W (op (Int.toNat (i : Int))) (arg (Int.toNat (i : Int))) 3) (x 3 (Int.toNat (w ((i : Int) + (1 : Int)))))), i64 (addE (owE a b R W (op (Int.toNat (i : Int))) (arg (Int.toNat (i : Int))) 4) (x 4 (Int.toNat (w ((i : Int) + (1 : Int)))))), i64 (addE (owE a b R W (op (Int.toNat (i : Int))) (arg (Int.toNat (i : Int))) 5) (x 5 (Int.toNat (w ((i : Int) + (1 : Int))))))]) []))) (
            none)
          else
           none) (
          none)
  else
   none := by kernel_rfl

/-- The code is valid and suits the rig. -/
structure Fit (vs : Int) (n : Nat) (op arg : Nat → Int) (k : Nat) (a b c : Nat → Int) (R W : Int) : Prop where
  vp : Cv.VP (mkC vs n op arg)
  n3 : n ≤ 300
  n0 : n ≠ 0
  rig : rigP k a b c R W
  job : jobP n op arg k
theorem Fit.stop {vs : Int} {n : Nat} {op arg : Nat → Int} {k : Nat} {a b c : Nat → Int} {R W : Int} (h : Fit vs n op arg k a b c R W) {i : Nat} (hi : i < n) (h28 : op i ≠ 28) : i + 1 < n := by
  have hs : op i = 28 ↔ i + 1 = n := (h.vp.1 i hi).2
  by_cases g : i + 1 = n
  · exact absurd (hs.2 g) h28
  · omega
theorem Fit.jump {vs : Int} {n : Nat} {op arg : Nat → Int} {k : Nat} {a b c : Nat → Int} {R W : Int} (h : Fit vs n op arg k a b c R W) {i : Nat} (hi : i < n) (hj : op i = 14 ∨ op i = 15) : (i : Int) + 1 ≤ arg i ∧ arg i ≤ (n : Int) - 1 := Cv.rng_jump (c := mkC vs n op arg) (i := i) hj (h.vp.1 i hi).1
theorem Fit.work {vs : Int} {n : Nat} {op arg : Nat → Int} {k : Nat} {a b c : Nat → Int} {R W : Int} (h : Fit vs n op arg k a b c R W) {i : Nat} (hi : i < n) (hj : op i = 23) : 0 ≤ w (Int.tdiv (arg i) 1000000) ∧ w (Int.tdiv (arg i) 1000000) < k := by
  refine ⟨?_, h.job i (Nat.zero_le _) hi hj⟩
  have hr : Cv.rng (mkC vs n op arg) i := (h.vp.1 i hi).1
  unfold Cv.rng Cv.rngL Cv.rngH at hr
  have e1 : (mkC vs n op arg).op i = op i := rfl
  have e2 : (mkC vs n op arg).arg i = arg i := rfl
  rw [e1, e2, hj] at hr
  have h0 : 0 ≤ arg i ∧ arg i ≤ 7999999 := by simpa using hr
  rw [Int.tdiv_eq_ediv_of_nonneg h0.1, w_in (by unfold inR; omega)]
  omega
theorem Fit.loop {vs : Int} {n : Nat} {op arg : Nat → Int} {k : Nat} {a b c : Nat → Int} {R W : Int} (h : Fit vs n op arg k a b c R W) {i : Nat} (hi : i < n) (hj : op i = 16) : Cv.endF (mkC vs n op arg) i = Cv.endR (mkC vs n op arg) i ∧ (i : Int) < Cv.endF (mkC vs n op arg) i ∧ Cv.endF (mkC vs n op arg) i + 1 < n := Cv.end_same h.vp hi hj
set_option maxRecDepth 100000 in
theorem need_sc (nm : ByteArray) (ps : Int) {vs : Int} {n : Nat} {op arg : Nat → Int} {k : Nat} {a b c : Nat → Int} {R W : Int} (hf : Fit vs n op arg k a b c R W) (x : Nat → Nat → Int) {i : Nat} (hi : i < n) : SC E2 40 [codV nm ps vs n op arg, rigV k a b c R W, .ro 1 n (r1 (Cv.endF (mkC vs n op arg))), crt n x, i64 i] [] (.ret (c6 (ndF (mkC vs n op arg) a b R W x i)) []) := by
  have hn := hf.n3
  refine SC.of hW2 hX2 (sC40 (n := n) (op := op) (arg := arg) hf.rig.1.2.1) ltab2_nil ((f40 nm ps vs n op arg k a b c R W (Cv.endF (mkC vs n op arg)) x i).trans ?_)
  have hbb : (0 : Int) ≤ (i : Int) ∧ (i : Int) < (n : Int) := by omega
  have ew : w ((i : Int) + 1) = ((i + 1 : Nat) : Int) := by rw [w_in (by unfold inR; omega)]; omega
  have eo : (mkC vs n op arg).op i = op i := rfl
  have ea : (mkC vs n op arg).arg i = arg i := rfl
  rw [if_pos hbb]
  unfold ndF
  rw [eo, ea]
  simp only [Int.toNat_natCast, ew, eq_self]
  by_cases h28 : op i = 28
  · rw [if_pos (by simpa using h28), if_pos (.inl h28)]; rfl
  have hs := hf.stop hi h28
  have hb1 : (0 : Int) ≤ ((i + 1 : Nat) : Int) ∧ ((i + 1 : Nat) : Int) < (n : Int) := by omega
  rw [if_neg (by simpa using h28)]
  by_cases h27 : op i = 27
  · rw [if_pos (by simpa using h27), if_pos (.inr (.inl h27))]; rfl
  rw [if_neg (by simpa using h27)]
  by_cases h17 : op i = 17
  · rw [if_pos (by simpa using h17), if_pos (.inr (.inr h17))]; rfl
  rw [if_neg (by simpa using h17), if_neg (show ¬ (op i = 28 ∨ op i = 27 ∨ op i = 17) by omega)]
  by_cases h14 : op i = 14
  · have hj := hf.jump hi (.inl h14)
    rw [if_pos (by simpa using h14), if_pos h14, if_pos (by omega)]; rfl
  rw [if_neg (by simpa using h14), if_neg h14]
  by_cases h15 : op i = 15
  · have hj := hf.jump hi (.inr h15)
    rw [if_pos (by simpa using h15), if_pos h15, if_pos hb1, if_pos (by omega), cl_pos ⟨qmx3 _ _ _ _ _ _ _ _ _ _ _ _, trivial⟩]; rfl
  rw [if_neg (by simpa using h15), if_neg h15]
  by_cases h16 : op i = 16
  · obtain ⟨_, e1, e2⟩ := hf.loop hi h16
    have ee : w (Cv.endF (mkC vs n op arg) i + 1) = Cv.endF (mkC vs n op arg) i + 1 := w_in (by unfold inR; omega)
    rw [if_pos (by simpa using h16), if_pos h16, if_pos hb1, cl_pos ⟨qtm _ _ _ _ _ _ _, trivial⟩, if_pos hbb, ee, if_pos (by omega), cl_pos ⟨qadd _ _ _ _ _ _ _ _ _ _ _ _, trivial⟩]; rfl
  rw [if_neg (by simpa using h16), if_neg h16, cl_pos ⟨⟨_, _, rfl, fun g => hf.work hi g⟩, trivial⟩, if_pos hb1, cl_pos ⟨qadd _ _ _ _ _ _ _ _ _ _ _ _, trivial⟩]; rfl
/-! The reference's. -/
def QMx2 (args : List V) : Prop := ∃ a b : Nat → Int, args = [c6 a, c6 b]
theorem qmx2 (a0 a1 a2 a3 a4 a5 b0 b1 b2 b3 b4 b5 : Int) : QMx2 [V.agg [i64 a0, i64 a1, i64 a2, i64 a3, i64 a4, i64 a5], V.agg [i64 b0, i64 b1, i64 b2, i64 b3, i64 b4, i64 b5]] := ⟨l6 a0 a1 a2 a3 a4 a5, l6 b0 b1 b2 b3 b4 b5, rfl⟩
def QEnd (nm : ByteArray) (ps vs : Int) (n : Nat) (op arg : Nat → Int) (args : List V) : Prop := ∃ i : Nat, args = [codV nm ps vs n op arg, i64 i] ∧ i < n
def endZ (c : Cv.Cd) (i : Int) : Int := Cv.endR c i.toNat
def vEnd (vs : Int) (n : Nat) (op arg : Nat → Int) : List V → V
  | [_, .sc (.int .i64 i)] => i64 (endZ (mkC vs n op arg) i)
  | _ => .junk
noncomputable def C42 (nm : ByteArray) (ps vs : Int) (n : Nat) (op arg : Nat → Int) (k : Nat) (a b c : Nat → Int) (R W : Int) : CallT := ptab 65 (QEnd nm ps vs n op arg) (vEnd vs n op arg) (ptab 62 QPart vPart (ptab 64 QTm vTm (ptab 63 QMx2 vMx (ptab 32 QAdd vAdd (ptab 50 (QOw n op arg k a b c R W) (vOw a b R W) (tab []))))))
theorem sC42 (nm : ByteArray) (ps : Int) {vs : Int} {n : Nat} {op arg : Nat → Int} {k : Nat} {a b c : Nat → Int} {R W : Int} (hf : Fit vs n op arg k a b c R W) : SoundC E2 (C42 nm ps vs n op arg k a b c R W) := by
  have hr := hf.rig.1
  refine ptab_cons (fun args h => ?_) (ptab_cons (fun args h => ?_) (ptab_cons (fun args h => ?_) (ptab_cons (fun args h => ?_) (ptab_cons (fun args h => ?_) (ptab_cons (fun args h => ?_) tab_nil)))))
  · obtain ⟨i, rfl, h⟩ := h; exact refEnd_sc nm ps vs hf.n3 h
  · obtain ⟨l, x, j, rfl⟩ := h; exact part_sc l x j
  · obtain ⟨a, m, rfl⟩ := h; exact refTm_sc a m
  · obtain ⟨a, b, rfl⟩ := h; exact refMx_sc a b
  · obtain ⟨a, b, rfl⟩ := h; exact refAdd_sc a b
  · obtain ⟨o, t, rfl, h⟩ := h; exact refOwn_sc hr.2.1 hr.2.2.1 hr.2.2.2.1 hr.2.2.2.2 h
theorem f42 (nm : ByteArray) (ps vs : Int) (n : Nat) (op arg : Nat → Int) (k : Nat) (a b c : Nat → Int) (R W : Int) (l : Nat) (x : Nat → Nat → Int) (f i : Nat) : callK E2 (C42 nm ps vs n op arg k a b c R W) (ltab2 []) 42 [codV nm ps vs n op arg, rigV k a b c R W, .ro 6 l (rc x), i64 f, i64 i] [] K =
  if (0 : Int) ≤ (i : Int) ∧ (i : Int) < (n : Int) then
   if (op (Int.toNat (i : Int)) == (28 : Int)) = true then
    some (Ans.c (CRes.ret (V.agg [i64 0, i64 0, i64 0, i64 0, i64 0, i64 0]) []))
   else
    if (op (Int.toNat (i : Int)) == (27 : Int)) = true then
     some (Ans.c (CRes.ret (V.agg [i64 0, i64 0, i64 0, i64 0, i64 0, i64 0]) []))
    else
     if (op (Int.toNat (i : Int)) == (17 : Int)) = true then
      some (Ans.c (CRes.ret (V.agg [i64 0, i64 0, i64 0, i64 0, i64 0, i64 0]) []))
     else
      if (op (Int.toNat (i : Int)) == (14 : Int)) = true then
       cl (QPart ([V.ro 6 l (rc x), i64 (w (arg (Int.toNat (i : Int)) - (f : Int)))]) ∧ ([] : List (Option Chunk)) = []) (
        some (Ans.c (CRes.ret (V.agg [i64 (pt l (rc x) (w (arg (Int.toNat (i : Int)) - (f : Int))) 0), i64 (pt l (rc x) (w (arg (Int.toNat (i : Int)) - (f : Int))) 1), i64 (pt l (rc x) (w (arg (Int.toNat (i : Int)) - (f : Int))) 2), i64 (pt l (rc x) (w (arg (Int.toNat (i : Int)) - (f : Int))) 3), i64 (pt l (rc x) (w (arg (Int.toNat (i : Int)) - (f : Int))) 4), i64 (pt l (rc x) (w (arg (Int.toNat (i : Int)) - (f : Int))) 5)]) []))) (
        none)
      else
       if (op (Int.toNat (i : Int)) == (15 : Int)) = true then
        cl (QPart ([V.ro 6 l (rc x), i64 (w (w ((i : Int) + (1 : Int)) - (f : Int)))]) ∧ ([] : List (Option Chunk)) = []) (
         cl (QPart ([V.ro 6 l (rc x), i64 (w (arg (Int.toNat (i : Int)) - (f : Int)))]) ∧ ([] : List (Option Chunk)) = []) (
          cl (QMx2 ([V.agg [i64 (pt l (rc x) (w (w ((i : Int) + (1 : Int)) - (f : Int))) 0), i64 (pt l (rc x) (w (w ((i : Int) + (1 : Int)) - (f : Int))) 1), i64 (pt l (rc x) (w (w ((i : Int) + (1 : Int)) - (f : Int))) 2), i64 (pt l (rc x) (w (w ((i : Int) + (1 : Int)) - (f : Int))) 3), i64 (pt l (rc x) (w (w ((i : Int) + (1 : Int)) - (f : Int))) 4), i64 (pt l (rc x) (w (w ((i : Int) + (1 : Int)) - (f : Int))) 5)], V.agg [i64 (pt l (rc x) (w (arg (Int.toNat (i : Int)) - (f : Int))) 0), i64 (pt l (rc x) (w (arg (Int.toNat (i : Int)) - (f : Int))) 1), i64 (pt l (rc x) (w (arg (Int.toNat (i : Int)) - (f : Int))) 2), i64 (pt l (rc x) (w (arg (Int.toNat (i : Int)) - (f : Int))) 3), i64 (pt l (rc x) (w (arg (Int.toNat (i : Int)) - (f : Int))) 4), i64 (pt l (rc x) (w (arg (Int.toNat (i : Int)) - (f : Int))) 5)]]) ∧ ([] : List (Option Chunk)) = []) (
           some (Ans.c (CRes.ret (V.agg [i64 (mxE (pt l (rc x) (w (w ((i : Int) + (1 : Int)) - (f : Int))) 0) (pt l (rc x) (w (arg (Int.toNat (i : Int)) - (f : Int))) 0)), i64 (mxE (pt l (rc x) (w (w ((i : Int) + (1 : Int)) - (f : Int))) 1) (pt l (rc x) (w (arg (Int.toNat (i : Int)) - (f : Int))) 1)), i64 (mxE (pt l (rc x) (w (w ((i : Int) + (1 : Int)) - (f : Int))) 2) (pt l (rc x) (w (arg (Int.toNat (i : Int)) - (f : Int))) 2)), i64 (mxE (pt l (rc x) (w (w ((i : Int) + (1 : Int)) - (f : Int))) 3) (pt l (rc x) (w (arg (Int.toNat (i : Int)) - (f : Int))) 3)), i64 (mxE (pt l (rc x) (w (w ((i : Int) + (1 : Int)) - (f : Int))) 4) (pt l (rc x) (w (arg (Int.toNat (i : Int)) - (f : Int))) 4)), i64 (mxE (pt l (rc x) (w (w ((i : Int) + (1 : Int)) - (f : Int))) 5) (pt l (rc x) (w (arg (Int.toNat (i : Int)) - (f : Int))) 5))]) []))) (
           none)) (
          none)) (
         none)
       else
        if (op (Int.toNat (i : Int)) == (16 : Int)) = true then
         cl (QPart ([V.ro 6 l (rc x), i64 (w (w ((i : Int) + (1 : Int)) - (f : Int)))]) ∧ ([] : List (Option Chunk)) = []) (
          cl (QTm ([V.agg [i64 (pt l (rc x) (w (w ((i : Int) + (1 : Int)) - (f : Int))) 0), i64 (pt l (rc x) (w (w ((i : Int) + (1 : Int)) - (f : Int))) 1), i64 (pt l (rc x) (w (w ((i : Int) + (1 : Int)) - (f : Int))) 2), i64 (pt l (rc x) (w (w ((i : Int) + (1 : Int)) - (f : Int))) 3), i64 (pt l (rc x) (w (w ((i : Int) + (1 : Int)) - (f : Int))) 4), i64 (pt l (rc x) (w (w ((i : Int) + (1 : Int)) - (f : Int))) 5)], i64 (arg (Int.toNat (i : Int)))]) ∧ ([] : List (Option Chunk)) = []) (
           cl ((QEnd nm ps vs n op arg) ([V.agg [V.sc (Value.string nm), i64 ps, i64 vs, V.ro 2 n (ins op arg)], i64 (i : Int)]) ∧ ([] : List (Option Chunk)) = []) (
            cl (QPart ([V.ro 6 l (rc x), i64 (w (w (endZ (mkC vs n op arg) (i : Int) + (1 : Int)) - (f : Int)))]) ∧ ([] : List (Option Chunk)) = []) (
             cl (QAdd ([V.agg [i64 (tmE (pt l (rc x) (w (w ((i : Int) + (1 : Int)) - (f : Int))) 0) (arg (Int.toNat (i : Int)))), i64 (tmE (pt l (rc x) (w (w ((i : Int) + (1 : Int)) - (f : Int))) 1) (arg (Int.toNat (i : Int)))), i64 (tmE (pt l (rc x) (w (w ((i : Int) + (1 : Int)) - (f : Int))) 2) (arg (Int.toNat (i : Int)))), i64 (tmE (pt l (rc x) (w (w ((i : Int) + (1 : Int)) - (f : Int))) 3) (arg (Int.toNat (i : Int)))), i64 (tmE (pt l (rc x) (w (w ((i : Int) + (1 : Int)) - (f : Int))) 4) (arg (Int.toNat (i : Int)))), i64 (tmE (pt l (rc x) (w (w ((i : Int) + (1 : Int)) - (f : Int))) 5) (arg (Int.toNat (i : Int))))], V.agg [i64 (pt l (rc x) (w (w (endZ (mkC vs n op arg) (i : Int) + (1 : Int)) - (f : Int))) 0), i64 (pt l (rc x) (w (w (endZ (mkC vs n op arg) (i : Int) + (1 : Int)) - (f : Int))) 1), i64 (pt l (rc x) (w (w (endZ (mkC vs n op arg) (i : Int) + (1 : Int)) - (f : Int))) 2), i64 (pt l (rc x) (w (w (endZ (mkC vs n op arg) (i : Int) + (1 : Int)) - (f : Int))) 3), i64 (pt l (rc x) (w (w (endZ (mkC vs n op arg) (i : Int) + (1 : Int)) - (f : Int))) 4), i64 (pt l (rc x) (w (w (endZ (mkC vs n op arg) (i : Int) + (1 : Int)) - (f : Int))) 5)]]) ∧ ([] : List (Option Chunk)) = []) (
              some (Ans.c (CRes.ret (V.agg [i64 (addE (tmE (pt l (rc x) (w (w ((i : Int) + (1 : Int)) - (f : Int))) 0) (arg (Int.toNat (i : Int)))) (pt l (rc x) (w (w (endZ (mkC vs n op arg) (i : Int) + (1 : Int)) - (f : Int))) 0)), i64 (addE (tmE (pt l (rc x) (w (w ((i : Int) + (1 : Int)) - (f : Int))) 1) (arg (Int.toNat (i : Int)))) (pt l (rc x) (w (w (endZ (mkC vs n op arg) (i : Int) + (1 : Int)) - (f : Int))) 1)), i64 (addE (tmE (pt l (rc x) (w (w ((i : Int) + (1 : Int)) - (f : Int))) 2) (arg (Int.toNat (i : Int)))) (pt l (rc x) (w (w (endZ (mkC vs n op arg) (i : Int) + (1 : Int)) - (f : Int))) 2)), i64 (addE (tmE (pt l (rc x) (w (w ((i : Int) + (1 : Int)) - (f : Int))) 3) (arg (Int.toNat (i : Int)))) (pt l (rc x) (w (w (endZ (mkC vs n op arg) (i : Int) + (1 : Int)) - (f : Int))) 3)), i64 (addE (tmE (pt l (rc x) (w (w ((i : Int) + (1 : Int)) - (f : Int))) 4) (arg (Int.toNat (i : Int)))) (pt l (rc x) (w (w (endZ (mkC vs n op arg) (i : Int) + (1 : Int)) - (f : Int))) 4)), i64 (addE (tmE (pt l (rc x) (w (w ((i : Int) + (1 : Int)) - (f : Int))) 5) (arg (Int.toNat (i : Int)))) (pt l (rc x) (w (w (endZ (mkC vs n op arg) (i : Int) + (1 : Int)) - (f : Int))) 5))]) []))) (
              none)) (
             none)) (
            none)) (
           none)) (
          none)
        else
         cl ((QOw n op arg k a b c R W) ([V.agg [i64 (op (Int.toNat (i : Int))), i64 (arg (Int.toNat (i : Int)))], V.agg [V.ro 3 k (r3 a b c), i64 R, i64 W]]) ∧ ([] : List (Option Chunk)) = []) (
          cl (QPart ([V.ro 6 l (rc x), i64 (w (w ((i : Int) + (1 : Int)) - (f : Int)))]) ∧ ([] : List (Option Chunk)) = []) (
           cl (QAdd ([V.agg [i64 (owE a b R W (op (Int.toNat (i : Int))) (arg (Int.toNat (i : Int))) 0), i64 (owE a b R W (op (Int.toNat (i : Int))) (arg (Int.toNat (i : Int))) 1), i64 (owE a b R W (op (Int.toNat (i : Int))) (arg (Int.toNat (i : Int))) 2), i64 (owE a b R W (op (Int.toNat (i : Int))) (arg (Int.toNat (i : Int))) 3), i64 (owE a b R W (op (Int.toNat (i : Int))) (arg (Int.toNat (i : Int))) 4), i64 (owE a b R W (op (Int.toNat (i : Int))) (arg (Int.toNat (i : Int))) 5)], V.agg [i64 (pt l (rc x) (w (w ((i : Int) + (1 : Int)) - (f : Int))) 0), i64 (pt l (rc x) (w (w ((i : Int) + (1 : Int)) - (f : Int))) 1), i64 (pt l (rc x) (w (w ((i : Int) + (1 : Int)) - (f : Int))) 2), i64 (pt l (rc x) (w (w ((i : Int) + (1 : Int)) - (f : Int))) 3), i64 (pt l (rc x) (w (w ((i : Int) + (1 : Int)) - (f : Int))) 4), i64 (pt l (rc x) (w (w ((i : Int) + (1 : Int)) - (f : Int))) 5)]]) ∧ ([] : List (Option Chunk)) = []) (
            some (Ans.c (CRes.ret (V.agg [i64 (addE (owE a b R W (op (Int.toNat (i : Int))) (arg (Int.toNat (i : Int))) 0) (pt l (rc x) (w (w ((i : Int) + (1 : Int)) - (f : Int))) 0)), i64 (addE (owE a b R W (op (Int.toNat (i : Int))) (arg (Int.toNat (i : Int))) 1) (pt l (rc x) (w (w ((i : Int) + (1 : Int)) - (f : Int))) 1)), i64 (addE (owE a b R W (op (Int.toNat (i : Int))) (arg (Int.toNat (i : Int))) 2) (pt l (rc x) (w (w ((i : Int) + (1 : Int)) - (f : Int))) 2)), i64 (addE (owE a b R W (op (Int.toNat (i : Int))) (arg (Int.toNat (i : Int))) 3) (pt l (rc x) (w (w ((i : Int) + (1 : Int)) - (f : Int))) 3)), i64 (addE (owE a b R W (op (Int.toNat (i : Int))) (arg (Int.toNat (i : Int))) 4) (pt l (rc x) (w (w ((i : Int) + (1 : Int)) - (f : Int))) 4)), i64 (addE (owE a b R W (op (Int.toNat (i : Int))) (arg (Int.toNat (i : Int))) 5) (pt l (rc x) (w (w ((i : Int) + (1 : Int)) - (f : Int))) 5))]) []))) (
            none)) (
           none)) (
          none)
  else
   none := by kernel_rfl
theorem f42z (nm : ByteArray) (ps vs : Int) (n : Nat) (op arg : Nat → Int) (k : Nat) (a b c : Nat → Int) (R W : Int) (f i : Nat) : callK E2 (C42 nm ps vs n op arg k a b c R W) (ltab2 []) 42 [codV nm ps vs n op arg, rigV k a b c R W, .sc (.slice none 0 0), i64 f, i64 i] [] K =
  if (0 : Int) ≤ (i : Int) ∧ (i : Int) < (n : Int) then
   if (op (Int.toNat (i : Int)) == (28 : Int)) = true then
    some (Ans.c (CRes.ret (V.agg [i64 0, i64 0, i64 0, i64 0, i64 0, i64 0]) []))
   else
    if (op (Int.toNat (i : Int)) == (27 : Int)) = true then
     some (Ans.c (CRes.ret (V.agg [i64 0, i64 0, i64 0, i64 0, i64 0, i64 0]) []))
    else
     if (op (Int.toNat (i : Int)) == (17 : Int)) = true then
      some (Ans.c (CRes.ret (V.agg [i64 0, i64 0, i64 0, i64 0, i64 0, i64 0]) []))
     else
      if (op (Int.toNat (i : Int)) == (14 : Int)) = true then
       cl (QPart ([V.sc (Value.slice none 0 0), i64 (w (arg (Int.toNat (i : Int)) - (f : Int)))]) ∧ ([] : List (Option Chunk)) = []) (
        some (Ans.c (CRes.ret (V.agg [i64 (pt 0 (fun (x : Nat) => []) (w (arg (Int.toNat (i : Int)) - (f : Int))) 0), i64 (pt 0 (fun (x : Nat) => []) (w (arg (Int.toNat (i : Int)) - (f : Int))) 1), i64 (pt 0 (fun (x : Nat) => []) (w (arg (Int.toNat (i : Int)) - (f : Int))) 2), i64 (pt 0 (fun (x : Nat) => []) (w (arg (Int.toNat (i : Int)) - (f : Int))) 3), i64 (pt 0 (fun (x : Nat) => []) (w (arg (Int.toNat (i : Int)) - (f : Int))) 4), i64 (pt 0 (fun (x : Nat) => []) (w (arg (Int.toNat (i : Int)) - (f : Int))) 5)]) []))) (
        none)
      else
       if (op (Int.toNat (i : Int)) == (15 : Int)) = true then
        cl (QPart ([V.sc (Value.slice none 0 0), i64 (w (w ((i : Int) + (1 : Int)) - (f : Int)))]) ∧ ([] : List (Option Chunk)) = []) (
         cl (QPart ([V.sc (Value.slice none 0 0), i64 (w (arg (Int.toNat (i : Int)) - (f : Int)))]) ∧ ([] : List (Option Chunk)) = []) (
          cl (QMx2 ([V.agg [i64 (pt 0 (fun (x : Nat) => []) (w (w ((i : Int) + (1 : Int)) - (f : Int))) 0), i64 (pt 0 (fun (x : Nat) => []) (w (w ((i : Int) + (1 : Int)) - (f : Int))) 1), i64 (pt 0 (fun (x : Nat) => []) (w (w ((i : Int) + (1 : Int)) - (f : Int))) 2), i64 (pt 0 (fun (x : Nat) => []) (w (w ((i : Int) + (1 : Int)) - (f : Int))) 3), i64 (pt 0 (fun (x : Nat) => []) (w (w ((i : Int) + (1 : Int)) - (f : Int))) 4), i64 (pt 0 (fun (x : Nat) => []) (w (w ((i : Int) + (1 : Int)) - (f : Int))) 5)], V.agg [i64 (pt 0 (fun (x : Nat) => []) (w (arg (Int.toNat (i : Int)) - (f : Int))) 0), i64 (pt 0 (fun (x : Nat) => []) (w (arg (Int.toNat (i : Int)) - (f : Int))) 1), i64 (pt 0 (fun (x : Nat) => []) (w (arg (Int.toNat (i : Int)) - (f : Int))) 2), i64 (pt 0 (fun (x : Nat) => []) (w (arg (Int.toNat (i : Int)) - (f : Int))) 3), i64 (pt 0 (fun (x : Nat) => []) (w (arg (Int.toNat (i : Int)) - (f : Int))) 4), i64 (pt 0 (fun (x : Nat) => []) (w (arg (Int.toNat (i : Int)) - (f : Int))) 5)]]) ∧ ([] : List (Option Chunk)) = []) (
           some (Ans.c (CRes.ret (V.agg [i64 (mxE (pt 0 (fun (x : Nat) => []) (w (w ((i : Int) + (1 : Int)) - (f : Int))) 0) (pt 0 (fun (x : Nat) => []) (w (arg (Int.toNat (i : Int)) - (f : Int))) 0)), i64 (mxE (pt 0 (fun (x : Nat) => []) (w (w ((i : Int) + (1 : Int)) - (f : Int))) 1) (pt 0 (fun (x : Nat) => []) (w (arg (Int.toNat (i : Int)) - (f : Int))) 1)), i64 (mxE (pt 0 (fun (x : Nat) => []) (w (w ((i : Int) + (1 : Int)) - (f : Int))) 2) (pt 0 (fun (x : Nat) => []) (w (arg (Int.toNat (i : Int)) - (f : Int))) 2)), i64 (mxE (pt 0 (fun (x : Nat) => []) (w (w ((i : Int) + (1 : Int)) - (f : Int))) 3) (pt 0 (fun (x : Nat) => []) (w (arg (Int.toNat (i : Int)) - (f : Int))) 3)), i64 (mxE (pt 0 (fun (x : Nat) => []) (w (w ((i : Int) + (1 : Int)) - (f : Int))) 4) (pt 0 (fun (x : Nat) => []) (w (arg (Int.toNat (i : Int)) - (f : Int))) 4)), i64 (mxE (pt 0 (fun (x : Nat) => []) (w (w ((i : Int) + (1 : Int)) - (f : Int))) 5) (pt 0 (fun (x : Nat) => []) (w (arg (Int.toNat (i : Int)) - (f : Int))) 5))]) []))) (
           none)) (
          none)) (
         none)
       else
        if (op (Int.toNat (i : Int)) == (16 : Int)) = true then
         cl (QPart ([V.sc (Value.slice none 0 0), i64 (w (w ((i : Int) + (1 : Int)) - (f : Int)))]) ∧ ([] : List (Option Chunk)) = []) (
          cl (QTm ([V.agg [i64 (pt 0 (fun (x : Nat) => []) (w (w ((i : Int) + (1 : Int)) - (f : Int))) 0), i64 (pt 0 (fun (x : Nat) => []) (w (w ((i : Int) + (1 : Int)) - (f : Int))) 1), i64 (pt 0 (fun (x : Nat) => []) (w (w ((i : Int) + (1 : Int)) - (f : Int))) 2), i64 (pt 0 (fun (x : Nat) => []) (w (w ((i : Int) + (1 : Int)) - (f : Int))) 3), i64 (pt 0 (fun (x : Nat) => []) (w (w ((i : Int) + (1 : Int)) - (f : Int))) 4), i64 (pt 0 (fun (x : Nat) => []) (w (w ((i : Int) + (1 : Int)) - (f : Int))) 5)], i64 (arg (Int.toNat (i : Int)))]) ∧ ([] : List (Option Chunk)) = []) (
           cl ((QEnd nm ps vs n op arg) ([V.agg [V.sc (Value.string nm), i64 ps, i64 vs, V.ro 2 n (ins op arg)], i64 (i : Int)]) ∧ ([] : List (Option Chunk)) = []) (
            cl (QPart ([V.sc (Value.slice none 0 0), i64 (w (w (endZ (mkC vs n op arg) (i : Int) + (1 : Int)) - (f : Int)))]) ∧ ([] : List (Option Chunk)) = []) (
             cl (QAdd ([V.agg [i64 (tmE (pt 0 (fun (x : Nat) => []) (w (w ((i : Int) + (1 : Int)) - (f : Int))) 0) (arg (Int.toNat (i : Int)))), i64 (tmE (pt 0 (fun (x : Nat) => []) (w (w ((i : Int) + (1 : Int)) - (f : Int))) 1) (arg (Int.toNat (i : Int)))), i64 (tmE (pt 0 (fun (x : Nat) => []) (w (w ((i : Int) + (1 : Int)) - (f : Int))) 2) (arg (Int.toNat (i : Int)))), i64 (tmE (pt 0 (fun (x : Nat) => []) (w (w ((i : Int) + (1 : Int)) - (f : Int))) 3) (arg (Int.toNat (i : Int)))), i64 (tmE (pt 0 (fun (x : Nat) => []) (w (w ((i : Int) + (1 : Int)) - (f : Int))) 4) (arg (Int.toNat (i : Int)))), i64 (tmE (pt 0 (fun (x : Nat) => []) (w (w ((i : Int) + (1 : Int)) - (f : Int))) 5) (arg (Int.toNat (i : Int))))], V.agg [i64 (pt 0 (fun (x : Nat) => []) (w (w (endZ (mkC vs n op arg) (i : Int) + (1 : Int)) - (f : Int))) 0), i64 (pt 0 (fun (x : Nat) => []) (w (w (endZ (mkC vs n op arg) (i : Int) + (1 : Int)) - (f : Int))) 1), i64 (pt 0 (fun (x : Nat) => []) (w (w (endZ (mkC vs n op arg) (i : Int) + (1 : Int)) - (f : Int))) 2), i64 (pt 0 (fun (x : Nat) => []) (w (w (endZ (mkC vs n op arg) (i : Int) + (1 : Int)) - (f : Int))) 3), i64 (pt 0 (fun (x : Nat) => []) (w (w (endZ (mkC vs n op arg) (i : Int) + (1 : Int)) - (f : Int))) 4), i64 (pt 0 (fun (x : Nat) => []) (w (w (endZ (mkC vs n op arg) (i : Int) + (1 : Int)) - (f : Int))) 5)]]) ∧ ([] : List (Option Chunk)) = []) (
              some (Ans.c (CRes.ret (V.agg [i64 (addE (tmE (pt 0 (fun (x : Nat) => []) (w (w ((i : Int) + (1 : Int)) - (f : Int))) 0) (arg (Int.toNat (i : Int)))) (pt 0 (fun (x : Nat) => []) (w (w (endZ (mkC vs n op arg) (i : Int) + (1 : Int)) - (f : Int))) 0)), i64 (addE (tmE (pt 0 (fun (x : Nat) => []) (w (w ((i : Int) + (1 : Int)) - (f : Int))) 1) (arg (Int.toNat (i : Int)))) (pt 0 (fun (x : Nat) => []) (w (w (endZ (mkC vs n op arg) (i : Int) + (1 : Int)) - (f : Int))) 1)), i64 (addE (tmE (pt 0 (fun (x : Nat) => []) (w (w ((i : Int) + (1 : Int)) - (f : Int))) 2) (arg (Int.toNat (i : Int)))) (pt 0 (fun (x : Nat) => []) (w (w (endZ (mkC vs n op arg) (i : Int) + (1 : Int)) - (f : Int))) 2)), i64 (addE (tmE (pt 0 (fun (x : Nat) => []) (w (w ((i : Int) + (1 : Int)) - (f : Int))) 3) (arg (Int.toNat (i : Int)))) (pt 0 (fun (x : Nat) => []) (w (w (endZ (mkC vs n op arg) (i : Int) + (1 : Int)) - (f : Int))) 3)), i64 (addE (tmE (pt 0 (fun (x : Nat) => []) (w (w ((i : Int) + (1 : Int)) - (f : Int))) 4) (arg (Int.toNat (i : Int)))) (pt 0 (fun (x : Nat) => []) (w (w (endZ (mkC vs n op arg) (i : Int) + (1 : Int)) - (f : Int))) 4)), i64 (addE (tmE (pt 0 (fun (x : Nat) => []) (w (w ((i : Int) + (1 : Int)) - (f : Int))) 5) (arg (Int.toNat (i : Int)))) (pt 0 (fun (x : Nat) => []) (w (w (endZ (mkC vs n op arg) (i : Int) + (1 : Int)) - (f : Int))) 5))]) []))) (
              none)) (
             none)) (
            none)) (
           none)) (
          none)
        else
         cl ((QOw n op arg k a b c R W) ([V.agg [i64 (op (Int.toNat (i : Int))), i64 (arg (Int.toNat (i : Int)))], V.agg [V.ro 3 k (r3 a b c), i64 R, i64 W]]) ∧ ([] : List (Option Chunk)) = []) (
          cl (QPart ([V.sc (Value.slice none 0 0), i64 (w (w ((i : Int) + (1 : Int)) - (f : Int)))]) ∧ ([] : List (Option Chunk)) = []) (
           cl (QAdd ([V.agg [i64 (owE a b R W (op (Int.toNat (i : Int))) (arg (Int.toNat (i : Int))) 0), i64 (owE a b R W (op (Int.toNat (i : Int))) (arg (Int.toNat (i : Int))) 1), i64 (owE a b R W (op (Int.toNat (i : Int))) (arg (Int.toNat (i : Int))) 2), i64 (owE a b R W (op (Int.toNat (i : Int))) (arg (Int.toNat (i : Int))) 3), i64 (owE a b R W (op (Int.toNat (i : Int))) (arg (Int.toNat (i : Int))) 4), i64 (owE a b R W (op (Int.toNat (i : Int))) (arg (Int.toNat (i : Int))) 5)], V.agg [i64 (pt 0 (fun (x : Nat) => []) (w (w ((i : Int) + (1 : Int)) - (f : Int))) 0), i64 (pt 0 (fun (x : Nat) => []) (w (w ((i : Int) + (1 : Int)) - (f : Int))) 1), i64 (pt 0 (fun (x : Nat) => []) (w (w ((i : Int) + (1 : Int)) - (f : Int))) 2), i64 (pt 0 (fun (x : Nat) => []) (w (w ((i : Int) + (1 : Int)) - (f : Int))) 3), i64 (pt 0 (fun (x : Nat) => []) (w (w ((i : Int) + (1 : Int)) - (f : Int))) 4), i64 (pt 0 (fun (x : Nat) => []) (w (w ((i : Int) + (1 : Int)) - (f : Int))) 5)]]) ∧ ([] : List (Option Chunk)) = []) (
            some (Ans.c (CRes.ret (V.agg [i64 (addE (owE a b R W (op (Int.toNat (i : Int))) (arg (Int.toNat (i : Int))) 0) (pt 0 (fun (x : Nat) => []) (w (w ((i : Int) + (1 : Int)) - (f : Int))) 0)), i64 (addE (owE a b R W (op (Int.toNat (i : Int))) (arg (Int.toNat (i : Int))) 1) (pt 0 (fun (x : Nat) => []) (w (w ((i : Int) + (1 : Int)) - (f : Int))) 1)), i64 (addE (owE a b R W (op (Int.toNat (i : Int))) (arg (Int.toNat (i : Int))) 2) (pt 0 (fun (x : Nat) => []) (w (w ((i : Int) + (1 : Int)) - (f : Int))) 2)), i64 (addE (owE a b R W (op (Int.toNat (i : Int))) (arg (Int.toNat (i : Int))) 3) (pt 0 (fun (x : Nat) => []) (w (w ((i : Int) + (1 : Int)) - (f : Int))) 3)), i64 (addE (owE a b R W (op (Int.toNat (i : Int))) (arg (Int.toNat (i : Int))) 4) (pt 0 (fun (x : Nat) => []) (w (w ((i : Int) + (1 : Int)) - (f : Int))) 4)), i64 (addE (owE a b R W (op (Int.toNat (i : Int))) (arg (Int.toNat (i : Int))) 5) (pt 0 (fun (x : Nat) => []) (w (w ((i : Int) + (1 : Int)) - (f : Int))) 5))]) []))) (
            none)) (
           none)) (
          none)
  else
   none := by kernel_rfl

theorem pt_in {l f t : Nat} {x : Nat → Nat → Int} {j : Int} (hj : j = (t : Int) - f) (h0 : f ≤ t) (h1 : t < f + l) : pt l (rc fun q p => x q (f + p)) j = nthI (rc x t) := by
  have e1 : j.toNat = t - f := by omega
  have e2 : rc (fun q p => x q (f + p)) (t - f) = rc x t := by
    simp only [rc, show f + (t - f) = t by omega]
  funext q
  unfold pt
  rw [if_neg (by omega), e1, e2]
set_option maxRecDepth 100000 in
theorem refNeed_sc (nm : ByteArray) (ps : Int) {vs : Int} {n : Nat} {op arg : Nat → Int} {k : Nat} {a b c : Nat → Int} {R W : Int} (hf : Fit vs n op arg k a b c R W) (x : Nat → Nat → Int) {i f l : Nat} (hi : i < n) (hfi : f ≤ i + 1) (hfl : f + l = n) : SC E2 42 [codV nm ps vs n op arg, rigV k a b c R W, crt l fun q p => x q (f + p), i64 f, i64 i] [] (.ret (c6 (ndF (mkC vs n op arg) a b R W x i)) []) := by
  have hn := hf.n3
  refine SC.of hW2 hX2 (sC42 nm ps hf) ltab2_nil ((f42 nm ps vs n op arg k a b c R W l (fun q p => x q (f + p)) f i).trans ?_)
  have hbb : (0 : Int) ≤ (i : Int) ∧ (i : Int) < (n : Int) := by omega
  have ew : w ((i : Int) + 1) = ((i + 1 : Nat) : Int) := by rw [w_in (by unfold inR; omega)]; omega
  have eo : (mkC vs n op arg).op i = op i := rfl
  have ea : (mkC vs n op arg).arg i = arg i := rfl
  rw [if_pos hbb]
  unfold ndF
  rw [eo, ea]
  simp only [Int.toNat_natCast, ew, eq_self]
  by_cases h28 : op i = 28
  · rw [if_pos (by simpa using h28), if_pos (.inl h28)]; rfl
  have hs := hf.stop hi h28
  have p1 : pt l (rc fun q p => x q (f + p)) (w (((i + 1 : Nat) : Int) - (f : Int))) = nthI (rc x (i + 1)) := pt_in (by rw [w_in (by unfold inR; omega)]) hfi (by omega)
  rw [if_neg (by simpa using h28)]
  by_cases h27 : op i = 27
  · rw [if_pos (by simpa using h27), if_pos (.inr (.inl h27))]; rfl
  rw [if_neg (by simpa using h27)]
  by_cases h17 : op i = 17
  · rw [if_pos (by simpa using h17), if_pos (.inr (.inr h17))]; rfl
  rw [if_neg (by simpa using h17), if_neg (show ¬ (op i = 28 ∨ op i = 27 ∨ op i = 17) by omega)]
  by_cases h14 : op i = 14
  · have hj := hf.jump hi (.inl h14)
    have p2 : pt l (rc fun q p => x q (f + p)) (w (arg i - (f : Int))) = nthI (rc x (arg i).toNat) := pt_in (t := (arg i).toNat) (by rw [w_in (by unfold inR; omega)]; omega) (by omega) (by omega)
    rw [if_pos (by simpa using h14), if_pos h14, cl_pos ⟨qpart _ _ _, trivial⟩, p2]; rfl
  rw [if_neg (by simpa using h14), if_neg h14]
  by_cases h15 : op i = 15
  · have hj := hf.jump hi (.inr h15)
    have p2 : pt l (rc fun q p => x q (f + p)) (w (arg i - (f : Int))) = nthI (rc x (arg i).toNat) := pt_in (t := (arg i).toNat) (by rw [w_in (by unfold inR; omega)]; omega) (by omega) (by omega)
    rw [if_pos (by simpa using h15), if_pos h15, cl_pos ⟨qpart _ _ _, trivial⟩, cl_pos ⟨qpart _ _ _, trivial⟩, cl_pos ⟨qmx2 _ _ _ _ _ _ _ _ _ _ _ _, trivial⟩, p1, p2]; rfl
  rw [if_neg (by simpa using h15), if_neg h15]
  by_cases h16 : op i = 16
  · obtain ⟨e0, e1, e2⟩ := hf.loop hi h16
    have ez : endZ (mkC vs n op arg) (i : Int) = Cv.endF (mkC vs n op arg) i := by unfold endZ; rw [Int.toNat_natCast, e0]
    have ee : w (Cv.endF (mkC vs n op arg) i + 1) = Cv.endF (mkC vs n op arg) i + 1 := w_in (by unfold inR; omega)
    have p2 : pt l (rc fun q p => x q (f + p)) (w (Cv.endF (mkC vs n op arg) i + 1 - (f : Int))) = nthI (rc x (Cv.endF (mkC vs n op arg) i + 1).toNat) := pt_in (t := (Cv.endF (mkC vs n op arg) i + 1).toNat) (by rw [w_in (by unfold inR; omega)]; omega) (by omega) (by omega)
    rw [if_pos (by simpa using h16), if_pos h16, cl_pos ⟨qpart _ _ _, trivial⟩, cl_pos ⟨qtm _ _ _ _ _ _ _, trivial⟩, cl_pos ⟨⟨i, rfl, hi⟩, trivial⟩, ez, ee, cl_pos ⟨qpart _ _ _, trivial⟩, cl_pos ⟨qadd _ _ _ _ _ _ _ _ _ _ _ _, trivial⟩, p1, p2]; rfl
  rw [if_neg (by simpa using h16), if_neg h16, cl_pos ⟨⟨_, _, rfl, fun g => hf.work hi g⟩, trivial⟩, cl_pos ⟨qpart _ _ _, trivial⟩, cl_pos ⟨qadd _ _ _ _ _ _ _ _ _ _ _ _, trivial⟩, p1]; rfl
/-- At the last instruction, before there is a list. -/
theorem refNeed_last (nm : ByteArray) (ps : Int) {vs : Int} {n : Nat} {op arg : Nat → Int} {k : Nat} {a b c : Nat → Int} {R W : Int} (hf : Fit vs n op arg k a b c R W) (x : Nat → Nat → Int) {i f : Nat} (hi : i + 1 = n) : SC E2 42 [codV nm ps vs n op arg, rigV k a b c R W, .sc (.slice none 0 0), i64 f, i64 i] [] (.ret (c6 (ndF (mkC vs n op arg) a b R W x i)) []) := by
  have h28 : op i = 28 := (hf.vp.1 i (by rw [← hi]; exact Nat.lt_succ_self i)).2.2 hi
  refine SC.of hW2 hX2 (sC42 nm ps hf) ltab2_nil ((f42z nm ps vs n op arg k a b c R W f i).trans ?_)
  have hbb : (0 : Int) ≤ (i : Int) ∧ (i : Int) < (n : Int) := by omega
  have eo : (mkC vs n op arg).op i = op i := rfl
  rw [if_pos hbb]
  unfold ndF
  rw [eo, Int.toNat_natCast, if_pos (by simpa using h28), if_pos (.inl h28)]
  rfl
end Go.Proofs.Ythegipdgillngaa
