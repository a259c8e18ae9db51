/- Texts joined. -/
import Derived.Test.YthkioinnobiieaaGreatDoorQD
import Derived.Test.YthkioinnobiieaaGreatDoorQC
import Derived.Deep.LoopGhost
import Derived.Lib.Walk
import Derived.Lib.SliceRun
/- Valid (73) and the reference's Verify (60), walked. -/
namespace Go.Proofs.YthkioinnobiieaaGreatDoor
open Go Go.Am Go.Proofs
set_option linter.unusedSimpArgs false
set_option linter.unusedVariables false
set_option maxRecDepth 100000
def opOf (g : Nat → List V) : Nat → Int := fun j => match g j with | [.sc (.int _ o), .sc (.int _ a)] => o | _ => 0
def argOf (g : Nat → List V) : Nat → Int := fun j => match g j with | [.sc (.int _ o), .sc (.int _ a)] => a | _ => 0
def QOpnd (args : List V) : Prop := ∃ (nm : ByteArray) (ps vs : Int) (n : Nat) (op arg : Nat → Int) (i : Nat), args = [codV nm ps vs n op arg, i64 i] ∧ i < n ∧ n ≤ 300 ∧ 0 ≤ vs ∧ vs ≤ 12
noncomputable def vOpnd : List V → V
 | [.agg [.sc (.string _), .sc (.int .i64 ps), .sc (.int .i64 vs), .ro 2 n g], .sc (.int .i64 i)] => bo (opndD (mkC vs n (opOf g) (argOf g)) i.toNat)
 | _ => .junk
def QReg (n : Nat) (op arg : Nat → Int) (args : List V) : Prop := args = [cd n op arg]
def QDep (n : Nat) (op arg : Nat → Int) (args : List V) : Prop := args = [cd n op arg] ∧ (∀ i, i < n → Cv.okOp (op i)) ∧ ∀ i, i < n → Cv.jmp (op i) → 0 ≤ arg i ∧ arg i < n
noncomputable def C73 (n : Nat) (op arg : Nat → Int) (F : V) (B : Bool) : CallT := ptab 86 QOpnd vOpnd (ptab 87 (QReg n op arg) (fun _ => F) (ptab 88 (QDep n op arg) (fun _ => bo B) (tab [])))
theorem sC73 {n : Nat} {op arg : Nat → Int} (vs : Int) (hn : n ≤ 300) (h1 : 1 ≤ n) {F : V} (hF : F = rgV n (Cv.regR (mkC vs n op arg) n 0 rg0)) : SoundC E2 (C73 n op arg F (depD (mkC vs n op arg))) := by
 subst hF
 refine ptab_cons (fun args h => ?_) (ptab_cons (fun args h => ?_) (ptab_cons (fun args h => ?_) tab_nil))
 ·obtain ⟨nm, ps, vs, n, op, arg, i, rfl, g1, g2, g3, g4⟩ := h
  exact opnd_sc g1 g2 g3 g4
 ·cases h
  exact regions_sc vs hn h1
 ·obtain ⟨rfl, g1, g2⟩ := h
  exact dep_sc vs hn h1 g1 g2
def S73a (nm : ByteArray) (ps vs : Int) (n : Nat) (op arg : Nat → Int) (i : Nat) : St := { fr := [.junk, .ptr 0 0, .junk, i64 i] ++ jk 115, H := hp [some (.blk [st nm, i64 ps, i64 vs, cd n op arg])], nx := 1, rt := 0, me := 47 }
def T73a (nm : ByteArray) (ps vs : Int) (n : Nat) (op arg : Nat → Int) : St := { fr := [.junk, .ptr 0 0] ++ jk 117, H := hp [some (.blk [st nm, i64 ps, i64 vs, cd n op arg])], nx := 1, rt := 0, me := 47 }
def T73r : St := { fr := [.junk, .junk, bo false] ++ jk 116, H := hp [], nx := 0, rt := 0, me := 47 }
def S73b (nm : ByteArray) (ps vs : Int) (n : Nat) (op arg : Nat → Int) (L W : Nat → Int) (i : Nat) : St := { fr := [.junk, .ptr 0 0, .junk, .junk, .ro 1 n (r1 L), .ro 1 n (r1 W), .junk, i64 i] ++ jk 111, H := hp [some (.blk [st nm, i64 ps, i64 vs, cd n op arg])], nx := 1, rt := 0, me := 47 }
theorem r73a (nm : ByteArray) (B : Bool) (ps vs : Int) (n : Nat) (op arg : Nat → Int) (i : Nat) (F : V) (lo : LoopT) : loopK E2 (C73 n op arg F B) lo 0 10 (bodyOf E2 47 0) (S73a nm ps vs n op arg i) (KC2 2 4) =
 if decide ((i : Int) < (n : Int)) = true then
 if (0 : Int) ≤ (i : Int) ∧ (i : Int) < (n : Int) then
 if (!(op (Int.toNat (i : Int)) == (28 : Int)) == ((i : Int) == w ((n : Int) - (1 : Int)))) = true then
 some (Ans.l Ex.ret { fr := [V.junk, V.junk, bo false] ++ jk 116, H := hp [], nx := 0, rt := 0, me := 47 })
 else
 cl (QOpnd ([V.agg [V.sc (Value.string nm), i64 ps, i64 vs, V.ro 2 n (ins op arg)], i64 (i : Int)]) ∧ ([] : List (Option Chunk)) = []) (
 if (!opndD (mkC vs n op arg) (Int.toNat (i : Int))) = true then
 some (Ans.l Ex.ret { fr := [V.junk, V.junk, bo false] ++ jk 116, H := hp [], nx := 0, rt := 0, me := 47 })
 else
 lo 0 10 (bodyOf E2 47 0) ({ fr := [V.junk, V.ptr 0 0, V.junk, i64 (w ((i : Int) + (1 : Int)))] ++ jk 115, H := hp [some (Chunk.blk [V.sc (Value.string nm), i64 ps, i64 vs, V.ro 2 n (ins op arg)])], nx := 1, rt := 0, me := 47 }) (KC2 2 4)) (
 none)
 else
 none
 else
 some (Ans.l (Ex.exit 0) { fr := [V.junk, V.ptr 0 0] ++ jk 117, H := hp [some (Chunk.blk [V.sc (Value.string nm), i64 ps, i64 vs, V.ro 2 n (ins op arg)])], nx := 1, rt := 0, me := 47 }) := by kernel_rfl

theorem r73b (nm : ByteArray) (B : Bool) (ps vs : Int) (n : Nat) (op arg L W : Nat → Int) (i : Nat) (F : V) (lo : LoopT) : loopK E2 (C73 n op arg F B) lo 2 178 (bodyOf E2 47 2) (S73b nm ps vs n op arg L W i) (KC2 2 4) =
 if decide ((i : Int) < (n : Int)) = true then
 if (0 : Int) ≤ (i : Int) ∧ (i : Int) < (n : Int) then
 if (op (Int.toNat (i : Int)) == (14 : Int)) = true then
 if (0 : Int) ≤ arg (Int.toNat (i : Int)) ∧ arg (Int.toNat (i : Int)) < (n : Int) then
 if (0 : Int) ≤ (i : Int) ∧ (i : Int) < (n : Int) then
 if (L (Int.toNat (arg (Int.toNat (i : Int)))) != L (Int.toNat (i : Int))) = true then
 some (Ans.l Ex.ret { fr := [V.junk, V.junk, bo false] ++ jk 116, H := hp [], nx := 0, rt := 0, me := 47 })
 else
 if (0 : Int) ≤ arg (Int.toNat (i : Int)) ∧ arg (Int.toNat (i : Int)) < (n : Int) then
 if (0 : Int) ≤ (i : Int) ∧ (i : Int) < (n : Int) then
 if (W (Int.toNat (arg (Int.toNat (i : Int)))) != W (Int.toNat (i : Int))) = true then
 some (Ans.l Ex.ret { fr := [V.junk, V.junk, bo false] ++ jk 116, H := hp [], nx := 0, rt := 0, me := 47 })
 else
 lo 2 178 (bodyOf E2 47 2) ({ fr := [V.junk, V.ptr 0 0, V.junk, V.junk, V.ro 1 n (r1 L), V.ro 1 n (r1 W), V.junk, i64 (w ((i : Int) + (1 : Int)))] ++ jk 111, H := hp [some (Chunk.blk [V.sc (Value.string nm), i64 ps, i64 vs, V.ro 2 n (ins op arg)])], nx := 1, rt := 0, me := 47 }) (KC2 2 4)
 else
 none
 else
 none
 else
 none
 else
 none
 else
 if (op (Int.toNat (i : Int)) == (15 : Int)) = true then
 if (0 : Int) ≤ arg (Int.toNat (i : Int)) ∧ arg (Int.toNat (i : Int)) < (n : Int) then
 if (0 : Int) ≤ (i : Int) ∧ (i : Int) < (n : Int) then
 if (L (Int.toNat (arg (Int.toNat (i : Int)))) != L (Int.toNat (i : Int))) = true then
 some (Ans.l Ex.ret { fr := [V.junk, V.junk, bo false] ++ jk 116, H := hp [], nx := 0, rt := 0, me := 47 })
 else
 if (0 : Int) ≤ arg (Int.toNat (i : Int)) ∧ arg (Int.toNat (i : Int)) < (n : Int) then
 if (0 : Int) ≤ (i : Int) ∧ (i : Int) < (n : Int) then
 if (W (Int.toNat (arg (Int.toNat (i : Int)))) != W (Int.toNat (i : Int))) = true then
 some (Ans.l Ex.ret { fr := [V.junk, V.junk, bo false] ++ jk 116, H := hp [], nx := 0, rt := 0, me := 47 })
 else
 lo 2 178 (bodyOf E2 47 2) ({ fr := [V.junk, V.ptr 0 0, V.junk, V.junk, V.ro 1 n (r1 L), V.ro 1 n (r1 W), V.junk, i64 (w ((i : Int) + (1 : Int)))] ++ jk 111, H := hp [some (Chunk.blk [V.sc (Value.string nm), i64 ps, i64 vs, V.ro 2 n (ins op arg)])], nx := 1, rt := 0, me := 47 }) (KC2 2 4)
 else
 none
 else
 none
 else
 none
 else
 none
 else
 lo 2 178 (bodyOf E2 47 2) ({ fr := [V.junk, V.ptr 0 0, V.junk, V.junk, V.ro 1 n (r1 L), V.ro 1 n (r1 W), V.junk, i64 (w ((i : Int) + (1 : Int)))] ++ jk 111, H := hp [some (Chunk.blk [V.sc (Value.string nm), i64 ps, i64 vs, V.ro 2 n (ins op arg)])], nx := 1, rt := 0, me := 47 }) (KC2 2 4)
 else
 none
 else
 some (Ans.l (Ex.exit 2) { fr := [V.junk, V.ptr 0 0] ++ jk 117, H := hp [some (Chunk.blk [V.sc (Value.string nm), i64 ps, i64 vs, V.ro 2 n (ins op arg)])], nx := 1, rt := 0, me := 47 }) := by kernel_rfl

theorem f73s (nm : ByteArray) (B : Bool) (ps vs : Int) (n : Nat) (op arg L W : Nat → Int) (b : Bool) (S1 S2 : St) (P P2 : Prop) : callK E2 (C73 n op arg (rgS n L W b) B) (ltab2 [⟨0, bodyOf E2 47 0, S1, P, .exit 0, T73a nm ps vs n op arg, .ret, T73r⟩, ⟨2, bodyOf E2 47 2, S2, P2, .exit 2, T73a nm ps vs n op arg, .ret, T73r⟩]) 47 [codV nm ps vs n op arg] [] K =
 if decide (ps < (0 : Int)) = true then
 some (Ans.c (CRes.ret (bo false) []))
 else
 if decide (ps > vs) = true then
 some (Ans.c (CRes.ret (bo false) []))
 else
 if decide (vs > (12 : Int)) = true then
 some (Ans.c (CRes.ret (bo false) []))
 else
 if decide ((n : Int) < (1 : Int)) = true then
 some (Ans.c (CRes.ret (bo false) []))
 else
 if decide ((n : Int) > (300 : Int)) = true then
 some (Ans.c (CRes.ret (bo false) []))
 else
 cl ((bodyOf E2 47 0) = (bodyOf E2 47 0) ∧ LeSt ({ fr := [V.junk, V.ptr 0 0, V.junk, i64 0] ++ jk 115, H := hp [some (Chunk.blk [V.sc (Value.string nm), i64 ps, i64 vs, V.ro 2 n (ins op arg)])], nx := 1, rt := 0, me := 47 }) (S1)) (
 cl (P) (
 cl ((QReg n op arg) ([V.ro 2 n (ins op arg)]) ∧ ([] : List (Option Chunk)) = []) (
 if (!b) = true then
 some (Ans.c (CRes.ret (bo false) []))
 else
 cl ((bodyOf E2 47 2) = (bodyOf E2 47 2) ∧ LeSt ({ fr := [V.junk, V.ptr 0 0, V.junk, V.junk, V.ro 1 n (r1 L), V.ro 1 n (r1 W), V.junk, i64 0] ++ jk 111, H := hp [some (Chunk.blk [V.sc (Value.string nm), i64 ps, i64 vs, V.ro 2 n (ins op arg)])], nx := 1, rt := 0, me := 47 }) (S2)) (
 cl (P2) (
 cl ((QDep n op arg) ([V.ro 2 n (ins op arg)]) ∧ ([] : List (Option Chunk)) = []) (
 some (Ans.c (CRes.ret (bo (B)) []))) (
 none)) (
 some (Ans.c (CRes.ret (bo false) [])))) (
 none)) (
 none)) (
 some (Ans.c (CRes.ret (bo false) [])))) (
 none) := by kernel_rfl

theorem f73n (nm : ByteArray) (B : Bool) (ps vs : Int) (n : Nat) (op arg : Nat → Int) (S1 : St) (P : Prop) : callK E2 (C73 n op arg rgN B) (ltab2 [⟨0, bodyOf E2 47 0, S1, P, .exit 0, T73a nm ps vs n op arg, .ret, T73r⟩]) 47 [codV nm ps vs n op arg] [] K =
 if decide (ps < (0 : Int)) = true then
 some (Ans.c (CRes.ret (bo false) []))
 else
 if decide (ps > vs) = true then
 some (Ans.c (CRes.ret (bo false) []))
 else
 if decide (vs > (12 : Int)) = true then
 some (Ans.c (CRes.ret (bo false) []))
 else
 if decide ((n : Int) < (1 : Int)) = true then
 some (Ans.c (CRes.ret (bo false) []))
 else
 if decide ((n : Int) > (300 : Int)) = true then
 some (Ans.c (CRes.ret (bo false) []))
 else
 cl ((bodyOf E2 47 0) = (bodyOf E2 47 0) ∧ LeSt ({ fr := [V.junk, V.ptr 0 0, V.junk, i64 0] ++ jk 115, H := hp [some (Chunk.blk [V.sc (Value.string nm), i64 ps, i64 vs, V.ro 2 n (ins op arg)])], nx := 1, rt := 0, me := 47 }) (S1)) (
 cl (P) (
 cl ((QReg n op arg) ([V.ro 2 n (ins op arg)]) ∧ ([] : List (Option Chunk)) = []) (
 some (Ans.c (CRes.ret (bo false) []))) (
 none)) (
 some (Ans.c (CRes.ret (bo false) [])))) (
 none) := by kernel_rfl

theorem f73_e (nm : ByteArray) (ps vs : Int) (n : Nat) (op arg : Nat → Int) : callK E2 (tab []) (ltab2 []) 47 [codV nm ps vs n op arg] [] K =
 if decide (ps < (0 : Int)) = true then
 some (Ans.c (CRes.ret (bo false) []))
 else
 if decide (ps > vs) = true then
 some (Ans.c (CRes.ret (bo false) []))
 else
 if decide (vs > (12 : Int)) = true then
 some (Ans.c (CRes.ret (bo false) []))
 else
 if decide ((n : Int) < (1 : Int)) = true then
 some (Ans.c (CRes.ret (bo false) []))
 else
 if decide ((n : Int) > (300 : Int)) = true then
 some (Ans.c (CRes.ret (bo false) []))
 else
 none := by kernel_rfl

theorem k73a (nm : ByteArray) (ps vs : Int) (n : Nat) (op arg : Nat → Int) : KC2 2 4 (.exit 0) (T73a nm ps vs n op arg) = some (.l (.exit 0) (T73a nm ps vs n op arg)) := by kernel_rfl
theorem k73b (nm : ByteArray) (ps vs : Int) (n : Nat) (op arg : Nat → Int) : KC2 2 4 (.exit 2) (T73a nm ps vs n op arg) = some (.l (.exit 2) (T73a nm ps vs n op arg)) := by kernel_rfl
theorem k73r : KC2 2 4 .ret T73r = some (.l .ret T73r) := by kernel_rfl
theorem opndD_true (c : Cv.Cd) (i : Nat) : opndD c i = true ↔ Cv.opnd c i := by unfold opndD; exact @decide_eq_true_iff _ (Classical.propDecidable _)
set_option maxRecDepth 100000 in
theorem loop73a {nm : ByteArray} {ps vs : Int} {n : Nat} {op arg : Nat → Int} {F : V} {B : Bool} (hC : SoundC E2 (C73 n op arg F B)) (hn : n ≤ 300) (h0 : 0 ≤ vs) (hv : vs ≤ 12) : ∀ (r i : Nat), i + r = n → Ends (bodyOf E2 47 0) (∀ j, i ≤ j → j < n → Cv.stopOk (mkC vs n op arg) j ∧ Cv.opnd (mkC vs n op arg) j) (S73a nm ps vs n op arg i) (.exit 0) (T73a nm ps vs n op arg) .ret T73r := by
 intro r
 induction r with
 | zero =>
  intro i hi
  exact Ends.fin hC (fun j h1 h2 => by omega) fun lo => (r73a _ _ _ _ _ _ _ _ _ _).trans (by rw [if_neg (by simp; omega)]; rfl)
 | succ r ih =>
  intro i hi
  have hi' : i < n := by omega
  have hid : decide ((i : Int) < (n : Int)) = true := by simpa using hi'
  have hbb : (0 : Int) ≤ (i : Int) ∧ (i : Int) < (n : Int) := by omega
  have hq : QOpnd [V.agg [V.sc (Value.string nm), i64 ps, i64 vs, V.ro 2 n (ins op arg)], i64 (i : Int)] ∧ True := ⟨⟨nm, ps, vs, n, op, arg, i, rfl, hi', hn, h0, hv⟩, trivial⟩
  have ew : w ((i : Int) + 1) = ((i + 1 : Nat) : Int) := by rw [w_in (by unfold inR; omega)]; omega
  have en : w ((n : Int) - 1) = (n : Int) - 1 := w_in (by unfold inR; omega)
  have tree := fun lo => r73a nm B ps vs n op arg i F lo
  simp only [if_pos hid, if_pos hbb, eq_self, cl_pos hq, Int.toNat_natCast, ew, en] at tree
  refine Ends.iff ?_ (all_from hi)
  have es : Cv.stopOk (mkC vs n op arg) i ↔ (op i = 28 ↔ i + 1 = n) := Iff.rfl
  rw [es]
  have e28 : (!(op i == (28 : Int)) == ((i : Int) == (n : Int) - 1)) = true ↔ ¬ (op i = 28 ↔ i + 1 = n) := by
   have eb1 : ((i : Int) == (n : Int) - 1) = decide (i + 1 = n) := by rw [Bool.eq_iff_iff, beq_iff_eq, decide_eq_true_eq]; omega
   have eb2 : (op i == (28 : Int)) = decide (op i = 28) := rfl
   rw [eb1, eb2]
   by_cases a : op i = 28 <;> by_cases b : i + 1 = n
   ·rw [decide_eq_true a, decide_eq_true b]; simp [a, b]
   ·rw [decide_eq_true a, decide_eq_false b]; simp [a, b]
   ·rw [decide_eq_false a, decide_eq_true b]; simp [a, b]
   ·rw [decide_eq_false a, decide_eq_false b]; simp [a, b]
  by_cases hs : (op i = 28 ↔ i + 1 = n)
  ·by_cases ho : Cv.opnd (mkC vs n op arg) i
   ·have hb : opndD (mkC vs n op arg) i = true := (opndD_true _ _).2 ho
    refine Ends.iff (Ends.next hC (ih (i + 1) (by omega)) (k73a _ _ _ _ _ _) k73r (LeSt.refl _) fun lo => (tree lo).trans ?_) ⟨fun h => h.2, fun h => ⟨⟨hs, ho⟩, h⟩⟩
    rw [if_neg (fun h => e28.1 h hs), if_neg (by rw [hb]; decide)]; rfl
   ·have hb : opndD (mkC vs n op arg) i = false := by cases h : opndD (mkC vs n op arg) i with | false => rfl | true => exact absurd ((opndD_true _ _).1 h) ho
    refine Ends.ret hC (fun h => ho h.1.2) fun lo => (tree lo).trans ?_
    rw [if_neg (fun h => e28.1 h hs), if_pos (by rw [hb]; decide)]; rfl
  ·refine Ends.ret hC (fun h => hs h.1.1) fun lo => (tree lo).trans ?_
   rw [if_pos (e28.2 hs)]; rfl
theorem end73b {nm : ByteArray} {ps vs : Int} {n : Nat} {op arg L W : Nat → Int} {F : V} {B : Bool} (hC : SoundC E2 (C73 n op arg F B)) : Ends (bodyOf E2 47 2) True (S73b nm ps vs n op arg L W n) (.exit 2) (T73a nm ps vs n op arg) .ret T73r :=
 Ends.fin hC trivial fun lo => (r73b _ _ _ _ _ _ _ _ _ _ _ _).trans (by rw [if_neg (by simp)]; rfl)
set_option maxRecDepth 100000 in
theorem loop73b {nm : ByteArray} {ps vs : Int} {n : Nat} {op arg L W : Nat → Int} {F : V} {B : Bool} (hC : SoundC E2 (C73 n op arg F B)) (hn : n ≤ 300) (harg : ∀ i, i < n → Cv.jmp (op i) → 0 ≤ arg i ∧ arg i < n) : ∀ (r i : Nat), i + r = n → Ends (bodyOf E2 47 2) (∀ j, i ≤ j → j < n → jump1 (mkC vs n op arg) L W j) (S73b nm ps vs n op arg L W i) (.exit 2) (T73a nm ps vs n op arg) .ret T73r := by
 intro r
 induction r with
 | zero =>
  intro i hi
  exact Ends.fin hC (fun j h1 h2 => by omega) fun lo => (r73b _ _ _ _ _ _ _ _ _ _ _ _).trans (by rw [if_neg (by simp; omega)]; rfl)
 | succ r ih =>
  intro i hi
  have hi' : i < n := by omega
  have hid : decide ((i : Int) < (n : Int)) = true := by simpa using hi'
  have hbb : (0 : Int) ≤ (i : Int) ∧ (i : Int) < (n : Int) := by omega
  have ew : w ((i : Int) + 1) = ((i + 1 : Nat) : Int) := by rw [w_in (by unfold inR; omega)]; omega
  have tree := fun lo => r73b nm B ps vs n op arg L W i F lo
  simp only [if_pos hid, if_pos hbb, Int.toNat_natCast, ew, if_true] at tree
  refine Ends.iff ?_ (all_from hi)
  have ej : jump1 (mkC vs n op arg) L W i ↔ (Cv.jmp (op i) → L (arg i).toNat = L i ∧ W (arg i).toNat = W i) := Iff.rfl
  rw [ej]
  by_cases h14 : op i = 14
  ·have hj : Cv.jmp (op i) := .inl h14
   have ha := harg i hi' hj
   by_cases hs : L (arg i).toNat = L i
   ·by_cases hs2 : W (arg i).toNat = W i
    ·refine Ends.iff (Ends.next hC (ih (i + 1) (by omega)) (k73b _ _ _ _ _ _) k73r (LeSt.refl _) fun lo => (tree lo).trans ?_) ⟨fun h => h.2, fun h => ⟨fun _ => ⟨hs, hs2⟩, h⟩⟩
     simp only [eqT h14, if_pos ha, neF hs, neF hs2, if_true, if_false, Bool.false_eq_true, reduceIte]; rfl
    ·refine Ends.ret hC (fun h => hs2 (h.1 hj).2) fun lo => (tree lo).trans ?_
     simp only [eqT h14, if_pos ha, neF hs, neT hs2, if_true, if_false, Bool.false_eq_true, reduceIte]; rfl
   ·refine Ends.ret hC (fun h => hs (h.1 hj).1) fun lo => (tree lo).trans ?_
    simp only [eqT h14, if_pos ha, neT hs, if_true, if_false, Bool.false_eq_true, reduceIte]; rfl
  by_cases h15 : op i = 15
  ·have hj : Cv.jmp (op i) := .inr h15
   have ha := harg i hi' hj
   by_cases hs : L (arg i).toNat = L i
   ·by_cases hs2 : W (arg i).toNat = W i
    ·refine Ends.iff (Ends.next hC (ih (i + 1) (by omega)) (k73b _ _ _ _ _ _) k73r (LeSt.refl _) fun lo => (tree lo).trans ?_) ⟨fun h => h.2, fun h => ⟨fun _ => ⟨hs, hs2⟩, h⟩⟩
     simp only [eqF h14, eqT h15, if_pos ha, neF hs, neF hs2, if_true, if_false, Bool.false_eq_true, reduceIte]; rfl
    ·refine Ends.ret hC (fun h => hs2 (h.1 hj).2) fun lo => (tree lo).trans ?_
     simp only [eqF h14, eqT h15, if_pos ha, neF hs, neT hs2, if_true, if_false, Bool.false_eq_true, reduceIte]; rfl
   ·refine Ends.ret hC (fun h => hs (h.1 hj).1) fun lo => (tree lo).trans ?_
    simp only [eqF h14, eqT h15, if_pos ha, neT hs, if_true, if_false, Bool.false_eq_true, reduceIte]; rfl
  refine Ends.iff (Ends.next hC (ih (i + 1) (by omega)) (k73b _ _ _ _ _ _) k73r (LeSt.refl _) fun lo => (tree lo).trans ?_) ⟨fun h => h.2, fun h => ⟨fun hj => (hj.elim h14 h15).elim, h⟩⟩
  simp only [eqF h14, eqF h15, if_true, if_false, Bool.false_eq_true, reduceIte]; rfl
open Classical in
noncomputable def valD (ps : Int) (c : Cv.Cd) : Bool := decide (¬ (c.n > 300 ∨ c.vars > 12) ∧ ¬ (ps < 0 ∨ ps > c.vars ∨ c.n = 0 ∨ ¬ Cv.VP c))
open Classical in
theorem valD_t {ps : Int} {c : Cv.Cd} (h : ¬ (c.n > 300 ∨ c.vars > 12) ∧ ¬ (ps < 0 ∨ ps > c.vars ∨ c.n = 0 ∨ ¬ Cv.VP c)) : valD ps c = true := by unfold valD; exact decide_eq_true h
open Classical in
theorem valD_f {ps : Int} {c : Cv.Cd} (h : ¬ (¬ (c.n > 300 ∨ c.vars > 12) ∧ ¬ (ps < 0 ∨ ps > c.vars ∨ c.n = 0 ∨ ¬ Cv.VP c))) : valD ps c = false := by unfold valD; exact decide_eq_false h
set_option maxRecDepth 100000 in
theorem valid_sc (nm : ByteArray) (ps vs : Int) (n : Nat) (op arg : Nat → Int) : SC E2 47 [codV nm ps vs n op arg] [] (.ret (bo (valD ps (mkC vs n op arg))) []) := by
 have hcn : (mkC vs n op arg).n = n := rfl
 have hcv : (mkC vs n op arg).vars = vs := rfl
 by_cases hp : ps < 0
 ·rw [valD_f (fun h => h.2 (.inl hp))]
  refine SC.of hW2 hX2 tab_nil ltab2_nil ((f73_e ..).trans ?_)
  rw [if_pos (by simpa using hp)]
 have hpp : ¬ decide (ps < (0 : Int)) = true := by simpa using hp
 by_cases hp2 : ps > vs
 ·rw [valD_f (fun h => h.2 (.inr (.inl hp2)))]
  refine SC.of hW2 hX2 tab_nil ltab2_nil ((f73_e ..).trans ?_)
  rw [if_neg hpp, if_pos (by simpa using hp2)]
 have hpp2 : ¬ decide (ps > vs) = true := by simpa using hp2
 by_cases hv : vs > 12
 ·rw [valD_f (fun h => h.1 (.inr hv))]
  refine SC.of hW2 hX2 tab_nil ltab2_nil ((f73_e ..).trans ?_)
  rw [if_neg hpp, if_neg hpp2, if_pos (by simpa using hv)]
 have hvv : ¬ decide (vs > (12 : Int)) = true := by simpa using hv
 by_cases hz : n = 0
 ·rw [valD_f (fun h => h.2 (.inr (.inr (.inl hz))))]
  refine SC.of hW2 hX2 tab_nil ltab2_nil ((f73_e ..).trans ?_)
  rw [if_neg hpp, if_neg hpp2, if_neg hvv, if_pos (by simp; omega)]
 have hzz : ¬ decide ((n : Int) < (1 : Int)) = true := by simp; omega
 by_cases hn : n > 300
 ·rw [valD_f (fun h => h.1 (.inl hn))]
  refine SC.of hW2 hX2 tab_nil ltab2_nil ((f73_e ..).trans ?_)
  rw [if_neg hpp, if_neg hpp2, if_neg hvv, if_neg hzz, if_pos (by simp; omega)]
 have hnn : ¬ decide ((n : Int) > (300 : Int)) = true := by simp; omega
 have hn3 : n ≤ 300 := by omega
 have h0 : 0 ≤ vs := by omega
 have hv12 : vs ≤ 12 := by omega
 have bad : ¬ Cv.VP (mkC vs n op arg) → valD ps (mkC vs n op arg) = false := fun h => valD_f fun g => g.2 (.inr (.inr (.inr h)))
 have good : Cv.VP (mkC vs n op arg) → valD ps (mkC vs n op arg) = true := fun h => valD_t ⟨by rw [hcn, hcv]; omega, fun g => by rcases g with g | g | g | g; exact hp g; exact hp2 g; exact hz g; exact g h⟩
 have hpl : ∀ q, Cv.regR (mkC vs n op arg) n 0 rg0 = q → Cv.regR (mkC vs n op arg) (mkC vs n op arg).n 0 ⟨Cv.zero, Cv.zero, 0, Cv.zero, -1⟩ = q := fun q h => h
 rw [Cv.VP_VR] at bad good
 cases hx : Cv.regR (mkC vs n op arg) n 0 rg0 with
 | none =>
  have hC := sC73 (F := rgN) vs hn3 (by omega) (by rw [hx]; rfl)
  have l1 := loop73a (nm := nm) (ps := ps) (vs := vs) hC hn3 h0 hv12 n 0 (by omega)
  have hnv : ¬ Cv.VR (mkC vs n op arg) := by
   rintro ⟨_, ⟨q, hq, _⟩, _⟩
   rw [hpl _ hx] at hq
   cases hq
  rw [bad hnv]
  refine SC.of hW2 hX2 hC (ltab2_cons (x := ⟨0, _, _, _, _, _, _, _⟩) l1 ltab2_nil) ((f73n _ _ _ _ _ _ _ _ _).trans ?_)
  rw [if_neg hpp, if_neg hpp2, if_neg hvv, if_neg hzz, if_neg hnn, cl_pos ⟨rfl, LeSt.refl _⟩]
  by_cases hP : (∀ j, 0 ≤ j → j < n → Cv.stopOk (mkC vs n op arg) j ∧ Cv.opnd (mkC vs n op arg) j)
  ·rw [cl_pos hP, cl_pos ⟨rfl, rfl⟩]
  ·rw [cl_neg hP]
 | some q =>
  have hC := sC73 (F := rgS n q.L q.W (decide (q.m = 0 ∧ q.wa < 0))) vs hn3 (by omega) (by rw [hx]; rfl)
  have l1 := loop73a (nm := nm) (ps := ps) (vs := vs) hC hn3 h0 hv12 n 0 (by omega)
  by_cases hP : (∀ j, 0 ≤ j → j < n → Cv.stopOk (mkC vs n op arg) j ∧ Cv.opnd (mkC vs n op arg) j)
  ·have hok : ∀ i, i < n → Cv.okOp (op i) := fun i hi => Cv.opnd_ok (c := mkC vs n op arg) (hP i (Nat.zero_le _) hi).2
   have harg : ∀ i, i < n → Cv.jmp (op i) → 0 ≤ arg i ∧ arg i < n := by
    intro i hi hj
    have h17 : ¬ (op i = 17) := fun h => by rcases hj with hj | hj <;> omega
    have h20 : ¬ (op i = 20) := fun h => by rcases hj with hj | hj <;> omega
    have h1 := Cv.rng_jump (c := mkC vs n op arg) (i := i) hj ((Cv.opnd_rng (c := mkC vs n op arg) (hok i hi) h17 h20).1 (hP i (Nat.zero_le _) hi).2)
    have e1 : (mkC vs n op arg).arg i = arg i := rfl
    rw [e1, hcn] at h1
    omega
   have l2 := loop73b (nm := nm) (ps := ps) (vs := vs) (L := q.L) (W := q.W) hC hn3 harg n 0 (by omega)
   refine SC.of hW2 hX2 hC (ltab2_cons (x := ⟨0, _, _, _, _, _, _, _⟩) l1 (ltab2_cons (x := ⟨2, _, _, _, _, _, _, _⟩) l2 ltab2_nil)) ((f73s _ _ _ _ _ _ _ _ _ _ _ _ _ _).trans ?_)
   rw [if_neg hpp, if_neg hpp2, if_neg hvv, if_neg hzz, if_neg hnn, cl_pos ⟨rfl, LeSt.refl _⟩, cl_pos hP, cl_pos ⟨rfl, rfl⟩]
   have hvp : Cv.VR (mkC vs n op arg) ↔ ((q.m = 0 ∧ q.wa < 0) ∧ (∀ j, 0 ≤ j → j < n → jump1 (mkC vs n op arg) q.L q.W j) ∧ depD (mkC vs n op arg) = true) := by
    rw [depD_iff]
    constructor
    ·rintro ⟨g1, ⟨q', g2, g3, g4⟩, g5⟩
     rw [hpl _ hx] at g2
     cases g2
     exact ⟨g3, (jmps_all _ _ _).1 g4, g5⟩
    ·rintro ⟨g1, g2, g3⟩
     exact ⟨fun i hi => hP i (Nat.zero_le _) hi, ⟨q, hpl _ hx, g1, (jmps_all _ _ _).2 g2⟩, g3⟩
   by_cases hb : q.m = 0 ∧ q.wa < 0
   ·rw [if_neg (by rw [decide_eq_true hb]; decide), cl_pos ⟨rfl, LeSt.refl _⟩]
    by_cases hJ : ∀ j, 0 ≤ j → j < n → jump1 (mkC vs n op arg) q.L q.W j
    ·rw [cl_pos hJ, cl_pos ⟨⟨rfl, hok, harg⟩, rfl⟩]
     cases hB : depD (mkC vs n op arg) with
     | true => rw [good (hvp.2 ⟨hb, hJ, hB⟩)]
     | false => rw [bad (fun h => by have := (hvp.1 h).2.2; rw [hB] at this; cases this)]
    ·rw [cl_neg hJ, bad (fun h => hJ (hvp.1 h).2.1)]
   ·rw [if_pos (by rw [decide_eq_false hb]; decide), bad (fun h => hb (hvp.1 h).1)]
  ·refine SC.of hW2 hX2 hC (ltab2_cons (x := ⟨0, _, _, _, _, _, _, _⟩) l1 (ltab2_cons (x := ⟨2, _, S73b nm ps vs n op arg q.L q.W n, True, _, _, _, _⟩) (end73b (nm := nm) (ps := ps) (vs := vs) (L := q.L) (W := q.W) hC) ltab2_nil)) ((f73s _ _ _ _ _ _ _ _ _ _ _ _ _ _).trans ?_)
   rw [if_neg hpp, if_neg hpp2, if_neg hvv, if_neg hzz, if_neg hnn, cl_pos ⟨rfl, LeSt.refl _⟩, cl_neg hP, bad (fun h => hP fun j _ hj => h.1 j hj)]
def QVal (nm : ByteArray) (ps vs : Int) (n : Nat) (op arg : Nat → Int) (args : List V) : Prop := args = [codV nm ps vs n op arg]
noncomputable def C60 (nm : ByteArray) (ps vs : Int) (n : Nat) (op arg : Nat → Int) (B : Bool) : CallT := ptab 47 (QVal nm ps vs n op arg) (fun _ => bo B) (tab [])
theorem f60 (nm : ByteArray) (B : Bool) (ps vs : Int) (n : Nat) (op arg : Nat → Int) : callK E2 (C60 nm ps vs n op arg B) (ltab2 []) 26 [codV nm ps vs n op arg] [] K =
 if decide ((n : Int) > (300 : Int)) = true then
 some (Ans.c (CRes.ret (i64 2) []))
 else
 if decide (vs > (12 : Int)) = true then
 some (Ans.c (CRes.ret (i64 2) []))
 else
 cl ((QVal nm ps vs n op arg) ([V.agg [V.sc (Value.string nm), i64 ps, i64 vs, V.ro 2 n (ins op arg)]]) ∧ ([] : List (Option Chunk)) = []) (
 if (!B) = true then
 some (Ans.c (CRes.ret (i64 13) []))
 else
 some (Ans.c (CRes.ret (i64 0) []))) (
 none) := by kernel_rfl

theorem refVerify_sc (nm : ByteArray) (ps vs : Int) (n : Nat) (op arg : Nat → Int) : SC E2 26 [codV nm ps vs n op arg] [] (.ret (i64 (verV ps (mkC vs n op arg))) []) := by
 have hcn : (mkC vs n op arg).n = n := rfl
 have hcv : (mkC vs n op arg).vars = vs := rfl
 have hC : SoundC E2 (C60 nm ps vs n op arg (valD ps (mkC vs n op arg))) := ptab_cons (fun args h => by cases h; exact valid_sc nm ps vs n op arg) tab_nil
 refine SC.of hW2 hX2 hC ltab2_nil ((f60 _ _ _ _ _ _ _).trans ?_)
 by_cases hn : n > 300
 ·rw [verV_2 (.inl hn), if_pos (by simp; omega)]
 by_cases hv : vs > 12
 ·rw [verV_2 (.inr hv), if_neg (by simp; omega), if_pos (by simpa using hv)]
 have h2 : ¬ ((mkC vs n op arg).n > 300 ∨ (mkC vs n op arg).vars > 12) := by rw [hcn, hcv]; omega
 rw [if_neg (by simp; omega), if_neg (by simpa using hv), cl_pos ⟨rfl, rfl⟩]
 by_cases hV : (ps < 0 ∨ ps > (mkC vs n op arg).vars ∨ (mkC vs n op arg).n = 0 ∨ ¬ Cv.VP (mkC vs n op arg))
 ·rw [verV_13 h2 hV, valD_f (fun h => h.2 hV), if_pos (by decide)]
 ·rw [verV_0 h2 hV, valD_t ⟨h2, hV⟩, if_neg (by decide)]
end Go.Proofs.YthkioinnobiieaaGreatDoor
/- An example of the chapter, compiled. -/
set_option linter.unusedSimpArgs false
set_option linter.unusedVariables false
namespace Go.Proofs.YthkioinnobiieaaGreatDoor
open Go Go.Am
def src1 : ByteArray := ⟨#[112, 114, 111, 99, 101, 100, 117, 114, 101, 32, 113, 40, 41, 32, 123, 32, 114, 101, 112, 101, 97, 116, 32, 50, 32, 123, 32, 117, 115, 101, 32, 50, 32, 102, 111, 114, 32, 50, 32, 115, 59, 32, 101, 109, 105, 116, 32, 55, 59, 32, 125, 32, 125]⟩
def ins1 : List (List V) := [[i64 16, i64 2], [i64 23, i64 2000002], [i64 26, i64 7], [i64 17, i64 1], [i64 28, i64 0]]
def cod1 : V := .tup [.ro 4 1 (fun j => [[st ⟨#[113]⟩, i64 0, i64 0, .ro 2 5 (fun j => ins1.getD j [])]].getD j []), i64 0]
theorem bld1 : SC E 48 [st src1] [] (.ret cod1 []) := scL (SC.closedEnd hWL hXL 80 20 _ (by kernel_rfl))
end Go.Proofs.YthkioinnobiieaaGreatDoor
/- An example of the chapter, compiled. -/
set_option linter.unusedSimpArgs false
set_option linter.unusedVariables false
namespace Go.Proofs.YthkioinnobiieaaGreatDoor
open Go Go.Am
def src2 : ByteArray := ⟨#[112, 114, 111, 99, 101, 100, 117, 114, 101, 32, 112, 40, 120, 41, 32, 123, 32, 97, 119, 97, 105, 116, 32, 120, 32, 62, 32, 116, 108, 109, 46, 109, 111, 100, 101, 32, 119, 105, 116, 104, 105, 110, 32, 50, 32, 115, 59, 32, 101, 109, 105, 116, 32, 49, 59, 32, 125]⟩
def ins2 : List (List V) := [[i64 19, i64 2], [i64 2, i64 0], [i64 4, i64 4], [i64 11, i64 0], [i64 13, i64 0], [i64 20, i64 1], [i64 26, i64 1], [i64 28, i64 0]]
def cod2 : V := .tup [.ro 4 1 (fun j => [[st ⟨#[112]⟩, i64 1, i64 1, .ro 2 8 (fun j => ins2.getD j [])]].getD j []), i64 0]
theorem bld2 : SC E 48 [st src2] [] (.ret cod2 []) := scL (SC.closedEnd hWL hXL 80 20 _ (by kernel_rfl))
end Go.Proofs.YthkioinnobiieaaGreatDoor
/- An example of the chapter, compiled. -/
set_option linter.unusedSimpArgs false
set_option linter.unusedVariables false
namespace Go.Proofs.YthkioinnobiieaaGreatDoor
open Go Go.Am
def src3 : ByteArray := ⟨#[112, 114, 111, 99, 101, 100, 117, 114, 101, 32, 114, 40, 120, 41, 32, 123, 32, 108, 101, 116, 32, 97, 32, 61, 32, 50, 49, 52, 55, 52, 56, 51, 54, 52, 55, 59, 32, 97, 32, 61, 32, 97, 32, 43, 32, 120, 59, 32, 125]⟩
def ins3 : List (List V) := [[i64 1, i64 2147483647], [i64 3, i64 1], [i64 2, i64 1], [i64 2, i64 0], [i64 5, i64 0], [i64 3, i64 1], [i64 28, i64 0]]
def cod3 : V := .tup [.ro 4 1 (fun j => [[st ⟨#[114]⟩, i64 1, i64 2, .ro 2 7 (fun j => ins3.getD j [])]].getD j []), i64 0]
theorem bld3 : SC E 48 [st src3] [] (.ret cod3 []) := scL (SC.closedEnd hWL hXL 80 20 _ (by kernel_rfl))
end Go.Proofs.YthkioinnobiieaaGreatDoor
/- Slices cloned: what the library's function does, walked. -/
set_option linter.unusedSimpArgs false
set_option linter.unusedVariables false
namespace Go.Proofs.YthkioinnobiieaaGreatDoor
open Go Go.Am Go.RowKit Go.Lib
theorem ht25 : Tryz.prog.underlying 25 = some (.slice 3) := by kernel_rfl
theorem ht28 : Tryz.prog.underlying 28 = some (.slice 81) := by kernel_rfl
theorem in3 : ∃ i, Tryz.prog.info? 3 = some i ∧ i.zero = some (.int .i64 0) ∧ i.size = 1 ∧ i.bytes = 8 := by
 have h : ((Tryz.prog.info? 3).map fun i => (i.zero, i.size, i.bytes)) = some (some (.int .i64 0), 1, 8) := by kernel_rfl
 obtain ⟨i, h1, h2⟩ := Option.map_eq_some_iff.1 h
 exact ⟨i, h1, congrArg Prod.fst h2, congrArg (·.2.1) h2, congrArg (·.2.2) h2⟩
theorem in81 : ∃ i, Tryz.prog.info? 81 = some i ∧ i.zero = some (.agg #[.int .i64 0, .int .i64 0]) ∧ i.size = 2 ∧ i.bytes = 16 := by
 have h : ((Tryz.prog.info? 81).map fun i => (i.zero, i.size, i.bytes)) = some (some (.agg #[.int .i64 0, .int .i64 0]), 2, 16) := by kernel_rfl
 obtain ⟨i, h1, h2⟩ := Option.map_eq_some_iff.1 h
 exact ⟨i, h1, congrArg Prod.fst h2, congrArg (·.2.1) h2, congrArg (·.2.2) h2⟩

set_option maxHeartbeats 2000000 in
set_option maxRecDepth 100000 in
theorem clone35_nil (n cp : Nat) (w : World) : Calls Tryz.prog 35 #[.slice none n cp] w fun e w' => e = .returned (.slice none 0 0) ∧ w' = w := by
 have q22 : ∀ (w : World) (a : Option Addr) (n c n' c' : Nat), (binOp .eql 25 (.slice a n c) (.slice none n' c')).run Tryz.prog w = .ok (.bool a.isNone) w := fun w a n c n' c' => Lib.run_eql_slice_nil w _ _ a n c n' c' ht25
 go_enter Tryz.func35, Tryz.ntmps35
 go_wp2
 go_ret
 exact ⟨rfl, rfl⟩
set_option maxHeartbeats 2000000 in
set_option maxRecDepth 100000 in
theorem clone35_some (a : Addr) (n cp : Nat) (news : List Value) (hl : news.length = n * 1) (hbig : n * 8 ≤ 140737488355328) (hn : n ≤ maxLen) (w : World) (hc : ∀ j u, news[j]? = some u → w.cell? (a.add j) = some u) (h1 : ∀ u ∈ news, u.oneCell' = true) :
 Calls Tryz.prog 35 #[.slice (some a) n cp] w fun e w' => ∃ v', e = .returned v' ∧ w'.ownsRow w.heap.size 3 1 v' n news ∧ Below w.heap.size w w' := by
 obtain ⟨i0, hi, hz0, hz1, hz2⟩ := in3
 have q22 : ∀ (w : World) (a : Option Addr) (n c n' c' : Nat), (binOp .eql 25 (.slice a n c) (.slice none n' c')).run Tryz.prog w = .ok (.bool a.isNone) w := fun w a n c n' c' => Lib.run_eql_slice_nil w _ _ a n c n' c' ht25
 have u22 : ∀ w, Sem.run Tryz.prog (underlying 25) w = .ok (TypeDesc.slice 3) w := run_underlying ht25
 have A : Aside (∀ j u, news[j]? = some u → w.cell? (a.add j) = some u) := hc
 clear hc
 go_enter Tryz.func35, Tryz.ntmps35
 go_wp2_with (at_builtin; refine wpList_append_own _ rfl _ _ 25 rfl w.heap.size 3 i0 (.int .i64 0) 1 8 ht25 hi hz0 hz1 hz2 rfl (by decide) _ _ _ rfl (World.ownsRow_made w #[] 0 (Nat.le_refl _) (Nat.zero_le _) rfl) a n cp news rfl ?qc1 ?qc2 ?qc3 ?qc4 ?qc5 ?qc6 ?_)
 case qc1 => exact hl
 case qc2 => intro j u hj; exact Lib.cell?_alloc_some _ (A.out j u hj)
 case qc3 => exact h1
 case qc4 => simpa using hn
 case qc5 => simpa using hbig
 case qc6 => simp
 intro v' w1 hown hgrow hnil
 go_wp2
 go_ret
 refine ⟨v', rfl, by simpa using hown, ?_⟩
 exact ((Below.refl _ w).alloc (Nat.le_refl _) _).grown hgrow (by simp) (by intro k hk; simp [Value.ownBlock] at hk; omega)
theorem clone35 : CloneLaw Tryz.prog 35 3 1 8 := by
 refine ⟨⟨_, Tryz.func35, by kernel_rfl, by intro e; exact absurd e (by decide +kernel)⟩, fun w A ad n cap us hr hm hA hus => ?_⟩
 cases A with
 | none =>
  have hn : n = 0 := by
   cases n with
   | zero => rfl
   | succ n => exact absurd (hA (Nat.succ_pos n)) (by simp)
  subst hn
  refine (clone35_nil 0 cap w).mono ?_
  rintro e w' ⟨rfl, rfl⟩
  exact ⟨_, rfl, ⟨by simp, .inl ⟨rfl, rfl⟩⟩, Below.refl _ _⟩
 | some a =>
  have hlen : (((List.range n).map us).flatten).length = n * 1 := by
   have h : ∀ m, m ≤ n → (((List.range m).map us).flatten).length = m * 1 := by
    intro m
    induction m with
    | zero => intro _; rfl
    | succ m ih =>
     intro hm
     rw [List.range_succ, List.map_append, List.flatten_append, List.length_append, ih (by omega)]
     simp [(hus m (by omega)).1]
     all_goals omega
   exact h n (Nat.le_refl _)
  refine clone35_some a n cap _ hlen hr hm w ?_ ?_
  ·intro j u hj
   have hjl : j < n * 1 := by rw [← hlen]; exact (List.getElem?_eq_some_iff.1 hj).1
   have hq : j / 1 < n := by omega
   have e0 : a = ad := by have := hA (by omega); simpa using this
   subst e0
   have h1 := news_get (us := us) (fun j hj => (hus j hj).1) hq (i := j % 1) (by omega)
   have e1 : j / 1 * 1 + j % 1 = j := by omega
   rw [e1, hj] at h1
   have := (hus (j / 1) hq).2.2 (j % 1) u h1.symm
   rw [e1] at this
   exact this
  ·intro u hu
   rw [List.mem_flatten] at hu
   obtain ⟨l, hl, hul⟩ := hu
   obtain ⟨q, hq, rfl⟩ := List.mem_map.1 hl
   exact List.all_eq_true.1 (hus q (List.mem_range.1 hq)).2.1 u hul

set_option maxHeartbeats 2000000 in
set_option maxRecDepth 100000 in
theorem clone36_nil (n cp : Nat) (w : World) : Calls Tryz.prog 36 #[.slice none n cp] w fun e w' => e = .returned (.slice none 0 0) ∧ w' = w := by
 have q22 : ∀ (w : World) (a : Option Addr) (n c n' c' : Nat), (binOp .eql 28 (.slice a n c) (.slice none n' c')).run Tryz.prog w = .ok (.bool a.isNone) w := fun w a n c n' c' => Lib.run_eql_slice_nil w _ _ a n c n' c' ht28
 go_enter Tryz.func36, Tryz.ntmps36
 go_wp2
 go_ret
 exact ⟨rfl, rfl⟩
set_option maxHeartbeats 2000000 in
set_option maxRecDepth 100000 in
theorem clone36_some (a : Addr) (n cp : Nat) (news : List Value) (hl : news.length = n * 2) (hbig : n * 16 ≤ 140737488355328) (hn : n ≤ maxLen) (w : World) (hc : ∀ j u, news[j]? = some u → w.cell? (a.add j) = some u) (h1 : ∀ u ∈ news, u.oneCell' = true) :
 Calls Tryz.prog 36 #[.slice (some a) n cp] w fun e w' => ∃ v', e = .returned v' ∧ w'.ownsRow w.heap.size 81 2 v' n news ∧ Below w.heap.size w w' := by
 obtain ⟨i0, hi, hz0, hz1, hz2⟩ := in81
 have q22 : ∀ (w : World) (a : Option Addr) (n c n' c' : Nat), (binOp .eql 28 (.slice a n c) (.slice none n' c')).run Tryz.prog w = .ok (.bool a.isNone) w := fun w a n c n' c' => Lib.run_eql_slice_nil w _ _ a n c n' c' ht28
 have u22 : ∀ w, Sem.run Tryz.prog (underlying 28) w = .ok (TypeDesc.slice 81) w := run_underlying ht28
 have A : Aside (∀ j u, news[j]? = some u → w.cell? (a.add j) = some u) := hc
 clear hc
 go_enter Tryz.func36, Tryz.ntmps36
 go_wp2_with (at_builtin; refine wpList_append_own _ rfl _ _ 28 rfl w.heap.size 81 i0 (.agg #[.int .i64 0, .int .i64 0]) 2 16 ht28 hi hz0 hz1 hz2 rfl (by decide) _ _ _ rfl (World.ownsRow_made w #[] 0 (Nat.le_refl _) (Nat.zero_le _) rfl) a n cp news rfl ?qc1 ?qc2 ?qc3 ?qc4 ?qc5 ?qc6 ?_)
 case qc1 => exact hl
 case qc2 => intro j u hj; exact Lib.cell?_alloc_some _ (A.out j u hj)
 case qc3 => exact h1
 case qc4 => simpa using hn
 case qc5 => simpa using hbig
 case qc6 => simp
 intro v' w1 hown hgrow hnil
 go_wp2
 go_ret
 refine ⟨v', rfl, by simpa using hown, ?_⟩
 exact ((Below.refl _ w).alloc (Nat.le_refl _) _).grown hgrow (by simp) (by intro k hk; simp [Value.ownBlock] at hk; omega)
theorem clone36 : CloneLaw Tryz.prog 36 81 2 16 := by
 refine ⟨⟨_, Tryz.func36, by kernel_rfl, by intro e; exact absurd e (by decide +kernel)⟩, fun w A ad n cap us hr hm hA hus => ?_⟩
 cases A with
 | none =>
  have hn : n = 0 := by
   cases n with
   | zero => rfl
   | succ n => exact absurd (hA (Nat.succ_pos n)) (by simp)
  subst hn
  refine (clone36_nil 0 cap w).mono ?_
  rintro e w' ⟨rfl, rfl⟩
  exact ⟨_, rfl, ⟨by simp, .inl ⟨rfl, rfl⟩⟩, Below.refl _ _⟩
 | some a =>
  have hlen : (((List.range n).map us).flatten).length = n * 2 := by
   have h : ∀ m, m ≤ n → (((List.range m).map us).flatten).length = m * 2 := by
    intro m
    induction m with
    | zero => intro _; rfl
    | succ m ih =>
     intro hm
     rw [List.range_succ, List.map_append, List.flatten_append, List.length_append, ih (by omega)]
     simp [(hus m (by omega)).1]
     all_goals omega
   exact h n (Nat.le_refl _)
  refine clone36_some a n cap _ hlen hr hm w ?_ ?_
  ·intro j u hj
   have hjl : j < n * 2 := by rw [← hlen]; exact (List.getElem?_eq_some_iff.1 hj).1
   have hq : j / 2 < n := by omega
   have e0 : a = ad := by have := hA (by omega); simpa using this
   subst e0
   have h1 := news_get (us := us) (fun j hj => (hus j hj).1) hq (i := j % 2) (by omega)
   have e1 : j / 2 * 2 + j % 2 = j := by omega
   rw [e1, hj] at h1
   have := (hus (j / 2) hq).2.2 (j % 2) u h1.symm
   rw [e1] at this
   exact this
  ·intro u hu
   rw [List.mem_flatten] at hu
   obtain ⟨l, hl, hul⟩ := hu
   obtain ⟨q, hq, rfl⟩ := List.mem_map.1 hl
   exact List.all_eq_true.1 (hus q (List.mem_range.1 hq)).2.1 u hul
end Go.Proofs.YthkioinnobiieaaGreatDoor
/- The examples of the chapter hold. -/
set_option linter.unusedSimpArgs false
set_option linter.unusedVariables false
namespace Go.Proofs.YthkioinnobiieaaGreatDoor
open Go Go.Am Go.RowKit
theorem sc_toX {E : Env} {f : FuncId} {args : List V} {v : V} (h : SC E f args [] (.ret v [])) (hp' : v.pure = true) (ha : pureL args = true) (β : Bt) (S D : Pr) (w : World) (us : List Value) (hd : denL β S w D args us) (hG : Glob E S w) (hS : ∀ b, S b → b < w.heap.size) :
 Calls E.P f us.toArray w fun e w' => ∃ u S', e = .returned u ∧ Below w.heap.size w w' ∧ den (fun _ => none) S' w' (fun _ => False) v u ∧ (∀ b, S b → S' b) ∧ ∀ b, S' b → S b ∨ (w.heap.size ≤ b ∧ b < w'.heap.size) := by
 refine (h.2 (fun _ => none) S w us (denL_pure (fun _ h => h) (fun _ _ => rfl) _ _ ha hd) ⟨fun i c hc => (by simp [hp] at hc), fun _ _ => rfl, fun i b m h => (by cases h), fun i b m h => (by cases h), fun i j b m m' h => (by cases h), hS⟩ hG).mono ?_
 rintro e w' ⟨u, β', S', rfl, g1, g2, g3, g4⟩
 refine ⟨u, S', rfl, below_of_evo g3, den_pure (fun _ h => h) (fun _ _ => rfl) _ _ hp' g2, g3.sub, fun b hb => ?_⟩
 rcases g3.newS b hb with h | h | ⟨i, m, h0, h⟩
 ·exact .inl h
 ·exact .inr ⟨h, g1.st b hb⟩
 ·cases h
noncomputable def extG (f : FuncId) (args : List V) : Option V :=
 if f = 48 then match args with
  | [.sc (.string s)] => if s = src1 then some cod1 else if s = src2 then some cod2 else if s = src3 then some cod3 else none
  | _ => none
 else extF f args
noncomputable def EM : Env := { P := Tryz.prog, glob := globF, ext := extG, way := way, lit := litF, code := annFL maskTab Tryz.prog, inv := [(1, intCell .i64)], dfn := dfnF, idle := idleF, push := false, allR := true }
theorem hXM : SoundX EM := fun f args v h => by
 have h' : extG f args = some v := h
 unfold extG at h'
 split at h'
 ·rename_i hf; subst hf
  have hcal : callable EM.P 48 := ⟨_, Tryz.func48, by kernel_rfl, by intro e; exact absurd e (by decide +kernel)⟩
  have key : ∀ (s : ByteArray) (x : V), x.pure = true → SC E 48 [st s] [] (.ret x []) → some x = some v → args = [.sc (.string s)] → callable EM.P 48 ∧ v.pure = true ∧ ∀ (β : Bt) (S D : Pr) (w : World) (us : List Value), denL β S w D args us → Glob EM S w → (∀ b, S b → b < w.heap.size) →
   Calls EM.P 48 us.toArray w fun e w' => ∃ u S', e = .returned u ∧ Below w.heap.size w w' ∧ den (fun _ => none) S' w' (fun _ => False) v u ∧ (∀ b, S b → S' b) ∧ ∀ b, S' b → S b ∨ (w.heap.size ≤ b ∧ b < w'.heap.size) := by
   rintro s x hx hs hv rfl
   cases hv
   exact ⟨hcal, hx, fun β S D w us hd hG hS => sc_toX hs hx rfl β S D w us hd ⟨hG.rd, hG.inv⟩ hS⟩
  split at h'
  ·rename_i s
   split at h'
   ·rename_i e; subst e; exact key _ _ rfl bld1 h' rfl
   split at h'
   ·rename_i e; subst e; exact key _ _ rfl bld2 h' rfl
   split at h'
   ·rename_i e; subst e; exact key _ _ rfl bld3 h' rfl
   ·cases h'
  ·cases h'
 ·obtain ⟨g1, g2, g3⟩ := hX f args v h'
  exact ⟨g1, g2, fun β S D w us a b c => g3 β S D w us a ⟨b.rd, b.inv⟩ c⟩
set_option maxRecDepth 100000 in
theorem hWM : WF EM := hWL
theorem scM {f : FuncId} {args : List V} {L : List (Option Chunk)} {cr : CRes} (h : SC EM f args L cr) : SC E f args L cr :=
 ⟨h.1, fun β S w us h1 h2 h3 => h.2 β S w us h1 h2 ⟨h3.rd, h3.inv⟩⟩
def clF (f : FuncId) : Bool := f == 35 || f == 36
noncomputable def clT : CallT := cloneT [(35, 3, 1, 8), (36, 81, 2, 16)]
theorem clT_sound : SoundC EM clT := cloneT_sound fun p hp => by
 simp only [List.mem_cons, List.mem_nil_iff, or_false] at hp
 rcases hp with rfl | rfl
 ·exact clone35
 ·exact clone36
theorem lives_true : SC E 9 [] [] (.ret (bo true) []) := scM (SC.closedB (sp := clF) hWM hXM clT_sound 80 (by kernel_rfl))
end Go.Proofs.YthkioinnobiieaaGreatDoor
/- The environment of the lifted functions. -/
namespace Go.Proofs.YthkioinnobiieaaGreatDoor
open Go Go.Am Go.Proofs
set_option linter.unusedSimpArgs false
set_option linter.unusedVariables false
set_option maxRecDepth 100000
abbrev nilS : V := .sc (.slice none 0 0)
noncomputable def E8 : Env := { P := Tryz.prog, glob := globF, ext := fun _ _ => none, way := way, lit := litF, code := fun f => (Tryz.prog.funcs[f]?).bind annF, sett := fun _ => true, rows := true, allR := true, inv := [(1, intCell .i64)] }
theorem hW8 : WF E8 := WF.of E8 (fun _ => rfl) (by kernel_rfl)
theorem hX8 : SoundX E8 := SoundX.none fun _ _ => rfl
theorem sc8 {f : FuncId} {args : List V} {L : List (Option Chunk)} {cr : CRes} : SC E8 f args L cr ↔ SC E f args L cr :=
 ⟨fun h => ⟨h.1, fun β S w us h1 h2 h3 => h.2 β S w us h1 h2 ⟨h3.rd, h3.inv⟩⟩, fun h => ⟨h.1, fun β S w us h1 h2 h3 => h.2 β S w us h1 h2 ⟨h3.rd, h3.inv⟩⟩⟩
end Go.Proofs.YthkioinnobiieaaGreatDoor
/- Small functions of the laws, lifted. -/
namespace Go.Proofs.YthkioinnobiieaaGreatDoor
open Go Go.Am Go.Proofs
set_option linter.unusedSimpArgs false
set_option linter.unusedVariables false
set_option maxRecDepth 100000
abbrev a_IndexFunc : Type := Nat × (Nat → Int)
abbrev g_IndexFunc : Type := Int
def A_IndexFunc : a_IndexFunc → List V × List (Option Chunk) := (fun x => (fun (m : Nat) (y : Nat → Int) => (([.ro 1 m (fun j => [i64 (y j)]), .fn 31 []] : List V), ([] : List (Option Chunk)))) x.1 x.2)
def d_IndexFunc (t : List V × List (Option Chunk)) : a_IndexFunc := ((vRoN (t.1.getD 0 .junk)), (fun j => (vI (((vRoF (t.1.getD 0 .junk)) j).getD 0 .junk))))
theorem i_IndexFunc : ∀ x y, A_IndexFunc x = A_IndexFunc y → x = y := fun x y h => (congrArg d_IndexFunc h :)
def R_IndexFunc : g_IndexFunc → CRes := (fun z => CRes.ret (i64 z) [] : (Int) → CRes)
def x_IndexFunc (z : g_IndexFunc) (k : CRes → Option Ans) : Option Ans := k (R_IndexFunc z)
theorem xe_IndexFunc : ∀ z k, x_IndexFunc z k = k (R_IndexFunc z) := fun z k => rfl
abbrev IndexFunc_l0_a : Type := Int
abbrev IndexFunc_l0_g : Type := (Int) ⊕ (Unit)
def IndexFunc_l0_S (x : a_IndexFunc) (y : IndexFunc_l0_a) : St := { fr := [V.ro 1 (x.1) fun (j : Nat) => [i64 (x.2 j)], V.fn 31 []] ++ jk 5 ++ [i64 ((x.1 : Nat) : Int), i64 y] ++ jk 10, H := hp [], nx := 0, rt := 0, me := 49 }
def IndexFunc_l0_d (s : St) : IndexFunc_l0_a := ((vI (s.fr.getD 8 .junk)))
theorem IndexFunc_l0_i (x : a_IndexFunc) : ∀ y y', IndexFunc_l0_S x y = IndexFunc_l0_S x y' → y = y' := fun y y' h => (congrArg IndexFunc_l0_d h :)
def IndexFunc_l0_T (x : a_IndexFunc) : IndexFunc_l0_g → Ex × St := (Sum.elim (fun z => (Ex.ret, { fr := jk 4 ++ [i64 z] ++ jk 14, H := hp [], nx := 0, rt := 0, me := 49 })) (fun z => (Ex.exit 0, { fr := [V.junk] ++ jk 18, H := hp [], nx := 0, rt := 0, me := 49 })))
def IndexFunc_l0_x (x : a_IndexFunc) (z : IndexFunc_l0_g) (k : KX) : Option Ans := Sum.elim (fun za => k (IndexFunc_l0_T x (.inl za)).1 (IndexFunc_l0_T x (.inl za)).2) (fun zb => k (IndexFunc_l0_T x (.inr zb)).1 (IndexFunc_l0_T x (.inr zb)).2) z
theorem IndexFunc_l0_xe (x : a_IndexFunc) : ∀ z k, IndexFunc_l0_x x z k = k (IndexFunc_l0_T x z).1 (IndexFunc_l0_T x z).2 := fun z k => by
 rcases z with z | z <;> rfl
theorem IndexFunc_l0_k0 (x : a_IndexFunc) (z : Int) : KCM [(0, 0)] 16 (IndexFunc_l0_T x (.inl z)).1 (IndexFunc_l0_T x (.inl z)).2 = some (.l (IndexFunc_l0_T x (.inl z)).1 (IndexFunc_l0_T x (.inl z)).2) := by kernel_rfl
theorem IndexFunc_l0_k1 (x : a_IndexFunc) (z : Unit) : KCM [(0, 0)] 16 (IndexFunc_l0_T x (.inr z)).1 (IndexFunc_l0_T x (.inr z)).2 = some (.l (IndexFunc_l0_T x (.inr z)).1 (IndexFunc_l0_T x (.inr z)).2) := by kernel_rfl
def IndexFunc_l0_t {β : Type} (x : a_IndexFunc) (y : IndexFunc_l0_a) (nx : IndexFunc_l0_a → Option β) (dn : IndexFunc_l0_g → Option β) : Option β :=
 if decide (y < ((x.1 : Nat) : Int)) = true then
  if (0 : Int) ≤ y ∧ y < ((x.1 : Nat) : Int) then
   if decide (x.2 (Int.toNat y) < (-2147483647 : Int)) = true then
    dn (.inl y)
   else
    if decide (x.2 (Int.toNat y) > (2147483647 : Int)) = true then
     dn (.inl y)
    else
     nx (w (y + (1 : Int)))
  else
   none
 else
  dn (.inr ())
theorem IndexFunc_l0_n {β : Type} (x : a_IndexFunc) (y : IndexFunc_l0_a) (nx : IndexFunc_l0_a → Option β) (dn : IndexFunc_l0_g → Option β) : IndexFunc_l0_t x y nx dn = (IndexFunc_l0_t x y (fun y => some (.inl y)) (fun z => some (.inr z))).bind fun r => Sum.elim nx dn r := by
 unfold IndexFunc_l0_t
 repeat' first | exact free_none | refine free_bind (fun z => ?_) | refine free_ite ?_ ?_ | refine free_sum (fun z => ?_) (fun z => ?_) | rfl
theorem IndexFunc_l0_r (x : a_IndexFunc) (y : IndexFunc_l0_a) (lo : LoopT) : loopK E8 (callG E8 20) lo 0 387 (bodyOf E8 49 0) (IndexFunc_l0_S x y) (KCM [(0, 0)] 16) = IndexFunc_l0_t x y (fun y => lo 0 387 (bodyOf E8 49 0) (IndexFunc_l0_S x y) (KCM [(0, 0)] 16)) (fun z => some (.l (IndexFunc_l0_T x z).1 (IndexFunc_l0_T x z).2)) := by kernel_rfl
noncomputable def IndexFunc_l0 (q : Nat) (x : a_IndexFunc) : IndexFunc_l0_a → Option IndexFunc_l0_g := lpG (fun y => IndexFunc_l0_t x y (fun y => some (.inl y)) (fun z => some (.inr z))) q
theorem IndexFunc_l0_s (q : Nat) (x : a_IndexFunc) : ∀ y z, IndexFunc_l0 q x y = some z → SL E8 (bodyOf E8 49 0) (IndexFunc_l0_S x y) (IndexFunc_l0_T x z).1 (IndexFunc_l0_T x z).2 :=
 SL.lp (LT := fun lo => lo) (T := IndexFunc_l0_T x) (S := IndexFunc_l0_S x) (sound_G hW8 hX8 20).1 hX8 (fun lo h => h) (fun lo y => (IndexFunc_l0_r x y lo).trans (by exact IndexFunc_l0_n  _ _ _ _)) (fun z => by rcases z with z | z <;> first | exact IndexFunc_l0_k0 x z | exact IndexFunc_l0_k1 x z) q
def t_IndexFunc {β : Type} (l_IndexFunc_l0 : IndexFunc_l0_a → Option IndexFunc_l0_g) (x : a_IndexFunc) (dn : g_IndexFunc → Option β) : Option β :=
 (l_IndexFunc_l0 ((0 : Int))).bind fun z5 =>
  Sum.elim (fun z5a =>
  dn z5a) (fun z5b =>
  dn ((-1 : Int))) z5
theorem n_IndexFunc {β : Type} (l_IndexFunc_l0 : IndexFunc_l0_a → Option IndexFunc_l0_g) (x : a_IndexFunc) (dn : g_IndexFunc → Option β) : t_IndexFunc l_IndexFunc_l0 x dn = (t_IndexFunc l_IndexFunc_l0 x some).bind dn := by
 unfold t_IndexFunc
 repeat' first | exact free_none | refine free_bind (fun z => ?_) | refine free_ite ?_ ?_ | refine free_sum (fun z => ?_) (fun z => ?_) | rfl
theorem r_IndexFunc (l_IndexFunc_l0 : IndexFunc_l0_a → Option IndexFunc_l0_g) (x : a_IndexFunc) : callK E8 (callG E8 20) (ltabF 0 (fun _ => true) (bodyOf E8 49 0) (IndexFunc_l0_S x) (IndexFunc_l0_x x) l_IndexFunc_l0 lo0) 49 (A_IndexFunc x).1 (A_IndexFunc x).2 K = t_IndexFunc (fun y => viaF (fun y => (bodyOf E8 49 0, IndexFunc_l0_S x y)) l_IndexFunc_l0 (bodyOf E8 49 0, IndexFunc_l0_S x y)) x (fun z => some (.c (R_IndexFunc z))) := by kernel_rfl
theorem s_IndexFunc (q : Nat) (x : a_IndexFunc) (z : g_IndexFunc) (h : t_IndexFunc (IndexFunc_l0 q x) x some = some z) : SC E8 49 (A_IndexFunc x).1 (A_IndexFunc x).2 (R_IndexFunc z) := by
 refine SC.of hW8 hX8 (sound_G hW8 hX8 20).1 (ltabF_cons (IndexFunc_l0_s q x) (IndexFunc_l0_xe x) lo0_sound) ((r_IndexFunc (IndexFunc_l0 q x) x).trans ?_)
 rw [via_eq (pair_inj (bodyOf E8 49 0) (IndexFunc_l0_i x)) (IndexFunc_l0 q x), n_IndexFunc, h]; rfl
noncomputable def IndexFunc (q : Nat) (x : a_IndexFunc) : Option g_IndexFunc := t_IndexFunc (IndexFunc_l0 q x) x some
theorem sc_IndexFunc (q : Nat) : ∀ (x : a_IndexFunc) (z : g_IndexFunc), IndexFunc q x = some z → SC E8 49 (A_IndexFunc x).1 (A_IndexFunc x).2 (R_IndexFunc z) := fun x z h => s_IndexFunc q x z h
abbrev a_ContainsFunc : Type := Nat × (Nat → Int)
abbrev g_ContainsFunc : Type := Bool
def A_ContainsFunc : a_ContainsFunc → List V × List (Option Chunk) := (fun x => (fun (m : Nat) (y : Nat → Int) => (([.ro 1 m (fun j => [i64 (y j)]), .fn 31 []] : List V), ([] : List (Option Chunk)))) x.1 x.2)
def d_ContainsFunc (t : List V × List (Option Chunk)) : a_ContainsFunc := ((vRoN (t.1.getD 0 .junk)), (fun j => (vI (((vRoF (t.1.getD 0 .junk)) j).getD 0 .junk))))
theorem i_ContainsFunc : ∀ x y, A_ContainsFunc x = A_ContainsFunc y → x = y := fun x y h => (congrArg d_ContainsFunc h :)
def R_ContainsFunc : g_ContainsFunc → CRes := (fun z => CRes.ret (bo z) [] : (Bool) → CRes)
def x_ContainsFunc (z : g_ContainsFunc) (k : CRes → Option Ans) : Option Ans := k (R_ContainsFunc z)
theorem xe_ContainsFunc : ∀ z k, x_ContainsFunc z k = k (R_ContainsFunc z) := fun z k => rfl
def t_ContainsFunc {β : Type} (c_IndexFunc : a_IndexFunc → Option g_IndexFunc) (x : a_ContainsFunc) (dn : g_ContainsFunc → Option β) : Option β :=
 (c_IndexFunc x).bind fun z2 =>
  dn (decide (z2 ≥ (0 : Int)))
theorem n_ContainsFunc {β : Type} (c_IndexFunc : a_IndexFunc → Option g_IndexFunc) (x : a_ContainsFunc) (dn : g_ContainsFunc → Option β) : t_ContainsFunc c_IndexFunc x dn = (t_ContainsFunc c_IndexFunc x some).bind dn := by
 unfold t_ContainsFunc
 repeat' first | exact free_none | refine free_bind (fun z => ?_) | refine free_ite ?_ ?_ | refine free_sum (fun z => ?_) (fun z => ?_) | rfl
theorem r_ContainsFunc (c_IndexFunc : a_IndexFunc → Option g_IndexFunc) (x : a_ContainsFunc) : callK E8 (ftab 49 (fun _ _ => true) A_IndexFunc x_IndexFunc c_IndexFunc ca0) lo0 30 (A_ContainsFunc x).1 (A_ContainsFunc x).2 K = t_ContainsFunc (fun x => viaF A_IndexFunc c_IndexFunc (A_IndexFunc x)) x (fun z => some (.c (R_ContainsFunc z))) := by kernel_rfl
theorem s_ContainsFunc (c_IndexFunc : a_IndexFunc → Option g_IndexFunc) (h_IndexFunc : ∀ x z, c_IndexFunc x = some z → SC E8 49 (A_IndexFunc x).1 (A_IndexFunc x).2 (R_IndexFunc z)) (q : Nat) (x : a_ContainsFunc) (z : g_ContainsFunc) (h : t_ContainsFunc c_IndexFunc x some = some z) : SC E8 30 (A_ContainsFunc x).1 (A_ContainsFunc x).2 (R_ContainsFunc z) := by
 refine SC.of hW8 hX8 (ftab_cons h_IndexFunc xe_IndexFunc ca0_sound) lo0_sound ((r_ContainsFunc c_IndexFunc x).trans ?_)
 rw [via_eq i_IndexFunc c_IndexFunc, n_ContainsFunc, h]; rfl
noncomputable def ContainsFunc (q : Nat) (x : a_ContainsFunc) : Option g_ContainsFunc := t_ContainsFunc (IndexFunc q) x some
theorem sc_ContainsFunc (q : Nat) : ∀ (x : a_ContainsFunc) (z : g_ContainsFunc), ContainsFunc q x = some z → SC E8 30 (A_ContainsFunc x).1 (A_ContainsFunc x).2 (R_ContainsFunc z) := fun x z h => s_ContainsFunc (IndexFunc q) (sc_IndexFunc q) q x z h
abbrev a_Start : Type := ByteArray × Int × Int × Nat × (Nat → Int) × (Nat → Int) × Nat × (Nat → Int)
abbrev g_Start : Type := (Int) ⊕ (Nat × (Nat → Int))
def A_Start : a_Start → List V × List (Option Chunk) := (fun x => (fun (nm : ByteArray) (ps : Int) (vs : Int) (n : Nat) (op : Nat → Int) (ar : Nat → Int) (m : Nat) (y : Nat → Int) => (([.agg [st nm, i64 ps, i64 vs, .ro 2 n (fun j => [i64 (op j), i64 (ar j)])], .ro 1 m (fun j => [i64 (y j)])] : List V), ([] : List (Option Chunk)))) x.1 x.2.1 x.2.2.1 x.2.2.2.1 x.2.2.2.2.1 x.2.2.2.2.2.1 x.2.2.2.2.2.2.1 x.2.2.2.2.2.2.2)
def R_Start : g_Start → CRes := Sum.elim ((fun z => CRes.ret (V.tup [V.agg [i64 (0 : Int), i64 (0 : Int), i64 (0 : Int), i64 (0 : Int), nilS, nilS, nilS, i64 (0 : Int), i64 (0 : Int)], i64 z]) [] : (Int) → CRes)) ((fun z => CRes.ret (V.tup [V.agg [i64 (0 : Int), i64 (0 : Int), i64 (-1 : Int), i64 (-1 : Int), V.sl 0 1 0 (z.1), nilS, nilS, i64 (0 : Int), i64 (0 : Int)], i64 (0 : Int)]) [some (Chunk.row 3 1 (z.1) fun (j : Nat) => [i64 (z.2 j)])] : (Nat × (Nat → Int)) → CRes))
def t_Start {β : Type} (c_ContainsFunc : a_ContainsFunc → Option g_ContainsFunc) (x : a_Start) (dn : g_Start → Option β) : Option β :=
 if (((x.2.2.2.2.2.2.1 : Nat) : Int) != x.2.1) = true then
  dn (.inl ((1 : Int)))
 else
  (c_ContainsFunc (x.2.2.2.2.2.2)).bind fun z2 =>
   if z2 = true then
    dn (.inl ((5 : Int)))
   else
    if x.2.2.1 = x.2.2.1 ∧ (0 : Int) ≤ x.2.2.1 ∧ 0 < 1 ∧ 1 = 1 ∧ Int.toNat (x.2.2.1) * 8 ≤ 281474976710656 ∧ Int.toNat (x.2.2.1) ≤ maxLen ∧ true = true then
     if 1 = 1 ∧ 1 = 1 ∧ 1 = 1 ∧ (1 = 1 ∨ x.2.2.2.2.2.2.1 = 0) ∧ 0 + Int.toNat (x.2.2.1) ≤ Int.toNat (x.2.2.1) then
      dn (.inr ((Int.toNat (x.2.2.1), fun (j : Nat) => if 0 ≤ j ∧ j < 0 + min (x.2.2.2.2.2.2.1) (Int.toNat (x.2.2.1)) then x.2.2.2.2.2.2.2 (j - 0) else (0 : Int))))
     else
      none
    else
     none
theorem n_Start {β : Type} (c_ContainsFunc : a_ContainsFunc → Option g_ContainsFunc) (x : a_Start) (dn : g_Start → Option β) : t_Start c_ContainsFunc x dn = (t_Start c_ContainsFunc x some).bind dn := by
 unfold t_Start
 repeat' first | exact free_none | refine free_bind (fun z => ?_) | refine free_ite ?_ ?_ | refine free_sum (fun z => ?_) (fun z => ?_) | rfl
theorem r_Start (c_ContainsFunc : a_ContainsFunc → Option g_ContainsFunc) (x : a_Start) : callK E8 (ftab 30 (fun _ _ => true) A_ContainsFunc x_ContainsFunc c_ContainsFunc (callG E8 20)) lo0 10 (A_Start x).1 (A_Start x).2 K = t_Start (fun x => viaF A_ContainsFunc c_ContainsFunc (A_ContainsFunc x)) x (fun z => some (.c (R_Start z))) := by kernel_rfl
theorem s_Start (c_ContainsFunc : a_ContainsFunc → Option g_ContainsFunc) (h_ContainsFunc : ∀ x z, c_ContainsFunc x = some z → SC E8 30 (A_ContainsFunc x).1 (A_ContainsFunc x).2 (R_ContainsFunc z)) (q : Nat) (x : a_Start) (z : g_Start) (h : t_Start c_ContainsFunc x some = some z) : SC E8 10 (A_Start x).1 (A_Start x).2 (R_Start z) := by
 refine SC.of hW8 hX8 (ftab_cons h_ContainsFunc xe_ContainsFunc (sound_G hW8 hX8 20).1) lo0_sound ((r_Start c_ContainsFunc x).trans ?_)
 rw [via_eq i_ContainsFunc c_ContainsFunc, n_Start, h]; rfl
noncomputable def Start (q : Nat) (x : a_Start) : Option g_Start := t_Start (ContainsFunc q) x some
theorem sc_Start (q : Nat) : ∀ (x : a_Start) (z : g_Start), Start q x = some z → SC E8 10 (A_Start x).1 (A_Start x).2 (R_Start z) := fun x z h => s_Start (ContainsFunc q) (sc_ContainsFunc q) q x z h
abbrev a_args : Type := ByteArray × Int × Int × Nat × (Nat → Int) × (Nat → Int) × Nat × (Nat → Int)
abbrev g_args : Type := (Unit) ⊕ (Nat × (Nat → Int))
abbrev args_l0_a : Type := (Unit) ⊕ ((Nat → Int) × Nat × Int)
abbrev args_l0_g : Type := (Unit) ⊕ (Nat × (Nat → Int))
def args_l0_t0 {β : Type} (x : a_args) (y : Unit) (nx : args_l0_a → Option β) (dn : args_l0_g → Option β) : Option β :=
 if decide ((0 : Int) < x.2.1) = true then
  if decide ((0 : Int) < ((x.2.2.2.2.2.2.1 : Nat) : Int)) = true then
   if (0 : Int) ≤ (0 : Int) ∧ (0 : Int) < ((x.2.2.2.2.2.2.1 : Nat) : Int) then
    if decide (x.2.2.2.2.2.2.2 0 < (0 : Int)) = true then
     nx (.inr ((fun j => w (Int.tmod (w ((0 : Int) - w (x.2.2.2.2.2.2.2 0 + (1 : Int)))) (4294967295 : Int) - (2147483647 : Int)), 1, (1 : Int))))
    else
     nx (.inr ((fun j => w (Int.tmod (x.2.2.2.2.2.2.2 0) (4294967295 : Int) - (2147483647 : Int)), 1, (1 : Int))))
   else
    none
  else
   nx (.inr ((fun j => (0 : Int), 1, (1 : Int))))
 else
  dn (.inl ())
def args_l0_t1 {β : Type} (x : a_args) (y : (Nat → Int) × Nat × Int) (nx : args_l0_a → Option β) (dn : args_l0_g → Option β) : Option β :=
 if decide (y.2.2 < x.2.1) = true then
  if decide (y.2.2 < ((x.2.2.2.2.2.2.1 : Nat) : Int)) = true then
   if (0 : Int) ≤ y.2.2 ∧ y.2.2 < ((x.2.2.2.2.2.2.1 : Nat) : Int) then
    if decide (x.2.2.2.2.2.2.2 (Int.toNat (y.2.2)) < (0 : Int)) = true then
     if (y.2.1 + 1) * 8 ≤ roomBound ∧ y.2.1 + 1 ≤ maxLen ∧ y.2.1 ≤ y.2.1 then
      nx (.inr ((fun j => if j < y.2.1 then y.1 j else w (Int.tmod (w ((0 : Int) - w (x.2.2.2.2.2.2.2 (Int.toNat (y.2.2)) + (1 : Int)))) (4294967295 : Int) - (2147483647 : Int)), y.2.1 + 1, w (y.2.2 + (1 : Int)))))
     else
      none
    else
     if (y.2.1 + 1) * 8 ≤ roomBound ∧ y.2.1 + 1 ≤ maxLen ∧ y.2.1 ≤ y.2.1 then
      nx (.inr ((fun j => if j < y.2.1 then y.1 j else w (Int.tmod (x.2.2.2.2.2.2.2 (Int.toNat (y.2.2))) (4294967295 : Int) - (2147483647 : Int)), y.2.1 + 1, w (y.2.2 + (1 : Int)))))
     else
      none
   else
    none
  else
   if (y.2.1 + 1) * 8 ≤ roomBound ∧ y.2.1 + 1 ≤ maxLen ∧ y.2.1 ≤ y.2.1 then
    nx (.inr ((fun j => if j < y.2.1 then y.1 j else (0 : Int), y.2.1 + 1, w (y.2.2 + (1 : Int)))))
   else
    none
 else
  dn (.inr ((y.2.1, y.1)))
noncomputable def args_l0 (q : Nat) (x : a_args) : args_l0_a → Option args_l0_g := lpG (Sum.elim (fun y => args_l0_t0 x y (fun y => some (.inl y)) (fun z => some (.inr z))) (fun y => args_l0_t1 x y (fun y => some (.inl y)) (fun z => some (.inr z)))) q
def t_args {β : Type} (l_args_l0 : args_l0_a → Option args_l0_g) (x : a_args) (dn : g_args → Option β) : Option β :=
 (l_args_l0 (.inl ())).bind fun z33 =>
  Sum.elim (fun z33a =>
  dn (.inl ())) (fun z33b =>
  dn (.inr z33b)) z33
noncomputable def args (q : Nat) (x : a_args) : Option g_args := t_args (args_l0 q x) x some
abbrev a_SameInts : Type := Nat × (Nat → Int) × Nat × (Nat → Int)
abbrev g_SameInts : Type := Bool
def A_SameInts : a_SameInts → List V × List (Option Chunk) := (fun x => (fun (m : Nat) (y : Nat → Int) (k : Nat) (z : Nat → Int) => (([.ro 1 m (fun j => [i64 (y j)]), .ro 1 k (fun j => [i64 (z j)])] : List V), ([] : List (Option Chunk)))) x.1 x.2.1 x.2.2.1 x.2.2.2)
def d_SameInts (t : List V × List (Option Chunk)) : a_SameInts := ((vRoN (t.1.getD 0 .junk)), (fun j => (vI (((vRoF (t.1.getD 0 .junk)) j).getD 0 .junk))), (vRoN (t.1.getD 1 .junk)), (fun j => (vI (((vRoF (t.1.getD 1 .junk)) j).getD 0 .junk))))
theorem i_SameInts : ∀ x y, A_SameInts x = A_SameInts y → x = y := fun x y h => (congrArg d_SameInts h :)
def R_SameInts : g_SameInts → CRes := (fun z => (fun (b : Bool) => .ret (bo b) []) z : (Bool) → CRes)
def x_SameInts (z : g_SameInts) (k : CRes → Option Ans) : Option Ans := k (R_SameInts z)
theorem xe_SameInts : ∀ z k, x_SameInts z k = k (R_SameInts z) := fun z k => rfl
abbrev SameInts_l0_a : Type := Int
abbrev SameInts_l0_g : Type := (Unit) ⊕ (Unit)
def SameInts_l0_S (x : a_SameInts) (y : SameInts_l0_a) : St := { fr := [V.ro 1 (x.1) fun (j : Nat) => [i64 (x.2.1 j)], V.ro 1 (x.2.2.1) fun (j : Nat) => [i64 (x.2.2.2 j)], V.junk, V.junk, V.junk, i64 y] ++ jk 20, H := hp [], nx := 0, rt := 0, me := 34 }
def SameInts_l0_d (s : St) : SameInts_l0_a := ((vI (s.fr.getD 5 .junk)))
theorem SameInts_l0_i (x : a_SameInts) : ∀ y y', SameInts_l0_S x y = SameInts_l0_S x y' → y = y' := fun y y' h => (congrArg SameInts_l0_d h :)
def SameInts_l0_T (x : a_SameInts) : SameInts_l0_g → Ex × St := (Sum.elim (fun z => (Ex.ret, { fr := jk 4 ++ [bo false] ++ jk 21, H := hp [], nx := 0, rt := 0, me := 34 })) (fun z => (Ex.exit 0, { fr := [V.junk] ++ jk 25, H := hp [], nx := 0, rt := 0, me := 34 })))
def SameInts_l0_x (x : a_SameInts) (z : SameInts_l0_g) (k : KX) : Option Ans := Sum.elim (fun za => k (SameInts_l0_T x (.inl za)).1 (SameInts_l0_T x (.inl za)).2) (fun zb => k (SameInts_l0_T x (.inr zb)).1 (SameInts_l0_T x (.inr zb)).2) z
theorem SameInts_l0_xe (x : a_SameInts) : ∀ z k, SameInts_l0_x x z k = k (SameInts_l0_T x z).1 (SameInts_l0_T x z).2 := fun z k => by
 rcases z with z | z <;> rfl
theorem SameInts_l0_k0 (x : a_SameInts) (z : Unit) : KCM [(0, 0)] 16 (SameInts_l0_T x (.inl z)).1 (SameInts_l0_T x (.inl z)).2 = some (.l (SameInts_l0_T x (.inl z)).1 (SameInts_l0_T x (.inl z)).2) := by kernel_rfl
theorem SameInts_l0_k1 (x : a_SameInts) (z : Unit) : KCM [(0, 0)] 16 (SameInts_l0_T x (.inr z)).1 (SameInts_l0_T x (.inr z)).2 = some (.l (SameInts_l0_T x (.inr z)).1 (SameInts_l0_T x (.inr z)).2) := by kernel_rfl
def SameInts_l0_t {β : Type} (x : a_SameInts) (y : SameInts_l0_a) (nx : SameInts_l0_a → Option β) (dn : SameInts_l0_g → Option β) : Option β :=
 if decide (y < ((x.1 : Nat) : Int)) = true then
  if (0 : Int) ≤ y ∧ y < ((x.1 : Nat) : Int) then
   if (0 : Int) ≤ y ∧ y < ((x.2.2.1 : Nat) : Int) then
    if (x.2.1 (Int.toNat y) != x.2.2.2 (Int.toNat y)) = true then
     dn (.inl ())
    else
     nx (w (y + (1 : Int)))
   else
    none
  else
   none
 else
  dn (.inr ())
theorem SameInts_l0_n {β : Type} (x : a_SameInts) (y : SameInts_l0_a) (nx : SameInts_l0_a → Option β) (dn : SameInts_l0_g → Option β) : SameInts_l0_t x y nx dn = (SameInts_l0_t x y (fun y => some (.inl y)) (fun z => some (.inr z))).bind fun r => Sum.elim nx dn r := by
 unfold SameInts_l0_t
 repeat' first | exact free_none | refine free_bind (fun z => ?_) | refine free_ite ?_ ?_ | refine free_sum (fun z => ?_) (fun z => ?_) | rfl
theorem SameInts_l0_r (x : a_SameInts) (y : SameInts_l0_a) (lo : LoopT) : loopK E8 ca0 lo 0 35 (bodyOf E8 34 0) (SameInts_l0_S x y) (KCM [(0, 0)] 16) = SameInts_l0_t x y (fun y => lo 0 35 (bodyOf E8 34 0) (SameInts_l0_S x y) (KCM [(0, 0)] 16)) (fun z => some (.l (SameInts_l0_T x z).1 (SameInts_l0_T x z).2)) := by kernel_rfl
noncomputable def SameInts_l0 (q : Nat) (x : a_SameInts) : SameInts_l0_a → Option SameInts_l0_g := lpG (fun y => SameInts_l0_t x y (fun y => some (.inl y)) (fun z => some (.inr z))) q
theorem SameInts_l0_s (q : Nat) (x : a_SameInts) : ∀ y z, SameInts_l0 q x y = some z → SL E8 (bodyOf E8 34 0) (SameInts_l0_S x y) (SameInts_l0_T x z).1 (SameInts_l0_T x z).2 :=
 SL.lp (LT := fun lo => lo) (T := SameInts_l0_T x) (S := SameInts_l0_S x) ca0_sound hX8 (fun lo h => h) (fun lo y => (SameInts_l0_r x y lo).trans (by exact SameInts_l0_n  _ _ _ _)) (fun z => by rcases z with z | z <;> first | exact SameInts_l0_k0 x z | exact SameInts_l0_k1 x z) q
def t_SameInts {β : Type} (l_SameInts_l0 : SameInts_l0_a → Option SameInts_l0_g) (x : a_SameInts) (dn : g_SameInts → Option β) : Option β :=
 if (((x.1 : Nat) : Int) != ((x.2.2.1 : Nat) : Int)) = true then
  dn false
 else
  (l_SameInts_l0 ((0 : Int))).bind fun z3 =>
   Sum.elim (fun z3a =>
   dn false) (fun z3b =>
   dn true) z3
theorem n_SameInts {β : Type} (l_SameInts_l0 : SameInts_l0_a → Option SameInts_l0_g) (x : a_SameInts) (dn : g_SameInts → Option β) : t_SameInts l_SameInts_l0 x dn = (t_SameInts l_SameInts_l0 x some).bind dn := by
 unfold t_SameInts
 repeat' first | exact free_none | refine free_bind (fun z => ?_) | refine free_ite ?_ ?_ | refine free_sum (fun z => ?_) (fun z => ?_) | rfl
theorem r_SameInts (l_SameInts_l0 : SameInts_l0_a → Option SameInts_l0_g) (x : a_SameInts) : callK E8 ca0 (ltabF 0 (fun _ => true) (bodyOf E8 34 0) (SameInts_l0_S x) (SameInts_l0_x x) l_SameInts_l0 lo0) 34 (A_SameInts x).1 (A_SameInts x).2 K = t_SameInts (fun y => viaF (fun y => (bodyOf E8 34 0, SameInts_l0_S x y)) l_SameInts_l0 (bodyOf E8 34 0, SameInts_l0_S x y)) x (fun z => some (.c (R_SameInts z))) := by kernel_rfl
theorem s_SameInts (q : Nat) (x : a_SameInts) (z : g_SameInts) (h : t_SameInts (SameInts_l0 q x) x some = some z) : SC E8 34 (A_SameInts x).1 (A_SameInts x).2 (R_SameInts z) := by
 refine SC.of hW8 hX8 ca0_sound (ltabF_cons (SameInts_l0_s q x) (SameInts_l0_xe x) lo0_sound) ((r_SameInts (SameInts_l0 q x) x).trans ?_)
 rw [via_eq (pair_inj (bodyOf E8 34 0) (SameInts_l0_i x)) (SameInts_l0 q x), n_SameInts, h]; rfl
noncomputable def SameInts (q : Nat) (x : a_SameInts) : Option g_SameInts := t_SameInts (SameInts_l0 q x) x some
theorem sc_SameInts (q : Nat) : ∀ (x : a_SameInts) (z : g_SameInts), SameInts q x = some z → SC E8 34 (A_SameInts x).1 (A_SameInts x).2 (R_SameInts z) := fun x z h => s_SameInts q x z h
abbrev a_Same : Type := Int × Int × Int × Int × Nat × (Nat → Int) × Nat × (Nat → Int) × Nat × (Nat → Int) × (Nat → Int) × Int × Int × Int × Int × Int × Int × Nat × (Nat → Int) × Nat × (Nat → Int) × Nat × (Nat → Int) × (Nat → Int) × Int × Int
abbrev g_Same : Type := Bool
def A_Same : a_Same → List V × List (Option Chunk) := (fun x => (fun (pc : Int) (sp : Int) (us : Int) (ti : Int) (vn : Nat) (vf : Nat → Int) (sn : Nat) (sf : Nat → Int) (ln : Nat) (la : Nat → Int) (lb : Nat → Int) (stt : Int) (cde : Int) (pcq : Int) (spq : Int) (usq : Int) (tiq : Int) (vnq : Nat) (vfq : Nat → Int) (snq : Nat) (sfq : Nat → Int) (lnq : Nat) (laq : Nat → Int) (lbq : Nat → Int) (sttq : Int) (cdeq : Int) => (([.agg [i64 pc, i64 sp, i64 us, i64 ti, .ro 1 vn (fun j => [i64 (vf j)]), .ro 1 sn (fun j => [i64 (sf j)]), .ro 2 ln (fun j => [i64 (la j), i64 (lb j)]), i64 stt, i64 cde], .agg [i64 pcq, i64 spq, i64 usq, i64 tiq, .ro 1 vnq (fun j => [i64 (vfq j)]), .ro 1 snq (fun j => [i64 (sfq j)]), .ro 2 lnq (fun j => [i64 (laq j), i64 (lbq j)]), i64 sttq, i64 cdeq]] : List V), ([] : List (Option Chunk)))) x.1 x.2.1 x.2.2.1 x.2.2.2.1 x.2.2.2.2.1 x.2.2.2.2.2.1 x.2.2.2.2.2.2.1 x.2.2.2.2.2.2.2.1 x.2.2.2.2.2.2.2.2.1 x.2.2.2.2.2.2.2.2.2.1 x.2.2.2.2.2.2.2.2.2.2.1 x.2.2.2.2.2.2.2.2.2.2.2.1 x.2.2.2.2.2.2.2.2.2.2.2.2.1 x.2.2.2.2.2.2.2.2.2.2.2.2.2.1 x.2.2.2.2.2.2.2.2.2.2.2.2.2.2.1 x.2.2.2.2.2.2.2.2.2.2.2.2.2.2.2.1 x.2.2.2.2.2.2.2.2.2.2.2.2.2.2.2.2.1 x.2.2.2.2.2.2.2.2.2.2.2.2.2.2.2.2.2.1 x.2.2.2.2.2.2.2.2.2.2.2.2.2.2.2.2.2.2.1 x.2.2.2.2.2.2.2.2.2.2.2.2.2.2.2.2.2.2.2.1 x.2.2.2.2.2.2.2.2.2.2.2.2.2.2.2.2.2.2.2.2.1 x.2.2.2.2.2.2.2.2.2.2.2.2.2.2.2.2.2.2.2.2.2.1 x.2.2.2.2.2.2.2.2.2.2.2.2.2.2.2.2.2.2.2.2.2.2.1 x.2.2.2.2.2.2.2.2.2.2.2.2.2.2.2.2.2.2.2.2.2.2.2.1 x.2.2.2.2.2.2.2.2.2.2.2.2.2.2.2.2.2.2.2.2.2.2.2.2.1 x.2.2.2.2.2.2.2.2.2.2.2.2.2.2.2.2.2.2.2.2.2.2.2.2.2)
def d_Same (t : List V × List (Option Chunk)) : a_Same := ((vI ((vAg (t.1.getD 0 .junk)).getD 0 .junk)), (vI ((vAg (t.1.getD 0 .junk)).getD 1 .junk)), (vI ((vAg (t.1.getD 0 .junk)).getD 2 .junk)), (vI ((vAg (t.1.getD 0 .junk)).getD 3 .junk)), (vRoN ((vAg (t.1.getD 0 .junk)).getD 4 .junk)), (fun j => (vI (((vRoF ((vAg (t.1.getD 0 .junk)).getD 4 .junk)) j).getD 0 .junk))), (vRoN ((vAg (t.1.getD 0 .junk)).getD 5 .junk)), (fun j => (vI (((vRoF ((vAg (t.1.getD 0 .junk)).getD 5 .junk)) j).getD 0 .junk))), (vRoN ((vAg (t.1.getD 0 .junk)).getD 6 .junk)), (fun j => (vI (((vRoF ((vAg (t.1.getD 0 .junk)).getD 6 .junk)) j).getD 0 .junk))), (fun j => (vI (((vRoF ((vAg (t.1.getD 0 .junk)).getD 6 .junk)) j).getD 1 .junk))), (vI ((vAg (t.1.getD 0 .junk)).getD 7 .junk)), (vI ((vAg (t.1.getD 0 .junk)).getD 8 .junk)), (vI ((vAg (t.1.getD 1 .junk)).getD 0 .junk)), (vI ((vAg (t.1.getD 1 .junk)).getD 1 .junk)), (vI ((vAg (t.1.getD 1 .junk)).getD 2 .junk)), (vI ((vAg (t.1.getD 1 .junk)).getD 3 .junk)), (vRoN ((vAg (t.1.getD 1 .junk)).getD 4 .junk)), (fun j => (vI (((vRoF ((vAg (t.1.getD 1 .junk)).getD 4 .junk)) j).getD 0 .junk))), (vRoN ((vAg (t.1.getD 1 .junk)).getD 5 .junk)), (fun j => (vI (((vRoF ((vAg (t.1.getD 1 .junk)).getD 5 .junk)) j).getD 0 .junk))), (vRoN ((vAg (t.1.getD 1 .junk)).getD 6 .junk)), (fun j => (vI (((vRoF ((vAg (t.1.getD 1 .junk)).getD 6 .junk)) j).getD 0 .junk))), (fun j => (vI (((vRoF ((vAg (t.1.getD 1 .junk)).getD 6 .junk)) j).getD 1 .junk))), (vI ((vAg (t.1.getD 1 .junk)).getD 7 .junk)), (vI ((vAg (t.1.getD 1 .junk)).getD 8 .junk)))
theorem i_Same : ∀ x y, A_Same x = A_Same y → x = y := fun x y h => (congrArg d_Same h :)
def R_Same : g_Same → CRes := (fun z => (fun (b : Bool) => .ret (bo b) []) z : (Bool) → CRes)
def x_Same (z : g_Same) (k : CRes → Option Ans) : Option Ans := k (R_Same z)
theorem xe_Same : ∀ z k, x_Same z k = k (R_Same z) := fun z k => rfl
abbrev Same_l0_a : Type := Int
abbrev Same_l0_g : Type := (Unit) ⊕ (Unit)
def Same_l0_S (x : a_Same) (y : Same_l0_a) : St := { fr := [V.junk, V.junk, V.ptr 0 0, V.ptr 1 0, V.junk, i64 y] ++ jk 81, H := hp [some (Chunk.blk [i64 (x.1), i64 (x.2.1), i64 (x.2.2.1), i64 (x.2.2.2.1), V.ro 1 (x.2.2.2.2.1) fun (j : Nat) => [i64 (x.2.2.2.2.2.1 j)], V.ro 1 (x.2.2.2.2.2.2.1) fun (j : Nat) => [i64 (x.2.2.2.2.2.2.2.1 j)], V.ro 2 (x.2.2.2.2.2.2.2.2.1) fun (j : Nat) => [i64 (x.2.2.2.2.2.2.2.2.2.1 j), i64 (x.2.2.2.2.2.2.2.2.2.2.1 j)], i64 (x.2.2.2.2.2.2.2.2.2.2.2.1), i64 (x.2.2.2.2.2.2.2.2.2.2.2.2.1)]), some (Chunk.blk [i64 (x.2.2.2.2.2.2.2.2.2.2.2.2.2.1), i64 (x.2.2.2.2.2.2.2.2.2.2.2.2.2.2.1), i64 (x.2.2.2.2.2.2.2.2.2.2.2.2.2.2.2.1), i64 (x.2.2.2.2.2.2.2.2.2.2.2.2.2.2.2.2.1), V.ro 1 (x.2.2.2.2.2.2.2.2.2.2.2.2.2.2.2.2.2.1) fun (j : Nat) => [i64 (x.2.2.2.2.2.2.2.2.2.2.2.2.2.2.2.2.2.2.1 j)], V.ro 1 (x.2.2.2.2.2.2.2.2.2.2.2.2.2.2.2.2.2.2.2.1) fun (j : Nat) => [i64 (x.2.2.2.2.2.2.2.2.2.2.2.2.2.2.2.2.2.2.2.2.1 j)], V.ro 2 (x.2.2.2.2.2.2.2.2.2.2.2.2.2.2.2.2.2.2.2.2.2.1) fun (j : Nat) => [i64 (x.2.2.2.2.2.2.2.2.2.2.2.2.2.2.2.2.2.2.2.2.2.2.1 j), i64 (x.2.2.2.2.2.2.2.2.2.2.2.2.2.2.2.2.2.2.2.2.2.2.2.1 j)], i64 (x.2.2.2.2.2.2.2.2.2.2.2.2.2.2.2.2.2.2.2.2.2.2.2.2.1), i64 (x.2.2.2.2.2.2.2.2.2.2.2.2.2.2.2.2.2.2.2.2.2.2.2.2.2)])], nx := 2, rt := 0, me := 13 }
def Same_l0_d (s : St) : Same_l0_a := ((vI (s.fr.getD 5 .junk)))
theorem Same_l0_i (x : a_Same) : ∀ y y', Same_l0_S x y = Same_l0_S x y' → y = y' := fun y y' h => (congrArg Same_l0_d h :)
def Same_l0_T (x : a_Same) : Same_l0_g → Ex × St := (Sum.elim (fun z => (Ex.ret, { fr := jk 4 ++ [bo false] ++ jk 82, H := hp [], nx := 0, rt := 0, me := 13 })) (fun z => (Ex.exit 0, { fr := [V.junk, V.junk, V.ptr 0 0, V.ptr 1 0] ++ jk 83, H := hp [some (Chunk.blk [i64 (x.1), i64 (x.2.1), i64 (x.2.2.1), i64 (x.2.2.2.1), V.ro 1 (x.2.2.2.2.1) fun (j : Nat) => [i64 (x.2.2.2.2.2.1 j)], V.ro 1 (x.2.2.2.2.2.2.1) fun (j : Nat) => [i64 (x.2.2.2.2.2.2.2.1 j)], V.ro 2 (x.2.2.2.2.2.2.2.2.1) fun (j : Nat) => [i64 (x.2.2.2.2.2.2.2.2.2.1 j), i64 (x.2.2.2.2.2.2.2.2.2.2.1 j)], i64 (x.2.2.2.2.2.2.2.2.2.2.2.1), i64 (x.2.2.2.2.2.2.2.2.2.2.2.2.1)]), some (Chunk.blk [i64 (x.2.2.2.2.2.2.2.2.2.2.2.2.2.1), i64 (x.2.2.2.2.2.2.2.2.2.2.2.2.2.2.1), i64 (x.2.2.2.2.2.2.2.2.2.2.2.2.2.2.2.1), i64 (x.2.2.2.2.2.2.2.2.2.2.2.2.2.2.2.2.1), V.ro 1 (x.2.2.2.2.2.2.2.2.2.2.2.2.2.2.2.2.2.1) fun (j : Nat) => [i64 (x.2.2.2.2.2.2.2.2.2.2.2.2.2.2.2.2.2.2.1 j)], V.ro 1 (x.2.2.2.2.2.2.2.2.2.2.2.2.2.2.2.2.2.2.2.1) fun (j : Nat) => [i64 (x.2.2.2.2.2.2.2.2.2.2.2.2.2.2.2.2.2.2.2.2.1 j)], V.ro 2 (x.2.2.2.2.2.2.2.2.2.2.2.2.2.2.2.2.2.2.2.2.2.1) fun (j : Nat) => [i64 (x.2.2.2.2.2.2.2.2.2.2.2.2.2.2.2.2.2.2.2.2.2.2.1 j), i64 (x.2.2.2.2.2.2.2.2.2.2.2.2.2.2.2.2.2.2.2.2.2.2.2.1 j)], i64 (x.2.2.2.2.2.2.2.2.2.2.2.2.2.2.2.2.2.2.2.2.2.2.2.2.1), i64 (x.2.2.2.2.2.2.2.2.2.2.2.2.2.2.2.2.2.2.2.2.2.2.2.2.2)])], nx := 2, rt := 0, me := 13 })))
def Same_l0_x (x : a_Same) (z : Same_l0_g) (k : KX) : Option Ans := Sum.elim (fun za => k (Same_l0_T x (.inl za)).1 (Same_l0_T x (.inl za)).2) (fun zb => k (Same_l0_T x (.inr zb)).1 (Same_l0_T x (.inr zb)).2) z
theorem Same_l0_xe (x : a_Same) : ∀ z k, Same_l0_x x z k = k (Same_l0_T x z).1 (Same_l0_T x z).2 := fun z k => by
 rcases z with z | z <;> rfl
theorem Same_l0_k0 (x : a_Same) (z : Unit) : KCM [(0, 12)] 16 (Same_l0_T x (.inl z)).1 (Same_l0_T x (.inl z)).2 = some (.l (Same_l0_T x (.inl z)).1 (Same_l0_T x (.inl z)).2) := by kernel_rfl
theorem Same_l0_k1 (x : a_Same) (z : Unit) : KCM [(0, 12)] 16 (Same_l0_T x (.inr z)).1 (Same_l0_T x (.inr z)).2 = some (.l (Same_l0_T x (.inr z)).1 (Same_l0_T x (.inr z)).2) := by kernel_rfl
def Same_l0_t {β : Type} (c_SameInts : a_SameInts → Option g_SameInts) (x : a_Same) (y : Same_l0_a) (nx : Same_l0_a → Option β) (dn : Same_l0_g → Option β) : Option β :=
 if decide (y < ((x.2.2.2.2.2.2.2.2.1 : Nat) : Int)) = true then
  if (0 : Int) ≤ y ∧ y < ((x.2.2.2.2.2.2.2.2.1 : Nat) : Int) then
   if (0 : Int) ≤ y ∧ y < ((x.2.2.2.2.2.2.2.2.2.2.2.2.2.2.2.2.2.2.2.2.2.1 : Nat) : Int) then
    if (if true = true then !(x.2.2.2.2.2.2.2.2.2.1 (Int.toNat y) == x.2.2.2.2.2.2.2.2.2.2.2.2.2.2.2.2.2.2.2.2.2.2.1 (Int.toNat y) && (x.2.2.2.2.2.2.2.2.2.2.1 (Int.toNat y) == x.2.2.2.2.2.2.2.2.2.2.2.2.2.2.2.2.2.2.2.2.2.2.2.1 (Int.toNat y) && true)) else x.2.2.2.2.2.2.2.2.2.1 (Int.toNat y) == x.2.2.2.2.2.2.2.2.2.2.2.2.2.2.2.2.2.2.2.2.2.2.1 (Int.toNat y) && (x.2.2.2.2.2.2.2.2.2.2.1 (Int.toNat y) == x.2.2.2.2.2.2.2.2.2.2.2.2.2.2.2.2.2.2.2.2.2.2.2.1 (Int.toNat y) && true)) = true then
     dn (.inl ())
    else
     nx (w (y + (1 : Int)))
   else
    none
  else
   none
 else
  dn (.inr ())
theorem Same_l0_n {β : Type} (c_SameInts : a_SameInts → Option g_SameInts) (x : a_Same) (y : Same_l0_a) (nx : Same_l0_a → Option β) (dn : Same_l0_g → Option β) : Same_l0_t c_SameInts x y nx dn = (Same_l0_t c_SameInts x y (fun y => some (.inl y)) (fun z => some (.inr z))).bind fun r => Sum.elim nx dn r := by
 unfold Same_l0_t
 repeat' first | exact free_none | refine free_bind (fun z => ?_) | refine free_ite ?_ ?_ | refine free_sum (fun z => ?_) (fun z => ?_) | rfl
theorem Same_l0_r (c_SameInts : a_SameInts → Option g_SameInts) (x : a_Same) (y : Same_l0_a) (lo : LoopT) : loopK E8 (ftab 34 (fun _ _ => true) A_SameInts x_SameInts c_SameInts ca0) lo 0 44 (bodyOf E8 13 0) (Same_l0_S x y) (KCM [(0, 12)] 16) = Same_l0_t (fun x => viaF A_SameInts c_SameInts (A_SameInts x)) x y (fun y => lo 0 44 (bodyOf E8 13 0) (Same_l0_S x y) (KCM [(0, 12)] 16)) (fun z => some (.l (Same_l0_T x z).1 (Same_l0_T x z).2)) := by kernel_rfl
noncomputable def Same_l0 (c_SameInts : a_SameInts → Option g_SameInts) (q : Nat) (x : a_Same) : Same_l0_a → Option Same_l0_g := lpG (fun y => Same_l0_t c_SameInts x y (fun y => some (.inl y)) (fun z => some (.inr z))) q
theorem Same_l0_s (c_SameInts : a_SameInts → Option g_SameInts) (h_SameInts : ∀ x z, c_SameInts x = some z → SC E8 34 (A_SameInts x).1 (A_SameInts x).2 (R_SameInts z)) (q : Nat) (x : a_Same) : ∀ y z, Same_l0 c_SameInts q x y = some z → SL E8 (bodyOf E8 13 0) (Same_l0_S x y) (Same_l0_T x z).1 (Same_l0_T x z).2 :=
 SL.lp (LT := fun lo => lo) (T := Same_l0_T x) (S := Same_l0_S x) (ftab_cons h_SameInts xe_SameInts ca0_sound) hX8 (fun lo h => h) (fun lo y => (Same_l0_r c_SameInts x y lo).trans (by rw [via_eq i_SameInts c_SameInts]; exact Same_l0_n _ _ _ _ _)) (fun z => by rcases z with z | z <;> first | exact Same_l0_k0 x z | exact Same_l0_k1 x z) q
def t_Same {β : Type} (c_SameInts : a_SameInts → Option g_SameInts) (l_Same_l0 : Same_l0_a → Option Same_l0_g) (x : a_Same) (dn : g_Same → Option β) : Option β :=
 if (((x.2.2.2.2.2.2.2.2.1 : Nat) : Int) != ((x.2.2.2.2.2.2.2.2.2.2.2.2.2.2.2.2.2.2.2.2.2.1 : Nat) : Int)) = true then
  dn false
 else
  (c_SameInts ((x.2.2.2.2.1, x.2.2.2.2.2.1, x.2.2.2.2.2.2.2.2.2.2.2.2.2.2.2.2.2.1, x.2.2.2.2.2.2.2.2.2.2.2.2.2.2.2.2.2.2.1))).bind fun z4 =>
   if (!z4) = true then
    dn false
   else
    (c_SameInts ((x.2.2.2.2.2.2.1, x.2.2.2.2.2.2.2.1, x.2.2.2.2.2.2.2.2.2.2.2.2.2.2.2.2.2.2.2.1, x.2.2.2.2.2.2.2.2.2.2.2.2.2.2.2.2.2.2.2.2.1))).bind fun z9 =>
     if (!z9) = true then
      dn false
     else
      (l_Same_l0 ((0 : Int))).bind fun z13 =>
       Sum.elim (fun z13a =>
       dn false) (fun z13b =>
       if (x.1 == x.2.2.2.2.2.2.2.2.2.2.2.2.2.1) = true then
        if (x.2.1 == x.2.2.2.2.2.2.2.2.2.2.2.2.2.2.1) = true then
         if (x.2.2.1 == x.2.2.2.2.2.2.2.2.2.2.2.2.2.2.2.1) = true then
          if (x.2.2.2.1 == x.2.2.2.2.2.2.2.2.2.2.2.2.2.2.2.2.1) = true then
           if (x.2.2.2.2.2.2.2.2.2.2.2.1 == x.2.2.2.2.2.2.2.2.2.2.2.2.2.2.2.2.2.2.2.2.2.2.2.2.1) = true then
            dn (x.2.2.2.2.2.2.2.2.2.2.2.2.1 == x.2.2.2.2.2.2.2.2.2.2.2.2.2.2.2.2.2.2.2.2.2.2.2.2.2)
           else
            dn false
          else
           dn false
         else
          dn false
        else
         dn false
       else
        dn false) z13
theorem n_Same {β : Type} (c_SameInts : a_SameInts → Option g_SameInts) (l_Same_l0 : Same_l0_a → Option Same_l0_g) (x : a_Same) (dn : g_Same → Option β) : t_Same c_SameInts l_Same_l0 x dn = (t_Same c_SameInts l_Same_l0 x some).bind dn := by
 unfold t_Same
 repeat' first | exact free_none | refine free_bind (fun z => ?_) | refine free_ite ?_ ?_ | refine free_sum (fun z => ?_) (fun z => ?_) | rfl
theorem r_Same (c_SameInts : a_SameInts → Option g_SameInts) (l_Same_l0 : Same_l0_a → Option Same_l0_g) (x : a_Same) : callK E8 (ftab 34 (fun _ _ => true) A_SameInts x_SameInts c_SameInts ca0) (ltabF 0 (fun _ => true) (bodyOf E8 13 0) (Same_l0_S x) (Same_l0_x x) l_Same_l0 lo0) 13 (A_Same x).1 (A_Same x).2 K = t_Same (fun x => viaF A_SameInts c_SameInts (A_SameInts x)) (fun y => viaF (fun y => (bodyOf E8 13 0, Same_l0_S x y)) l_Same_l0 (bodyOf E8 13 0, Same_l0_S x y)) x (fun z => some (.c (R_Same z))) := by kernel_rfl
theorem s_Same (c_SameInts : a_SameInts → Option g_SameInts) (h_SameInts : ∀ x z, c_SameInts x = some z → SC E8 34 (A_SameInts x).1 (A_SameInts x).2 (R_SameInts z)) (q : Nat) (x : a_Same) (z : g_Same) (h : t_Same c_SameInts (Same_l0 c_SameInts q x) x some = some z) : SC E8 13 (A_Same x).1 (A_Same x).2 (R_Same z) := by
 refine SC.of hW8 hX8 (ftab_cons h_SameInts xe_SameInts ca0_sound) (ltabF_cons (Same_l0_s c_SameInts h_SameInts q x) (Same_l0_xe x) lo0_sound) ((r_Same c_SameInts (Same_l0 c_SameInts q x) x).trans ?_)
 rw [via_eq i_SameInts c_SameInts, via_eq (pair_inj (bodyOf E8 13 0) (Same_l0_i x)) (Same_l0 c_SameInts q x), n_Same, h]; rfl
noncomputable def Same (q : Nat) (x : a_Same) : Option g_Same := t_Same (SameInts q) (Same_l0 (SameInts q) q x) x some
theorem sc_Same (q : Nat) : ∀ (x : a_Same) (z : g_Same), Same q x = some z → SC E8 13 (A_Same x).1 (A_Same x).2 (R_Same z) := fun x z h => s_Same (SameInts q) (sc_SameInts q) q x z h
end Go.Proofs.YthkioinnobiieaaGreatDoor
/- Levels of places (plain). -/
namespace Go.Proofs.YthkioinnobiieaaGreatDoor
open Go Go.Am Go.Proofs
set_option linter.unusedSimpArgs false
set_option linter.unusedVariables false
set_option maxRecDepth 100000
def Runs {α : Type} (o : Option α) (P : α → Prop) : Prop := ∃ z, o = some z ∧ P z
theorem Runs.bind {α β : Type} {o : Option α} {f : α → Option β} {P : α → Prop} {Q : β → Prop} (h : Runs o P) (g : ∀ z, P z → Runs (f z) Q) : Runs (o.bind f) Q := by
 obtain ⟨z, rfl, hz⟩ := h
 exact g z hz
theorem Runs.some {α : Type} {z : α} {P : α → Prop} (h : P z) : Runs (some z) P := ⟨z, rfl, h⟩
theorem Runs.mono {α : Type} {o : Option α} {P Q : α → Prop} (h : Runs o P) (g : ∀ z, P z → Q z) : Runs o Q := by
 obtain ⟨z, h1, h2⟩ := h
 exact ⟨z, h1, g z h2⟩
theorem Runs.if_pos {α : Type} {c : Prop} [Decidable c] {a b : Option α} {P : α → Prop} (hc : c) (h : Runs a P) : Runs (ite c a b) P := by rw [_root_.if_pos hc]; exact h
theorem Runs.if_neg {α : Type} {c : Prop} [Decidable c] {a b : Option α} {P : α → Prop} (hc : ¬ c) (h : Runs b P) : Runs (ite c a b) P := by rw [_root_.if_neg hc]; exact h
theorem Runs.ite {α : Type} {c : Prop} [Decidable c] {a b : Option α} {P : α → Prop} (h1 : c → Runs a P) (h2 : ¬ c → Runs b P) : Runs (_root_.ite c a b) P := by
 by_cases h : c
 ·exact Runs.if_pos h (h1 h)
 ·exact Runs.if_neg h (h2 h)
theorem lp_step {α γ : Type} {st : α → Option (α ⊕ γ)} {q : Nat} {y : α} {P : γ → Prop} (h : Runs (st y) (fun r => Sum.elim (fun y' => Runs (lpG st q y') P) P r)) : Runs (lpG st (q + 1) y) P := by
 obtain ⟨r, h1, h2⟩ := h
 rw [lpG_succ, h1]
 cases r with
 | inl y' => exact h2
 | inr z => exact ⟨z, rfl, h2⟩
theorem w_succ {i : Nat} (h : i < 9223372036854775807) : w ((i : Int) + 1) = ((i + 1 : Nat) : Int) := by rw [w_in (by unfold inR; omega)]; omega
open Go.Proofs.Cv (Cd upd rng rngL rngH stopOk Pl plcP pureP jmp jmps VP zero)
def lvL (N : Nat) (q : Pl) (j : Nat) : Int := if j < N then q.oL j else q.lo
def lvW (N : Nat) (q : Pl) (j : Nat) : Int := if j < N then q.oW j else q.wa
structure Loc (c : Cd) (l v : Nat → Int) (i : Nat) : Prop where
 lt : -1 ≤ l i ∧ l i < i
 pure : v i ≠ -1 → c.op i = 20 ∨ pureP (c.op i) = true
 c16 : c.op i = 16 → l (i + 1) = i ∧ v (i + 1) = v i
 c19 : c.op i = 19 → l (i + 1) = l i ∧ v (i + 1) = i
 c17 : c.op i = 17 → l i ≠ -1 ∧ c.arg i = l i + 1 ∧ l (i + 1) = l (l i).toNat ∧ v (i + 1) = v (l i).toNat
 c20 : c.op i = 20 → v i ≠ -1 ∧ c.arg i = v i + 1 ∧ l (i + 1) = l i ∧ v (i + 1) = -1
 oth : c.op i ≠ 16 → c.op i ≠ 19 → c.op i ≠ 17 → c.op i ≠ 20 → l (i + 1) = l i ∧ v (i + 1) = v i
theorem plc_loc (c : Cd) (N : Nat) : ∀ (r i : Nat) (q q' : Pl), i + r = N → (-1 ≤ q.lo ∧ q.lo < i) → (∀ j, j < i → -1 ≤ q.oL j ∧ q.oL j < j) → plcP c r i q = some q' →
 (∀ j, j < i → q'.oL j = q.oL j ∧ q'.oW j = q.oW j) ∧ lvL N q' i = q.lo ∧ lvW N q' i = q.wa ∧ ∀ j, i ≤ j → j < N → Loc c (lvL N q') (lvW N q') j := by
 intro r
 induction r with
 | zero =>
  intro i q q' hi hl hj h
  cases h
  have : ¬ i < N := by omega
  exact ⟨fun j _ => ⟨rfl, rfl⟩, if_neg this, if_neg this, fun j h1 h2 => by omega⟩
 | succ r ih =>
  intro i q q' hi hl hj h
  have hiN : i < N := by omega
  -- what all next states give
  have fin : ∀ lo wa, (-1 ≤ lo ∧ lo < ((i + 1 : Nat) : Int)) → plcP c r (i + 1) ⟨upd q.oL i q.lo, upd q.oW i q.wa, lo, wa⟩ = some q' →
   (∀ j, j < i → q'.oL j = q.oL j ∧ q'.oW j = q.oW j) ∧ lvL N q' i = q.lo ∧ lvW N q' i = q.wa ∧ lvL N q' (i + 1) = lo ∧ lvW N q' (i + 1) = wa ∧ ∀ j, i + 1 ≤ j → j < N → Loc c (lvL N q') (lvW N q') j := by
   intro lo wa hlo h
   obtain ⟨k1, k2, k3, k4⟩ := ih (i + 1) _ q' (by omega) hlo (fun j hj' => by
    by_cases hji : j = i
    ·subst hji
     show -1 ≤ upd q.oL j q.lo j ∧ upd q.oL j q.lo j < j
     rw [Cv.upd_same]; exact hl
    ·show -1 ≤ upd q.oL i q.lo j ∧ upd q.oL i q.lo j < j
     rw [Cv.upd_ne hji]; exact hj j (by omega)) h
   have ki := k1 i (by omega)
   refine ⟨fun j hj' => ?_, ?_, ?_, k2, k3, k4⟩
   ·have := k1 j (by omega)
    simp only at this
    rw [Cv.upd_ne (by omega), Cv.upd_ne (by omega)] at this
    exact this
   ·unfold lvL; rw [if_pos hiN, ki.1]; exact Cv.upd_same _ _ _
   ·unfold lvW; rw [if_pos hiN, ki.2]; exact Cv.upd_same _ _ _
  rw [plcP] at h
  split at h
  ·cases h
  rename_i hp
  have hpure : q.wa ≠ -1 → c.op i = 20 ∨ pureP (c.op i) = true := fun hw => by
   by_cases h20 : c.op i = 20
   ·exact .inl h20
   ·right
    cases hb : pureP (c.op i) with
    | true => rfl
    | false => exact absurd ⟨hw, h20, hb⟩ hp
  have done : ∀ lo wa, (-1 ≤ lo ∧ lo < ((i + 1 : Nat) : Int)) → plcP c r (i + 1) ⟨upd q.oL i q.lo, upd q.oW i q.wa, lo, wa⟩ = some q' →
   ((lvL N q' i = q.lo ∧ lvW N q' i = q.wa ∧ lvL N q' (i + 1) = lo ∧ lvW N q' (i + 1) = wa ∧ ∀ j, j < i → lvL N q' j = q.oL j ∧ lvW N q' j = q.oW j) → Loc c (lvL N q') (lvW N q') i) →
   (∀ j, j < i → q'.oL j = q.oL j ∧ q'.oW j = q.oW j) ∧ lvL N q' i = q.lo ∧ lvW N q' i = q.wa ∧ ∀ j, i ≤ j → j < N → Loc c (lvL N q') (lvW N q') j := by
   intro lo wa hlo h g
   obtain ⟨k1, k2, k3, k4, k5, k6⟩ := fin lo wa hlo h
   refine ⟨k1, k2, k3, fun j j1 j2 => ?_⟩
   by_cases hji : j = i
   ·subst hji
    refine g ⟨k2, k3, k4, k5, fun t ht => ?_⟩
    unfold lvL lvW
    rw [if_pos (by omega), if_pos (by omega)]
    exact k1 t ht
   ·exact k6 j (by omega) j2
  split at h
  ·rename_i h16
   refine done _ _ (by omega) h fun ⟨e1, e2, e3, e4, e5⟩ => ⟨by rw [e1]; exact hl, by rw [e2]; exact hpure, fun _ => ⟨e3, by rw [e4, e2]⟩, fun g => absurd g (by rw [h16]; decide), fun g => absurd g (by rw [h16]; decide), fun g => absurd g (by rw [h16]; decide), fun g => absurd h16 g⟩
  rename_i h16
  split at h
  ·rename_i h19
   refine done _ _ (by omega) h fun ⟨e1, e2, e3, e4, e5⟩ => ⟨by rw [e1]; exact hl, by rw [e2]; exact hpure, fun g => absurd g h16, fun _ => ⟨by rw [e3, e1], e4⟩, fun g => absurd g (by rw [h19]; decide), fun g => absurd g (by rw [h19]; decide), fun _ g => absurd h19 g⟩
  rename_i h19
  split at h
  ·rename_i h17
   split at h
   ·cases h
   rename_i hb
   have hb1 : q.lo ≠ -1 := fun e => hb (.inl e)
   have hb2 : c.arg i = q.lo + 1 := Classical.byContradiction fun e => hb (.inr e)
   have ht : q.lo.toNat < i := by omega
   have hr := hj q.lo.toNat ht
   rw [Cv.upd_ne (by omega), Cv.upd_ne (by omega)] at h
   refine done _ _ (by omega) h fun ⟨e1, e2, e3, e4, e5⟩ => ⟨by rw [e1]; exact hl, by rw [e2]; exact hpure, fun g => absurd g h16, fun g => absurd g h19, fun _ => ⟨by rw [e1]; exact hb1, by rw [e1]; exact hb2, by rw [e3, e1, (e5 _ ht).1], by rw [e4, e1, (e5 _ ht).2]⟩, fun g => absurd g (by rw [h17]; decide), fun _ _ g => absurd h17 g⟩
  rename_i h17
  split at h
  ·rename_i h20
   split at h
   ·cases h
   rename_i hb
   have hb1 : q.wa ≠ -1 := fun e => hb (.inl e)
   have hb2 : c.arg i = q.wa + 1 := Classical.byContradiction fun e => hb (.inr e)
   refine done _ _ (by omega) h fun ⟨e1, e2, e3, e4, e5⟩ => ⟨by rw [e1]; exact hl, by rw [e2]; exact hpure, fun g => absurd g h16, fun g => absurd g h19, fun g => absurd g h17, fun _ => ⟨by rw [e2]; exact hb1, by rw [e2]; exact hb2, by rw [e3, e1], e4⟩, fun _ _ _ g => absurd h20 g⟩
  rename_i h20
  refine done _ _ (by omega) h fun ⟨e1, e2, e3, e4, e5⟩ => ⟨by rw [e1]; exact hl, by rw [e2]; exact hpure, fun g => absurd g h16, fun g => absurd g h19, fun g => absurd g h17, fun g => absurd g h20, fun _ _ _ _ => ⟨by rw [e3, e1], by rw [e4, e2]⟩⟩
structure Lvs (n : Nat) (op arg : Nat → Int) (l v : Nat → Int) : Prop where
 l0 : l 0 = -1
 v0 : v 0 = -1
 ln : l n = -1
 vn : v n = -1
 loc : ∀ j, j < n → Loc (mkC 0 n op arg) l v j
 jm : ∀ j, j < n → (op j = 14 ∨ op j = 15) → l (arg j).toNat = l j ∧ v (arg j).toNat = v j
section
variable {n : Nat} {op arg : Nat → Int} {l v : Nat → Int}
theorem Lvs.loop (hv : Lvs n op arg l v) : ∀ (m i : Nat), i < m → i ≤ n → l i ≠ -1 → ∃ r : Nat, l i = r ∧ r < i ∧ r < n ∧ op r = 16 := by
 intro m
 induction m with
 | zero => intro i h; omega
 | succ m ih =>
  intro i him hin hl
  cases i with
  | zero => exact absurd hv.l0 hl
  | succ i =>
   have lc := hv.loc i (by omega)
   have same : l (i + 1) = l i → ∃ r : Nat, l (i + 1) = r ∧ r < i + 1 ∧ r < n ∧ op r = 16 := fun e => by
    rw [e] at hl ⊢
    obtain ⟨r, h1, h2, h3, h4⟩ := ih i (by omega) (by omega) hl
    exact ⟨r, h1, by omega, h3, h4⟩
   by_cases h16 : op i = 16
   ·exact ⟨i, (lc.c16 h16).1, by omega, by omega, h16⟩
   by_cases h19 : op i = 19
   ·exact same (lc.c19 h19).1
   by_cases h17 : op i = 17
   ·obtain ⟨g1, g2, g3, g4⟩ := lc.c17 h17
    have := lc.lt
    obtain ⟨r, h1, h2, h3, h4⟩ := ih (l i).toNat (by omega) (by omega) (by rw [← g3]; exact hl)
    exact ⟨r, by rw [g3, h1], by omega, h3, h4⟩
   by_cases h20 : op i = 20
   ·exact same (lc.c20 h20).2.2.1
   exact same (lc.oth h16 h19 h17 h20).1
inductive ActL (l : Nat → Int) : Nat → Nat → Prop
 | here {i r : Nat} : l i = r → ActL l i r
 | up {i k r : Nat} : l i = k → ActL l k r → ActL l i r
theorem Lvs.lt (hv : Lvs n op arg l v) {i : Nat} (hi : i ≤ n) : -1 ≤ l i ∧ l i < i := by
 by_cases h : i < n
 ·exact (hv.loc i h).lt
 ·have : i = n := by omega
  rw [this, hv.ln]; omega
theorem ActL.lt (hv : Lvs n op arg l v) {i r : Nat} (h : ActL l i r) : i ≤ n → (r : Int) ≤ l i ∧ r < i := by
 induction h with
 | here h => intro hi; have := hv.lt hi; omega
 | up h g ih =>
  intro hi
  have := hv.lt hi
  have := ih (by omega)
  omega
end
open Go.Proofs.Cv (Rg Rg.pl regR VR)
theorem lp_step3 {α γ : Type} {st : α → Option (α ⊕ γ)} {q : Nat} {y : α} {P : γ → Prop} (h : ∀ Q : α → Prop, (∀ y', Runs (lpG st q y') P → Q y') → Runs (st y) (Sum.elim Q P)) : Runs (lpG st (q + 1) y) P := by
 refine lp_step ((h (fun y' => Runs (lpG st q y') P) fun _ g => g).mono fun z hz => ?_)
 cases z <;> exact hz
theorem regR_vars (op ar : Nat → Int) (n n' : Nat) (vs vs' : Int) : ∀ (r i : Nat) (q : Rg), regR ⟨op, ar, n, vs⟩ r i q = regR ⟨op, ar, n', vs'⟩ r i q
 | 0, i, q => rfl
 | r + 1, i, q => by simp only [regR, regR_vars op ar n n' vs vs' r]
structure Ok (n : Nat) (op ar l v : Nat → Int) : Prop where
 lv : Lvs n op ar l v
 n1 : 1 ≤ n
 n3 : n ≤ 300
 jmp : ∀ p, p < n → (op p = 14 ∨ op p = 15) → (p : Int) + 1 ≤ ar p ∧ ar p ≤ (n : Int) - 1
 rep : ∀ r, r < n → op r = 16 → 1 ≤ ar r ∧ ar r ≤ 100
theorem ok_of {n : Nat} {op ar : Nat → Int} {ps vs : Int} (h : verV ps (mkC vs n op ar) = 0) : ∃ (q : Rg) (v : Nat → Int), regR (mkC 0 n op ar) n 0 rg0 = some q ∧ Ok n op ar (lvL n q.pl) v := by
 have h1 : ¬ ((mkC vs n op ar).n > 300 ∨ (mkC vs n op ar).vars > 12) := fun g => by rw [verV_2 g] at h; cases h
 have h2 : ¬ (ps < 0 ∨ ps > (mkC vs n op ar).vars ∨ (mkC vs n op ar).n = 0 ∨ ¬ VP (mkC vs n op ar)) := fun g => by rw [verV_13 h1 g] at h; cases h
 have hvp : VP (mkC vs n op ar) := Classical.byContradiction fun g => h2 (.inr (.inr (.inr g)))
 have hn0 : n ≠ 0 := fun g => h2 (.inr (.inr (.inl g)))
 have hn3 : ¬ n > 300 := fun g => h1 (.inl g)
 have hvr := (Cv.VP_VR _).1 hvp
 have hok : ∀ i, i < (mkC vs n op ar).n → Cv.okOp ((mkC vs n op ar).op i) := fun i hi => Cv.opnd_ok (hvr.1 i hi).2
 obtain ⟨q', p2, ⟨p3, p4⟩, p5⟩ := hvp.2.1
 have e : plcP (mkC vs n op ar) n 0 ⟨zero, zero, -1, -1⟩ = (regR (mkC vs n op ar) n 0 rg0).map Rg.pl := Cv.plc_reg (mkC vs n op ar) hok n 0 rg0 (Nat.zero_add n) Cv.Stk0
 have p2' : plcP (mkC vs n op ar) n 0 ⟨zero, zero, -1, -1⟩ = some q' := p2
 rw [p2'] at e
 obtain ⟨q, hq, rfl⟩ := Option.map_eq_some_iff.1 e.symm
 obtain ⟨k1, k2, k3, k4⟩ := plc_loc (mkC vs n op ar) n n 0 _ q.pl (by omega) ⟨Int.le_refl _, by decide⟩ (fun j hj => by omega) p2'
 have hj : ∀ p, p < n → (op p = 14 ∨ op p = 15) → (p : Int) + 1 ≤ ar p ∧ ar p ≤ (n : Int) - 1 := fun p hp ho => Cv.rng_jump (c := mkC vs n op ar) ho (hvp.1 p hp).1
 refine ⟨q, lvW n q.pl, (regR_vars op ar n n 0 vs n 0 rg0).trans hq, ⟨k2, k3, ?_, ?_, fun j hj => ?_, fun j hjn ho => ?_⟩, by omega, by omega, hj, fun r hr h16 => ?_⟩
 ·unfold lvL; rw [if_neg (by omega)]; exact p3
 ·unfold lvW; rw [if_neg (by omega)]; exact p4
 ·have g := k4 j (Nat.zero_le _) hj
  exact ⟨g.lt, g.pure, g.c16, g.c19, g.c17, g.c20, g.oth⟩
 ·have := p5 j hjn ho
  have hr := hj j hjn ho
  unfold lvL lvW
  rw [if_pos (by omega), if_pos (by omega), if_pos (by omega), if_pos (by omega)]
  exact this
 ·have hg := (hvp.1 r hr).1
  unfold Cv.rng Cv.rngL Cv.rngH at hg
  have h16' : (mkC vs n op ar).op r = 16 := h16
  rw [h16'] at hg
  have hg' : 1 ≤ ar r ∧ ar r ≤ 100 := by simpa [mkC] using hg
  exact hg'
end Go.Proofs.YthkioinnobiieaaGreatDoor
/- Plain: the depths of valid code. -/
namespace Go.Proofs.Cv
set_option linter.unusedSimpArgs false
set_option linter.unusedVariables false
structure Dep (c : Cd) (D : Nat → Int) : Prop where
 d0 : D 0 = 0
 pos : ∀ i, i < c.n → 0 ≤ D i ∧ D i ≤ 16
 ok : ∀ i, i < c.n → leftB (c.op i) (D i)
 next : ∀ i, i < c.n → c.op i ≠ 14 → i + 1 < c.n → D (i + 1) = leftV (c.op i) (D i)
 jm : ∀ i, i < c.n → jmp (c.op i) → D (c.arg i).toNat = leftV (c.op i) (D i)
theorem dep_go (c : Cd) (hok : ∀ i, i < c.n → okOp (c.op i)) (harg : ∀ i, i < c.n → jmp (c.op i) → (i : Int) + 1 ≤ c.arg i ∧ c.arg i ≤ (c.n : Int) - 1) : ∀ (r i : Nat) (dp : Nat → Int), i + r = c.n → Dv dp → depR c r i dp →
 ∃ D : Nat → Int, (∀ t, dp t ≠ -1 → D t = dp t) ∧ Dv D ∧ ∀ j, i ≤ j → j < c.n → 0 ≤ D j ∧ leftB (c.op j) (D j) ∧ (c.op j ≠ 14 → j + 1 < c.n → D (j + 1) = leftV (c.op j) (D j)) ∧ (jmp (c.op j) → D (c.arg j).toNat = leftV (c.op j) (D j)) := by
 intro r
 induction r with
 | zero => intro i dp hi hv _; exact ⟨dp, fun _ _ => rfl, hv, fun j h1 h2 => by omega⟩
 | succ r ih =>
  intro i dp hi hv h
  rw [depR] at h
  obtain ⟨⟨h0, hl⟩, h1, h2, h3⟩ := h
  have ho := hok i (by omega)
  have h16 : dp i ≤ 16 := by have := hv i; omega
  obtain ⟨_, v2, v3⟩ := eff_val ho h0 h16 hl
  generalize hd : leftV (c.op i) (dp i) = d at *
  generalize hA : (if c.op i ≠ 14 ∧ i + 1 < c.n then upd dp (i + 1) d else dp) = dA at *
  have hvA : Dv dA := by
   subst hA; split
   ·exact hv.upd v2 v3
   ·exact hv
  have eA : ∀ t, dp t ≠ -1 → dA t = dp t := by
   intro t ht
   subst hA
   split
   ·rename_i hc
    by_cases e : t = i + 1
    ·subst e
     rw [upd_same]
     have := h1 hc
     unfold bad at this
     have := hv (i + 1)
     omega
    ·rw [upd_ne e]
   ·rfl
  have eN : (c.op i ≠ 14 ∧ i + 1 < c.n) → dA (i + 1) = d := fun hc => by
   subst hA; rw [if_pos hc, upd_same]
  generalize hB : (if jmp (c.op i) then upd dA (c.arg i).toNat d else dA) = dB at *
  have hvB : Dv dB := by
   subst hB; split
   ·exact hvA.upd v2 v3
   ·exact hvA
  have eB : ∀ t, dA t ≠ -1 → dB t = dA t := by
   intro t ht
   subst hB
   split
   ·rename_i hc
    by_cases e : t = (c.arg i).toNat
    ·subst e
     rw [upd_same]
     have := h2 hc
     unfold bad at this
     have := hvA (c.arg i).toNat
     omega
    ·rw [upd_ne e]
   ·rfl
  have eJ : jmp (c.op i) → dB (c.arg i).toNat = d := fun hc => by
   subst hB; rw [if_pos hc, upd_same]
  obtain ⟨D, g1, g2, g3⟩ := ih (i + 1) dB (by omega) hvB h3
  have e0 : ∀ t, dp t ≠ -1 → D t = dp t := fun t ht => by
   have a := eA t ht
   have b := eB t (by omega)
   have c := g1 t (by omega)
   omega
  refine ⟨D, e0, g2, fun j j1 j2 => ?_⟩
  by_cases hj : j = i
  ·subst hj
   have ei := e0 j (by omega)
   rw [ei, hd]
   refine ⟨h0, hl, fun n14 hn => ?_, fun hjm => ?_⟩
   ·have a := eN ⟨n14, hn⟩
    have b := eB (j + 1) (by omega)
    have c := g1 (j + 1) (by omega)
    omega
   ·have a := eJ hjm
    have c := g1 (c.arg j).toNat (by omega)
    omega
  ·exact g3 j (by omega) j2
theorem dep_of {c : Cd} (h : VP c) (hn : 0 < c.n) : ∃ D, Dep c D := by
 have hvr := (VP_VR c).1 h
 have hok : ∀ i, i < c.n → okOp (c.op i) := fun i hi => opnd_ok (hvr.1 i hi).2
 have harg : ∀ i, i < c.n → jmp (c.op i) → (i : Int) + 1 ≤ c.arg i ∧ c.arg i ≤ (c.n : Int) - 1 := fun i hi hj => rng_jump hj (h.1 i hi).1
 obtain ⟨D, g1, g2, g3⟩ := dep_go c hok harg c.n 0 dp0 (by omega) Dv0 hvr.2.2
 refine ⟨D, ?_, fun i hi => ⟨(g3 i (by omega) hi).1, by have := g2 i; have := (g3 i (by omega) hi).1; omega⟩, fun i hi => (g3 i (by omega) hi).2.1, fun i hi => (g3 i (by omega) hi).2.2.1, fun i hi => (g3 i (by omega) hi).2.2.2⟩
 have := g1 0 (by unfold dp0; simp)
 rw [this]; rfl
end Go.Proofs.Cv
/- Plain: the machine; valid code keeps it in order. -/
namespace Go.Proofs.YthkioinnobiieaaGreatDoor
open Go Go.Am Go.Proofs
set_option linter.unusedSimpArgs false
set_option linter.unusedVariables false
set_option maxRecDepth 100000
open Go.Proofs.Cv (Cd rng rngL rngH stopOk jmp leftV leftB Dep pureP)
def big (n : Int) : Prop := n < -2147483647 ∨ 2147483647 < n
instance (n : Int) : Decidable (big n) := by unfold big; infer_instance
def small1 (n : Int) : Prop := -2147483647 ≤ n ∧ n ≤ 2147483647
structure Ma where
 pc : Int
 sleep : Int
 use : Int
 til : Int
 vars : Nat → Int
 stk : List Int
 lps : List (Int × Int)
 st : Int
 cd : Int
 acts : List (Int × Int × Int)
def Ma.fin (m : Ma) (s k : Int) : Ma := ⟨m.pc, 0, -1, -1, m.vars, [], [], s, k, m.acts⟩
def Ma.push (m : Ma) (v : Int) : Ma × Bool := if big v then (m.fin 2 1002, true) else ({ m with stk := v :: m.stk, pc := m.pc + 1 }, false)
def Ma.emit (m : Ma) (k a b : Int) : Ma := { m with acts := m.acts ++ [(k, a, b)] }
def Ma.go (m : Ma) (p : Int) : Ma × Bool := ({ m with pc := p }, false)
def dv (y x : Int) : Int := if Int.tmod y x ≠ 0 ∧ decide (y < 0) ≠ decide (x < 0) then Int.tdiv y x - 1 else Int.tdiv y x
def tr (p : Prop) [Decidable p] : Int := if p then 1 else 0
def bin (o y x : Int) : Int := if o = 5 then y + x else if o = 6 then y - x else if o = 7 then y * x else if o = 8 then dv y x else if o = 10 then tr (y < x) else if o = 11 then tr (y ≤ x) else tr (y = x)
def isBin (o : Int) : Prop := (5 ≤ o ∧ o ≤ 8) ∨ (10 ≤ o ∧ o ≤ 12)
instance (o : Int) : Decidable (isBin o) := by unfold isBin; infer_instance
def exec (o a : Int) (tlm : Nat → Int) (m : Ma) : Ma × Bool :=
 if o = 1 then m.push a
 else if o = 2 then m.push (m.vars a.toNat)
 else if o = 3 then (match m.stk with | x :: r => ({ m with vars := Cv.upd m.vars a.toNat x, stk := r, pc := m.pc + 1 }, false) | _ => (m, true))
 else if o = 4 then m.push (tlm a.toNat)
 else if isBin o then (match m.stk with | x :: y :: r => if o = 8 ∧ x = 0 then (m.fin 2 1002, true) else { m with stk := r }.push (bin o y x) | _ => (m, true))
 else if o = 9 then (match m.stk with | x :: r => { m with stk := r }.push (-x) | _ => (m, true))
 else if o = 13 then (match m.stk with | x :: r => { m with stk := r }.push (tr (x = 0)) | _ => (m, true))
 else if o = 14 then m.go a
 else if o = 15 then (match m.stk with | x :: r => { m with stk := r }.go (if x = 0 then a else m.pc + 1) | _ => (m, true))
 else if o = 16 then ({ m with lps := (m.pc + 1, a) :: m.lps, pc := m.pc + 1 }, false)
 else if o = 17 then (match m.lps with | (p, k) :: r => if 0 < k - 1 then ({ m with lps := (p, k - 1) :: r, pc := p }, false) else ({ m with lps := r, pc := m.pc + 1 }, false) | _ => (m, true))
 else if o = 18 then (if 0 < a then ({ m with pc := m.pc + 1, sleep := a - 1 }, true) else m.go (m.pc + 1))
 else if o = 19 then ({ m with til := a, pc := m.pc + 1 }, false)
 else if o = 20 then (match m.stk with | x :: r => if x ≠ 0 then ({ m with stk := r, til := -1, pc := m.pc + 1 }, false) else if m.til = 0 then (m.fin 2 1001, true) else ({ m with stk := r, til := m.til - 1, pc := a }, true) | _ => (m, true))
 else if o = 21 then (match m.stk with | x :: r => if x = 0 then (m.fin 2 1000, true) else { m with stk := r }.go (m.pc + 1) | _ => (m, true))
 else if o = 22 then (match m.stk with | x :: r => ({ (m.emit 1 x 0) with stk := r, pc := m.pc + 1 }, true) | _ => (m, true))
 else if o = 23 then (if 0 < Int.tmod a 1000000 then ({ (m.emit 2 (Int.tdiv a 1000000) 0) with pc := m.pc + 1, sleep := Int.tmod a 1000000 - 1, use := if 0 < Int.tmod a 1000000 - 1 then Int.tdiv a 1000000 else m.use }, true) else m.go (m.pc + 1))
 else if o = 24 then (m.emit 3 (Int.tdiv a 8) (Int.tmod a 8)).go (m.pc + 1)
 else if o = 25 then (m.emit 4 a 0).go (m.pc + 1)
 else if o = 26 then (m.emit 5 a 0).go (m.pc + 1)
 else if o = 27 then (m.fin 2 a, true)
 else (m.fin 1 0, true)
def Chain (l : Nat → Int) : Int → List (Int × Int) → Prop
 | t, [] => t = -1
 | t, (a, k) :: r => a = t + 1 ∧ 0 ≤ t ∧ 1 ≤ k ∧ k ≤ 100 ∧ Chain l (l t.toNat) r
structure Vd (n : Nat) (vs : Int) (op ar D l v : Nat → Int) : Prop where
 ok : Ok n op ar l v
 dep : Dep (mkC vs n op ar) D
 rg : ∀ i, i < n → rng (mkC vs n op ar) i
 stop : ∀ i, i < n → (op i = 28 ↔ i + 1 = n)
 oo : ∀ i, i < n → 1 ≤ op i ∧ op i ≤ 28
 vs : 0 ≤ vs ∧ vs ≤ 12
section
variable {n : Nat} {vs : Int} {op ar D l v : Nat → Int} (hv : Vd n vs op ar D l v)
include hv in
theorem Vd.nw {i : Nat} (hi : i < n) (h : op i = 16 ∨ op i = 17 ∨ op i = 19) : v i = -1 := by
 have lc := hv.ok.lv.loc i hi
 apply Classical.byContradiction
 intro hn
 rcases lc.pure hn with h1 | h1
 ·have h1 : op i = 20 := h1
  omega
 ·have h1 : pureP (op i) = true := h1
  unfold pureP at h1
  simp at h1
  omega
include hv in
theorem Vd.wait : ∀ (i : Nat), i ≤ n → v i ≠ -1 → ∃ r : Nat, v i = r ∧ r < i ∧ r < n ∧ op r = 19 ∧ l r = l i := by
 intro i
 induction i with
 | zero => intro _ h; exact absurd hv.ok.lv.v0 h
 | succ i ih =>
  intro hi h
  have lc := hv.ok.lv.loc i (by omega)
  have same : v (i + 1) = v i → l (i + 1) = l i → ∃ r : Nat, v (i + 1) = r ∧ r < i + 1 ∧ r < n ∧ op r = 19 ∧ l r = l (i + 1) := fun e e2 => by
   rw [e] at h ⊢
   obtain ⟨r, h1, h2, h3, h4, h5⟩ := ih (by omega) h
   exact ⟨r, h1, by omega, h3, h4, by rw [h5, e2]⟩
  by_cases h16 : op i = 16
  ·have := (lc.c16 h16).2
   have := hv.nw (by omega) (.inl h16)
   omega
  by_cases h19 : op i = 19
  ·exact ⟨i, (lc.c19 h19).2, by omega, by omega, h19, (lc.c19 h19).1.symm⟩
  by_cases h17 : op i = 17
  ·obtain ⟨g1, g2, g3, g4⟩ := lc.c17 h17
   obtain ⟨r, r1, r2, r3, r4⟩ := hv.ok.lv.loop (i + 1) i (by omega) (by omega) g1
   rw [g4, r1, Int.toNat_natCast] at h
   exact absurd (hv.nw r3 (.inl r4)) h
  by_cases h20 : op i = 20
  ·exact absurd (lc.c20 h20).2.2.2 h
  exact same (lc.oth h16 h19 h17 h20).2 (lc.oth h16 h19 h17 h20).1
structure At (n : Nat) (vs : Int) (D l v : Nat → Int) (i : Nat) (m : Ma) : Prop where
 pc : m.pc = i
 lt : i < n
 stk : (m.stk.length : Int) = D i
 lps : Chain l (l i) m.lps
 til : v i ≠ -1 → 0 ≤ m.til
 til0 : -1 ≤ m.til ∧ m.til ≤ 1000000
 st : m.st = 0
 cd : m.cd = 0
 sleep : m.sleep = 0
 use : m.use = -1
 vars : ∀ j : Nat, (j : Int) < vs → small1 (m.vars j)
 nums : ∀ x ∈ m.stk, small1 x
structure Rn (n : Nat) (vs : Int) (D l v : Nat → Int) (i : Nat) (m : Ma) : Prop where
 pc : m.pc = i
 lt : i < n
 stk : m.stk = []
 vars : ∀ j : Nat, (j : Int) < vs → small1 (m.vars j)
 sleep : 0 ≤ m.sleep ∧ m.sleep ≤ 1000000
 use : -1 ≤ m.use ∧ m.use < 8
 til : -1 ≤ m.til ∧ m.til ≤ 1000000
 act : m.st = 0 → m.cd = 0 ∧ Chain l (l i) m.lps ∧ (v i ≠ -1 → 0 ≤ m.til) ∧ (m.sleep = 0 → m.use = -1) ∧ D i = 0
 fin : m.st ≠ 0 → m.lps = [] ∧ m.sleep = 0 ∧ m.use = -1 ∧ m.til = -1
def Out (n : Nat) (vs : Int) (D l v : Nat → Int) (r : Ma × Bool) : Prop := (r.2 = false ∧ ∃ j, At n vs D l v j r.1) ∨ (r.2 = true ∧ ∃ j, Rn n vs D l v j r.1)
theorem Out.fin {i : Nat} {m : Ma} (hp : m.pc = i) (hi : i < n) (hva : ∀ j : Nat, (j : Int) < vs → small1 (m.vars j)) {s k : Int} (hs : s ≠ 0) : Out n vs D l v (m.fin s k, true) :=
 .inr ⟨rfl, i, ⟨hp, hi, rfl, hva, ⟨Int.le_refl 0, (by decide : (0 : Int) ≤ 1000000)⟩, ⟨Int.le_refl _, (by decide : (-1 : Int) < 8)⟩, ⟨Int.le_refl _, (by decide : (-1 : Int) ≤ 1000000)⟩, fun h => absurd h hs, fun _ => ⟨rfl, rfl, rfl, rfl⟩⟩⟩
theorem Out.push {i : Nat} {m : Ma} {x : Int} (hp : m.pc = i) (hi : i + 1 < n) (hs : ((m.stk.length + 1 : Nat) : Int) = D (i + 1)) (hc : Chain l (l (i + 1)) m.lps) (ht : v (i + 1) ≠ -1 → 0 ≤ m.til) (ht0 : -1 ≤ m.til ∧ m.til ≤ 1000000) (h1 : m.st = 0) (h2 : m.cd = 0) (h3 : m.sleep = 0) (h4 : m.use = -1) (hva : ∀ j : Nat, (j : Int) < vs → small1 (m.vars j)) (hn : ∀ y ∈ m.stk, small1 y) : Out n vs D l v (m.push x) := by
 unfold Ma.push
 by_cases hb : big x
 ·rw [if_pos hb]; exact Out.fin hp (by omega) hva (by decide)
 ·rw [if_neg hb]
  refine .inl ⟨rfl, i + 1, ⟨?_, hi, ?_, hc, ht, ht0, h1, h2, h3, h4, hva, ?_⟩⟩
  ·show m.pc + 1 = _; omega
  ·simpa using hs
  ·intro y hy
   rcases List.mem_cons.1 hy with rfl | hy
   ·unfold big at hb; unfold small1; omega
   ·exact hn y hy
theorem one_of {l : List Int} (h : (1 : Int) ≤ l.length) : ∃ x r, l = x :: r := by
 cases l with
 | nil => simp at h
 | cons x r => exact ⟨x, r, rfl⟩
include hv in
theorem exec_ok {i : Nat} {m : Ma} (h : At n vs D l v i m) (tlm : Nat → Int) : Out n vs D l v (exec (op i) (ar i) tlm m) := by
 have hi := h.lt
 have lc := hv.ok.lv.loc i hi
 have hb := hv.dep.ok i hi
 have hr := hv.rg i hi
 have ho := hv.oo i hi
 have hst := hv.stop i hi
 have hdn : op i ≠ 14 → op i ≠ 28 → i + 1 < n ∧ D (i + 1) = leftV (op i) (D i) := fun h14 h28 => by
  have : i + 1 < n := by omega
  exact ⟨this, hv.dep.next i hi h14 this⟩
 have hdj : (op i = 14 ∨ op i = 15) → (i : Int) + 1 ≤ ar i ∧ ar i ≤ (n : Int) - 1 ∧ D (ar i).toNat = leftV (op i) (D i) ∧ l (ar i).toNat = l i ∧ v (ar i).toNat = v i := fun hj => by
  have a := hv.ok.jmp i hi hj
  have b := hv.ok.lv.jm i hi hj
  exact ⟨a.1, a.2, hv.dep.jm i hi hj, b.1, b.2⟩
 have hot : op i ≠ 16 → op i ≠ 19 → op i ≠ 17 → op i ≠ 20 → l (i + 1) = l i ∧ v (i + 1) = v i := lc.oth
 have hb : leftB (op i) (D i) := hb
 have hr : rngL (op i) i ≤ ar i ∧ ar i ≤ rngH (op i) i n vs := hr
 have hD := h.stk
 obtain ⟨pc, sleep, use, til, vars, stk, lps, st, cd, acts⟩ := m
 obtain ⟨e1, _, _, hc, ht, ht0, e2, e3, e4, e5, hva, hn⟩ := h
 simp only at e1 hc ht ht0 e2 e3 e4 e5 hva hn hD
 subst e1 e2 e3 e4 e5
 have c16 := lc.c16
 have c17 := lc.c17
 have c19 := lc.c19
 have c20 := lc.c20
 have hnw := fun g => hv.nw hi g
 have hwt := hv.wait i (Nat.le_of_lt hi)
 have ho' : op i = 1 ∨ op i = 2 ∨ op i = 3 ∨ op i = 4 ∨ isBin (op i) ∨ op i = 9 ∨ op i = 13 ∨ op i = 14 ∨ op i = 15 ∨ op i = 16 ∨ op i = 17 ∨ op i = 18 ∨ op i = 19 ∨ op i = 20 ∨ op i = 21 ∨ op i = 22 ∨ op i = 23 ∨ op i = 24 ∨ op i = 25 ∨ op i = 26 ∨ op i = 27 ∨ op i = 28 := by unfold isBin; omega
 have mk16 : (mkC 0 n op ar).op i = op i := rfl
 have mka : (mkC 0 n op ar).arg i = ar i := rfl
 rw [mk16] at c16 c17 c19 c20
 rw [mka] at c17 c20
 -- what goes on with the next instruction
 have plain : op i ≠ 14 → op i ≠ 28 → op i ≠ 16 → op i ≠ 19 → op i ≠ 17 → op i ≠ 20 → ∀ (stk' : List Int) (vars' : Nat → Int) (ac : List (Int × Int × Int)), ((stk'.length : Nat) : Int) = leftV (op i) (D i) → (∀ y ∈ stk', small1 y) → (∀ j : Nat, (j : Int) < vs → small1 (vars' j)) → Out n vs D l v (⟨(i : Int) + 1, 0, -1, til, vars', stk', lps, 0, 0, ac⟩, false) := by
  intro h14 h28 h16 h19 h17 h20 stk' vars' ac g1 g2 g3
  obtain ⟨a1, a2⟩ := hdn h14 h28
  obtain ⟨b1, b2⟩ := hot h16 h19 h17 h20
  exact .inl ⟨rfl, i + 1, ⟨by show (i : Int) + 1 = _; omega, a1, by rw [a2]; exact g1, by rw [b1]; exact hc, by rw [b2]; exact ht, ht0, rfl, rfl, rfl, rfl, g3, g2⟩⟩
 have pushes : op i ≠ 14 → op i ≠ 28 → op i ≠ 16 → op i ≠ 19 → op i ≠ 17 → op i ≠ 20 → ∀ (stk' : List Int) (x : Int), ((stk'.length + 1 : Nat) : Int) = leftV (op i) (D i) → (∀ y ∈ stk', small1 y) → Out n vs D l v (Ma.push ⟨(i : Int), 0, -1, til, vars, stk', lps, 0, 0, acts⟩ x) := by
  intro h14 h28 h16 h19 h17 h20 stk' x g1 g2
  obtain ⟨a1, a2⟩ := hdn h14 h28
  obtain ⟨b1, b2⟩ := hot h16 h19 h17 h20
  exact Out.push rfl a1 (by rw [a2]; exact g1) (by rw [b1]; exact hc) (by rw [b2]; exact ht) ht0 rfl rfl rfl rfl hva g2
 have rest : op i ≠ 14 → op i ≠ 28 → op i ≠ 16 → op i ≠ 19 → op i ≠ 17 → op i ≠ 20 → ∀ (sl us : Int) (ac : List (Int × Int × Int)), (0 ≤ sl ∧ sl ≤ 1000000) → (-1 ≤ us ∧ us < 8) → (sl = 0 → us = -1) → leftV (op i) (D i) = 0 → Out n vs D l v (⟨(i : Int) + 1, sl, us, til, vars, [], lps, 0, 0, ac⟩, true) := by
  intro h14 h28 h16 h19 h17 h20 sl us ac g1 g2 g3 g4
  obtain ⟨a1, a2⟩ := hdn h14 h28
  obtain ⟨b1, b2⟩ := hot h16 h19 h17 h20
  exact .inr ⟨rfl, i + 1, ⟨by show (i : Int) + 1 = _; omega, a1, rfl, hva, g1, g2, ht0, fun _ => ⟨rfl, by rw [b1]; exact hc, by rw [b2]; exact ht, g3, by rw [a2]; exact g4⟩, fun hh => absurd rfl hh⟩⟩
 generalize eo : op i = o at *
 unfold exec
 rcases ho' with rfl | rfl | rfl | rfl | hbn | rfl | rfl | rfl | rfl | rfl | rfl | rfl | rfl | rfl | rfl | rfl | rfl | rfl | rfl | rfl | rfl | rfl
 ·-- 1
  simp only [if_true]
  refine pushes (by decide) (by decide) (by decide) (by decide) (by decide) (by decide) stk _ ?_ hn
  simp [leftV]; omega
 ·-- 2
  simp only [if_true, if_neg (show ¬ (2 : Int) = 1 by decide)]
  refine pushes (by decide) (by decide) (by decide) (by decide) (by decide) (by decide) stk _ ?_ hn
  simp [leftV]; omega
 ·-- 3
  simp only [if_true, if_neg (show ¬ (3 : Int) = 1 by decide), if_neg (show ¬ (3 : Int) = 2 by decide)]
  have hd1 : D i = 1 := by simpa [leftB] using hb
  obtain ⟨x, r, rfl⟩ := one_of (l := stk) (by omega)
  have hr0 : r = [] := by cases r with
   | nil => rfl
   | cons a b => simp at hD; omega
  subst hr0
  simp only
  refine plain (by decide) (by decide) (by decide) (by decide) (by decide) (by decide) [] _ acts (by simp [leftV]) (fun y hy => by cases hy) fun j hj => ?_
  unfold Cv.upd
  split
  ·exact hn x (List.mem_cons_self)
  ·exact hva j hj
 ·-- 4
  simp only [if_true, if_neg (show ¬ (4 : Int) = 1 by decide), if_neg (show ¬ (4 : Int) = 2 by decide), if_neg (show ¬ (4 : Int) = 3 by decide)]
  refine pushes (by decide) (by decide) (by decide) (by decide) (by decide) (by decide) stk _ ?_ hn
  simp [leftV]; omega
 ·-- two numbers
  have hbn' := hbn
  unfold isBin at hbn'
  rw [if_neg (by omega), if_neg (by omega), if_neg (by omega), if_neg (by omega), if_pos hbn]
  have hd2 : 2 ≤ D i := by
   have : leftB o (D i) := hb
   unfold leftB at this
   rw [if_neg (by omega), if_pos hbn'] at this
   exact this
  have hlv : leftV o (D i) = D i - 1 := by unfold leftV; rw [if_neg (by omega), if_pos hbn']
  obtain ⟨x, r, rfl⟩ := one_of (l := stk) (by omega)
  obtain ⟨y, r, rfl⟩ := one_of (l := r) (by simp at hD; omega)
  simp only
  by_cases h8 : o = 8 ∧ x = 0
  ·rw [if_pos h8]; exact Out.fin rfl hi hva (by decide)
  ·rw [if_neg h8]
   refine pushes (by omega) (by omega) (by omega) (by omega) (by omega) (by omega) r _ ?_ (fun z hz => hn z (by simp [hz]))
   rw [hlv]; simp at hD ⊢; omega
 ·-- 9
  simp only [if_true, if_neg (show ¬ (9 : Int) = 1 by decide), if_neg (show ¬ (9 : Int) = 2 by decide), if_neg (show ¬ (9 : Int) = 3 by decide), if_neg (show ¬ (9 : Int) = 4 by decide), if_neg (show ¬ isBin 9 by decide)]
  have hd1 : 1 ≤ D i := by simpa [leftB] using hb
  obtain ⟨x, r, rfl⟩ := one_of (l := stk) (by omega)
  refine pushes (by decide) (by decide) (by decide) (by decide) (by decide) (by decide) r _ ?_ (fun z hz => hn z (by simp [hz]))
  simp [leftV] at hD ⊢; omega
 ·-- 13
  simp only [if_true, if_neg (show ¬ (13 : Int) = 1 by decide), if_neg (show ¬ (13 : Int) = 2 by decide), if_neg (show ¬ (13 : Int) = 3 by decide), if_neg (show ¬ (13 : Int) = 4 by decide), if_neg (show ¬ isBin 13 by decide), if_neg (show ¬ (13 : Int) = 9 by decide)]
  have hd1 : 1 ≤ D i := by simpa [leftB] using hb
  obtain ⟨x, r, rfl⟩ := one_of (l := stk) (by omega)
  refine pushes (by decide) (by decide) (by decide) (by decide) (by decide) (by decide) r _ ?_ (fun z hz => hn z (by simp [hz]))
  simp [leftV] at hD ⊢; omega
 ·-- 14
  simp only [if_true, if_neg (show ¬ (14 : Int) = 1 by decide), if_neg (show ¬ (14 : Int) = 2 by decide), if_neg (show ¬ (14 : Int) = 3 by decide), if_neg (show ¬ (14 : Int) = 4 by decide), if_neg (show ¬ isBin 14 by decide), if_neg (show ¬ (14 : Int) = 9 by decide), if_neg (show ¬ (14 : Int) = 13 by decide)]
  obtain ⟨a1, a2, a3, a4, a5⟩ := hdj (.inl rfl)
  unfold Ma.go
  refine .inl ⟨rfl, (ar i).toNat, ⟨by show ar i = _; omega, by omega, by rw [a3]; simpa [leftV] using hD, by rw [a4]; exact hc, by rw [a5]; exact ht, ht0, rfl, rfl, rfl, rfl, hva, hn⟩⟩
 ·-- 15
  simp only [if_true, if_neg (show ¬ (15 : Int) = 1 by decide), if_neg (show ¬ (15 : Int) = 2 by decide), if_neg (show ¬ (15 : Int) = 3 by decide), if_neg (show ¬ (15 : Int) = 4 by decide), if_neg (show ¬ isBin 15 by decide), if_neg (show ¬ (15 : Int) = 9 by decide), if_neg (show ¬ (15 : Int) = 13 by decide), if_neg (show ¬ (15 : Int) = 14 by decide)]
  have hd1 : 1 ≤ D i := by simpa [leftB] using hb
  obtain ⟨x, r, rfl⟩ := one_of (l := stk) (by omega)
  obtain ⟨a1, a2, a3, a4, a5⟩ := hdj (.inr rfl)
  have hlv : ((r.length : Nat) : Int) = leftV 15 (D i) := by simp [leftV] at hD ⊢; omega
  unfold Ma.go
  simp only
  by_cases hx : x = 0
  ·rw [if_pos hx]
   refine .inl ⟨rfl, (ar i).toNat, ⟨by show ar i = _; omega, by omega, by rw [a3]; exact hlv, by rw [a4]; exact hc, by rw [a5]; exact ht, ht0, rfl, rfl, rfl, rfl, hva, fun z hz => hn z (by simp [hz])⟩⟩
  ·rw [if_neg hx]
   exact plain (by decide) (by decide) (by decide) (by decide) (by decide) (by decide) r vars acts hlv (fun z hz => hn z (by simp [hz])) hva
 all_goals
  have hz : 16 ≤ op i ∧ op i ≠ 20 ∧ op i ≠ 21 ∧ op i ≠ 22 → stk = [] := fun g => by
   rw [eo] at g
   have hd0 : D i = 0 := by first | (exact absurd g (by decide)) | (simpa [leftB] using hb)
   exact List.eq_nil_of_length_eq_zero (by omega)
 ·-- 16
  simp only [if_true, if_neg (show ¬ (16 : Int) = 1 by decide), if_neg (show ¬ (16 : Int) = 2 by decide), if_neg (show ¬ (16 : Int) = 3 by decide), if_neg (show ¬ (16 : Int) = 4 by decide), if_neg (show ¬ isBin 16 by decide), if_neg (show ¬ (16 : Int) = 9 by decide), if_neg (show ¬ (16 : Int) = 13 by decide), if_neg (show ¬ (16 : Int) = 14 by decide), if_neg (show ¬ (16 : Int) = 15 by decide)]
  obtain rfl := hz (by omega)
  obtain ⟨a1, a2⟩ := hdn (by decide) (by decide)
  obtain ⟨b1, b2⟩ := c16 rfl
  have hk := hv.ok.rep i hi eo
  refine .inl ⟨rfl, i + 1, ⟨by show (i : Int) + 1 = _; omega, a1, by rw [a2]; simp [leftV], ?_, by rw [b2]; exact ht, ht0, rfl, rfl, rfl, rfl, hva, hn⟩⟩
  rw [b1]
  exact ⟨rfl, by omega, hk.1, hk.2, by rw [Int.toNat_natCast]; exact hc⟩
 ·-- 17
  simp only [if_true, if_neg (show ¬ (17 : Int) = 1 by decide), if_neg (show ¬ (17 : Int) = 2 by decide), if_neg (show ¬ (17 : Int) = 3 by decide), if_neg (show ¬ (17 : Int) = 4 by decide), if_neg (show ¬ isBin 17 by decide), if_neg (show ¬ (17 : Int) = 9 by decide), if_neg (show ¬ (17 : Int) = 13 by decide), if_neg (show ¬ (17 : Int) = 14 by decide), if_neg (show ¬ (17 : Int) = 15 by decide), if_neg (show ¬ (17 : Int) = 16 by decide)]
  obtain rfl := hz (by omega)
  obtain ⟨a1, a2⟩ := hdn (by decide) (by decide)
  obtain ⟨b1, b2, b3, b4⟩ := c17 rfl
  obtain ⟨r, r1, r2, r3, r4⟩ := hv.ok.lv.loop (i + 1) i (by omega) (by omega) b1
  have hvr := hv.nw r3 (.inl r4)
  cases lps with
  | nil => exact absurd hc b1
  | cons q rl =>
   obtain ⟨p, k⟩ := q
   obtain ⟨g1, g2, g3, g4, g5⟩ := hc
   have lr := (hv.ok.lv.loc r r3).c16 r4
   simp only
   by_cases hk : 0 < k - 1
   ·rw [if_pos hk]
    have hdr : D (r + 1) = leftV (op r) (D r) := hv.dep.next r r3 (by show op r ≠ 14; omega) (by show r + 1 < n; omega)
    refine .inl ⟨rfl, r + 1, ⟨by show p = _; omega, by omega, by rw [hdr, r4]; simp [leftV], ?_, fun hh => absurd (lr.2.trans hvr) hh, ht0, rfl, rfl, rfl, rfl, hva, hn⟩⟩
    rw [lr.1]
    refine ⟨by omega, by omega, by omega, by omega, ?_⟩
    rw [r1] at g5
    exact g5
   ·rw [if_neg hk]
    refine .inl ⟨rfl, i + 1, ⟨by show (i : Int) + 1 = _; omega, a1, by rw [a2]; simp [leftV], by rw [b3]; exact g5, fun hh => ?_, ht0, rfl, rfl, rfl, rfl, hva, hn⟩⟩
    rw [b4, r1, Int.toNat_natCast] at hh
    exact absurd hvr hh
 ·-- 18
  simp only [if_true, if_neg (show ¬ (18 : Int) = 1 by decide), if_neg (show ¬ (18 : Int) = 2 by decide), if_neg (show ¬ (18 : Int) = 3 by decide), if_neg (show ¬ (18 : Int) = 4 by decide), if_neg (show ¬ isBin 18 by decide), if_neg (show ¬ (18 : Int) = 9 by decide), if_neg (show ¬ (18 : Int) = 13 by decide), if_neg (show ¬ (18 : Int) = 14 by decide), if_neg (show ¬ (18 : Int) = 15 by decide), if_neg (show ¬ (18 : Int) = 16 by decide), if_neg (show ¬ (18 : Int) = 17 by decide)]
  obtain rfl := hz (by omega)
  have hra : 0 ≤ ar i ∧ ar i ≤ 1000000 := by simpa [rngL, rngH] using hr
  by_cases ha : 0 < ar i
  ·rw [if_pos ha]
   exact rest (by decide) (by decide) (by decide) (by decide) (by decide) (by decide) _ _ _ (by omega) (by decide) (fun _ => rfl) (by simp [leftV])
  ·rw [if_neg ha]
   exact plain (by decide) (by decide) (by decide) (by decide) (by decide) (by decide) [] _ _ (by simp [leftV]) hn hva
 ·-- 19
  simp only [if_true, if_neg (show ¬ (19 : Int) = 1 by decide), if_neg (show ¬ (19 : Int) = 2 by decide), if_neg (show ¬ (19 : Int) = 3 by decide), if_neg (show ¬ (19 : Int) = 4 by decide), if_neg (show ¬ isBin 19 by decide), if_neg (show ¬ (19 : Int) = 9 by decide), if_neg (show ¬ (19 : Int) = 13 by decide), if_neg (show ¬ (19 : Int) = 14 by decide), if_neg (show ¬ (19 : Int) = 15 by decide), if_neg (show ¬ (19 : Int) = 16 by decide), if_neg (show ¬ (19 : Int) = 17 by decide), if_neg (show ¬ (19 : Int) = 18 by decide)]
  obtain rfl := hz (by omega)
  obtain ⟨a1, a2⟩ := hdn (by decide) (by decide)
  obtain ⟨b1, b2⟩ := c19 rfl
  have hra : 0 ≤ ar i ∧ ar i ≤ 1000000 := by simpa [rngL, rngH] using hr
  refine .inl ⟨rfl, i + 1, ⟨by show (i : Int) + 1 = _; omega, a1, by rw [a2]; simp [leftV], by rw [b1]; exact hc, fun _ => hra.1, by show -1 ≤ ar i ∧ ar i ≤ 1000000; omega, rfl, rfl, rfl, rfl, hva, hn⟩⟩
 ·-- 20
  simp only [if_true, if_neg (show ¬ (20 : Int) = 1 by decide), if_neg (show ¬ (20 : Int) = 2 by decide), if_neg (show ¬ (20 : Int) = 3 by decide), if_neg (show ¬ (20 : Int) = 4 by decide), if_neg (show ¬ isBin 20 by decide), if_neg (show ¬ (20 : Int) = 9 by decide), if_neg (show ¬ (20 : Int) = 13 by decide), if_neg (show ¬ (20 : Int) = 14 by decide), if_neg (show ¬ (20 : Int) = 15 by decide), if_neg (show ¬ (20 : Int) = 16 by decide), if_neg (show ¬ (20 : Int) = 17 by decide), if_neg (show ¬ (20 : Int) = 18 by decide), if_neg (show ¬ (20 : Int) = 19 by decide)]
  have hd1 : D i = 1 := by simpa [leftB] using hb
  obtain ⟨x, r, rfl⟩ := one_of (l := stk) (by omega)
  have hr0 : r = [] := by cases r with
   | nil => rfl
   | cons a b => simp at hD; omega
  subst hr0
  obtain ⟨a1, a2⟩ := hdn (by decide) (by decide)
  obtain ⟨b1, b2, b3, b4⟩ := c20 rfl
  obtain ⟨r, r1, r2, r3, r4, r5⟩ := hwt b1
  have h0 := ht b1
  simp only
  by_cases hx : x ≠ 0
  ·rw [if_pos hx]
   refine .inl ⟨rfl, i + 1, ⟨by show (i : Int) + 1 = _; omega, a1, by rw [a2]; simp [leftV], by rw [b3]; exact hc, fun hh => absurd b4 hh, ⟨Int.le_refl _, (by decide : (-1 : Int) ≤ 1000000)⟩, rfl, rfl, rfl, rfl, hva, fun y hy => by cases hy⟩⟩
  ·rw [if_neg hx]
   by_cases h0' : til = 0
   ·rw [if_pos h0']; exact Out.fin rfl hi hva (by decide)
   ·rw [if_neg h0']
    have lr := (hv.ok.lv.loc r r3).c19 r4
    refine .inr ⟨rfl, r + 1, ⟨by show ar i = _; omega, by omega, rfl, hva, ⟨Int.le_refl 0, (by decide : (0 : Int) ≤ 1000000)⟩, ⟨Int.le_refl (-1), (by decide : (-1 : Int) < 8)⟩, by show -1 ≤ til - 1 ∧ til - 1 ≤ 1000000; omega, fun _ => ⟨rfl, ?_, fun _ => by show 0 ≤ til - 1; omega, fun _ => rfl, by rw [hv.dep.next r r3 (by show op r ≠ 14; omega) (by show r + 1 < n; omega)]; show leftV (op r) (D r) = 0; rw [r4]; simp [leftV]⟩, fun hh => absurd rfl hh⟩⟩
    rw [lr.1, r5]; exact hc
 ·-- 21
  simp only [if_true, if_neg (show ¬ (21 : Int) = 1 by decide), if_neg (show ¬ (21 : Int) = 2 by decide), if_neg (show ¬ (21 : Int) = 3 by decide), if_neg (show ¬ (21 : Int) = 4 by decide), if_neg (show ¬ isBin 21 by decide), if_neg (show ¬ (21 : Int) = 9 by decide), if_neg (show ¬ (21 : Int) = 13 by decide), if_neg (show ¬ (21 : Int) = 14 by decide), if_neg (show ¬ (21 : Int) = 15 by decide), if_neg (show ¬ (21 : Int) = 16 by decide), if_neg (show ¬ (21 : Int) = 17 by decide), if_neg (show ¬ (21 : Int) = 18 by decide), if_neg (show ¬ (21 : Int) = 19 by decide), if_neg (show ¬ (21 : Int) = 20 by decide)]
  have hd1 : D i = 1 := by simpa [leftB] using hb
  obtain ⟨x, r, rfl⟩ := one_of (l := stk) (by omega)
  have hr0 : r = [] := by cases r with
   | nil => rfl
   | cons a b => simp at hD; omega
  subst hr0
  simp only
  by_cases hx : x = 0
  ·rw [if_pos hx]; exact Out.fin rfl hi hva (by decide)
  ·rw [if_neg hx]
   exact plain (by decide) (by decide) (by decide) (by decide) (by decide) (by decide) [] _ _ (by simp [leftV]) (fun y hy => by cases hy) hva
 ·-- 22
  simp only [if_true, if_neg (show ¬ (22 : Int) = 1 by decide), if_neg (show ¬ (22 : Int) = 2 by decide), if_neg (show ¬ (22 : Int) = 3 by decide), if_neg (show ¬ (22 : Int) = 4 by decide), if_neg (show ¬ isBin 22 by decide), if_neg (show ¬ (22 : Int) = 9 by decide), if_neg (show ¬ (22 : Int) = 13 by decide), if_neg (show ¬ (22 : Int) = 14 by decide), if_neg (show ¬ (22 : Int) = 15 by decide), if_neg (show ¬ (22 : Int) = 16 by decide), if_neg (show ¬ (22 : Int) = 17 by decide), if_neg (show ¬ (22 : Int) = 18 by decide), if_neg (show ¬ (22 : Int) = 19 by decide), if_neg (show ¬ (22 : Int) = 20 by decide), if_neg (show ¬ (22 : Int) = 21 by decide)]
  have hd1 : D i = 1 := by simpa [leftB] using hb
  obtain ⟨x, r, rfl⟩ := one_of (l := stk) (by omega)
  have hr0 : r = [] := by cases r with
   | nil => rfl
   | cons a b => simp at hD; omega
  subst hr0
  exact rest (by decide) (by decide) (by decide) (by decide) (by decide) (by decide) _ _ _ ⟨Int.le_refl 0, (by decide : (0 : Int) ≤ 1000000)⟩ ⟨Int.le_refl (-1), (by decide : (-1 : Int) < 8)⟩ (fun _ => rfl) (by simp [leftV])
 ·-- 23
  simp only [if_true, if_neg (show ¬ (23 : Int) = 1 by decide), if_neg (show ¬ (23 : Int) = 2 by decide), if_neg (show ¬ (23 : Int) = 3 by decide), if_neg (show ¬ (23 : Int) = 4 by decide), if_neg (show ¬ isBin 23 by decide), if_neg (show ¬ (23 : Int) = 9 by decide), if_neg (show ¬ (23 : Int) = 13 by decide), if_neg (show ¬ (23 : Int) = 14 by decide), if_neg (show ¬ (23 : Int) = 15 by decide), if_neg (show ¬ (23 : Int) = 16 by decide), if_neg (show ¬ (23 : Int) = 17 by decide), if_neg (show ¬ (23 : Int) = 18 by decide), if_neg (show ¬ (23 : Int) = 19 by decide), if_neg (show ¬ (23 : Int) = 20 by decide), if_neg (show ¬ (23 : Int) = 21 by decide), if_neg (show ¬ (23 : Int) = 22 by decide)]
  obtain rfl := hz (by omega)
  have hra : 0 ≤ ar i ∧ ar i ≤ 7999999 := by simpa [rngL, rngH] using hr
  have e1 : Int.tmod (ar i) 1000000 = ar i % 1000000 := Int.tmod_eq_emod_of_nonneg hra.1
  have e2 : Int.tdiv (ar i) 1000000 = ar i / 1000000 := Int.tdiv_eq_ediv_of_nonneg hra.1
  rw [e1, e2]
  by_cases ha : 0 < ar i % 1000000
  ·rw [if_pos ha]
   refine rest (by decide) (by decide) (by decide) (by decide) (by decide) (by decide) _ _ _ (by omega) ?_ ?_ (by simp [leftV])
   ·split <;> omega
   ·intro g; rw [if_neg (by omega)]
  ·rw [if_neg ha]
   exact plain (by decide) (by decide) (by decide) (by decide) (by decide) (by decide) [] _ _ (by simp [leftV]) hn hva
 ·-- 24
  simp only [if_true, if_neg (show ¬ (24 : Int) = 1 by decide), if_neg (show ¬ (24 : Int) = 2 by decide), if_neg (show ¬ (24 : Int) = 3 by decide), if_neg (show ¬ (24 : Int) = 4 by decide), if_neg (show ¬ isBin 24 by decide), if_neg (show ¬ (24 : Int) = 9 by decide), if_neg (show ¬ (24 : Int) = 13 by decide), if_neg (show ¬ (24 : Int) = 14 by decide), if_neg (show ¬ (24 : Int) = 15 by decide), if_neg (show ¬ (24 : Int) = 16 by decide), if_neg (show ¬ (24 : Int) = 17 by decide), if_neg (show ¬ (24 : Int) = 18 by decide), if_neg (show ¬ (24 : Int) = 19 by decide), if_neg (show ¬ (24 : Int) = 20 by decide), if_neg (show ¬ (24 : Int) = 21 by decide), if_neg (show ¬ (24 : Int) = 22 by decide), if_neg (show ¬ (24 : Int) = 23 by decide)]
  obtain rfl := hz (by omega)
  exact plain (by decide) (by decide) (by decide) (by decide) (by decide) (by decide) [] _ _ (by simp [leftV]) hn hva
 ·-- 25
  simp only [if_true, if_neg (show ¬ (25 : Int) = 1 by decide), if_neg (show ¬ (25 : Int) = 2 by decide), if_neg (show ¬ (25 : Int) = 3 by decide), if_neg (show ¬ (25 : Int) = 4 by decide), if_neg (show ¬ isBin 25 by decide), if_neg (show ¬ (25 : Int) = 9 by decide), if_neg (show ¬ (25 : Int) = 13 by decide), if_neg (show ¬ (25 : Int) = 14 by decide), if_neg (show ¬ (25 : Int) = 15 by decide), if_neg (show ¬ (25 : Int) = 16 by decide), if_neg (show ¬ (25 : Int) = 17 by decide), if_neg (show ¬ (25 : Int) = 18 by decide), if_neg (show ¬ (25 : Int) = 19 by decide), if_neg (show ¬ (25 : Int) = 20 by decide), if_neg (show ¬ (25 : Int) = 21 by decide), if_neg (show ¬ (25 : Int) = 22 by decide), if_neg (show ¬ (25 : Int) = 23 by decide), if_neg (show ¬ (25 : Int) = 24 by decide)]
  obtain rfl := hz (by omega)
  exact plain (by decide) (by decide) (by decide) (by decide) (by decide) (by decide) [] _ _ (by simp [leftV]) hn hva
 ·-- 26
  simp only [if_true, if_neg (show ¬ (26 : Int) = 1 by decide), if_neg (show ¬ (26 : Int) = 2 by decide), if_neg (show ¬ (26 : Int) = 3 by decide), if_neg (show ¬ (26 : Int) = 4 by decide), if_neg (show ¬ isBin 26 by decide), if_neg (show ¬ (26 : Int) = 9 by decide), if_neg (show ¬ (26 : Int) = 13 by decide), if_neg (show ¬ (26 : Int) = 14 by decide), if_neg (show ¬ (26 : Int) = 15 by decide), if_neg (show ¬ (26 : Int) = 16 by decide), if_neg (show ¬ (26 : Int) = 17 by decide), if_neg (show ¬ (26 : Int) = 18 by decide), if_neg (show ¬ (26 : Int) = 19 by decide), if_neg (show ¬ (26 : Int) = 20 by decide), if_neg (show ¬ (26 : Int) = 21 by decide), if_neg (show ¬ (26 : Int) = 22 by decide), if_neg (show ¬ (26 : Int) = 23 by decide), if_neg (show ¬ (26 : Int) = 24 by decide), if_neg (show ¬ (26 : Int) = 25 by decide)]
  obtain rfl := hz (by omega)
  exact plain (by decide) (by decide) (by decide) (by decide) (by decide) (by decide) [] _ _ (by simp [leftV]) hn hva
 ·-- 27
  simp only [if_true, if_neg (show ¬ (27 : Int) = 1 by decide), if_neg (show ¬ (27 : Int) = 2 by decide), if_neg (show ¬ (27 : Int) = 3 by decide), if_neg (show ¬ (27 : Int) = 4 by decide), if_neg (show ¬ isBin 27 by decide), if_neg (show ¬ (27 : Int) = 9 by decide), if_neg (show ¬ (27 : Int) = 13 by decide), if_neg (show ¬ (27 : Int) = 14 by decide), if_neg (show ¬ (27 : Int) = 15 by decide), if_neg (show ¬ (27 : Int) = 16 by decide), if_neg (show ¬ (27 : Int) = 17 by decide), if_neg (show ¬ (27 : Int) = 18 by decide), if_neg (show ¬ (27 : Int) = 19 by decide), if_neg (show ¬ (27 : Int) = 20 by decide), if_neg (show ¬ (27 : Int) = 21 by decide), if_neg (show ¬ (27 : Int) = 22 by decide), if_neg (show ¬ (27 : Int) = 23 by decide), if_neg (show ¬ (27 : Int) = 24 by decide), if_neg (show ¬ (27 : Int) = 25 by decide), if_neg (show ¬ (27 : Int) = 26 by decide)]
  exact Out.fin rfl hi hva (by decide)
 ·-- 28
  simp only [if_neg (show ¬ (28 : Int) = 1 by decide), if_neg (show ¬ (28 : Int) = 2 by decide), if_neg (show ¬ (28 : Int) = 3 by decide), if_neg (show ¬ (28 : Int) = 4 by decide), if_neg (show ¬ isBin 28 by decide), if_neg (show ¬ (28 : Int) = 9 by decide), if_neg (show ¬ (28 : Int) = 13 by decide), if_neg (show ¬ (28 : Int) = 14 by decide), if_neg (show ¬ (28 : Int) = 15 by decide), if_neg (show ¬ (28 : Int) = 16 by decide), if_neg (show ¬ (28 : Int) = 17 by decide), if_neg (show ¬ (28 : Int) = 18 by decide), if_neg (show ¬ (28 : Int) = 19 by decide), if_neg (show ¬ (28 : Int) = 20 by decide), if_neg (show ¬ (28 : Int) = 21 by decide), if_neg (show ¬ (28 : Int) = 22 by decide), if_neg (show ¬ (28 : Int) = 23 by decide), if_neg (show ¬ (28 : Int) = 24 by decide), if_neg (show ¬ (28 : Int) = 25 by decide), if_neg (show ¬ (28 : Int) = 26 by decide), if_neg (show ¬ (28 : Int) = 27 by decide)]
  exact Out.fin rfl hi hva (by decide)
end
end Go.Proofs.YthkioinnobiieaaGreatDoor
/- Start, the arguments, runs compared (plain). -/
namespace Go.Proofs.YthkioinnobiieaaGreatDoor
open Go Go.Am Go.Proofs
set_option linter.unusedSimpArgs false
set_option linter.unusedVariables false
set_option maxRecDepth 100000
theorem Runs.of {α : Type} {o : Option α} {v : α} (h : o = Option.some v) : Runs o (fun z => z = v) := ⟨v, h, rfl⟩
theorem sameInts_l0 {m : Nat} {y : Nat → Int} (hm : m ≤ 1000000) : ∀ (r q i : Nat), i + r = m → r < q → Runs (SameInts_l0 q (m, y, m, y) (i : Int)) (fun z => z = .inr ()) := by
 intro r
 induction r with
 | zero =>
  intro q i hi hq
  obtain ⟨q, rfl⟩ : ∃ k, q = k + 1 := ⟨q - 1, by omega⟩
  refine lp_step3 fun Q hQ => ?_
  unfold SameInts_l0_t
  dsimp only [SameInts_l0_a]
  exact Runs.if_neg (by simp only [decide_eq_true_eq]; omega) (Runs.some rfl)
 | succ r ih =>
  intro q i hi hq
  obtain ⟨q, rfl⟩ : ∃ k, q = k + 1 := ⟨q - 1, by omega⟩
  refine lp_step3 fun Q hQ => ?_
  unfold SameInts_l0_t
  dsimp only [SameInts_l0_a]
  refine Runs.if_pos (by simp only [decide_eq_true_eq]; omega) (Runs.if_pos (by omega) (Runs.if_pos (by omega) (Runs.if_neg (by simp) ?_)))
  rw [w_succ (by omega)]
  exact Runs.some (hQ _ (ih q (i + 1) (by omega) (by omega)))
theorem sameInts_self {m q : Nat} {y : Nat → Int} (hm : m ≤ 1000000) (hq : m < q) : Runs (SameInts q (m, y, m, y)) (fun z => z = true) := by
 unfold SameInts t_SameInts
 dsimp only
 refine Runs.if_neg (by simp) (Runs.bind (sameInts_l0 hm m q 0 (by omega) hq) fun z hz => ?_)
 subst hz
 exact Runs.some rfl
theorem same_l0 {pc sp us ti : Int} {vn : Nat} {vf : Nat → Int} {sn : Nat} {sf : Nat → Int} {ln : Nat} {la lb : Nat → Int} {stt cde : Int} {cS : a_SameInts → Option g_SameInts} (hm : ln ≤ 1000000) : ∀ (r q i : Nat), i + r = ln → r < q →
 Runs (Same_l0 cS q (pc, sp, us, ti, vn, vf, sn, sf, ln, la, lb, stt, cde, pc, sp, us, ti, vn, vf, sn, sf, ln, la, lb, stt, cde) (i : Int)) (fun z => z = .inr ()) := by
 intro r
 induction r with
 | zero =>
  intro q i hi hq
  obtain ⟨q, rfl⟩ : ∃ k, q = k + 1 := ⟨q - 1, by omega⟩
  refine lp_step3 fun Q hQ => ?_
  unfold Same_l0_t
  dsimp only [Same_l0_a]
  exact Runs.if_neg (by simp only [decide_eq_true_eq]; omega) (Runs.some rfl)
 | succ r ih =>
  intro q i hi hq
  obtain ⟨q, rfl⟩ : ∃ k, q = k + 1 := ⟨q - 1, by omega⟩
  refine lp_step3 fun Q hQ => ?_
  unfold Same_l0_t
  dsimp only [Same_l0_a]
  refine Runs.if_pos (by simp only [decide_eq_true_eq]; omega) (Runs.if_pos (by omega) (Runs.if_pos (by omega) (Runs.if_neg (by simp) ?_)))
  rw [w_succ (by omega)]
  exact Runs.some (hQ _ (ih q (i + 1) (by omega) (by omega)))
theorem same_self {pc sp us ti : Int} {vn : Nat} {vf : Nat → Int} {sn : Nat} {sf : Nat → Int} {ln : Nat} {la lb : Nat → Int} {stt cde : Int} {q : Nat} (h1 : vn < q) (h2 : sn < q) (h3 : ln < q) (hq : q ≤ 1000000) :
 Runs (Same q (pc, sp, us, ti, vn, vf, sn, sf, ln, la, lb, stt, cde, pc, sp, us, ti, vn, vf, sn, sf, ln, la, lb, stt, cde)) (fun z => z = true) := by
 unfold Same t_Same
 dsimp only
 refine Runs.if_neg (by simp) (Runs.bind (sameInts_self (by omega) h1) fun z hz => ?_)
 subst hz
 refine Runs.if_neg (by simp) (Runs.bind (sameInts_self (by omega) h2) fun z hz => ?_)
 subst hz
 refine Runs.if_neg (by simp) (Runs.bind (same_l0 (by omega) ln q 0 (by omega) h3) fun z hz => ?_)
 subst hz
 refine Runs.if_pos (by simp) (Runs.if_pos (by simp) (Runs.if_pos (by simp) (Runs.if_pos (by simp) (Runs.if_pos (by simp) (Runs.some (by simp))))))
theorem big_iff {n : Int} : big n ↔ (n < -2147483647 ∨ n > 2147483647) := by unfold big; omega
theorem index_l0 {m : Nat} {y : Nat → Int} (hm : m ≤ 1000000) : ∀ (r q i : Nat), i + r = m → r < q → Runs (IndexFunc_l0 q (m, y) (i : Int)) (fun z => ((∃ k : Int, z = .inl k ∧ 0 ≤ k) ∧ ∃ j, i ≤ j ∧ j < m ∧ big (y j)) ∨ (z = .inr () ∧ ∀ j, i ≤ j → j < m → ¬ big (y j))) := by
 intro r
 induction r with
 | zero =>
  intro q i hi hq
  obtain ⟨q, rfl⟩ : ∃ k, q = k + 1 := ⟨q - 1, by omega⟩
  refine lp_step3 fun Q hQ => ?_
  unfold IndexFunc_l0_t
  dsimp only [IndexFunc_l0_a]
  exact Runs.if_neg (by simp only [decide_eq_true_eq]; omega) (Runs.some (.inr ⟨rfl, fun j h1 h2 => by omega⟩))
 | succ r ih =>
  intro q i hi hq
  obtain ⟨q, rfl⟩ : ∃ k, q = k + 1 := ⟨q - 1, by omega⟩
  refine lp_step3 fun Q hQ => ?_
  unfold IndexFunc_l0_t
  dsimp only [IndexFunc_l0_a]
  refine Runs.if_pos (by simp only [decide_eq_true_eq]; omega) (Runs.if_pos (by omega) ?_)
  rw [Int.toNat_natCast]
  refine Runs.ite (fun g => ?_) fun g => Runs.ite (fun g2 => ?_) fun g2 => ?_
  ·exact Runs.some (.inl ⟨⟨_, rfl, by omega⟩, i, by omega, by omega, big_iff.2 (.inl (by simpa using g))⟩)
  ·exact Runs.some (.inl ⟨⟨_, rfl, by omega⟩, i, by omega, by omega, big_iff.2 (.inr (by simpa using g2))⟩)
  ·rw [w_succ (by omega)]
   refine Runs.some (hQ _ ((ih q (i + 1) (by omega) (by omega)).mono fun z hz => ?_))
   have g : ¬ y i < -2147483647 := by simpa using g
   have g2 : ¬ y i > 2147483647 := by simpa using g2
   rcases hz with ⟨h1, j, h2, h3, h4⟩ | ⟨h1, h2⟩
   ·exact .inl ⟨h1, j, by omega, h3, h4⟩
   ·refine .inr ⟨h1, fun j h3 h4 hb => ?_⟩
    by_cases hj : j = i
    ·subst hj; rw [big_iff] at hb; omega
    ·exact h2 j (by omega) h4 hb
abbrev RunT : Type := Int × Int × Int × Int × Nat × (Nat → Int) × Nat × (Nat → Int) × Nat × (Nat → Int) × (Nat → Int) × Int × Int
def r0 : Nat → Int := fun _ => 0
def runV (x : RunT) : V := (fun (pc sp us ti : Int) (vn : Nat) (vf : Nat → Int) (sn : Nat) (sf : Nat → Int) (ln : Nat) (la lb : Nat → Int) (stt cde : Int) => .agg [i64 pc, i64 sp, i64 us, i64 ti, .ro 1 vn (fun j => [i64 (vf j)]), .ro 1 sn (fun j => [i64 (sf j)]), .ro 2 ln (fun j => [i64 (la j), i64 (lb j)]), i64 stt, i64 cde]) x.1 x.2.1 x.2.2.1 x.2.2.2.1 x.2.2.2.2.1 x.2.2.2.2.2.1 x.2.2.2.2.2.2.1 x.2.2.2.2.2.2.2.1 x.2.2.2.2.2.2.2.2.1 x.2.2.2.2.2.2.2.2.2.1 x.2.2.2.2.2.2.2.2.2.2.1 x.2.2.2.2.2.2.2.2.2.2.2.1 x.2.2.2.2.2.2.2.2.2.2.2.2
open Classical in
noncomputable def stE (ps : Int) (m : Nat) (y : Nat → Int) : Int := if (m : Int) ≠ ps then 1 else if ∃ j, j < m ∧ big (y j) then 5 else 0
def stR (vs : Int) (m : Nat) (y : Nat → Int) (e : Int) : RunT := if e = 0 then (0, 0, -1, -1, vs.toNat, (fun j => if j < m then y j else 0), 0, r0, 0, r0, r0, 0, 0) else (0, 0, 0, 0, 0, r0, 0, r0, 0, r0, r0, 0, 0)
theorem le_run0 {v : V} {x : RunT} {e : Int} (h : v = .tup [.agg [i64 0, i64 0, i64 0, i64 0, nilS, nilS, nilS, i64 0, i64 0], i64 e]) (hx : x = (0, 0, 0, 0, 0, r0, 0, r0, 0, r0, r0, 0, 0)) : Le v (.tup [runV x, i64 e]) := by
 subst h hx
 exact Le.tup (LeL.cons (Le.agg (LeL.cons (Le.refl _) (LeL.cons (Le.refl _) (LeL.cons (Le.refl _) (LeL.cons (Le.refl _) (LeL.cons Le.nil_ro (LeL.cons Le.nil_ro (LeL.cons Le.nil_ro (LeL.refl _)))))))))
  (LeL.refl _))
theorem stE_cases (ps : Int) (m : Nat) (y : Nat → Int) : ((m : Int) ≠ ps ∧ stE ps m y = 1) ∨ ((m : Int) = ps ∧ (∃ j, j < m ∧ big (y j)) ∧ stE ps m y = 5) ∨ ((m : Int) = ps ∧ (∀ j, j < m → ¬ big (y j)) ∧ stE ps m y = 0) := by
 unfold stE
 by_cases h : (m : Int) = ps
 ·right
  rw [if_neg (by simpa using h)]
  by_cases hb : ∃ j, j < m ∧ big (y j)
  ·rw [if_pos hb]; exact .inl ⟨h, hb, rfl⟩
  ·rw [if_neg hb]; exact .inr ⟨h, fun j hj hbj => hb ⟨j, hj, hbj⟩, rfl⟩
 ·left; rw [if_pos h]; exact ⟨h, rfl⟩
theorem start_end {f : FuncId} {args : List V} {ps vs : Int} {m : Nat} {y : Nat → Int} {z : g_Start} {R : g_Start → CRes} (hR : R = R_Start) (hvs : 0 ≤ vs) (hz : z = if stE ps m y = 0 then .inr (Int.toNat vs, fun (j : Nat) => if 0 ≤ j ∧ j < 0 + min m (Int.toNat vs) then y (j - 0) else (0 : Int)) else .inl (stE ps m y)) (h : SC E8 f args [] (R z)) :
 SC E8 f args [] (.ret (.tup [runV (stR vs m y (stE ps m y)), i64 (stE ps m y)]) []) := by
 subst hR hz
 by_cases he : stE ps m y = 0
 ·rw [if_pos he] at h
  have g := SC.give (E := E8) (v := .tup [.agg [i64 0, i64 0, i64 (-1), i64 (-1), .sl 0 1 0 (Int.toNat vs), nilS, nilS, i64 0, i64 0], i64 0]) (L := [some (.row 3 1 (Int.toNat vs) (fun j => [i64 (if 0 ≤ j ∧ j < 0 + min m (Int.toNat vs) then y (j - 0) else (0 : Int))]))]) h (by simp [V.bw, V.bw2, V.bw1, hp, V.pure, pureL])
  refine SC.le g ?_
  simp only [he, stR, if_true]
  simp only [V.bw, V.bw2, V.bw1, hp, List.map, List.getD, Option.getD_some, List.getElem?_cons_zero, Nat.zero_add, Nat.le_refl, and_self, if_true]
  refine Le.tup (LeL.cons (Le.agg (LeL.cons (Le.refl _) (LeL.cons (Le.refl _) (LeL.cons (Le.refl _) (LeL.cons (Le.refl _) (LeL.cons (Le.ro_eq fun j hj => ⟨?_, rfl⟩) (LeL.cons Le.nil_ro (LeL.cons Le.nil_ro (LeL.refl _))))))))) (LeL.refl _))
  congr 3
  rw [eq_iff_iff]
  omega
 ·rw [if_neg he] at h
  refine SC.le h (le_run0 rfl ?_)
  simp only [stR, if_neg he]
theorem start_sc {nm : ByteArray} {ps vs : Int} {n : Nat} {op ar : Nat → Int} {m : Nat} {y : Nat → Int} (hm : m ≤ 1000) (hvs : 0 ≤ vs ∧ vs ≤ 12) : SC E8 10 [.agg [st nm, i64 ps, i64 vs, .ro 2 n (fun j => [i64 (op j), i64 (ar j)])], .ro 1 m (fun j => [i64 (y j)])] [] (.ret (.tup [runV (stR vs m y (stE ps m y)), i64 (stE ps m y)]) []) := by
 have key : Runs (Start 2000 (nm, ps, vs, n, op, ar, m, y)) (fun z => z = if stE ps m y = 0 then .inr (Int.toNat vs, fun (j : Nat) => if 0 ≤ j ∧ j < 0 + min m (Int.toNat vs) then y (j - 0) else (0 : Int)) else .inl (stE ps m y)) := by
  unfold Start t_Start
  dsimp only
  rcases stE_cases ps m y with ⟨h1, h2⟩ | ⟨h1, ⟨j, h2, h3⟩, h4⟩ | ⟨h1, h2, h3⟩
  ·exact Runs.if_pos (by simpa using h1) (Runs.some (by rw [h2]; rfl))
  ·refine Runs.if_neg (by simpa using h1) ?_
   unfold ContainsFunc t_ContainsFunc IndexFunc t_IndexFunc
   refine Runs.bind (P := fun z => z = true) (Runs.bind (P := fun z => 0 ≤ z) (Runs.bind (index_l0 (by omega) m 2000 0 (by omega) (by omega)) fun z hz => ?_) fun z hz => Runs.some (by simpa using hz)) fun z hz => ?_
   ·rcases hz with ⟨⟨k, rfl, hk⟩, _⟩ | ⟨rfl, hz⟩
    ·exact Runs.some hk
    ·exact absurd h3 (hz j (by omega) h2)
   ·subst hz; exact Runs.if_pos rfl (Runs.some (by rw [h4]; rfl))
  ·refine Runs.if_neg (by simpa using h1) ?_
   unfold ContainsFunc t_ContainsFunc IndexFunc t_IndexFunc
   refine Runs.bind (P := fun z => z = false) (Runs.bind (P := fun z => z = -1) (Runs.bind (index_l0 (by omega) m 2000 0 (by omega) (by omega)) fun z hz => ?_) fun z hz => Runs.some (by simp [hz])) fun z hz => ?_
   ·rcases hz with ⟨⟨k, rfl, hk⟩, j, _, a, b⟩ | ⟨rfl, hz⟩
    ·exact absurd b (h2 j a)
    ·exact Runs.some rfl
   ·subst hz
    refine Runs.if_neg (by simp) (Runs.if_pos ⟨rfl, hvs.1, by decide, rfl, by omega, by unfold maxLen; omega, rfl⟩ (Runs.if_pos ⟨rfl, rfl, rfl, .inl rfl, by omega⟩ (Runs.some ?_)))
    rw [h3]; rfl
 obtain ⟨z, h1, h2⟩ := key
 exact start_end rfl hvs.1 h2 (sc_Start 2000 _ _ h1)
def bnd (n : Int) : Int := if n < 0 then w (Int.tmod (w (0 - w (n + 1))) 4294967295 - 2147483647) else w (Int.tmod n 4294967295 - 2147483647)
end Go.Proofs.YthkioinnobiieaaGreatDoor
/- The law VmStarts, lifted. -/
namespace Go.Proofs.YthkioinnobiieaaGreatDoor
open Go Go.Am Go.Proofs
set_option linter.unusedSimpArgs false
set_option linter.unusedVariables false
set_option maxRecDepth 100000
def runE (r : RunT) (e : Int) : Int × Int × Int × Int × Nat × (Nat → Int) × Nat × (Nat → Int) × Nat × (Nat → Int) × (Nat → Int) × Int × Int × Int := (r.1, r.2.1, r.2.2.1, r.2.2.2.1, r.2.2.2.2.1, r.2.2.2.2.2.1, r.2.2.2.2.2.2.1, r.2.2.2.2.2.2.2.1, r.2.2.2.2.2.2.2.2.1, r.2.2.2.2.2.2.2.2.2.1, r.2.2.2.2.2.2.2.2.2.2.1, r.2.2.2.2.2.2.2.2.2.2.2.1, r.2.2.2.2.2.2.2.2.2.2.2.2, e)
abbrev a_lives : Type := Unit
abbrev g_lives : Type := Bool
def A_lives : a_lives → List V × List (Option Chunk) := (fun _ => (([] : List V), ([] : List (Option Chunk))))
def d_lives (t : List V × List (Option Chunk)) : a_lives := ()
theorem i_lives : ∀ x y, A_lives x = A_lives y → x = y := fun x y h => (congrArg d_lives h :)
def R_lives : g_lives → CRes := (fun z => (fun (b : Bool) => .ret (bo b) []) z : (Bool) → CRes)
def x_lives (z : g_lives) (k : CRes → Option Ans) : Option Ans := k (R_lives z)
theorem xe_lives : ∀ z k, x_lives z k = k (R_lives z) := fun z k => rfl
noncomputable def lives (q : Nat) (x : a_lives) : Option g_lives := some true
theorem sc_lives (q : Nat) : ∀ (x : a_lives) (z : g_lives), lives q x = some z → SC E8 9 (A_lives x).1 (A_lives x).2 (R_lives z) := by
 intro x z h
 cases h
 exact sc8.2 lives_true
abbrev a_RVerify : Type := ByteArray × Int × Int × Nat × (Nat → Int) × (Nat → Int)
abbrev g_RVerify : Type := Int
def A_RVerify : a_RVerify → List V × List (Option Chunk) := (fun x => (fun (nm : ByteArray) (ps : Int) (vs : Int) (n : Nat) (op : Nat → Int) (ar : Nat → Int) => (([.agg [st nm, i64 ps, i64 vs, .ro 2 n (fun j => [i64 (op j), i64 (ar j)])]] : List V), ([] : List (Option Chunk)))) x.1 x.2.1 x.2.2.1 x.2.2.2.1 x.2.2.2.2.1 x.2.2.2.2.2)
def d_RVerify (t : List V × List (Option Chunk)) : a_RVerify := ((vS ((vAg (t.1.getD 0 .junk)).getD 0 .junk)), (vI ((vAg (t.1.getD 0 .junk)).getD 1 .junk)), (vI ((vAg (t.1.getD 0 .junk)).getD 2 .junk)), (vRoN ((vAg (t.1.getD 0 .junk)).getD 3 .junk)), (fun j => (vI ((vRoF ((vAg (t.1.getD 0 .junk)).getD 3 .junk) j).getD 0 .junk))), (fun j => (vI ((vRoF ((vAg (t.1.getD 0 .junk)).getD 3 .junk) j).getD 1 .junk))))
theorem i_RVerify : ∀ x y, A_RVerify x = A_RVerify y → x = y := fun x y h => (congrArg d_RVerify h :)
def R_RVerify : g_RVerify → CRes := (fun z => (fun (e : Int) => .ret (i64 e) []) z : (Int) → CRes)
def x_RVerify (z : g_RVerify) (k : CRes → Option Ans) : Option Ans := k (R_RVerify z)
theorem xe_RVerify : ∀ z k, x_RVerify z k = k (R_RVerify z) := fun z k => rfl
noncomputable def RVerify (q : Nat) (x : a_RVerify) : Option g_RVerify := some (verV x.2.1 (mkC x.2.2.1 x.2.2.2.1 x.2.2.2.2.1 x.2.2.2.2.2))
theorem sc_RVerify (q : Nat) : ∀ (x : a_RVerify) (z : g_RVerify), RVerify q x = some z → SC E8 26 (A_RVerify x).1 (A_RVerify x).2 (R_RVerify z) := by
 rintro ⟨nm, ps, vs, n, op, ar⟩ z h
 cases h
 exact sc8.2 (sc2 (refVerify_sc nm ps vs n op ar))
abbrev a_StartU : Type := ByteArray × Int × Int × Nat × (Nat → Int) × (Nat → Int) × Nat × (Nat → Int)
abbrev g_StartU : Type := Int × Int × Int × Int × Nat × (Nat → Int) × Nat × (Nat → Int) × Nat × (Nat → Int) × (Nat → Int) × Int × Int × Int
def A_StartU : a_StartU → List V × List (Option Chunk) := (fun x => (fun (nm : ByteArray) (ps : Int) (vs : Int) (n : Nat) (op : Nat → Int) (ar : Nat → Int) (m : Nat) (y : Nat → Int) => (([.agg [st nm, i64 ps, i64 vs, .ro 2 n (fun j => [i64 (op j), i64 (ar j)])], .ro 1 m (fun j => [i64 (y j)])] : List V), ([] : List (Option Chunk)))) x.1 x.2.1 x.2.2.1 x.2.2.2.1 x.2.2.2.2.1 x.2.2.2.2.2.1 x.2.2.2.2.2.2.1 x.2.2.2.2.2.2.2)
def d_StartU (t : List V × List (Option Chunk)) : a_StartU := ((vS ((vAg (t.1.getD 0 .junk)).getD 0 .junk)), (vI ((vAg (t.1.getD 0 .junk)).getD 1 .junk)), (vI ((vAg (t.1.getD 0 .junk)).getD 2 .junk)), (vRoN ((vAg (t.1.getD 0 .junk)).getD 3 .junk)), (fun j => (vI ((vRoF ((vAg (t.1.getD 0 .junk)).getD 3 .junk) j).getD 0 .junk))), (fun j => (vI ((vRoF ((vAg (t.1.getD 0 .junk)).getD 3 .junk) j).getD 1 .junk))), (vRoN (t.1.getD 1 .junk)), (fun j => (vI ((vRoF (t.1.getD 1 .junk) j).getD 0 .junk))))
theorem i_StartU : ∀ x y, A_StartU x = A_StartU y → x = y := fun x y h => (congrArg d_StartU h :)
def R_StartU : g_StartU → CRes := (fun z => (fun (pc : Int) (sp : Int) (us : Int) (ti : Int) (vn : Nat) (vf : Nat → Int) (sn : Nat) (sf : Nat → Int) (ln : Nat) (la : Nat → Int) (lb : Nat → Int) (stt : Int) (cde : Int) (e : Int) => .ret (.tup [.agg [i64 pc, i64 sp, i64 us, i64 ti, .ro 1 vn (fun j => [i64 (vf j)]), .ro 1 sn (fun j => [i64 (sf j)]), .ro 2 ln (fun j => [i64 (la j), i64 (lb j)]), i64 stt, i64 cde], i64 e]) []) z.1 z.2.1 z.2.2.1 z.2.2.2.1 z.2.2.2.2.1 z.2.2.2.2.2.1 z.2.2.2.2.2.2.1 z.2.2.2.2.2.2.2.1 z.2.2.2.2.2.2.2.2.1 z.2.2.2.2.2.2.2.2.2.1 z.2.2.2.2.2.2.2.2.2.2.1 z.2.2.2.2.2.2.2.2.2.2.2.1 z.2.2.2.2.2.2.2.2.2.2.2.2.1 z.2.2.2.2.2.2.2.2.2.2.2.2.2 : (Int × Int × Int × Int × Nat × (Nat → Int) × Nat × (Nat → Int) × Nat × (Nat → Int) × (Nat → Int) × Int × Int × Int) → CRes)
def x_StartU (z : g_StartU) (k : CRes → Option Ans) : Option Ans := k (R_StartU z)
theorem xe_StartU : ∀ z k, x_StartU z k = k (R_StartU z) := fun z k => rfl
open Classical in
noncomputable def StartU (q : Nat) (x : a_StartU) : Option g_StartU := if x.2.2.2.2.2.2.1 ≤ 1000 ∧ 0 ≤ x.2.2.1 ∧ x.2.2.1 ≤ 12 then some (runE (stR x.2.2.1 x.2.2.2.2.2.2.1 x.2.2.2.2.2.2.2 (stE x.2.1 x.2.2.2.2.2.2.1 x.2.2.2.2.2.2.2)) (stE x.2.1 x.2.2.2.2.2.2.1 x.2.2.2.2.2.2.2)) else none
theorem sc_StartU (q : Nat) : ∀ (x : a_StartU) (z : g_StartU), StartU q x = some z → SC E8 10 (A_StartU x).1 (A_StartU x).2 (R_StartU z) := by
 rintro ⟨nm, ps, vs, n, op, ar, m, y⟩ z h
 unfold StartU at h
 split at h
 ·rename_i hc
  cases h
  exact start_sc hc.1 hc.2
 ·cases h
abbrev a_small : Type := ByteArray × Int × Int × Nat × (Nat → Int) × (Nat → Int)
abbrev g_small : Type := Bool
def A_small : a_small → List V × List (Option Chunk) := (fun x => (fun (nm : ByteArray) (ps : Int) (vs : Int) (n : Nat) (op : Nat → Int) (ar : Nat → Int) => (([.agg [st nm, i64 ps, i64 vs, .ro 2 n (fun j => [i64 (op j), i64 (ar j)])]] : List V), ([] : List (Option Chunk)))) x.1 x.2.1 x.2.2.1 x.2.2.2.1 x.2.2.2.2.1 x.2.2.2.2.2)
def d_small (t : List V × List (Option Chunk)) : a_small := ((vS ((vAg (t.1.getD 0 .junk)).getD 0 .junk)), (vI ((vAg (t.1.getD 0 .junk)).getD 1 .junk)), (vI ((vAg (t.1.getD 0 .junk)).getD 2 .junk)), (vRoN ((vAg (t.1.getD 0 .junk)).getD 3 .junk)), (fun j => (vI (((vRoF ((vAg (t.1.getD 0 .junk)).getD 3 .junk)) j).getD 0 .junk))), (fun j => (vI (((vRoF ((vAg (t.1.getD 0 .junk)).getD 3 .junk)) j).getD 1 .junk))))
theorem i_small : ∀ x y, A_small x = A_small y → x = y := fun x y h => (congrArg d_small h :)
def R_small : g_small → CRes := (fun z => (fun (b : Bool) => .ret (bo b) []) z : (Bool) → CRes)
def x_small (z : g_small) (k : CRes → Option Ans) : Option Ans := k (R_small z)
theorem xe_small : ∀ z k, x_small z k = k (R_small z) := fun z k => rfl
def t_small {β : Type} (c_RVerify : a_RVerify → Option g_RVerify) (x : a_small) (dn : g_small → Option β) : Option β :=
 if decide (((x.2.2.2.1 : Nat) : Int) ≤ (300 : Int)) = true then
  if decide (((ByteArray.size (x.1) : Nat) : Int) ≤ (64 : Int)) = true then
   (c_RVerify x).bind fun z6 =>
    dn (z6 == (0 : Int))
  else
   dn false
 else
  dn false
theorem n_small {β : Type} (c_RVerify : a_RVerify → Option g_RVerify) (x : a_small) (dn : g_small → Option β) : t_small c_RVerify x dn = (t_small c_RVerify x some).bind dn := by
 unfold t_small
 repeat' first | exact free_none | refine free_bind (fun z => ?_) | refine free_ite ?_ ?_ | refine free_sum (fun z => ?_) (fun z => ?_) | rfl
theorem r_small (c_RVerify : a_RVerify → Option g_RVerify) (x : a_small) : callK E8 (ftab 26 (fun _ _ => true) A_RVerify x_RVerify c_RVerify ca0) lo0 8 (A_small x).1 (A_small x).2 K = t_small (fun x => viaF A_RVerify c_RVerify (A_RVerify x)) x (fun z => some (.c (R_small z))) := by kernel_rfl
theorem s_small (c_RVerify : a_RVerify → Option g_RVerify) (h_RVerify : ∀ x z, c_RVerify x = some z → SC E8 26 (A_RVerify x).1 (A_RVerify x).2 (R_RVerify z)) (q : Nat) (x : a_small) (z : g_small) (h : t_small c_RVerify x some = some z) : SC E8 8 (A_small x).1 (A_small x).2 (R_small z) := by
 refine SC.of hW8 hX8 (ftab_cons h_RVerify xe_RVerify ca0_sound) lo0_sound ((r_small c_RVerify x).trans ?_)
 rw [via_eq i_RVerify c_RVerify, n_small, h]; rfl
noncomputable def small (q : Nat) (x : a_small) : Option g_small := t_small (RVerify q) x some
theorem sc_small (q : Nat) : ∀ (x : a_small) (z : g_small), small q x = some z → SC E8 8 (A_small x).1 (A_small x).2 (R_small z) := fun x z h => s_small (RVerify q) (sc_RVerify q) q x z h
end Go.Proofs.YthkioinnobiieaaGreatDoor
/- VmStarts. -/
namespace Go.Proofs.YthkioinnobiieaaGreatDoor
open Go Go.Am Go.Proofs
set_option linter.unusedSimpArgs false
set_option linter.unusedVariables false
set_option maxRecDepth 100000
theorem ver_facts {n : Nat} {op ar : Nat → Int} {ps vs : Int} (h : verV ps (mkC vs n op ar) = 0) : 0 ≤ ps ∧ ps ≤ vs ∧ vs ≤ 12 ∧ 0 < n ∧ n ≤ 300 ∧ Cv.VP (mkC vs n op ar) := by
 have h1 : ¬ ((mkC vs n op ar).n > 300 ∨ (mkC vs n op ar).vars > 12) := fun g => by rw [verV_2 g] at h; cases h
 have h2 : ¬ (ps < 0 ∨ ps > (mkC vs n op ar).vars ∨ (mkC vs n op ar).n = 0 ∨ ¬ Cv.VP (mkC vs n op ar)) := fun g => by rw [verV_13 h1 g] at h; cases h
 have a1 : ¬ n > 300 := fun g => h1 (.inl g)
 have a2 : ¬ vs > 12 := fun g => h1 (.inr g)
 have a3 : ¬ ps < 0 := fun g => h2 (.inl g)
 have a4 : ¬ ps > vs := fun g => h2 (.inr (.inl g))
 have a5 : ¬ n = 0 := fun g => h2 (.inr (.inr (.inl g)))
 exact ⟨by omega, by omega, by omega, by omega, by omega, Classical.byContradiction fun g => h2 (.inr (.inr (.inr g)))⟩
theorem small_runs {nm : ByteArray} {ps vs : Int} {n : Nat} {op ar : Nat → Int} {q : Nat} : Runs (small q (nm, ps, vs, n, op, ar)) (fun z => z = true → verV ps (mkC vs n op ar) = 0 ∧ nm.size ≤ 64) := by
 unfold small t_small RVerify
 dsimp only
 refine Runs.ite (fun g1 => Runs.ite (fun g2 => Runs.bind (P := fun z => z = verV ps (mkC vs n op ar)) (Runs.some rfl) fun z hz => Runs.some fun h => ?_) fun _ => Runs.some fun h => by cases h) fun _ => Runs.some fun h => by cases h
 subst hz
 have g2 : (nm.size : Int) ≤ 64 := by simpa using g2
 exact ⟨by simpa using h, by omega⟩
theorem startU_runs {nm : ByteArray} {ps vs : Int} {n : Nat} {op ar : Nat → Int} {m : Nat} {y : Nat → Int} {q : Nat} (hm : m ≤ 1000) (hv : 0 ≤ vs ∧ vs ≤ 12) : Runs (StartU q (nm, ps, vs, n, op, ar, m, y)) (fun z => z = runE (stR vs m y (stE ps m y)) (stE ps m y)) := by
 unfold StartU
 exact Runs.if_pos ⟨hm, hv.1, hv.2⟩ (Runs.some rfl)
theorem lives_runs {q : Nat} : Runs (lives q ()) (fun z => z = true) := Runs.some rfl
theorem wt3 {d : Nat} {vs : List V} (h : WT E.P d 3 vs) : ∃ a, vs = [i64 a] ∧ inR a := h.i64 (by kernel_rfl)
theorem in_code {v : V} (h : WTV E.P 24 v) : ∃ (nm : ByteArray) (ps vs : Int) (n : Nat) (op ar : Nat → Int), Le v (.agg [st nm, i64 ps, i64 vs, .ro 2 n (fun j => [i64 (op j), i64 (ar j)])]) ∧ n ≤ Go.maxLen ∧ nm.size ≤ Go.maxLen ∧ inR ps ∧ inR vs ∧ ∀ j, j < n → inR (op j) ∧ inR (ar j) := by
 obtain ⟨d, vs, rfl, g⟩ := h.struct (l := [9, 3, 3, 22]) (by kernel_rfl)
 obtain ⟨d, c1, r1, rfl, g1, c2, r2, rfl, g2, c3, r3, rfl, g3, c4, r4, rfl, g4, rfl⟩ := g.struct (l := [9, 3, 3, 22]) (by kernel_rfl)
 obtain ⟨s, rfl, hs⟩ := g1.str (by kernel_rfl)
 obtain ⟨u, rfl, ru⟩ := wt3 g2
 obtain ⟨w, rfl, rw⟩ := wt3 g3
 obtain ⟨n, f, rfl, hn, d, h⟩ := g4.slice (e := 54) (c := 2) (by kernel_rfl) (by kernel_rfl) (by omega)
 have key : ∀ j, ∃ x : Int × Int, j < n → f j = [i64 x.1, i64 x.2] ∧ inR x.1 ∧ inR x.2 := fun j => by
  by_cases hj : j < n
  ·obtain ⟨d, c1, r1, hf, g1, c2, r2, rfl, g2, rfl⟩ := (h j hj).struct (l := [3, 3]) (by kernel_rfl)
   obtain ⟨a, rfl, ha⟩ := wt3 g1
   obtain ⟨b, rfl, hb⟩ := wt3 g2
   exact ⟨(a, b), fun _ => ⟨hf, ha, hb⟩⟩
  ·exact ⟨(0, 0), fun h => absurd h hj⟩
 obtain ⟨g, hg⟩ := Classical.axiomOfChoice key
 exact ⟨s, u, w, n, fun j => (g j).1, fun j => (g j).2, Le.agg (LeL.cons (Le.refl _) (LeL.cons (Le.refl _) (LeL.cons (Le.refl _) (LeL.cons (Le.ro_eq fun j hj => ⟨(hg j hj).1, rfl⟩) LeL.nil)))), hn, hs, ru, rw, fun j hj => ⟨(hg j hj).2.1, (hg j hj).2.2⟩⟩
theorem in_ints {v : V} (h : WTV E.P 25 v) : ∃ (m : Nat) (y : Nat → Int), Le v (.ro 1 m (fun j => [i64 (y j)])) ∧ m ≤ Go.maxLen ∧ ∀ j, j < m → inR (y j) := by
 obtain ⟨n, f, rfl, hn, d, h⟩ := h.slice (e := 3) (c := 1) (by kernel_rfl) (by kernel_rfl) (by kernel_rfl) (by decide)
 have key : ∀ j, ∃ x : Int, j < n → f j = [i64 x] ∧ inR x := fun j => by
  by_cases hj : j < n
  ·obtain ⟨a, hf, ha⟩ := wt3 (h j hj)
   exact ⟨a, fun _ => ⟨hf, ha⟩⟩
  ·exact ⟨0, fun h => absurd h hj⟩
 obtain ⟨g, hg⟩ := Classical.axiomOfChoice key
 exact ⟨n, g, Le.ro_eq fun j hj => ⟨(hg j hj).1, rfl⟩, hn, fun j hj => (hg j hj).2⟩
end Go.Proofs.YthkioinnobiieaaGreatDoor
