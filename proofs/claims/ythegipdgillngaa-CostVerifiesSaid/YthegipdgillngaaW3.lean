/- Certify (14, 15), walked. -/
import Derived.Test.YthegipdgillngaaW2
namespace Go.Proofs.Ythegipdgillngaa
open Go Go.Am Go.Proofs
set_option linter.unusedSimpArgs false
set_option linter.unusedVariables false
def S14 (nm : ByteArray) (ps vs : Int) (n : Nat) (op arg : Nat → Int) (k : Nat) (a b c : Nat → Int) (R W : Int) (e : Nat → Int) (i : Nat) (x : Nat → Nat → Int) : St := { fr := [.junk, .junk, .ptr 0 0, .ptr 1 0, .junk, .junk, .junk, .sl 2 6 0 n, .ro 1 n (r1 e), i64 i] ++ jk 29, H := hp [some (.blk [st nm, i64 ps, i64 vs, cd n op arg]), some (.blk [.ro 3 k (r3 a b c), i64 R, i64 W]), some (.row 45 6 n (rc x))], nx := 3, rt := 0, me := 14 }
def S14m (nm : ByteArray) (ps vs : Int) (n : Nat) (op arg : Nat → Int) (k : Nat) (a b c : Nat → Int) (R W : Int) (e : Nat → Int) (x : Nat → Nat → Int) : St := { fr := [.junk, .junk, .ptr 0 0, .ptr 1 0, .junk, .junk, .junk, .sl 2 6 0 n, .ro 1 n (r1 e), i64 (-1)] ++ jk 29, H := hp [some (.blk [st nm, i64 ps, i64 vs, cd n op arg]), some (.blk [.ro 3 k (r3 a b c), i64 R, i64 W]), some (.row 45 6 n (rc x))], nx := 3, rt := 0, me := 14 }
def T14 (n : Nat) (x : Nat → Nat → Int) : St := { fr := jk 7 ++ [.sl 0 6 0 n] ++ jk 31, H := hp [some (.row 45 6 n (rc x))], nx := 1, rt := 0, me := 14 }
def S15 (nm : ByteArray) (ps vs : Int) (n : Nat) (op arg : Nat → Int) (k : Nat) (a b c : Nat → Int) (R W : Int) (i : Nat) (l : Nat) (x : Nat → Nat → Int) : St := { fr := [.junk, .junk, .ptr 0 0, .ptr 1 0, .junk, .junk, .junk, .sl 2 6 0 l, i64 i] ++ jk 27, H := hp [some (.blk [st nm, i64 ps, i64 vs, cd n op arg]), some (.blk [.ro 3 k (r3 a b c), i64 R, i64 W]), some (.row 45 6 l (rc x))], nx := 3, rt := 0, me := 15 }
def S15m (nm : ByteArray) (ps vs : Int) (n : Nat) (op arg : Nat → Int) (k : Nat) (a b c : Nat → Int) (R W : Int) (l : Nat) (x : Nat → Nat → Int) : St := { fr := [.junk, .junk, .ptr 0 0, .ptr 1 0, .junk, .junk, .junk, .sl 2 6 0 l, i64 (-1)] ++ jk 27, H := hp [some (.blk [st nm, i64 ps, i64 vs, cd n op arg]), some (.blk [.ro 3 k (r3 a b c), i64 R, i64 W]), some (.row 45 6 l (rc x))], nx := 3, rt := 0, me := 15 }
def S15z (nm : ByteArray) (ps vs : Int) (n : Nat) (op arg : Nat → Int) (k : Nat) (a b c : Nat → Int) (R W : Int) (i : Nat) : St := { fr := [.junk, .junk, .ptr 0 0, .ptr 1 0, .junk, .junk, .junk, .sc (.slice none 0 0), i64 i] ++ jk 27, H := hp [some (.blk [st nm, i64 ps, i64 vs, cd n op arg]), some (.blk [.ro 3 k (r3 a b c), i64 R, i64 W])], nx := 2, rt := 0, me := 15 }
def T15 (l : Nat) (x : Nat → Nat → Int) : St := { fr := jk 7 ++ [.sl 0 6 0 l] ++ jk 28, H := hp [some (.row 45 6 l (rc x))], nx := 1, rt := 0, me := 15 }
noncomputable def C14n (nm : ByteArray) (ps vs : Int) (n : Nat) (op arg : Nat → Int) (k : Nat) (a b c : Nat → Int) (R W : Int) (e : Nat → Int) (x : Nat → Nat → Int) (i : Nat) (nv : Nat → Int) : CallT := ptab 40 (fun args => args = [codV nm ps vs n op arg, rigV k a b c R W, .ro 1 n (r1 e), crt n x, i64 i]) (fun _ => c6 nv) (tab [])
noncomputable def C15n (nm : ByteArray) (ps vs : Int) (n : Nat) (op arg : Nat → Int) (k : Nat) (a b c : Nat → Int) (R W : Int) (l : Nat) (x : Nat → Nat → Int) (i : Nat) (nv : Nat → Int) : CallT := ptab 42 (fun args => args = [codV nm ps vs n op arg, rigV k a b c R W, crt l x, i64 ((i + 1 : Nat) : Int), i64 i]) (fun _ => c6 nv) (tab [])
noncomputable def C15z (nm : ByteArray) (ps vs : Int) (n : Nat) (op arg : Nat → Int) (k : Nat) (a b c : Nat → Int) (R W : Int) (i : Nat) (nv : Nat → Int) : CallT := ptab 42 (fun args => args = [codV nm ps vs n op arg, rigV k a b c R W, .sc (.slice none 0 0), i64 ((i + 1 : Nat) : Int), i64 i]) (fun _ => c6 nv) (tab [])
noncomputable def C14f (nm : ByteArray) (ps vs : Int) (n : Nat) (op arg : Nat → Int) (k : Nat) (a b c : Nat → Int) (R W : Int) (e : Nat → Int) : CallT := ptab 38 (QCR nm ps vs n op arg k a b c R W) (fun _ => i64 (chkV ps vs n op arg k a b c R W)) (ptab 39 (fun args => args = [codV nm ps vs n op arg] ∧ chkV ps vs n op arg k a b c R W = 0) (fun _ => .ro 1 n (r1 e)) (tab []))
noncomputable def C15f (nm : ByteArray) (ps vs : Int) (n : Nat) (op arg : Nat → Int) (k : Nat) (a b c : Nat → Int) (R W : Int) : CallT := ptab 41 (QCR nm ps vs n op arg k a b c R W) (fun _ => i64 (chkV ps vs n op arg k a b c R W)) (tab [])
theorem r14 (nm : ByteArray) (ps vs : Int) (n : Nat) (op arg : Nat → Int) (k : Nat) (a b c : Nat → Int) (R W : Int) (e : Nat → Int) (i : Nat) (x : Nat → Nat → Int) (nv : Nat → Int) (lo : LoopT) : loopK E2 (C14n nm ps vs n op arg k a b c R W e x i nv) lo 0 908 (bodyOf E2 14 0) (S14 nm ps vs n op arg k a b c R W e i x) (KC2 128 48) =
  if 0 + n ≤ n ∧ 6 = 6 then
   cl ((fun args => args = [codV nm ps vs n op arg, rigV k a b c R W, .ro 1 n (r1 e), crt n x, i64 i]) ([V.agg [V.sc (Value.string nm), i64 ps, i64 vs, V.ro 2 n (ins op arg)], V.agg [V.ro 3 k (r3 a b c), i64 R, i64 W], V.ro 1 n (r1 e), V.ro 6 n fun (j : Nat) => rc x (0 + j), i64 (i : Int)]) ∧ ([] : List (Option Chunk)) = []) (
    if (0 : Int) ≤ (i : Int) ∧ (i : Int) < (n : Int) then
     if 0 + Int.toNat (i : Int) < n ∧ 6 = 6 then
      lo 0 908 (bodyOf E2 14 0) ({ fr := [V.junk, V.junk, V.ptr 0 0, V.ptr 1 0, V.junk, V.junk, V.junk, V.sl 2 6 0 n, V.ro 1 n (r1 e), i64 (w ((i : Int) - (1 : Int)))] ++ jk 29, H := hp [some (Chunk.blk [V.sc (Value.string nm), i64 ps, i64 vs, V.ro 2 n (ins op arg)]), some (Chunk.blk [V.ro 3 k (r3 a b c), i64 R, i64 W]), some (Chunk.row 45 6 n (putF true (0 + Int.toNat (i : Int)) 0 [i64 (nv 0), i64 (nv 1), i64 (nv 2), i64 (nv 3), i64 (nv 4), i64 (nv 5)] (rc x)))], nx := 3, rt := 0, me := 14 }) (KC2 128 48)
     else
      none
    else
     none) (
    none)
  else
   none := by kernel_rfl
theorem r14m (nm : ByteArray) (ps vs : Int) (n : Nat) (op arg : Nat → Int) (k : Nat) (a b c : Nat → Int) (R W : Int) (e : Nat → Int) (x : Nat → Nat → Int) (lo : LoopT) : loopK E2 (tab []) lo 0 908 (bodyOf E2 14 0) (S14m nm ps vs n op arg k a b c R W e x) (KC2 128 48) =
  some (Ans.l (Ex.exit 0) { fr := [V.junk, V.junk, V.junk, V.junk, V.junk, V.junk, V.junk, V.sl 0 6 0 n] ++ jk 31, H := hp [some (Chunk.row 45 6 n (rc x))], nx := 1, rt := 0, me := 14 }) := by kernel_rfl
theorem r15 (nm : ByteArray) (ps vs : Int) (n : Nat) (op arg : Nat → Int) (k : Nat) (a b c : Nat → Int) (R W : Int) (i : Nat) (l : Nat) (x : Nat → Nat → Int) (nv : Nat → Int) (lo : LoopT) : loopK E2 (C15n nm ps vs n op arg k a b c R W l x i nv) lo 0 396 (bodyOf E2 15 0) (S15 nm ps vs n op arg k a b c R W i l x) (KC2 128 48) =
  if 0 + l ≤ l ∧ 6 = 6 then
   cl ((fun args => args = [codV nm ps vs n op arg, rigV k a b c R W, crt l x, i64 ((i + 1 : Nat) : Int), i64 i]) ([V.agg [V.sc (Value.string nm), i64 ps, i64 vs, V.ro 2 n (ins op arg)], V.agg [V.ro 3 k (r3 a b c), i64 R, i64 W], V.ro 6 l fun (j : Nat) => rc x (0 + j), i64 (w ((i : Int) + (1 : Int))), i64 (i : Int)]) ∧ ([] : List (Option Chunk)) = []) (
    if 0 + l ≤ l ∧ 6 = 6 then
     if (1 + l) * 48 ≤ roomBound ∧ 1 + l ≤ maxLen ∧ 1 ≤ 1 then
      lo 0 396 (bodyOf E2 15 0) ({ fr := [V.junk, V.junk, V.ptr 0 0, V.ptr 1 0, V.junk, V.junk, V.junk, V.sl 2 6 0 (1 + l), i64 (w ((i : Int) - (1 : Int)))] ++ jk 27, H := hp [some (Chunk.blk [V.sc (Value.string nm), i64 ps, i64 vs, V.ro 2 n (ins op arg)]), some (Chunk.blk [V.ro 3 k (r3 a b c), i64 R, i64 W]), some (Chunk.row 45 6 (1 + l) (joinF 1 (fun (i : Nat) => List.getD [[i64 (nv 0), i64 (nv 1), i64 (nv 2), i64 (nv 3), i64 (nv 4), i64 (nv 5)]] i []) fun (j : Nat) => rc x (0 + j)))], nx := 3, rt := 0, me := 15 }) (KC2 128 48)
     else
      none
    else
     none) (
    none)
  else
   none := by kernel_rfl
theorem r15m (nm : ByteArray) (ps vs : Int) (n : Nat) (op arg : Nat → Int) (k : Nat) (a b c : Nat → Int) (R W : Int) (l : Nat) (x : Nat → Nat → Int) (lo : LoopT) : loopK E2 (tab []) lo 0 396 (bodyOf E2 15 0) (S15m nm ps vs n op arg k a b c R W l x) (KC2 128 48) =
  some (Ans.l (Ex.exit 0) { fr := [V.junk, V.junk, V.junk, V.junk, V.junk, V.junk, V.junk, V.sl 0 6 0 l] ++ jk 28, H := hp [some (Chunk.row 45 6 l (rc x))], nx := 1, rt := 0, me := 15 }) := by kernel_rfl
theorem r15z (nm : ByteArray) (ps vs : Int) (n : Nat) (op arg : Nat → Int) (k : Nat) (a b c : Nat → Int) (R W : Int) (i : Nat) (nv : Nat → Int) (lo : LoopT) : loopK E2 (C15z nm ps vs n op arg k a b c R W i nv) lo 0 396 (bodyOf E2 15 0) (S15z nm ps vs n op arg k a b c R W i) (KC2 128 48) =
  cl ((fun args => args = [codV nm ps vs n op arg, rigV k a b c R W, .sc (.slice none 0 0), i64 ((i + 1 : Nat) : Int), i64 i]) ([V.agg [V.sc (Value.string nm), i64 ps, i64 vs, V.ro 2 n (ins op arg)], V.agg [V.ro 3 k (r3 a b c), i64 R, i64 W], V.sc (Value.slice none 0 0), i64 (w ((i : Int) + (1 : Int))), i64 (i : Int)]) ∧ ([] : List (Option Chunk)) = []) (
   lo 0 396 (bodyOf E2 15 0) ({ fr := [V.junk, V.junk, V.ptr 0 0, V.ptr 1 0, V.junk, V.junk, V.junk, V.sl 2 6 0 1, i64 (w ((i : Int) - (1 : Int)))] ++ jk 27, H := hp [some (Chunk.blk [V.sc (Value.string nm), i64 ps, i64 vs, V.ro 2 n (ins op arg)]), some (Chunk.blk [V.ro 3 k (r3 a b c), i64 R, i64 W]), some (Chunk.row 45 6 1 (joinF 1 (fun (i : Nat) => List.getD [[i64 (nv 0), i64 (nv 1), i64 (nv 2), i64 (nv 3), i64 (nv 4), i64 (nv 5)]] i []) fun (x : Nat) => []))], nx := 3, rt := 0, me := 15 }) (KC2 128 48)) (
   none) := by kernel_rfl
theorem f14 (nm : ByteArray) (ps vs : Int) (n : Nat) (op arg : Nat → Int) (k : Nat) (a b c : Nat → Int) (R W : Int) (e : Nat → Int) (x : Nat → Nat → Int) (S1 : St) (P : Prop) : callK E2 (C14f nm ps vs n op arg k a b c R W e) (ltab2 [⟨0, bodyOf E2 14 0, S1, P, .exit 0, T14 n x, .exit 0, T14 n x⟩]) 14 [codV nm ps vs n op arg, rigV k a b c R W] [] K =
  cl ((QCR nm ps vs n op arg k a b c R W) ([V.agg [V.sc (Value.string nm), i64 ps, i64 vs, V.ro 2 n (ins op arg)], V.agg [V.ro 3 k (r3 a b c), i64 R, i64 W]]) ∧ ([] : List (Option Chunk)) = []) (
   if (chkV ps vs n op arg k a b c R W != (0 : Int)) = true then
    some (Ans.c (CRes.ret (V.tup [V.sc (Value.slice none 0 0), i64 (chkV ps vs n op arg k a b c R W)]) []))
   else
    if (n : Int) = (n : Int) ∧ (0 : Int) ≤ (n : Int) ∧ 0 < 6 ∧ 6 = 6 ∧ Int.toNat (n : Int) * 48 ≤ 281474976710656 ∧ Int.toNat (n : Int) ≤ maxLen ∧ (allOk 6 1 fun (x : Nat) => List.map V.sc (Array.toList (Value.cells (Value.agg #[Value.int IntKind.i64 0, Value.int IntKind.i64 0, Value.int IntKind.i64 0, Value.int IntKind.i64 0, Value.int IntKind.i64 0, Value.int IntKind.i64 0])))) = true then
     cl ((fun args => args = [codV nm ps vs n op arg] ∧ chkV ps vs n op arg k a b c R W = 0) ([V.agg [V.sc (Value.string nm), i64 ps, i64 vs, V.ro 2 n (ins op arg)]]) ∧ ([] : List (Option Chunk)) = []) (
      cl ((bodyOf E2 14 0) = (bodyOf E2 14 0) ∧ LeSt ({ fr := [V.junk, V.junk, V.ptr 0 0, V.ptr 1 0, V.junk, V.junk, V.junk, V.sl 2 6 0 (Int.toNat (n : Int)), V.ro 1 n (r1 e), i64 (w (((Int.toNat (n : Int) : Nat) : Int) - (1 : Int)))] ++ jk 29, H := hp [some (Chunk.blk [V.sc (Value.string nm), i64 ps, i64 vs, V.ro 2 n (ins op arg)]), some (Chunk.blk [V.ro 3 k (r3 a b c), i64 R, i64 W]), some (Chunk.row 45 6 (Int.toNat (n : Int)) fun (x : Nat) => List.map V.sc (Array.toList (Value.cells (Value.agg #[Value.int IntKind.i64 0, Value.int IntKind.i64 0, Value.int IntKind.i64 0, Value.int IntKind.i64 0, Value.int IntKind.i64 0, Value.int IntKind.i64 0]))))], nx := 3, rt := 0, me := 14 }) (S1)) (
       cl (P) (
        some (Ans.c (CRes.ret (V.tup [V.sl 0 6 0 n, i64 0]) [some (Chunk.row 45 6 n (rc x))]))) (
        some (Ans.c (CRes.ret (V.tup [V.sl 0 6 0 n, i64 0]) [some (Chunk.row 45 6 n (rc x))])))) (
       none)) (
      none)
    else
     none) (
   none) := by kernel_rfl
theorem f15 (nm : ByteArray) (ps vs : Int) (n : Nat) (op arg : Nat → Int) (k : Nat) (a b c : Nat → Int) (R W : Int) (x : Nat → Nat → Int) (S1 : St) (P : Prop) : callK E2 (C15f nm ps vs n op arg k a b c R W) (ltab2 [⟨0, bodyOf E2 15 0, S1, P, .exit 0, T15 n x, .exit 0, T15 n x⟩]) 15 [codV nm ps vs n op arg, rigV k a b c R W] [] K =
  cl ((QCR nm ps vs n op arg k a b c R W) ([V.agg [V.sc (Value.string nm), i64 ps, i64 vs, V.ro 2 n (ins op arg)], V.agg [V.ro 3 k (r3 a b c), i64 R, i64 W]]) ∧ ([] : List (Option Chunk)) = []) (
   if (chkV ps vs n op arg k a b c R W != (0 : Int)) = true then
    some (Ans.c (CRes.ret (V.tup [V.sc (Value.slice none 0 0), i64 (chkV ps vs n op arg k a b c R W)]) []))
   else
    cl ((bodyOf E2 15 0) = (bodyOf E2 15 0) ∧ LeSt ({ fr := [V.junk, V.junk, V.ptr 0 0, V.ptr 1 0, V.junk, V.junk, V.junk, V.sc (Value.slice none 0 0), i64 (w ((n : Int) - (1 : Int)))] ++ jk 27, H := hp [some (Chunk.blk [V.sc (Value.string nm), i64 ps, i64 vs, V.ro 2 n (ins op arg)]), some (Chunk.blk [V.ro 3 k (r3 a b c), i64 R, i64 W])], nx := 2, rt := 0, me := 15 }) (S1)) (
     cl (P) (
      some (Ans.c (CRes.ret (V.tup [V.sl 0 6 0 n, i64 0]) [some (Chunk.row 45 6 n (rc x))]))) (
      some (Ans.c (CRes.ret (V.tup [V.sl 0 6 0 n, i64 0]) [some (Chunk.row 45 6 n (rc x))])))) (
     none)) (
   none) := by kernel_rfl

theorem k14 (n : Nat) (x : Nat → Nat → Int) : KC2 128 48 (.exit 0) (T14 n x) = some (.l (.exit 0) (T14 n x)) := by kernel_rfl
theorem k15 (n : Nat) (x : Nat → Nat → Int) : KC2 128 48 (.exit 0) (T15 n x) = some (.l (.exit 0) (T15 n x)) := by kernel_rfl
def putR (x : Nat → Nat → Int) (i : Nat) (v : Nat → Int) : Nat → Nat → Int := fun q p => if p = i then v q else x q p
/-- The certificate's rows, from the last one on. -/
def certX (F : (Nat → Nat → Int) → Nat → Nat → Int) (n : Nat) : Nat → Nat → Nat → Int
  | 0 => fun _ _ => 0
  | r + 1 => putR (certX F n r) (n - 1 - r) (F (certX F n r) (n - 1 - r))
theorem certX_step (F : (Nat → Nat → Int) → Nat → Nat → Int) {n i : Nat} (hi : i < n) : certX F n (n - i) = putR (certX F n (n - 1 - i)) i (F (certX F n (n - 1 - i)) i) := by
  have e1 : n - i = (n - 1 - i) + 1 := by omega
  have e2 : n - 1 - (n - 1 - i) = i := by omega
  rw [e1, certX, e2]
theorem row_put6 (x : Nat → Nat → Int) (i : Nat) (v : Nat → Int) (j : Nat) : putF true i 0 [i64 (v 0), i64 (v 1), i64 (v 2), i64 (v 3), i64 (v 4), i64 (v 5)] (rc x) j = rc (putR x i v) j := by
  rw [putF_eq]
  unfold rc putR
  by_cases h : j = i
  · simp only [if_pos h]; rfl
  · simp only [if_neg h]
def sh (x : Nat → Nat → Int) (f : Nat) : Nat → Nat → Int := fun q p => x q (f + p)
theorem row_front (x : Nat → Nat → Int) (i : Nat) (v : Nat → Int) (j : Nat) : joinF 1 (fun (i : Nat) => List.getD [[i64 (v 0), i64 (v 1), i64 (v 2), i64 (v 3), i64 (v 4), i64 (v 5)]] i []) (rc (sh x (i + 1))) j = rc (sh (putR x i v) i) j := by
  unfold joinF
  by_cases h : j < 1
  · have : j = 0 := by omega
    subst this
    rw [if_pos h]
    simp only [rc, sh, putR, Nat.add_zero, if_true]
    rfl
  · rw [if_neg h]
    simp only [rc, sh, putR]
    simp only [show i + 1 + (j - 1) = i + j by omega, if_neg (show ¬ i + j = i by omega)]
theorem row_first (x : Nat → Nat → Int) (i : Nat) (v : Nat → Int) (j : Nat) (hj : j < 1) : joinF 1 (fun (i : Nat) => List.getD [[i64 (v 0), i64 (v 1), i64 (v 2), i64 (v 3), i64 (v 4), i64 (v 5)]] i []) (fun _ => []) j = rc (sh (putR x i v) i) j := by
  have : j = 0 := by omega
  subst this
  unfold joinF
  rw [if_pos hj]
  simp only [rc, sh, putR, Nat.add_zero, if_true]
  rfl
set_option maxRecDepth 100000 in
theorem loop14 (nm : ByteArray) (ps : Int) {vs : Int} {n : Nat} {op arg : Nat → Int} {k : Nat} {a b c : Nat → Int} {R W : Int} (hf : Fit vs n op arg k a b c R W) : ∀ i, i < n → SL E2 (bodyOf E2 14 0) (S14 nm ps vs n op arg k a b c R W (Cv.endF (mkC vs n op arg)) i (certX (ndF (mkC vs n op arg) a b R W) n (n - 1 - i))) (.exit 0) (T14 n (certX (ndF (mkC vs n op arg) a b R W) n n)) := by
  have hn := hf.n3
  intro i
  induction i with
  | zero =>
    intro hi
    have st := certX_step (ndF (mkC vs n op arg) a b R W) hi
    rw [Nat.sub_zero, Nat.sub_zero] at st
    rw [Nat.sub_zero]
    generalize hX : certX (ndF (mkC vs n op arg) a b R W) n (n - 1) = X at st ⊢
    have hC : SoundC E2 (C14n nm ps vs n op arg k a b c R W (Cv.endF (mkC vs n op arg)) X 0 ((ndF (mkC vs n op arg) a b R W) X 0)) := ptab_cons (fun args h => by cases h; exact need_sc nm ps hf X hi) tab_nil
    have fin : SL E2 (bodyOf E2 14 0) (S14m nm ps vs n op arg k a b c R W (Cv.endF (mkC vs n op arg)) (certX (ndF (mkC vs n op arg) a b R W) n n)) (.exit 0) (T14 n (certX (ndF (mkC vs n op arg) a b R W) n n)) := SL.by2 (m := 128) (r := 48) tab_nil hX2 ltab2_nil ((r14m nm ps vs n op arg k a b c R W (Cv.endF (mkC vs n op arg)) _ _).trans rfl)
    have tree := fun lo => r14 nm ps vs n op arg k a b c R W (Cv.endF (mkC vs n op arg)) 0 X ((ndF (mkC vs n op arg) a b R W) X 0) lo
    have hc1 : n ≤ n ∧ True := ⟨Nat.le_refl _, trivial⟩
    have hbb : (0 : Int) ≤ ((0 : Nat) : Int) ∧ ((0 : Nat) : Int) < (n : Int) := by omega
    have hc2 : 0 < n ∧ True := ⟨hi, trivial⟩
    have ew : w (((0 : Nat) : Int) - 1) = -1 := by decide
    simp only [Nat.zero_add, eq_self, if_pos hc1, Int.toNat_natCast, if_pos hbb, if_pos hc2, ew] at tree
    refine (Ends.next (e2 := .exit 0) (T2 := T14 n (certX (ndF (mkC vs n op arg) a b R W) n n)) (P := True) (m := 128) (r := 48) hC ⟨fun _ => fin, fun h => absurd trivial h⟩ (k14 _ _) ?_ ?_ fun lo => (tree lo).trans (cl_pos ⟨rfl, trivial⟩)).1 trivial
    · exact k14 _ _
    · rw [st]
      exact LeSt.mk' (LeL.refl _) ⟨ChLe.refl _, ChLe.refl _, ChLe.row fun j _ => row_put6 _ _ _ _, trivial⟩
  | succ i ih =>
    intro hi
    have st := certX_step (ndF (mkC vs n op arg) a b R W) hi
    rw [show n - (i + 1) = n - 1 - i by omega] at st
    have ih' := ih (by omega)
    generalize hX : certX (ndF (mkC vs n op arg) a b R W) n (n - 1 - (i + 1)) = X at st ⊢
    have hC : SoundC E2 (C14n nm ps vs n op arg k a b c R W (Cv.endF (mkC vs n op arg)) X (i + 1) ((ndF (mkC vs n op arg) a b R W) X (i + 1))) := ptab_cons (fun args h => by cases h; exact need_sc nm ps hf X hi) tab_nil
    have tree := fun lo => r14 nm ps vs n op arg k a b c R W (Cv.endF (mkC vs n op arg)) (i + 1) X ((ndF (mkC vs n op arg) a b R W) X (i + 1)) lo
    have hc1 : n ≤ n ∧ True := ⟨Nat.le_refl _, trivial⟩
    have hbb : (0 : Int) ≤ ((i + 1 : Nat) : Int) ∧ ((i + 1 : Nat) : Int) < (n : Int) := by omega
    have hc2 : i + 1 < n ∧ True := ⟨hi, trivial⟩
    have ew : w (((i + 1 : Nat) : Int) - 1) = (i : Int) := by rw [w_in (by unfold inR; omega)]; omega
    simp only [Nat.zero_add, eq_self, if_pos hc1, Int.toNat_natCast, if_pos hbb, if_pos hc2, ew] at tree
    refine (Ends.next (e2 := .exit 0) (T2 := T14 n (certX (ndF (mkC vs n op arg) a b R W) n n)) (P := True) (m := 128) (r := 48) hC ⟨fun _ => ih', fun h => absurd trivial h⟩ (k14 _ _) ?_ ?_ fun lo => (tree lo).trans (cl_pos ⟨rfl, trivial⟩)).1 trivial
    · exact k14 _ _
    · rw [st]
      exact LeSt.mk' (LeL.refl _) ⟨ChLe.refl _, ChLe.refl _, ChLe.row fun j _ => row_put6 _ _ _ _, trivial⟩
set_option maxRecDepth 100000 in
theorem loop15 (nm : ByteArray) (ps : Int) {vs : Int} {n : Nat} {op arg : Nat → Int} {k : Nat} {a b c : Nat → Int} {R W : Int} (hf : Fit vs n op arg k a b c R W) : ∀ i, i + 1 < n → SL E2 (bodyOf E2 15 0) (S15 nm ps vs n op arg k a b c R W i (n - 1 - i) (sh (certX (ndF (mkC vs n op arg) a b R W) n (n - 1 - i)) (i + 1))) (.exit 0) (T15 n (certX (ndF (mkC vs n op arg) a b R W) n n)) := by
  have hn := hf.n3
  have fin : SL E2 (bodyOf E2 15 0) (S15m nm ps vs n op arg k a b c R W n (certX (ndF (mkC vs n op arg) a b R W) n n)) (.exit 0) (T15 n (certX (ndF (mkC vs n op arg) a b R W) n n)) := SL.by2 (m := 128) (r := 48) tab_nil hX2 ltab2_nil ((r15m nm ps vs n op arg k a b c R W n _ _).trans rfl)
  intro i
  induction i with
  | zero =>
    intro hi
    have st := certX_step (ndF (mkC vs n op arg) a b R W) (show 0 < n by omega)
    rw [Nat.sub_zero, Nat.sub_zero] at st
    rw [Nat.sub_zero]
    generalize hX : certX (ndF (mkC vs n op arg) a b R W) n (n - 1) = X at st ⊢
    have hC : SoundC E2 (C15n nm ps vs n op arg k a b c R W (n - 1) (sh X (0 + 1)) 0 ((ndF (mkC vs n op arg) a b R W) X 0)) := ptab_cons (fun args h => by cases h; exact refNeed_sc nm ps hf X (i := 0) (f := 0 + 1) (l := n - 1) (by omega) (Nat.le_refl _) (by omega)) tab_nil
    have tree := fun lo => r15 nm ps vs n op arg k a b c R W 0 (n - 1) (sh X (0 + 1)) ((ndF (mkC vs n op arg) a b R W) X 0) lo
    have hc1 : n - 1 ≤ n - 1 ∧ True := ⟨Nat.le_refl _, trivial⟩
    have hroom : (1 + (n - 1)) * 48 ≤ roomBound ∧ 1 + (n - 1) ≤ Go.maxLen ∧ 1 ≤ 1 := by unfold roomBound Go.maxLen; omega
    have ew : w (((0 : Nat) : Int) - 1) = -1 := by decide
    have ew1 : w (((0 : Nat) : Int) + 1) = ((0 + 1 : Nat) : Int) := by decide
    have e0 : ∀ p, 0 + p = p := Nat.zero_add
    simp only [e0, eq_self, if_pos hc1, if_pos hroom, ew, ew1] at tree
    simp only [e0] at hC ⊢
    rw [show 1 + (n - 1) = n by omega] at tree
    refine (Ends.next (e2 := .exit 0) (T2 := T15 n (certX (ndF (mkC vs n op arg) a b R W) n n)) (P := True) (m := 128) (r := 48) hC ⟨fun _ => fin, fun h => absurd trivial h⟩ (k15 _ _) (k15 _ _) ?_ fun lo => (tree lo).trans (cl_pos ⟨rfl, trivial⟩)).1 trivial
    rw [st]
    refine LeSt.mk' (LeL.refl _) ⟨ChLe.refl _, ChLe.refl _, ChLe.row fun j _ => ?_, trivial⟩
    refine (row_front X 0 _ j).trans ?_
    simp only [rc, sh, e0]
  | succ i ih =>
    intro hi
    have st := certX_step (ndF (mkC vs n op arg) a b R W) (show i + 1 < n by omega)
    rw [show n - (i + 1) = n - 1 - i by omega] at st
    have ih' := ih (by omega)
    generalize hX : certX (ndF (mkC vs n op arg) a b R W) n (n - 1 - (i + 1)) = X at st ⊢
    have hC : SoundC E2 (C15n nm ps vs n op arg k a b c R W (n - 1 - (i + 1)) (sh X (i + 1 + 1)) (i + 1) ((ndF (mkC vs n op arg) a b R W) X (i + 1))) := ptab_cons (fun args h => by cases h; exact refNeed_sc nm ps hf X (i := i + 1) (f := i + 1 + 1) (l := n - 1 - (i + 1)) (by omega) (Nat.le_refl _) (by omega)) tab_nil
    have tree := fun lo => r15 nm ps vs n op arg k a b c R W (i + 1) (n - 1 - (i + 1)) (sh X (i + 1 + 1)) ((ndF (mkC vs n op arg) a b R W) X (i + 1)) lo
    have hc1 : n - 1 - (i + 1) ≤ n - 1 - (i + 1) ∧ True := ⟨Nat.le_refl _, trivial⟩
    have hroom : (1 + (n - 1 - (i + 1))) * 48 ≤ roomBound ∧ 1 + (n - 1 - (i + 1)) ≤ Go.maxLen ∧ 1 ≤ 1 := by unfold roomBound Go.maxLen; omega
    have ew : w (((i + 1 : Nat) : Int) - 1) = (i : Int) := by rw [w_in (by unfold inR; omega)]; omega
    have ew1 : w (((i + 1 : Nat) : Int) + 1) = ((i + 1 + 1 : Nat) : Int) := by rw [w_in (by unfold inR; omega)]; omega
    have e0 : ∀ p, 0 + p = p := Nat.zero_add
    simp only [e0, eq_self, if_pos hc1, if_pos hroom, ew, ew1] at tree
    rw [show 1 + (n - 1 - (i + 1)) = n - 1 - i by omega] at tree
    refine (Ends.next (e2 := .exit 0) (T2 := T15 n (certX (ndF (mkC vs n op arg) a b R W) n n)) (P := True) (m := 128) (r := 48) hC ⟨fun _ => ih', fun h => absurd trivial h⟩ (k15 _ _) (k15 _ _) ?_ fun lo => (tree lo).trans (cl_pos ⟨rfl, trivial⟩)).1 trivial
    rw [st]
    exact LeSt.mk' (LeL.refl _) ⟨ChLe.refl _, ChLe.refl _, ChLe.row fun j _ => row_front X (i + 1) _ j, trivial⟩
set_option maxRecDepth 100000 in
theorem start15 (nm : ByteArray) (ps : Int) {vs : Int} {n : Nat} {op arg : Nat → Int} {k : Nat} {a b c : Nat → Int} {R W : Int} (hf : Fit vs n op arg k a b c R W) : SL E2 (bodyOf E2 15 0) (S15z nm ps vs n op arg k a b c R W (n - 1)) (.exit 0) (T15 n (certX (ndF (mkC vs n op arg) a b R W) n n)) := by
  have hn := hf.n3
  have hn0 := hf.n0
  have st := certX_step (ndF (mkC vs n op arg) a b R W) (show n - 1 < n by omega)
  rw [show n - (n - 1) = 1 by omega, Nat.sub_self] at st
  generalize hX : certX (ndF (mkC vs n op arg) a b R W) n 0 = X at st
  have hC : SoundC E2 (C15z nm ps vs n op arg k a b c R W (n - 1) ((ndF (mkC vs n op arg) a b R W) X (n - 1))) := ptab_cons (fun args h => by cases h; exact refNeed_last nm ps hf X (i := n - 1) (f := n - 1 + 1) (by omega)) tab_nil
  have tree := fun lo => r15z nm ps vs n op arg k a b c R W (n - 1) ((ndF (mkC vs n op arg) a b R W) X (n - 1)) lo
  have ew1 : w (((n - 1 : Nat) : Int) + 1) = ((n - 1 + 1 : Nat) : Int) := by rw [w_in (by unfold inR; omega)]; omega
  simp only [eq_self, ew1] at tree
  by_cases h1 : n = 1
  · have fin : SL E2 (bodyOf E2 15 0) (S15m nm ps vs n op arg k a b c R W n (certX (ndF (mkC vs n op arg) a b R W) n n)) (.exit 0) (T15 n (certX (ndF (mkC vs n op arg) a b R W) n n)) := SL.by2 (m := 128) (r := 48) tab_nil hX2 ltab2_nil ((r15m nm ps vs n op arg k a b c R W n _ _).trans rfl)
    have ew : w (((n - 1 : Nat) : Int) - 1) = -1 := by rw [h1]; decide
    simp only [ew] at tree
    have e1 : certX (ndF (mkC vs n op arg) a b R W) n n = certX (ndF (mkC vs n op arg) a b R W) n 1 := by rw [h1]
    refine (Ends.next (S1 := S15m nm ps vs n op arg k a b c R W n (certX (ndF (mkC vs n op arg) a b R W) n n)) (e2 := .exit 0) (T2 := T15 n (certX (ndF (mkC vs n op arg) a b R W) n n)) (P := True) (m := 128) (r := 48) hC ⟨fun _ => fin, fun h => absurd trivial h⟩ (k15 _ _) (k15 _ _) ?_ fun lo => (tree lo).trans (cl_pos ⟨rfl, trivial⟩)).1 trivial
    rw [e1, st]
    have e2 : S15m nm ps vs n op arg k a b c R W n (putR X (n - 1) ((ndF (mkC vs n op arg) a b R W) X (n - 1))) = S15m nm ps vs n op arg k a b c R W 1 (putR X (n - 1) ((ndF (mkC vs n op arg) a b R W) X (n - 1))) := by unfold S15m; rw [show V.sl 2 6 0 n = V.sl 2 6 0 1 by rw [h1], show Chunk.row 45 6 n = Chunk.row 45 6 1 by rw [h1]]
    rw [e2]
    refine LeSt.mk' (LeL.refl _) ⟨ChLe.refl _, ChLe.refl _, ChLe.row fun j hj => (row_first X (n - 1) _ j hj).trans ?_, trivial⟩
    rw [show n - 1 = 0 by omega]
    simp only [rc, sh, Nat.zero_add]
  · have l1 := loop15 nm ps hf (n - 2) (by omega)
    rw [show n - 1 - (n - 2) = 1 by omega, show n - 2 + 1 = n - 1 by omega, st] at l1
    have ew : w (((n - 1 : Nat) : Int) - 1) = ((n - 2 : Nat) : Int) := by rw [w_in (by unfold inR; omega)]; omega
    simp only [ew] at tree
    refine (Ends.next (e2 := .exit 0) (T2 := T15 n (certX (ndF (mkC vs n op arg) a b R W) n n)) (P := True) (m := 128) (r := 48) hC ⟨fun _ => l1, fun h => absurd trivial h⟩ (k15 _ _) (k15 _ _) ?_ fun lo => (tree lo).trans (cl_pos ⟨rfl, trivial⟩)).1 trivial
    exact LeSt.mk' (LeL.refl _) ⟨ChLe.refl _, ChLe.refl _, ChLe.row fun j hj => row_first X (n - 1) _ j hj, trivial⟩
/-! ### The answer -/
/-- The certificate of the code for the rig. -/
def certF (vs : Int) (n : Nat) (op arg : Nat → Int) (a b : Nat → Int) (R W : Int) : Nat → Nat → Int := certX (ndF (mkC vs n op arg) a b R W) n n
open Classical in
noncomputable def certN (ps vs : Int) (n : Nat) (op arg : Nat → Int) (k : Nat) (a b c : Nat → Int) (R W : Int) : Nat := if chkV ps vs n op arg k a b c R W = 0 then n else 0
noncomputable def certV (ps vs : Int) (n : Nat) (op arg : Nat → Int) (k : Nat) (a b c : Nat → Int) (R W : Int) : V := .tup [crt (certN ps vs n op arg k a b c R W) (certF vs n op arg a b R W), i64 (chkV ps vs n op arg k a b c R W)]
theorem fit_of {ps vs : Int} {n : Nat} {op arg : Nat → Int} {k : Nat} {a b c : Nat → Int} {R W : Int} (h : chkV ps vs n op arg k a b c R W = 0) : Fit vs n op arg k a b c R W := by
  obtain ⟨h1, h2, h3, h4, h5⟩ := chk0 h
  exact ⟨h1, h2, h3, h4, h5⟩
theorem bw_cert {n : Nat} {f : Nat → List V} : V.bw (hp [some (Chunk.row 45 6 n f)]) (.tup [.sl 0 6 0 n, i64 0]) = .tup [.ro 6 n (fun j => f (0 + j)), i64 0] := by
  simp [V.bw, V.bw2, V.bw1, hp]
theorem cert_give {f : FuncId} {args : List V} {n : Nat} {x : Nat → Nat → Int} (h : SC E2 f args [] (.ret (.tup [.sl 0 6 0 n, i64 0]) [some (Chunk.row 45 6 n (rc x))])) : SC E2 f args [] (.ret (.tup [crt n x, i64 0]) []) := by
  refine (SC.give h (by rw [bw_cert]; rfl)).le ?_
  rw [bw_cert]
  exact Le.tup (LeL.cons (Le.ro_eq fun j hj => ⟨by rw [Nat.zero_add], rfl⟩) (LeL.refl _))
set_option maxRecDepth 100000 in
theorem certify_sc (nm : ByteArray) (ps vs : Int) (n : Nat) (op arg : Nat → Int) (k : Nat) (a b c : Nat → Int) (R W : Int) (hn : n ≤ Go.maxLen) : SC E2 14 [codV nm ps vs n op arg, rigV k a b c R W] [] (.ret (certV ps vs n op arg k a b c R W) []) := by
  have hC : SoundC E2 (C14f nm ps vs n op arg k a b c R W (Cv.endF (mkC vs n op arg))) := ptab_cons (fun args h => by cases h; exact check_sc nm ps vs n op arg k a b c R W hn) (ptab_cons (fun args h => by
    obtain ⟨rfl, h⟩ := h
    have hf := fit_of h
    exact ends_sc nm ps vs hf.n3 (vp17 hf.vp)) tab_nil)
  unfold certV certN
  by_cases h : chkV ps vs n op arg k a b c R W = 0
  · have hf := fit_of h
    have hn3 := hf.n3
    have hn0 := hf.n0
    rw [if_pos h, h]
    refine cert_give ?_
    have l1 := loop14 nm ps hf (n - 1) (by omega)
    rw [Nat.sub_self] at l1
    refine SC.of hW2 hX2 hC (ltab2_cons (x := ⟨0, _, _, True, _, _, .exit 0, T14 n (certX (ndF (mkC vs n op arg) a b R W) n n)⟩) ⟨fun _ => l1, fun g => absurd trivial g⟩ ltab2_nil) ((f14 nm ps vs n op arg k a b c R W (Cv.endF (mkC vs n op arg)) _ _ _).trans ?_)
    have hc : (n : Int) = (n : Int) ∧ (0 : Int) ≤ (n : Int) ∧ 0 < 6 ∧ 6 = 6 ∧ Int.toNat (n : Int) * 48 ≤ 281474976710656 ∧ Int.toNat (n : Int) ≤ Go.maxLen ∧ (allOk 6 1 fun (x : Nat) => List.map V.sc (Array.toList (Value.cells (Value.agg #[Value.int IntKind.i64 0, Value.int IntKind.i64 0, Value.int IntKind.i64 0, Value.int IntKind.i64 0, Value.int IntKind.i64 0, Value.int IntKind.i64 0])))) = true := by
      refine ⟨rfl, by omega, by decide, rfl, by rw [Int.toNat_natCast]; omega, by rw [Int.toNat_natCast]; unfold Go.maxLen; omega, by kernel_rfl⟩
    have ew : w ((((Int.toNat (n : Int)) : Nat) : Int) - 1) = ((n - 1 : Nat) : Int) := by rw [Int.toNat_natCast, w_in (by unfold inR; omega)]; omega
    rw [cl_pos ⟨rfl, rfl⟩, if_neg (by rw [h]; decide), if_pos hc, cl_pos ⟨⟨rfl, h⟩, rfl⟩, ew, cl_pos ⟨rfl, (by
      rw [Int.toNat_natCast]
      exact LeSt.mk' (LeL.refl _) ⟨ChLe.refl _, ChLe.refl _, ChLe.row fun j _ => rfl, trivial⟩)⟩, cl_pos trivial]
    rfl
  · rw [if_neg h]
    refine (SC.of (cr := .ret (.tup [.sc (.slice none 0 0), i64 (chkV ps vs n op arg k a b c R W)]) []) hW2 hX2 hC (ltab2_cons (x := ⟨0, bodyOf E2 14 0, S14m nm ps vs n op arg k a b c R W (Cv.endF (mkC vs n op arg)) (fun _ _ => 0), True, .exit 0, T14 n (fun _ _ => 0), .exit 0, T14 n (fun _ _ => 0)⟩) ⟨fun _ => SL.by2 (m := 128) (r := 48) tab_nil hX2 ltab2_nil ((r14m nm ps vs n op arg k a b c R W (Cv.endF (mkC vs n op arg)) _ _).trans rfl), fun g => absurd trivial g⟩ ltab2_nil) ((f14 nm ps vs n op arg k a b c R W (Cv.endF (mkC vs n op arg)) (fun _ _ => 0) _ _).trans ?_)).le ?_
    · rw [cl_pos ⟨rfl, rfl⟩, if_pos (neT h)]
    · exact Le.tup (LeL.cons Le.nil_ro (LeL.refl _))
set_option maxRecDepth 100000 in
theorem refCertify_sc (nm : ByteArray) (ps vs : Int) (n : Nat) (op arg : Nat → Int) (k : Nat) (a b c : Nat → Int) (R W : Int) (hn : n ≤ Go.maxLen) : SC E2 15 [codV nm ps vs n op arg, rigV k a b c R W] [] (.ret (certV ps vs n op arg k a b c R W) []) := by
  have hC : SoundC E2 (C15f nm ps vs n op arg k a b c R W) := ptab_cons (fun args h => by cases h; exact refCheck_sc nm ps vs n op arg k a b c R W hn) tab_nil
  unfold certV certN
  by_cases h : chkV ps vs n op arg k a b c R W = 0
  · have hf := fit_of h
    have hn3 := hf.n3
    have hn0 := hf.n0
    rw [if_pos h, h]
    refine cert_give ?_
    have l1 := start15 nm ps hf
    refine SC.of hW2 hX2 hC (ltab2_cons (x := ⟨0, _, _, True, _, _, .exit 0, T15 n (certX (ndF (mkC vs n op arg) a b R W) n n)⟩) ⟨fun _ => l1, fun g => absurd trivial g⟩ ltab2_nil) ((f15 nm ps vs n op arg k a b c R W _ _ _).trans ?_)
    have ew : w ((n : Int) - 1) = ((n - 1 : Nat) : Int) := by rw [w_in (by unfold inR; omega)]; omega
    rw [cl_pos ⟨rfl, rfl⟩, if_neg (by rw [h]; decide), ew, cl_pos ⟨rfl, LeSt.refl _⟩, cl_pos trivial]
    rfl
  · rw [if_neg h]
    refine (SC.of (cr := .ret (.tup [.sc (.slice none 0 0), i64 (chkV ps vs n op arg k a b c R W)]) []) hW2 hX2 hC (ltab2_cons (x := ⟨0, bodyOf E2 15 0, S15m nm ps vs n op arg k a b c R W n (fun _ _ => 0), True, .exit 0, T15 n (fun _ _ => 0), .exit 0, T15 n (fun _ _ => 0)⟩) ⟨fun _ => SL.by2 (m := 128) (r := 48) tab_nil hX2 ltab2_nil ((r15m nm ps vs n op arg k a b c R W n _ _).trans rfl), fun g => absurd trivial g⟩ ltab2_nil) ((f15 nm ps vs n op arg k a b c R W (fun _ _ => 0) _ _).trans ?_)).le ?_
    · rw [cl_pos ⟨rfl, rfl⟩, if_pos (neT h)]
    · exact Le.tup (LeL.cons Le.nil_ro (LeL.refl _))
end Go.Proofs.Ythegipdgillngaa
