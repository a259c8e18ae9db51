/- Texts joined. -/
import Derived.Test.YtniogljhkjbcgaaDoorQD
/- TypesSubstitutes, lifted. -/
namespace Go.Proofs.YtniogljhkjbcgaaDoor
open Go Go.Am Go.Proofs
set_option linter.unusedSimpArgs false
set_option linter.unusedVariables false
set_option maxRecDepth 100000
abbrev a_replaced : Type := Int × Int × ByteArray × Nat × (Nat → List V) × ByteArray × Int × Int × ByteArray × Nat × (Nat → List V)
abbrev g_replaced : Type := Int × Int × ByteArray × Nat × (Nat → List V)
def A_replaced : a_replaced → List V × List (Option Chunk) := (fun x => (fun (nk : Int) (nn : Int) (ns : ByteArray) (nm : Nat) (nf : Nat → List V) (s : ByteArray) (bk : Int) (bn : Int) (bs : ByteArray) (bm : Nat) (bf : Nat → List V) => (([.agg [i64 nk, i64 nn, st ns, .ro 4 nm nf], st s, .agg [i64 bk, i64 bn, st bs, .ro 4 bm bf]] : List V), ([] : List (Option Chunk)))) x.1 x.2.1 x.2.2.1 x.2.2.2.1 x.2.2.2.2.1 x.2.2.2.2.2.1 x.2.2.2.2.2.2.1 x.2.2.2.2.2.2.2.1 x.2.2.2.2.2.2.2.2.1 x.2.2.2.2.2.2.2.2.2.1 x.2.2.2.2.2.2.2.2.2.2)
def d_replaced (t : List V × List (Option Chunk)) : a_replaced := ((vI ((vAg (t.1.getD 0 .junk)).getD 0 .junk)), (vI ((vAg (t.1.getD 0 .junk)).getD 1 .junk)), (vS ((vAg (t.1.getD 0 .junk)).getD 2 .junk)), (vRoN ((vAg (t.1.getD 0 .junk)).getD 3 .junk)), (vRoF ((vAg (t.1.getD 0 .junk)).getD 3 .junk)), (vS (t.1.getD 1 .junk)), (vI ((vAg (t.1.getD 2 .junk)).getD 0 .junk)), (vI ((vAg (t.1.getD 2 .junk)).getD 1 .junk)), (vS ((vAg (t.1.getD 2 .junk)).getD 2 .junk)), (vRoN ((vAg (t.1.getD 2 .junk)).getD 3 .junk)), (vRoF ((vAg (t.1.getD 2 .junk)).getD 3 .junk)))
theorem i_replaced : ∀ x y, A_replaced x = A_replaced y → x = y := fun x y h => (congrArg d_replaced h :)
def R_replaced : g_replaced → CRes := (fun z => (fun (nk : Int) (nn : Int) (ns : ByteArray) (nm : Nat) (nf : Nat → List V) => .ret (.agg [i64 nk, i64 nn, st ns, .ro 4 nm nf]) []) z.1 z.2.1 z.2.2.1 z.2.2.2.1 z.2.2.2.2 : (Int × Int × ByteArray × Nat × (Nat → List V)) → CRes)
def x_replaced (z : g_replaced) (k : CRes → Option Ans) : Option Ans := k (R_replaced z)
theorem xe_replaced : ∀ z k, x_replaced z k = k (R_replaced z) := fun z k => rfl
abbrev a_replacedN : Type := Int × Int × ByteArray × Nat × (Nat → Int) × (Nat → Int) × (Nat → ByteArray) × (Nat → Nat) × (Nat → Nat → List V) × ByteArray × Int × Int × ByteArray × Nat × (Nat → List V)
abbrev g_replacedN : Type := (Int × Int × ByteArray × Nat × (Nat → List V)) ⊕ (Int × Int × ByteArray) ⊕ (Int × Int × ByteArray × Nat × (Nat → Int) × (Nat → Int) × (Nat → ByteArray) × (Nat → Nat) × (Nat → Nat → List V))
def A_replacedN : a_replacedN → List V × List (Option Chunk) := (fun x => (fun (nk : Int) (nn : Int) (ns : ByteArray) (nm : Nat) (ek : Nat → Int) (en : Nat → Int) (es : Nat → ByteArray) (em : Nat → Nat) (ef : Nat → Nat → List V) (s : ByteArray) (bk : Int) (bn : Int) (bs : ByteArray) (bm : Nat) (bf : Nat → List V) => (([.agg [i64 nk, i64 nn, st ns, .ro 4 nm (fun j => [i64 (ek j), i64 (en j), st (es j), .ro 4 (em j) (ef j)])], st s, .agg [i64 bk, i64 bn, st bs, .ro 4 bm bf]] : List V), ([] : List (Option Chunk)))) x.1 x.2.1 x.2.2.1 x.2.2.2.1 x.2.2.2.2.1 x.2.2.2.2.2.1 x.2.2.2.2.2.2.1 x.2.2.2.2.2.2.2.1 x.2.2.2.2.2.2.2.2.1 x.2.2.2.2.2.2.2.2.2.1 x.2.2.2.2.2.2.2.2.2.2.1 x.2.2.2.2.2.2.2.2.2.2.2.1 x.2.2.2.2.2.2.2.2.2.2.2.2.1 x.2.2.2.2.2.2.2.2.2.2.2.2.2.1 x.2.2.2.2.2.2.2.2.2.2.2.2.2.2)
def R_replacedN : g_replacedN → CRes := Sum.elim ((fun z => CRes.ret (V.agg [i64 (z.1), i64 (z.2.1), st (z.2.2.1), V.ro 4 (z.2.2.2.1) (z.2.2.2.2)]) [] : (Int × Int × ByteArray × Nat × (Nat → List V)) → CRes)) (Sum.elim ((fun z => CRes.ret (V.agg [i64 (z.1), i64 (z.2.1), st (z.2.2), nilS]) [] : (Int × Int × ByteArray) → CRes)) ((fun z => CRes.ret (V.agg [i64 (z.1), i64 (z.2.1), st (z.2.2.1), V.sl 0 4 0 (z.2.2.2.1)]) [some (Chunk.row 24 4 (z.2.2.2.1) fun (j : Nat) => [i64 (z.2.2.2.2.1 j), i64 (z.2.2.2.2.2.1 j), st (z.2.2.2.2.2.2.1 j), V.ro 4 (z.2.2.2.2.2.2.2.1 j) (z.2.2.2.2.2.2.2.2 j)])] : (Int × Int × ByteArray × Nat × (Nat → Int) × (Nat → Int) × (Nat → ByteArray) × (Nat → Nat) × (Nat → Nat → List V)) → CRes)))
abbrev replacedN_l0_a : Type := (Unit) ⊕ ((Nat → Int) × (Nat → Int) × (Nat → ByteArray) × (Nat → Nat) × (Nat → Nat → List V) × Int × Nat)
abbrev replacedN_l0_g : Type := (Unit) ⊕ (Nat × (Nat → Int) × (Nat → Int) × (Nat → ByteArray) × (Nat → Nat) × (Nat → Nat → List V))
def replacedN_l0_S0 (x : a_replacedN) (y : Unit) : St := { fr := [V.junk, st (x.2.2.2.2.2.2.2.2.2.1), V.junk, V.ptr 0 0, V.junk, V.ptr 1 0, V.ptr 2 0, V.ptr 3 0, i64 (0 : Int)] ++ jk 38, H := hp [some (Chunk.blk [i64 (x.1), i64 (x.2.1), st (x.2.2.1), V.ro 4 (x.2.2.2.1) fun (j : Nat) => [i64 (x.2.2.2.2.1 j), i64 (x.2.2.2.2.2.1 j), st (x.2.2.2.2.2.2.1 j), V.ro 4 (x.2.2.2.2.2.2.2.1 j) (x.2.2.2.2.2.2.2.2.1 j)]]), some (Chunk.blk [i64 (x.2.2.2.2.2.2.2.2.2.2.1), i64 (x.2.2.2.2.2.2.2.2.2.2.2.1), st (x.2.2.2.2.2.2.2.2.2.2.2.2.1), V.ro 4 (x.2.2.2.2.2.2.2.2.2.2.2.2.2.1) (x.2.2.2.2.2.2.2.2.2.2.2.2.2.2)]), some (Chunk.blk [i64 (0 : Int), i64 (0 : Int), st { data := #[] }, nilS]), some (Chunk.blk [i64 (x.1), i64 (x.2.1), st (x.2.2.1), nilS])], nx := 4, rt := 0, me := 18 }
def replacedN_l0_d0 (s : St) : Unit := ()
def replacedN_l0_S1 (x : a_replacedN) (y : (Nat → Int) × (Nat → Int) × (Nat → ByteArray) × (Nat → Nat) × (Nat → Nat → List V) × Int × Nat) : St := { fr := [V.junk, st (x.2.2.2.2.2.2.2.2.2.1), V.junk, V.ptr 0 0, V.junk, V.ptr 1 0, V.ptr 2 0, V.ptr 3 0, i64 (y.2.2.2.2.2.1)] ++ jk 38, H := hp [some (Chunk.blk [i64 (x.1), i64 (x.2.1), st (x.2.2.1), V.ro 4 (x.2.2.2.1) fun (j : Nat) => [i64 (x.2.2.2.2.1 j), i64 (x.2.2.2.2.2.1 j), st (x.2.2.2.2.2.2.1 j), V.ro 4 (x.2.2.2.2.2.2.2.1 j) (x.2.2.2.2.2.2.2.2.1 j)]]), some (Chunk.blk [i64 (x.2.2.2.2.2.2.2.2.2.2.1), i64 (x.2.2.2.2.2.2.2.2.2.2.2.1), st (x.2.2.2.2.2.2.2.2.2.2.2.2.1), V.ro 4 (x.2.2.2.2.2.2.2.2.2.2.2.2.2.1) (x.2.2.2.2.2.2.2.2.2.2.2.2.2.2)]), some (Chunk.blk [i64 (0 : Int), i64 (0 : Int), st { data := #[] }, nilS]), some (Chunk.blk [i64 (x.1), i64 (x.2.1), st (x.2.2.1), V.sl 4 4 0 (y.2.2.2.2.2.2)]), some (Chunk.row 24 4 (y.2.2.2.2.2.2) fun (j : Nat) => [i64 (y.1 j), i64 (y.2.1 j), st (y.2.2.1 j), V.ro 4 (y.2.2.2.1 j) (y.2.2.2.2.1 j)])], nx := 5, rt := 0, me := 18 }
def replacedN_l0_d1 (s : St) : (Nat → Int) × (Nat → Int) × (Nat → ByteArray) × (Nat → Nat) × (Nat → Nat → List V) × Int × Nat := ((fun j => (vI (((chF (s.H 4)) j).getD 0 .junk))), (fun j => (vI (((chF (s.H 4)) j).getD 1 .junk))), (fun j => (vS (((chF (s.H 4)) j).getD 2 .junk))), (fun j => (vRoN (((chF (s.H 4)) j).getD 3 .junk))), (fun j => (vRoF (((chF (s.H 4)) j).getD 3 .junk))), (vI (s.fr.getD 8 .junk)), (vSlN ((chB (s.H 3)).getD 3 .junk)))
def replacedN_l0_S (x : a_replacedN) : replacedN_l0_a → St := (Sum.elim (replacedN_l0_S0 x) (replacedN_l0_S1 x))
def replacedN_l0_d (s : St) : replacedN_l0_a := (match s.nx == 4 with | true => (.inl (replacedN_l0_d0 s)) | false => (.inr (replacedN_l0_d1 s)))
theorem replacedN_l0_i (x : a_replacedN) : ∀ y y', replacedN_l0_S x y = replacedN_l0_S x y' → y = y' := fun y y' h => by rcases y with y | y <;> rcases y' with y | y <;> exact (congrArg replacedN_l0_d h :)
def replacedN_l0_T (x : a_replacedN) : replacedN_l0_g → Ex × St := (Sum.elim (fun z => (Ex.exit 0, { fr := jk 6 ++ [V.ptr 0 0, V.ptr 1 0] ++ jk 39, H := hp [some (Chunk.blk [i64 (0 : Int), i64 (0 : Int), st { data := #[] }, nilS]), some (Chunk.blk [i64 (x.1), i64 (x.2.1), st (x.2.2.1), nilS])], nx := 2, rt := 0, me := 18 })) (fun z => (Ex.exit 0, { fr := jk 6 ++ [V.ptr 0 0, V.ptr 1 0] ++ jk 39, H := hp [some (Chunk.blk [i64 (0 : Int), i64 (0 : Int), st { data := #[] }, nilS]), some (Chunk.blk [i64 (x.1), i64 (x.2.1), st (x.2.2.1), V.sl 2 4 0 (z.1)]), some (Chunk.row 24 4 (z.1) fun (j : Nat) => [i64 (z.2.1 j), i64 (z.2.2.1 j), st (z.2.2.2.1 j), V.ro 4 (z.2.2.2.2.1 j) (z.2.2.2.2.2 j)])], nx := 3, rt := 0, me := 18 })))
def replacedN_l0_x (x : a_replacedN) (z : replacedN_l0_g) (k : KX) : Option Ans := Sum.elim (fun za => k (replacedN_l0_T x (.inl za)).1 (replacedN_l0_T x (.inl za)).2) (fun zb => k (replacedN_l0_T x (.inr zb)).1 (replacedN_l0_T x (.inr zb)).2) z
theorem replacedN_l0_xe (x : a_replacedN) : ∀ z k, replacedN_l0_x x z k = k (replacedN_l0_T x z).1 (replacedN_l0_T x z).2 := fun z k => by
  rcases z with z | z <;> rfl
theorem replacedN_l0_k0 (x : a_replacedN) (z : Unit) : KCM [(0, 192)] 64 (replacedN_l0_T x (.inl z)).1 (replacedN_l0_T x (.inl z)).2 = some (.l (replacedN_l0_T x (.inl z)).1 (replacedN_l0_T x (.inl z)).2) := by kernel_rfl
theorem replacedN_l0_k1 (x : a_replacedN) (z : Nat × (Nat → Int) × (Nat → Int) × (Nat → ByteArray) × (Nat → Nat) × (Nat → Nat → List V)) : KCM [(0, 192)] 64 (replacedN_l0_T x (.inr z)).1 (replacedN_l0_T x (.inr z)).2 = some (.l (replacedN_l0_T x (.inr z)).1 (replacedN_l0_T x (.inr z)).2) := by kernel_rfl
def replacedN_l0_t0 {β : Type} (c_replaced : a_replaced → Option g_replaced) (x : a_replacedN) (y : Unit) (nx : replacedN_l0_a → Option β) (dn : replacedN_l0_g → Option β) : Option β :=
 if decide ((0 : Int) < ((x.2.2.2.1 : Nat) : Int)) = true then
  if (0 : Int) ≤ (0 : Int) ∧ (0 : Int) < ((x.2.2.2.1 : Nat) : Int) then
   (c_replaced ((x.2.2.2.2.1 0, x.2.2.2.2.2.1 0, x.2.2.2.2.2.2.1 0, x.2.2.2.2.2.2.2.1 0, x.2.2.2.2.2.2.2.2.1 0, x.2.2.2.2.2.2.2.2.2))).bind fun z194 =>
    nx (.inr ((fun j => z194.1, fun (j : Nat) => z194.2.1, fun (j : Nat) => z194.2.2.1, fun (j : Nat) => z194.2.2.2.1, fun (j : Nat) => z194.2.2.2.2, (1 : Int), 1)))
  else
   none
 else
  dn (.inl ())
theorem replacedN_l0_n0 {β : Type} (c_replaced : a_replaced → Option g_replaced) (x : a_replacedN) (y : Unit) (nx : replacedN_l0_a → Option β) (dn : replacedN_l0_g → Option β) : replacedN_l0_t0 c_replaced x y nx dn = (replacedN_l0_t0 c_replaced x y (fun y => some (.inl y)) (fun z => some (.inr z))).bind fun r => Sum.elim nx dn r := by
  unfold replacedN_l0_t0
  repeat' first | exact free_none | refine free_bind (fun z => ?_) | refine free_ite ?_ ?_ | refine free_sum (fun z => ?_) (fun z => ?_) | rfl
theorem replacedN_l0_r0 (c_replaced : a_replaced → Option g_replaced) (x : a_replacedN) (y : Unit) (lo : LoopT) : loopK E5 (ftab 18 (fun _ _ => true) A_replaced x_replaced c_replaced ca0) lo 0 490 (bodyOf E5 18 0) (replacedN_l0_S x (.inl y)) (KCM [(0, 192)] 64) = replacedN_l0_t0 (fun x => viaF A_replaced c_replaced (A_replaced x)) x y (fun y => lo 0 490 (bodyOf E5 18 0) (replacedN_l0_S x y) (KCM [(0, 192)] 64)) (fun z => some (.l (replacedN_l0_T x z).1 (replacedN_l0_T x z).2)) := by kernel_rfl
def replacedN_l0_t1 {β : Type} (c_replaced : a_replaced → Option g_replaced) (x : a_replacedN) (y : (Nat → Int) × (Nat → Int) × (Nat → ByteArray) × (Nat → Nat) × (Nat → Nat → List V) × Int × Nat) (nx : replacedN_l0_a → Option β) (dn : replacedN_l0_g → Option β) : Option β :=
 if decide (y.2.2.2.2.2.1 < ((x.2.2.2.1 : Nat) : Int)) = true then
  if (0 : Int) ≤ y.2.2.2.2.2.1 ∧ y.2.2.2.2.2.1 < ((x.2.2.2.1 : Nat) : Int) then
   (c_replaced ((x.2.2.2.2.1 (Int.toNat (y.2.2.2.2.2.1)), x.2.2.2.2.2.1 (Int.toNat (y.2.2.2.2.2.1)), x.2.2.2.2.2.2.1 (Int.toNat (y.2.2.2.2.2.1)), x.2.2.2.2.2.2.2.1 (Int.toNat (y.2.2.2.2.2.1)), x.2.2.2.2.2.2.2.2.1 (Int.toNat (y.2.2.2.2.2.1)), x.2.2.2.2.2.2.2.2.2))).bind fun z207 =>
    if (y.2.2.2.2.2.2 + 1) * 56 ≤ roomBound ∧ y.2.2.2.2.2.2 + 1 ≤ maxLen ∧ y.2.2.2.2.2.2 ≤ y.2.2.2.2.2.2 then
     nx (.inr ((fun j => if j < y.2.2.2.2.2.2 then y.1 j else z207.1, fun (j : Nat) => if j < y.2.2.2.2.2.2 then y.2.1 j else z207.2.1, fun (j : Nat) => if j < y.2.2.2.2.2.2 then y.2.2.1 j else z207.2.2.1, fun (j : Nat) => if j < y.2.2.2.2.2.2 then y.2.2.2.1 j else z207.2.2.2.1, fun (j j_1 : Nat) => if j < y.2.2.2.2.2.2 then y.2.2.2.2.1 j j_1 else z207.2.2.2.2 j_1, w (y.2.2.2.2.2.1 + (1 : Int)), y.2.2.2.2.2.2 + 1)))
    else
     none
  else
   none
 else
  dn (.inr ((y.2.2.2.2.2.2, y.1, y.2.1, y.2.2.1, y.2.2.2.1, y.2.2.2.2.1)))
theorem replacedN_l0_n1 {β : Type} (c_replaced : a_replaced → Option g_replaced) (x : a_replacedN) (y : (Nat → Int) × (Nat → Int) × (Nat → ByteArray) × (Nat → Nat) × (Nat → Nat → List V) × Int × Nat) (nx : replacedN_l0_a → Option β) (dn : replacedN_l0_g → Option β) : replacedN_l0_t1 c_replaced x y nx dn = (replacedN_l0_t1 c_replaced x y (fun y => some (.inl y)) (fun z => some (.inr z))).bind fun r => Sum.elim nx dn r := by
  unfold replacedN_l0_t1
  repeat' first | exact free_none | refine free_bind (fun z => ?_) | refine free_ite ?_ ?_ | refine free_sum (fun z => ?_) (fun z => ?_) | rfl
theorem replacedN_l0_r1 (c_replaced : a_replaced → Option g_replaced) (x : a_replacedN) (y : (Nat → Int) × (Nat → Int) × (Nat → ByteArray) × (Nat → Nat) × (Nat → Nat → List V) × Int × Nat) (lo : LoopT) : loopK E5 (ftab 18 (fun _ _ => true) A_replaced x_replaced c_replaced ca0) lo 0 490 (bodyOf E5 18 0) (replacedN_l0_S x (.inr y)) (KCM [(0, 192)] 64) = replacedN_l0_t1 (fun x => viaF A_replaced c_replaced (A_replaced x)) x y (fun y => lo 0 490 (bodyOf E5 18 0) (replacedN_l0_S x y) (KCM [(0, 192)] 64)) (fun z => some (.l (replacedN_l0_T x z).1 (replacedN_l0_T x z).2)) := by kernel_rfl
noncomputable def replacedN_l0 (c_replaced : a_replaced → Option g_replaced) (q : Nat) (x : a_replacedN) : replacedN_l0_a → Option replacedN_l0_g := lpG (Sum.elim (fun y => replacedN_l0_t0 c_replaced x y (fun y => some (.inl y)) (fun z => some (.inr z))) (fun y => replacedN_l0_t1 c_replaced x y (fun y => some (.inl y)) (fun z => some (.inr z)))) q
theorem replacedN_l0_s (c_replaced : a_replaced → Option g_replaced) (h_replaced : ∀ x z, c_replaced x = some z → SC E5 18 (A_replaced x).1 (A_replaced x).2 (R_replaced z)) (q : Nat) (x : a_replacedN) : ∀ y z, replacedN_l0 c_replaced q x y = some z → SL E5 (bodyOf E5 18 0) (replacedN_l0_S x y) (replacedN_l0_T x z).1 (replacedN_l0_T x z).2 :=
  SL.lp (LT := fun lo => lo) (T := replacedN_l0_T x) (S := replacedN_l0_S x) (ftab_cons h_replaced xe_replaced ca0_sound) hX5 (fun lo h => h) (fun lo y => by
      rcases y with y | y
      · exact (replacedN_l0_r0 c_replaced x y lo).trans (by rw [via_eq i_replaced c_replaced]; exact replacedN_l0_n0 _ _ _ _ _)
      · exact (replacedN_l0_r1 c_replaced x y lo).trans (by rw [via_eq i_replaced c_replaced]; exact replacedN_l0_n1 _ _ _ _ _)) (fun z => by rcases z with z | z <;> first | exact replacedN_l0_k0 x z | exact replacedN_l0_k1 x z) q
def t_replacedN {β : Type} (c_replaced : a_replaced → Option g_replaced) (l_replacedN_l0 : replacedN_l0_a → Option replacedN_l0_g) (x : a_replacedN) (dn : g_replacedN → Option β) : Option β :=
 if (x.1 == (17 : Int)) = true then
  if (ByteArray.toList (x.2.2.1) == ByteArray.toList (x.2.2.2.2.2.2.2.2.2.1)) = true then
   dn (.inl (x.2.2.2.2.2.2.2.2.2.2))
  else
   (l_replacedN_l0 (.inl ())).bind fun z134 =>
    Sum.elim (fun z134a =>
    dn (.inr (.inl ((x.1, x.2.1, x.2.2.1))))) (fun z134b =>
    dn (.inr (.inr ((x.1, x.2.1, x.2.2.1, z134b))))) z134
 else
  (l_replacedN_l0 (.inl ())).bind fun z136 =>
   Sum.elim (fun z136a =>
   dn (.inr (.inl ((x.1, x.2.1, x.2.2.1))))) (fun z136b =>
   dn (.inr (.inr ((x.1, x.2.1, x.2.2.1, z136b))))) z136
theorem n_replacedN {β : Type} (c_replaced : a_replaced → Option g_replaced) (l_replacedN_l0 : replacedN_l0_a → Option replacedN_l0_g) (x : a_replacedN) (dn : g_replacedN → Option β) : t_replacedN c_replaced l_replacedN_l0 x dn = (t_replacedN c_replaced l_replacedN_l0 x some).bind dn := by
  unfold t_replacedN
  repeat' first | exact free_none | refine free_bind (fun z => ?_) | refine free_ite ?_ ?_ | refine free_sum (fun z => ?_) (fun z => ?_) | rfl
theorem r_replacedN (c_replaced : a_replaced → Option g_replaced) (l_replacedN_l0 : replacedN_l0_a → Option replacedN_l0_g) (x : a_replacedN) : callK E5 (ftab 18 (fun _ _ => true) A_replaced x_replaced c_replaced ca0) (ltabF 0 (fun _ => true) (bodyOf E5 18 0) (replacedN_l0_S x) (replacedN_l0_x x) l_replacedN_l0 lo0) 18 (A_replacedN x).1 (A_replacedN x).2 K = t_replacedN (fun x => viaF A_replaced c_replaced (A_replaced x)) (fun y => viaF (fun y => (bodyOf E5 18 0, replacedN_l0_S x y)) l_replacedN_l0 (bodyOf E5 18 0, replacedN_l0_S x y)) x (fun z => some (.c (R_replacedN z))) := by kernel_rfl
theorem s_replacedN (c_replaced : a_replaced → Option g_replaced) (h_replaced : ∀ x z, c_replaced x = some z → SC E5 18 (A_replaced x).1 (A_replaced x).2 (R_replaced z)) (q : Nat) (x : a_replacedN) (z : g_replacedN) (h : t_replacedN c_replaced (replacedN_l0 c_replaced q x) x some = some z) : SC E5 18 (A_replacedN x).1 (A_replacedN x).2 (R_replacedN z) := by
  refine SC.of hW5 hX5 (ftab_cons h_replaced xe_replaced ca0_sound) (ltabF_cons (replacedN_l0_s c_replaced h_replaced q x) (replacedN_l0_xe x) lo0_sound) ((r_replacedN c_replaced (replacedN_l0 c_replaced q x) x).trans ?_)
  rw [via_eq i_replaced c_replaced, via_eq (pair_inj (bodyOf E5 18 0) (replacedN_l0_i x)) (replacedN_l0 c_replaced q x), n_replacedN, h]; rfl
def cv_replaced : g_replacedN → g_replaced := Sum.elim id (Sum.elim (fun z => (z.1, z.2.1, z.2.2, 0, fun _ => [i64 0, i64 0, st ByteArray.empty, .ro 4 0 (fun _ => [])])) (fun z => (z.1, z.2.1, z.2.2.1, z.2.2.2.1, fun j => [i64 (z.2.2.2.2.1 j), i64 (z.2.2.2.2.2.1 j), st (z.2.2.2.2.2.2.1 j), .ro 4 (z.2.2.2.2.2.2.2.1 j) (z.2.2.2.2.2.2.2.2 j)])))
theorem cvs_replaced (a : List V) (L : List (Option Chunk)) (z : g_replacedN) (h : SC E5 18 a L (R_replacedN z)) : SC E5 18 a L (R_replaced (cv_replaced z)) := by
  rcases z with z | z | z
  · exact h
  · exact h.le (Le.agg (LeL.cons (Le.refl _) (LeL.cons (Le.refl _) (LeL.cons (Le.refl _) (LeL.cons Le.nil_ro LeL.nil)))))
  · exact (SC.give h (by simp [V.bw, V.bw2, V.bw1, hp, V.pure, pureL])).le (Le.of_eq (by simp [V.bw, V.bw2, V.bw1, hp]; exact ⟨rfl, rfl, rfl, rfl, rfl⟩))
open Classical in
noncomputable def replaced : Nat → a_replaced → Option g_replaced
  | 0, _ => none
  | q + 1, x => if OpenN x.2.2.2.2.1 then ((t_replacedN (replaced q) (replacedN_l0 (replaced q) q (x.1, x.2.1, x.2.2.1, x.2.2.2.1, opK x.2.2.2.2.1, opN x.2.2.2.2.1, opS x.2.2.2.2.1, opM x.2.2.2.2.1, opF x.2.2.2.2.1, x.2.2.2.2.2)) (x.1, x.2.1, x.2.2.1, x.2.2.2.1, opK x.2.2.2.2.1, opN x.2.2.2.2.1, opS x.2.2.2.2.1, opM x.2.2.2.2.1, opF x.2.2.2.2.1, x.2.2.2.2.2) some).map cv_replaced) else none
theorem sc_replaced : ∀ (q : Nat) (x : a_replaced) (z : g_replaced), replaced q x = some z → SC E5 18 (A_replaced x).1 (A_replaced x).2 (R_replaced z) := by
  intro q
  induction q with
  | zero => intro x z h; cases h
  | succ q ih =>
    intro x z h
    unfold replaced at h
    split at h
    · rename_i hO
      obtain ⟨z2, h2, rfl⟩ := Option.map_eq_some_iff.1 h
      have this := s_replacedN (replaced q) ih q (x.1, x.2.1, x.2.2.1, x.2.2.2.1, opK x.2.2.2.2.1, opN x.2.2.2.2.1, opS x.2.2.2.2.1, opM x.2.2.2.2.1, opF x.2.2.2.2.1, x.2.2.2.2.2) z2 h2
      unfold A_replacedN at this
      unfold A_replaced
      simp only at this ⊢
      rw [open_eq hO] at this
      exact cvs_replaced _ _ _ this
    · cases h
abbrev a_subst : Type := Int × Int × ByteArray × Nat × (Nat → List V) × Int × Int × ByteArray × Nat × (Nat → List V) × Nat × (Nat → ByteArray) × (Nat → Int) × (Nat → Int) × (Nat → Int) × (Nat → Int) × (Nat → Int) × Int
abbrev g_subst : Type := Bool
def A_subst : a_subst → List V × List (Option Chunk) := (fun x => (fun (nk : Int) (nn : Int) (ns : ByteArray) (nm : Nat) (nf : Nat → List V) (bk : Int) (bn : Int) (bs : ByteArray) (bm : Nat) (bf : Nat → List V) (vn : Nat) (vs : Nat → ByteArray) (v0 : Nat → Int) (v1 : Nat → Int) (v2 : Nat → Int) (v3 : Nat → Int) (v4 : Nat → Int) (ax : Int) => (([.agg [i64 nk, i64 nn, st ns, .ro 4 nm nf], .agg [i64 bk, i64 bn, st bs, .ro 4 bm bf], .ro 6 vn (fun j => [st (vs j), i64 (v0 j), i64 (v1 j), i64 (v2 j), i64 (v3 j), i64 (v4 j)]), .sc (.int .u8 ax)] : List V), ([] : List (Option Chunk)))) x.1 x.2.1 x.2.2.1 x.2.2.2.1 x.2.2.2.2.1 x.2.2.2.2.2.1 x.2.2.2.2.2.2.1 x.2.2.2.2.2.2.2.1 x.2.2.2.2.2.2.2.2.1 x.2.2.2.2.2.2.2.2.2.1 x.2.2.2.2.2.2.2.2.2.2.1 x.2.2.2.2.2.2.2.2.2.2.2.1 x.2.2.2.2.2.2.2.2.2.2.2.2.1 x.2.2.2.2.2.2.2.2.2.2.2.2.2.1 x.2.2.2.2.2.2.2.2.2.2.2.2.2.2.1 x.2.2.2.2.2.2.2.2.2.2.2.2.2.2.2.1 x.2.2.2.2.2.2.2.2.2.2.2.2.2.2.2.2.1 x.2.2.2.2.2.2.2.2.2.2.2.2.2.2.2.2.2)
def R_subst : g_subst → CRes := (fun z => CRes.ret (bo z) [] : (Bool) → CRes)
def t_subst {β : Type} (c_Nodes : a_Nodes → Option g_Nodes) (c_lives : a_lives → Option g_lives) (c_VarsR : a_VarsR → Option g_VarsR) (c_tableS : a_tableS → Option g_tableS) (c_table : a_table → Option g_table) (c_replaced : a_replaced → Option g_replaced) (c_Of : a_Of → Option g_Of) (x : a_subst) (dn : g_subst → Option β) : Option β :=
 (c_VarsR ((x.2.2.2.2.2.2.2.2.2.2.1, x.2.2.2.2.2.2.2.2.2.2.2.1, x.2.2.2.2.2.2.2.2.2.2.2.2.1, x.2.2.2.2.2.2.2.2.2.2.2.2.2.1, x.2.2.2.2.2.2.2.2.2.2.2.2.2.2.1, x.2.2.2.2.2.2.2.2.2.2.2.2.2.2.2.1, x.2.2.2.2.2.2.2.2.2.2.2.2.2.2.2.2.1))).bind fun z7 =>
  (c_Nodes ((x.1, x.2.1, x.2.2.1, x.2.2.2.1, x.2.2.2.2.1, (100 : Int)))).bind fun z14 =>
   if decide (z14 > (100 : Int)) = true then
    (c_lives ()).bind fun z15 =>
     dn z15
   else
    (c_Nodes ((x.2.2.2.2.2.1, x.2.2.2.2.2.2.1, x.2.2.2.2.2.2.2.1, x.2.2.2.2.2.2.2.2.1, x.2.2.2.2.2.2.2.2.2.1, (100 : Int)))).bind fun z22 =>
     if decide (z22 > (100 : Int)) = true then
      (c_lives ()).bind fun z23 =>
       dn z23
     else
      if decide (((x.2.2.2.2.2.2.2.2.2.2.1 : Nat) : Int) > (40 : Int)) = true then
       (c_lives ()).bind fun z24 =>
        dn z24
      else
       if (((z7.1 : Nat) : Int) == (0 : Int)) = true then
        (c_lives ()).bind fun z25 =>
         dn z25
       else
        (c_table z7).bind fun z33 =>
         (c_Of ((x.2.2.2.2.2.1, x.2.2.2.2.2.2.1, x.2.2.2.2.2.2.2.1, x.2.2.2.2.2.2.2.2.1, x.2.2.2.2.2.2.2.2.2.1, z33))).bind fun z46 =>
          if (z46.2.2.2.2.2.2.1 != (0 : Int)) = true then
           (c_lives ()).bind fun z47 =>
            dn z47
          else
           if z46.1 = true then
            (c_lives ()).bind fun z48 =>
             dn z48
           else
            if ((z7.1 : Nat) : Int) = (0 : Int) then
             none
            else
             if (0 + z7.1) * 56 ≤ roomBound ∧ 0 + z7.1 ≤ maxLen ∧ 0 ≤ 0 then
              if (0 : Int) ≤ Int.tmod (w (x.2.2.2.2.2.2.2.2.2.2.2.2.2.2.2.2.2)) ((z7.1 : Nat) : Int) ∧ Int.tmod (w (x.2.2.2.2.2.2.2.2.2.2.2.2.2.2.2.2.2)) ((z7.1 : Nat) : Int) < ((0 + z7.1 : Nat) : Int) then
               if 0 + Int.toNat (Int.tmod (w (x.2.2.2.2.2.2.2.2.2.2.2.2.2.2.2.2.2)) ((z7.1 : Nat) : Int)) < 0 + z7.1 ∧ 6 = 6 then
                (c_tableS ((0 + z7.1, z7.2.1, fun (j : Nat) => if j = 0 + Int.toNat (Int.tmod (w (x.2.2.2.2.2.2.2.2.2.2.2.2.2.2.2.2.2)) ((z7.1 : Nat) : Int)) then z46.2.1 else z7.2.2.1 j, fun (j : Nat) => if j = 0 + Int.toNat (Int.tmod (w (x.2.2.2.2.2.2.2.2.2.2.2.2.2.2.2.2.2)) ((z7.1 : Nat) : Int)) then z46.2.2.1 else z7.2.2.2.1 j, fun (j : Nat) => if j = 0 + Int.toNat (Int.tmod (w (x.2.2.2.2.2.2.2.2.2.2.2.2.2.2.2.2.2)) ((z7.1 : Nat) : Int)) then z46.2.2.2.1 else z7.2.2.2.2.1 j, fun (j : Nat) => if j = 0 + Int.toNat (Int.tmod (w (x.2.2.2.2.2.2.2.2.2.2.2.2.2.2.2.2.2)) ((z7.1 : Nat) : Int)) then z46.2.2.2.2.1 else z7.2.2.2.2.2.1 j, fun (j : Nat) => if j = 0 + Int.toNat (Int.tmod (w (x.2.2.2.2.2.2.2.2.2.2.2.2.2.2.2.2.2)) ((z7.1 : Nat) : Int)) then z46.2.2.2.2.2.1 else z7.2.2.2.2.2.2 j))).bind fun z56 =>
                 (c_Of ((x.1, x.2.1, x.2.2.1, x.2.2.2.1, x.2.2.2.2.1, z56.2.2.2.2.2.2.2))).bind fun z69 =>
                  if (z69.2.2.2.2.2.2.1 != (0 : Int)) = true then
                   (c_lives ()).bind fun z70 =>
                    dn z70
                  else
                   if (0 : Int) ≤ Int.tmod (w (x.2.2.2.2.2.2.2.2.2.2.2.2.2.2.2.2.2)) ((z7.1 : Nat) : Int) ∧ Int.tmod (w (x.2.2.2.2.2.2.2.2.2.2.2.2.2.2.2.2.2)) ((z7.1 : Nat) : Int) < ((z7.1 : Nat) : Int) then
                    (c_replaced ((x.1, x.2.1, x.2.2.1, x.2.2.2.1, x.2.2.2.2.1, z7.2.1 (Int.toNat (Int.tmod (w (x.2.2.2.2.2.2.2.2.2.2.2.2.2.2.2.2.2)) ((z7.1 : Nat) : Int))), x.2.2.2.2.2.1, x.2.2.2.2.2.2.1, x.2.2.2.2.2.2.2.1, x.2.2.2.2.2.2.2.2.1, x.2.2.2.2.2.2.2.2.2.1))).bind fun z82 =>
                     (c_table z7).bind fun z90 =>
                      (c_Of ((z82.1, z82.2.1, z82.2.2.1, z82.2.2.2.1, z82.2.2.2.2, z90))).bind fun z103 =>
                       if (z103.2.2.2.2.2.2.1 == (0 : Int)) = true then
                        if (z69.1 == z103.1) = true then
                         if (if false = true then !(z69.2.1 == z103.2.1 && (z69.2.2.1 == z103.2.2.1 && (z69.2.2.2.1 == z103.2.2.2.1 && (z69.2.2.2.2.1 == z103.2.2.2.2.1 && (z69.2.2.2.2.2.1 == z103.2.2.2.2.2.1 && true))))) else z69.2.1 == z103.2.1 && (z69.2.2.1 == z103.2.2.1 && (z69.2.2.2.1 == z103.2.2.2.1 && (z69.2.2.2.2.1 == z103.2.2.2.2.1 && (z69.2.2.2.2.2.1 == z103.2.2.2.2.2.1 && true))))) = true then
                          (c_lives ()).bind fun z104 =>
                           dn z104
                         else
                          dn false
                        else
                         dn false
                       else
                        dn false
                   else
                    none
               else
                none
              else
               none
             else
              none
theorem n_subst {β : Type} (c_Nodes : a_Nodes → Option g_Nodes) (c_lives : a_lives → Option g_lives) (c_VarsR : a_VarsR → Option g_VarsR) (c_tableS : a_tableS → Option g_tableS) (c_table : a_table → Option g_table) (c_replaced : a_replaced → Option g_replaced) (c_Of : a_Of → Option g_Of) (x : a_subst) (dn : g_subst → Option β) : t_subst c_Nodes c_lives c_VarsR c_tableS c_table c_replaced c_Of x dn = (t_subst c_Nodes c_lives c_VarsR c_tableS c_table c_replaced c_Of x some).bind dn := by
  unfold t_subst
  repeat' first | exact free_none | refine free_bind (fun z => ?_) | refine free_ite ?_ ?_ | refine free_sum (fun z => ?_) (fun z => ?_) | rfl
theorem r_subst (c_Nodes : a_Nodes → Option g_Nodes) (c_lives : a_lives → Option g_lives) (c_VarsR : a_VarsR → Option g_VarsR) (c_tableS : a_tableS → Option g_tableS) (c_table : a_table → Option g_table) (c_replaced : a_replaced → Option g_replaced) (c_Of : a_Of → Option g_Of) (x : a_subst) : callK E5 (ftab 9 (fun _ _ => true) A_Nodes x_Nodes c_Nodes (ftab 10 (fun _ _ => true) A_lives x_lives c_lives (ftab 11 (fun _ _ => true) A_VarsR x_VarsR c_VarsR (ftab 13 (fun _ L => !L.isEmpty) A_tableS x_tableS c_tableS (ftab 13 (fun _ _ => true) A_table x_table c_table (ftab 18 (fun _ _ => true) A_replaced x_replaced c_replaced (ftab 12 (fun _ _ => true) A_Of x_Of c_Of ca0))))))) lo0 5 (A_subst x).1 (A_subst x).2 K = t_subst (fun x => viaF A_Nodes c_Nodes (A_Nodes x)) (fun x => viaF A_lives c_lives (A_lives x)) (fun x => viaF A_VarsR c_VarsR (A_VarsR x)) (fun x => viaF A_tableS c_tableS (A_tableS x)) (fun x => viaF A_table c_table (A_table x)) (fun x => viaF A_replaced c_replaced (A_replaced x)) (fun x => viaF A_Of c_Of (A_Of x)) x (fun z => some (.c (R_subst z))) := by kernel_rfl
theorem s_subst (c_Nodes : a_Nodes → Option g_Nodes) (h_Nodes : ∀ x z, c_Nodes x = some z → SC E5 9 (A_Nodes x).1 (A_Nodes x).2 (R_Nodes z)) (c_lives : a_lives → Option g_lives) (h_lives : ∀ x z, c_lives x = some z → SC E5 10 (A_lives x).1 (A_lives x).2 (R_lives z)) (c_VarsR : a_VarsR → Option g_VarsR) (h_VarsR : ∀ x z, c_VarsR x = some z → SC E5 11 (A_VarsR x).1 (A_VarsR x).2 (R_VarsR z)) (c_tableS : a_tableS → Option g_tableS) (h_tableS : ∀ x z, c_tableS x = some z → SC E5 13 (A_tableS x).1 (A_tableS x).2 (R_tableS z)) (c_table : a_table → Option g_table) (h_table : ∀ x z, c_table x = some z → SC E5 13 (A_table x).1 (A_table x).2 (R_table z)) (c_replaced : a_replaced → Option g_replaced) (h_replaced : ∀ x z, c_replaced x = some z → SC E5 18 (A_replaced x).1 (A_replaced x).2 (R_replaced z)) (c_Of : a_Of → Option g_Of) (h_Of : ∀ x z, c_Of x = some z → SC E5 12 (A_Of x).1 (A_Of x).2 (R_Of z)) (q : Nat) (x : a_subst) (z : g_subst) (h : t_subst c_Nodes c_lives c_VarsR c_tableS c_table c_replaced c_Of x some = some z) : SC E5 5 (A_subst x).1 (A_subst x).2 (R_subst z) := by
  refine SC.of hW5 hX5 (ftab_cons h_Nodes xe_Nodes (ftab_cons h_lives xe_lives (ftab_cons h_VarsR xe_VarsR (ftab_cons h_tableS xe_tableS (ftab_cons h_table xe_table (ftab_cons h_replaced xe_replaced (ftab_cons h_Of xe_Of ca0_sound))))))) lo0_sound ((r_subst c_Nodes c_lives c_VarsR c_tableS c_table c_replaced c_Of x).trans ?_)
  rw [via_eq i_Nodes c_Nodes, via_eq i_lives c_lives, via_eq i_VarsR c_VarsR, via_eq i_tableS c_tableS, via_eq i_table c_table, via_eq i_replaced c_replaced, via_eq i_Of c_Of, n_subst, h]; rfl
noncomputable def subst (q : Nat) (x : a_subst) : Option g_subst := t_subst (Nodes q) (lives q) (VarsR q) (tableS q) (table q) (replaced q) (Of q) x some
theorem sc_subst (q : Nat) : ∀ (x : a_subst) (z : g_subst), subst q x = some z → SC E5 5 (A_subst x).1 (A_subst x).2 (R_subst z) := fun x z h => s_subst (Nodes q) (sc_Nodes q) (lives q) (sc_lives q) (VarsR q) (sc_VarsR q) (tableS q) (sc_tableS q) (table q) (sc_table q) (replaced q) (sc_replaced q) (Of q) (sc_Of q) q x z h
end Go.Proofs.YtniogljhkjbcgaaDoor
/- Types: an expression in place of a variable (plain). -/
namespace Go.Proofs.YtniogljhkjbcgaaDoor
open Go Go.Am Go.Proofs
set_option linter.unusedSimpArgs false
set_option linter.unusedVariables false
set_option maxRecDepth 100000
mutual
def subV (name : ByteArray) (b : Tr) : Tr → Tr
  | .node k n s l => if k = 17 ∧ s = name then b else .node k n s (subL name b l)
def subL (name : ByteArray) (b : Tr) : List Tr → List Tr
  | [] => []
  | t :: l => subV name b t :: subL name b l
end
theorem subL_len {name : ByteArray} {b : Tr} : ∀ l : List Tr, (subL name b l).length = l.length
  | [] => rfl
  | t :: l => by simp only [subL, List.length_cons, subL_len l]
theorem subL_at {name : ByteArray} {b : Tr} : ∀ (l : List Tr) (j : Nat), (subL name b l)[j]? = (l[j]?).map (subV name b)
  | [], j => by simp [subL]
  | t :: l, 0 => by simp [subL]
  | t :: l, j + 1 => by simpa [subL] using subL_at l j
mutual
theorem siz_sub {name : ByteArray} {b : Tr} : ∀ t : Tr, siz (subV name b t) ≤ siz t * siz b
  | .node k n s l => by
    have hb := siz_pos b
    simp only [subV]
    split
    · have := siz_pos (.node k n s l)
      exact Nat.le_mul_of_pos_left _ this
    · have := sizL_sub (name := name) (b := b) l
      simp only [siz, Nat.add_mul]
      omega
theorem sizL_sub {name : ByteArray} {b : Tr} : ∀ l : List Tr, sizL (subL name b l) ≤ sizL l * siz b
  | [] => by simp [subL, sizL]
  | t :: l => by
    have h1 := siz_sub (name := name) (b := b) t
    have h2 := sizL_sub (name := name) (b := b) l
    simp only [subL, sizL, Nat.add_mul]
    omega
end
abbrev RowT : Type := (Nat → Int) × (Nat → Int) × (Nat → ByteArray) × (Nat → Nat) × (Nat → Nat → List V)
/-- The row holds the first trees. -/
def RowR (l : List Tr) (i : Nat) (y : RowT) : Prop := ∀ j t, j < i → l[j]? = some t → Rep t (y.1 j, y.2.1 j, y.2.2.1 j, y.2.2.2.1 j, y.2.2.2.2 j)
theorem RowR.put {l : List Tr} {i : Nat} {y : RowT} (h : RowR l i y) {z : NodeT} {t : Tr} (ht : l[i]? = some t) (hz : Rep t z) :
    RowR l (i + 1) ((fun j => if j < i then y.1 j else z.1), (fun j => if j < i then y.2.1 j else z.2.1), (fun j => if j < i then y.2.2.1 j else z.2.2.1), (fun j => if j < i then y.2.2.2.1 j else z.2.2.2.1), (fun j j' => if j < i then y.2.2.2.2 j j' else z.2.2.2.2 j')) := by
  intro j t' hj ht'
  dsimp only
  by_cases hji : j < i
  · simp only [if_pos hji]
    exact h j t' hji ht'
  · have : j = i := by omega
    subst this
    rw [ht] at ht'; cases ht'
    simp only [if_neg hji]
    exact hz
theorem rep_row {k n : Int} {s : ByteArray} {l : List Tr} {y : RowT} (hl : l.length ≤ Go.maxLen) (h : RowR l l.length y) :
    Rep (.node k n s l) (k, n, s, l.length, fun j => [i64 (y.1 j), i64 (y.2.1 j), st (y.2.2.1 j), .ro 4 (y.2.2.2.1 j) (y.2.2.2.2 j)]) := by
  simp only [Rep]
  refine ⟨trivial, trivial, trivial, trivial, hl, fun j => rfl, repL_mk _ _ _ fun j t e => ?_⟩
  rw [Nat.zero_add]
  exact h j t (List.getElem?_eq_some_iff.1 e).1 e
theorem rep_none {k n : Int} {s : ByteArray} : Rep (.node k n s []) (k, n, s, 0, fun _ => [i64 0, i64 0, st ByteArray.empty, .ro 4 0 (fun _ => [])]) := by
  simp only [Rep, RepL]
  exact ⟨trivial, trivial, trivial, rfl, Nat.zero_le _, fun j => rfl, trivial⟩
theorem repl_t1 {c : a_replaced → Option g_replaced} {name : ByteArray} {b : Tr} {by' : NodeT} {l : List Tr} {f : Nat → List V} {nk nn : Int} {ns : ByteArray} (hl : l.length ≤ 1000)
    (hc : ∀ (j : Nat) (t : Tr), l[j]? = some t → Runs (c (opK f j, opN f j, opS f j, opM f j, opF f j, name, by')) (fun z => Rep (subV name b t) z)) :
    ∀ (r q i : Nat) (y : RowT), i + r = l.length → r < q → RowR (subL name b l) i y →
      Runs (replacedN_l0 c q (nk, nn, ns, l.length, opK f, opN f, opS f, opM f, opF f, name, by') (.inr (y.1, y.2.1, y.2.2.1, y.2.2.2.1, y.2.2.2.2, (i : Int), i))) (fun z => ∃ y' : RowT, z = .inr (l.length, y') ∧ RowR (subL name b l) l.length y') := by
  intro r
  induction r with
  | zero =>
    intro q i y hi hq hy
    obtain ⟨q, rfl⟩ : ∃ k, q = k + 1 := ⟨q - 1, by omega⟩
    refine lp_step ?_
    dsimp only [Sum.elim_inr]
    unfold replacedN_l0_t1
    dsimp only
    have hil : i = l.length := by omega
    subst hil
    exact Runs.if_neg (show ¬ decide ((l.length : Int) < (l.length : Int)) = true by simp only [decide_eq_true_eq]; omega) (Runs.some ⟨y, rfl, hy⟩)
  | succ r ih =>
    intro q i y hi hq hy
    obtain ⟨q, rfl⟩ : ∃ k, q = k + 1 := ⟨q - 1, by omega⟩
    refine lp_step ?_
    dsimp only [Sum.elim_inr]
    unfold replacedN_l0_t1
    dsimp only
    have hil : i < l.length := by omega
    obtain ⟨t, ht⟩ : ∃ t, l[i]? = some t := ⟨l[i], List.getElem?_eq_getElem hil⟩
    refine Runs.if_pos (show decide ((i : Int) < (l.length : Int)) = true by simp only [decide_eq_true_eq]; omega) (Runs.if_pos ⟨by omega, by omega⟩ ?_)
    rw [w_succ (by omega), Int.toNat_natCast]
    refine Runs.bind (hc i t ht) fun z hz => Runs.if_pos ⟨by simp only [roomBound]; omega, by simp only [maxLen]; omega, Nat.le_refl _⟩ (Runs.some ?_)
    exact ih q (i + 1) _ (by omega) (by omega) (hy.put (by rw [subL_at, ht]; rfl) hz)
theorem repl_t0 {c : a_replaced → Option g_replaced} {name : ByteArray} {b : Tr} {by' : NodeT} {l : List Tr} {f : Nat → List V} {nk nn : Int} {ns : ByteArray} (hl : l.length ≤ 1000)
    (hc : ∀ (j : Nat) (t : Tr), l[j]? = some t → Runs (c (opK f j, opN f j, opS f j, opM f j, opF f j, name, by')) (fun z => Rep (subV name b t) z)) {q : Nat} (hq : l.length < q) :
      Runs (replacedN_l0 c q (nk, nn, ns, l.length, opK f, opN f, opS f, opM f, opF f, name, by') (.inl ())) (fun z => (z = .inl () ∧ l = []) ∨ ∃ y' : RowT, z = .inr (l.length, y') ∧ RowR (subL name b l) l.length y') := by
  obtain ⟨q, rfl⟩ : ∃ k, q = k + 1 := ⟨q - 1, by omega⟩
  refine lp_step ?_
  dsimp only [Sum.elim_inl]
  unfold replacedN_l0_t0
  dsimp only
  refine Runs.ite (fun h => Runs.if_pos ⟨by omega, of_decide_eq_true h⟩ ?_) fun h => Runs.some (.inl ⟨rfl, ?_⟩)
  · have h : (0 : Int) < (l.length : Int) := of_decide_eq_true h
    obtain ⟨t, ht⟩ : ∃ t, l[0]? = some t := ⟨l[0], List.getElem?_eq_getElem (by omega)⟩
    refine Runs.bind (hc 0 t ht) fun z hz => Runs.some ?_
    have hrow : RowR (subL name b l) 1 ((fun j => z.1), (fun j => z.2.1), (fun j => z.2.2.1), (fun j => z.2.2.2.1), (fun j => z.2.2.2.2)) := by
      intro j t' hj ht'
      have : j = 0 := by omega
      subst this
      rw [subL_at, ht] at ht'; cases ht'
      exact hz
    exact (repl_t1 hl hc (l.length - 1) q 1 _ (by omega) (by omega) hrow).mono fun z hz => .inr hz
  · simp only [decide_eq_true_eq] at h
    exact List.length_eq_zero_iff.1 (by omega)
theorem repl_V {name : ByteArray} {b : Tr} {by' : NodeT} (hb : Rep b by') : ∀ (q : Nat) (t : Tr) (x : NodeT), Rep t x → siz t < q → siz t ≤ 1000 → Runs (replaced q (x.1, x.2.1, x.2.2.1, x.2.2.2.1, x.2.2.2.2, name, by')) (fun z => Rep (subV name b t) z) := by
  intro q
  induction q with
  | zero => intro t x _ h; omega
  | succ q ih =>
    rintro ⟨k, n, s, l⟩ ⟨k', n', s', m', f⟩ hr hq hm
    simp only [Rep] at hr
    obtain ⟨rfl, rfl, rfl, rfl, hl, ho, hk⟩ := hr
    unfold replaced
    dsimp only
    rw [_root_.if_pos ho]
    unfold t_replacedN
    dsimp only
    simp only [siz] at hq hm ⊢
    have hsl := sizL_len l
    have loop := repl_t0 (name := name) (b := b) (by' := by') (nk := k') (nn := n') (ns := s') (f := f) (l := l) (by omega) (c := replaced q) (fun j t ht => by
      have h1 := repL_at l f 0 hk j t ht
      rw [Nat.zero_add] at h1
      have h2 := sizL_at l j t ht
      exact ih t (kidAt f j) h1 (by omega) (by omega)) (q := q) (by omega)
    have fin : ¬ (k' = 17 ∧ s' = name) → Runs (Option.map cv_replaced ((replacedN_l0 (replaced q) q (k', n', s', l.length, opK f, opN f, opS f, opM f, opF f, name, by') (.inl ())).bind fun z => Sum.elim (fun z134a => some (.inr (.inl (k', n', s')))) (fun z134b => some (.inr (.inr (k', n', s', z134b)))) z)) (fun z => Rep (subV name b (.node k' n' s' l)) z) := by
      intro hno
      obtain ⟨z, h1, h2⟩ := loop
      rw [h1]
      simp only [subV, if_neg hno]
      rcases h2 with ⟨rfl, rfl⟩ | ⟨y, rfl, hy⟩
      · exact ⟨_, rfl, rep_none⟩
      · refine ⟨_, rfl, ?_⟩
        rw [← subL_len (name := name) (b := b) l] at hy ⊢
        exact rep_row (by rw [subL_len]; exact hl) hy
    by_cases h1 : (k' == (17 : Int)) = true
    · by_cases h2 : (ByteArray.toList s' == ByteArray.toList name) = true
      · rw [if_pos h1, if_pos h2]
        rw [beq_iff_eq] at h1
        rw [tl_eq] at h2
        simp only [subV, if_pos (And.intro h1 h2)]
        exact ⟨_, rfl, hb⟩
      · rw [if_pos h1, if_neg h2]
        rw [tl_eq] at h2
        exact fin fun h => h2 h.2
    · rw [if_neg h1]
      rw [beq_iff_eq] at h1
      exact fin fun h => h1 h.1
theorem kidsV17 (n : Int) (s : ByteArray) : kidsV 17 n s = 0 := by
  unfold kidsV kids t_kids
  simp
theorem err_bad {e : Int} : errV (badV e) = e := rfl
theorem un_err {s : ByteArray} {z : Ty} (h : errV (unV s z) = 0) : errV z = 0 := by
  unfold unV at h
  by_cases he : errV z = 0
  · exact he
  · rw [if_pos he, err_bad] at h; exact absurd h he
theorem bi_err {s : ByteArray} {z z' : Ty} (h : errV (biV s z z') = 0) : errV z = 0 ∧ errV z' = 0 := by
  unfold biV at h
  by_cases he : errV z = 0
  · by_cases he' : errV z' = 0
    · exact ⟨he, he'⟩
    · rw [if_neg (by simpa using he), if_pos he', err_bad] at h; exact absurd h he'
  · rw [if_pos he, err_bad] at h; exact absurd h he
theorem ofV_sub {T T' : ByteArray → Option DimT} {name : ByteArray} {b : Tr} {d : DimT} (hT : ∀ s, T' s = if s = name then some d else T s) (hb : ofV T b = (false, d.1, d.2.1, d.2.2.1, d.2.2.2.1, d.2.2.2.2, 0)) :
    ∀ t : Tr, errV (ofV T' t) = 0 → ofV T (subV name b t) = ofV T' t
  | .node k n s [], he => by
    simp only [subV, subL]
    by_cases hk : k = 17 ∧ s = name
    · obtain ⟨rfl, rfl⟩ := hk
      rw [if_pos ⟨rfl, rfl⟩, hb, ofV_nil, if_pos (kidsV17 _ _)]
      unfold leafV'
      rw [if_neg (by decide), if_neg (by decide), if_pos rfl, hT, if_pos rfl]
    · rw [if_neg hk, ofV_nil, ofV_nil]
      unfold leafV'
      by_cases h17 : k = 17
      · subst h17
        have hs : s ≠ name := fun h => hk ⟨rfl, h⟩
        rw [hT, if_neg hs]
      · simp only [if_neg h17]
  | .node k n s [a], he => by
    rw [ofV_one] at he ⊢
    by_cases h1 : kidsV k n s = 1
    · have hk := (kidsV_range k n s).2.1 h1
      subst hk
      rw [if_pos h1] at he ⊢
      simp only [subV, subL]
      rw [if_neg (by omega), ofV_one, if_pos h1, ofV_sub hT hb a (un_err he)]
    · rw [if_neg h1] at he; cases he
  | .node k n s [a, c], he => by
    rw [ofV_two] at he ⊢
    by_cases h1 : kidsV k n s = 2
    · have hk := (kidsV_range k n s).2.2.1 h1
      subst hk
      rw [if_pos h1] at he ⊢
      simp only [subV, subL]
      rw [if_neg (by omega), ofV_two, if_pos h1, ofV_sub hT hb a (bi_err he).1, ofV_sub hT hb c (bi_err he).2]
    · rw [if_neg h1] at he; cases he
  | .node k n s (a :: b :: c :: l), he => by
    rw [ofV_more] at he; cases he
end Go.Proofs.YtniogljhkjbcgaaDoor
/- TypesSubstitutes (plain). -/
namespace Go.Proofs.YtniogljhkjbcgaaDoor
open Go Go.Am Go.Proofs
set_option linter.unusedSimpArgs false
set_option linter.unusedVariables false
set_option maxRecDepth 100000
/-- One variable has another dimension. -/
theorem lastV_put {v v' : VarT} {k : Nat} {d : DimT} (hv : VOk v) (hk : k < v.1) (h1 : v'.2.1 = v.2.1) (h2 : ∀ j, dimAt v' j = if j = k then d else dimAt v j) : ∀ (n : Nat), n ≤ v.1 → ∀ s, lastV v' n s = if k < n ∧ s = v.2.1 k then some d else lastV v n s
  | 0, _, s => by simp [lastV]
  | n + 1, hn, s => by
    simp only [lastV]
    rw [h1, h2, lastV_put hv hk h1 h2 n (by omega) s]
    by_cases hs : s = v.2.1 n
    · rw [if_pos hs, if_pos hs]
      by_cases hnk : n = k
      · subst hnk
        rw [if_pos rfl, if_pos ⟨by omega, hs⟩]
      · rw [if_neg hnk]
        have : ¬ (k < n + 1 ∧ s = v.2.1 k) := fun ⟨g1, g2⟩ => hv.ne k n (by omega) (by omega) (g2.symm.trans hs)
        rw [if_neg this]
    · rw [if_neg hs, if_neg hs]
      by_cases hnk : n = k
      · subst hnk
        rw [if_neg (fun h => hs h.2), if_neg (fun h => hs h.2)]
      · by_cases hkn : k < n ∧ s = v.2.1 k
        · rw [if_pos hkn, if_pos ⟨by omega, hkn.2⟩]
        · rw [if_neg hkn, if_neg (fun h => hkn ⟨by omega, h.2⟩)]
theorem subst_true {tr br : Tr} {nk nn : Int} {ns : ByteArray} {m : Nat} {f : Nat → List V} {bk bn : Int} {bs : ByteArray} {bm : Nat} {bf : Nat → List V} {vn : Nat} {vs : Nat → ByteArray} {v0 v1 v2 v3 v4 : Nat → Int} {ax : Int}
    (hr : Rep tr (nk, nn, ns, m, f)) (hb : Rep br (bk, bn, bs, bm, bf)) (hv : ∀ j, j < vn → inR (v0 j) ∧ inR (v1 j) ∧ inR (v2 j) ∧ inR (v3 j) ∧ inR (v4 j)) (ha : 0 ≤ ax ∧ ax ≤ 255) (hvn : vn ≤ Go.maxLen) :
    ∃ q, Runs (subst q (nk, nn, ns, m, f, bk, bn, bs, bm, bf, vn, vs, v0, v1, v2, v3, v4, ax)) (fun z => z = true) := by
  obtain ⟨q, hq⟩ : ∃ q, q = 400 + siz tr + siz br + siz tr * siz br + vn := ⟨_, rfl⟩
  refine ⟨q, ?_⟩
  have hml : Go.maxLen = 9223372036854775807 := by decide
  have hvn2 : vn ≤ 9223372036854775807 := by omega
  unfold subst t_subst
  dsimp only
  have liv : ∀ {β : Type} {k : g_lives → Option β} {P : β → Prop}, Runs (k true) P → Runs ((lives q ()).bind k) P := fun h => h
  refine Runs.bind (vars_runs (x := (vn, vs, v0, v1, v2, v3, v4)) ⟨hvn2, hv⟩ (by show vn + 60 < q; omega)) fun v hvk => ?_
  have hn := hvk.n
  refine Runs.bind (nodes_V q tr _ 100 hr (by omega) (by omega)) fun (z : Int) hz => ?_
  refine Runs.ite (fun _ => liv (Runs.some rfl)) fun g1 => ?_
  simp only [decide_eq_true_eq] at g1
  have g1' : siz tr ≤ 100 := by
    have g1 : ¬ ((z : Int) > 100) := g1
    omega
  refine Runs.bind (nodes_V q br _ 100 hb (by omega) (by omega)) fun (z' : Int) hz' => ?_
  refine Runs.ite (fun _ => liv (Runs.some rfl)) fun g2 => Runs.ite (fun _ => liv (Runs.some rfl)) fun g3 => Runs.ite (fun _ => liv (Runs.some rfl)) fun g4 => ?_
  have hn0 : v.1 ≠ 0 := by
    intro h
    apply g4
    rw [h]; rfl
  have hof : ∀ (t : TabT) (y : NodeT) (r : Tr), Rep r y → siz r < q → Runs (Of q (y.1, y.2.1, y.2.2.1, y.2.2.2.1, y.2.2.2.2, t)) (fun z => z = ((ofV (tabOf t) r).1, (ofV (tabOf t) r).2.1, (ofV (tabOf t) r).2.2.1, (ofV (tabOf t) r).2.2.2.1, (ofV (tabOf t) r).2.2.2.2.1, (ofV (tabOf t) r).2.2.2.2.2.1, (ofV (tabOf t) r).2.2.2.2.2.2, t)) := fun t y r h1 h2 => ⟨_, of_V t r y _ h1 h2, rfl⟩
  refine Runs.bind (table_V (by omega) (by omega)) fun t ht => Runs.bind (hof t (bk, bn, bs, bm, bf) br hb (by omega)) fun y hy => ?_
  subst hy
  generalize hB : ofV (tabOf t) br = B
  refine Runs.ite (fun _ => liv (Runs.some rfl)) fun g5 => Runs.ite (fun _ => liv (Runs.some rfl)) fun g6 => ?_
  have e5 : B.2.2.2.2.2.2 = 0 := by simpa using g5
  have e6 : B.1 = false := by simpa using g6
  have hw : w ax = ax := w_in (by unfold inR; omega)
  rw [hw]
  obtain ⟨k, hk⟩ : ∃ k : Nat, Int.tmod ax (v.1 : Int) = k := ⟨(Int.tmod ax (v.1 : Int)).toNat, by have := Int.tmod_nonneg (v.1 : Int) ha.1; omega⟩
  have hkn : k < v.1 := by have := Int.tmod_lt_of_pos ax (show (0 : Int) < (v.1 : Int) by omega); omega
  rw [hk]
  simp only [Int.toNat_natCast]
  refine Runs.if_neg (by omega) (Runs.if_pos ⟨by simp only [roomBound]; omega, by simp only [maxLen]; omega, Nat.le_refl _⟩ (Runs.if_pos ⟨by omega, by omega⟩ (Runs.if_pos ⟨by omega, by trivial⟩ ?_)))
  refine Runs.bind (tableS_V (by show 0 + v.1 ≤ 1000; omega) (by show 0 + v.1 < _; omega)) fun u hu => Runs.bind (hof _ (nk, nn, ns, m, f) tr hr (by omega)) fun y hy => ?_
  subst hy
  refine Runs.ite (fun _ => liv (Runs.some rfl)) fun g7 => Runs.if_pos ⟨by omega, by omega⟩ ?_
  have e7 : (ofV (tabOf u.2.2.2.2.2.2.2) tr).2.2.2.2.2.2 = 0 := by simpa using g7
  have hT : ∀ s, tabOf u.2.2.2.2.2.2.2 s = if s = v.2.1 k then some (B.2.1, B.2.2.1, B.2.2.2.1, B.2.2.2.2.1, B.2.2.2.2.2.1) else tabOf t s := fun s => by
    rw [hu, ht]
    refine (lastV_put (v' := (0 + v.1, v.2.1, (fun j => if j = 0 + k then B.2.1 else v.2.2.1 j), (fun j => if j = 0 + k then B.2.2.1 else v.2.2.2.1 j), (fun j => if j = 0 + k then B.2.2.2.1 else v.2.2.2.2.1 j), (fun j => if j = 0 + k then B.2.2.2.2.1 else v.2.2.2.2.2.1 j), (fun j => if j = 0 + k then B.2.2.2.2.2.1 else v.2.2.2.2.2.2 j))) (k := k) (d := (B.2.1, B.2.2.1, B.2.2.2.1, B.2.2.2.2.1, B.2.2.2.2.2.1)) hvk hkn rfl (fun j => ?_) (0 + v.1) (by omega) s).trans ?_
    · unfold dimAt
      dsimp only
      rw [Nat.zero_add]
      by_cases hj : j = k
      · simp only [if_pos hj]
      · simp only [if_neg hj]
    · rw [Nat.zero_add]
      by_cases hs : s = v.2.1 k
      · rw [if_pos ⟨hkn, hs⟩, if_pos hs]
      · rw [if_neg (fun h => hs h.2), if_neg hs]
  have key := ofV_sub hT (b := br) (by
    have e : ∀ z : Ty, z.1 = false → errV z = 0 → z = (false, z.2.1, z.2.2.1, z.2.2.2.1, z.2.2.2.2.1, z.2.2.2.2.2.1, 0) := fun z h1 h2 => by
      obtain ⟨a, b, c, d, e, f, g⟩ := z
      have h1 : a = false := h1
      have h2 : g = 0 := h2
      subst h1; subst h2; rfl
    exact hB.trans (e _ e6 e5)) tr e7
  refine Runs.bind (repl_V (name := v.2.1 k) (by' := (bk, bn, bs, bm, bf)) hb q tr (nk, nn, ns, m, f) hr (by omega) (by omega)) fun y hy => ?_
  refine Runs.bind (table_V (v := v) (by omega) (by omega)) fun t' ht' => ?_
  have hsz := siz_sub (name := v.2.1 k) (b := br) tr
  refine Runs.bind (hof t' y _ hy (by omega)) fun y' hy' => ?_
  subst hy'
  have ett : tabOf t' = tabOf t := ht'.trans ht.symm
  rw [ett, key]
  have e7' : (ofV (tabOf u.2.2.2.2.2.2.2) tr).2.2.2.2.2.2 = 0 := e7
  simp only [e7', beq_self_eq_true, Bool.and_self, Bool.and_true, if_false, if_true, Bool.false_eq_true, reduceIte]
  exact liv (Runs.some rfl)
theorem typesSubstitutes (v0 v1 v2 v3 : V) (h0 : WTV E.P 24 v0) (h1 : WTV E.P 24 v1) (h2 : WTV E.P 25 v2) (h3 : WTV E.P 5 v3) : ∃ l', LeL [v0, v1, v2, v3] l' ∧ SC E 5 l' [] (.ret (bo true) []) := by
  obtain ⟨d, l, g0, k0⟩ := nodeV_in h0
  obtain ⟨k, n, s, m, f, tr, rfl, _, _, _, hr⟩ := rep_in d l k0
  obtain ⟨d', l', g0', k0'⟩ := nodeV_in h1
  obtain ⟨k', n', s', m', f', br, rfl, _, _, _, hb⟩ := rep_in d' l' k0'
  obtain ⟨vn, vs, a0, a1, a2, a3, a4, g1, k1, k2⟩ := vars_in h2
  obtain ⟨ax, rfl, hax⟩ := h3.int (k := .u8) (by kernel_rfl) (by kernel_rfl)
  have hr8 : 0 ≤ ax ∧ ax ≤ 255 := by
    simp only [Lit.wf, Bool.and_eq_true, decide_eq_true_eq] at hax
    have e1 : IntKind.min .u8 = 0 := by decide
    have e2 : IntKind.max .u8 = 255 := by decide
    rw [e1, e2] at hax
    exact hax
  refine ⟨_, LeL.cons g0 (LeL.cons g0' (LeL.cons g1 (LeL.cons (Le.refl _) LeL.nil))), ?_⟩
  obtain ⟨q, z, hz, rfl⟩ := subst_true hr hb (fun j hj => (k2 j hj).2) hr8 k1 (vs := vs) (vn := vn)
  exact toE (sc_subst q _ true hz)
end Go.Proofs.YtniogljhkjbcgaaDoor
/- TypesSound, lifted. -/
namespace Go.Proofs.YtniogljhkjbcgaaDoor
open Go Go.Am Go.Proofs
set_option linter.unusedSimpArgs false
set_option linter.unusedVariables false
set_option maxRecDepth 100000
abbrev a_checked : Type := Int × Int × Int × Int × Int × Int
abbrev g_checked : Type := Int × Int × Int × Int × Int × Int × Int
def A_checked : a_checked → List V × List (Option Chunk) := (fun x => (fun (n : Int) (d0 : Int) (d1 : Int) (d2 : Int) (d3 : Int) (d4 : Int) => (([i64 n, .agg [i64 d0, i64 d1, i64 d2, i64 d3, i64 d4]] : List V), ([] : List (Option Chunk)))) x.1 x.2.1 x.2.2.1 x.2.2.2.1 x.2.2.2.2.1 x.2.2.2.2.2)
def d_checked (t : List V × List (Option Chunk)) : a_checked := ((vI (t.1.getD 0 .junk)), (vI ((vAg (t.1.getD 1 .junk)).getD 0 .junk)), (vI ((vAg (t.1.getD 1 .junk)).getD 1 .junk)), (vI ((vAg (t.1.getD 1 .junk)).getD 2 .junk)), (vI ((vAg (t.1.getD 1 .junk)).getD 3 .junk)), (vI ((vAg (t.1.getD 1 .junk)).getD 4 .junk)))
theorem i_checked : ∀ x y, A_checked x = A_checked y → x = y := fun x y h => (congrArg d_checked h :)
def R_checked : g_checked → CRes := (fun z => (fun (n : Int) (d0 : Int) (d1 : Int) (d2 : Int) (d3 : Int) (d4 : Int) (e : Int) => .ret (.tup [.agg [i64 n, i64 d0, i64 d1, i64 d2, i64 d3, i64 d4], i64 e]) []) z.1 z.2.1 z.2.2.1 z.2.2.2.1 z.2.2.2.2.1 z.2.2.2.2.2.1 z.2.2.2.2.2.2 : (Int × Int × Int × Int × Int × Int × Int) → CRes)
def x_checked (z : g_checked) (k : CRes → Option Ans) : Option Ans := k (R_checked z)
theorem xe_checked : ∀ z k, x_checked z k = k (R_checked z) := fun z k => rfl
def t_checked {β : Type} (x : a_checked) (dn : g_checked → Option β) : Option β :=
 if decide (x.1 ≥ (-2147483647 : Int)) = true then
  if (!decide (x.1 ≤ (2147483647 : Int))) = true then
   dn (((0 : Int), (0 : Int), (0 : Int), (0 : Int), (0 : Int), (0 : Int), (5 : Int)))
  else
   if decide (x.2.1 ≥ (-8 : Int)) = true then
    if (!decide (x.2.1 ≤ (8 : Int))) = true then
     dn (((0 : Int), (0 : Int), (0 : Int), (0 : Int), (0 : Int), (0 : Int), (5 : Int)))
    else
     if decide (x.2.2.1 ≥ (-8 : Int)) = true then
      if (!decide (x.2.2.1 ≤ (8 : Int))) = true then
       dn (((0 : Int), (0 : Int), (0 : Int), (0 : Int), (0 : Int), (0 : Int), (5 : Int)))
      else
       if decide (x.2.2.2.1 ≥ (-8 : Int)) = true then
        if (!decide (x.2.2.2.1 ≤ (8 : Int))) = true then
         dn (((0 : Int), (0 : Int), (0 : Int), (0 : Int), (0 : Int), (0 : Int), (5 : Int)))
        else
         if decide (x.2.2.2.2.1 ≥ (-8 : Int)) = true then
          if (!decide (x.2.2.2.2.1 ≤ (8 : Int))) = true then
           dn (((0 : Int), (0 : Int), (0 : Int), (0 : Int), (0 : Int), (0 : Int), (5 : Int)))
          else
           if decide (x.2.2.2.2.2 ≥ (-8 : Int)) = true then
            if (!decide (x.2.2.2.2.2 ≤ (8 : Int))) = true then
             dn (((0 : Int), (0 : Int), (0 : Int), (0 : Int), (0 : Int), (0 : Int), (5 : Int)))
            else
             dn ((x.1, x.2.1, x.2.2.1, x.2.2.2.1, x.2.2.2.2.1, x.2.2.2.2.2, (0 : Int)))
           else
            dn (((0 : Int), (0 : Int), (0 : Int), (0 : Int), (0 : Int), (0 : Int), (5 : Int)))
         else
          dn (((0 : Int), (0 : Int), (0 : Int), (0 : Int), (0 : Int), (0 : Int), (5 : Int)))
       else
        dn (((0 : Int), (0 : Int), (0 : Int), (0 : Int), (0 : Int), (0 : Int), (5 : Int)))
     else
      dn (((0 : Int), (0 : Int), (0 : Int), (0 : Int), (0 : Int), (0 : Int), (5 : Int)))
   else
    dn (((0 : Int), (0 : Int), (0 : Int), (0 : Int), (0 : Int), (0 : Int), (5 : Int)))
 else
  dn (((0 : Int), (0 : Int), (0 : Int), (0 : Int), (0 : Int), (0 : Int), (5 : Int)))
theorem n_checked {β : Type} (x : a_checked) (dn : g_checked → Option β) : t_checked x dn = (t_checked x some).bind dn := by
  unfold t_checked
  repeat' first | exact free_none | refine free_bind (fun z => ?_) | refine free_ite ?_ ?_ | refine free_sum (fun z => ?_) (fun z => ?_) | rfl
theorem r_checked (x : a_checked) : callK E5 (callG E5 20) (loU E5 (callG E5 20) [0] lo0 20) 59 (A_checked x).1 (A_checked x).2 K = t_checked x (fun z => some (.c (R_checked z))) := by kernel_rfl
theorem s_checked (q : Nat) (x : a_checked) (z : g_checked) (h : t_checked x some = some z) : SC E5 59 (A_checked x).1 (A_checked x).2 (R_checked z) := by
  refine SC.of hW5 hX5 (sound_G hW5 hX5 20).1 (loU_sound (sound_G hW5 hX5 20).1 hX5 lo0_sound 20) ((r_checked x).trans ?_)
  rw [n_checked, h]; rfl
noncomputable def checked (q : Nat) (x : a_checked) : Option g_checked := t_checked x some
theorem sc_checked (q : Nat) : ∀ (x : a_checked) (z : g_checked), checked q x = some z → SC E5 59 (A_checked x).1 (A_checked x).2 (R_checked z) := fun x z h => s_checked q x z h
abbrev a_uSub : Type := Int × Int × Int × Int × Int × Int × Int × Int × Int × Int × Int × Int
abbrev g_uSub : Type := Int × Int × Int × Int × Int × Int × Int
def A_uSub : a_uSub → List V × List (Option Chunk) := (fun x => (fun (a : Int) (d0 : Int) (d1 : Int) (d2 : Int) (d3 : Int) (d4 : Int) (b : Int) (f0 : Int) (f1 : Int) (f2 : Int) (f3 : Int) (f4 : Int) => (([.agg [i64 a, i64 d0, i64 d1, i64 d2, i64 d3, i64 d4], .agg [i64 b, i64 f0, i64 f1, i64 f2, i64 f3, i64 f4]] : List V), ([] : List (Option Chunk)))) x.1 x.2.1 x.2.2.1 x.2.2.2.1 x.2.2.2.2.1 x.2.2.2.2.2.1 x.2.2.2.2.2.2.1 x.2.2.2.2.2.2.2.1 x.2.2.2.2.2.2.2.2.1 x.2.2.2.2.2.2.2.2.2.1 x.2.2.2.2.2.2.2.2.2.2.1 x.2.2.2.2.2.2.2.2.2.2.2)
def d_uSub (t : List V × List (Option Chunk)) : a_uSub := ((vI ((vAg (t.1.getD 0 .junk)).getD 0 .junk)), (vI ((vAg (t.1.getD 0 .junk)).getD 1 .junk)), (vI ((vAg (t.1.getD 0 .junk)).getD 2 .junk)), (vI ((vAg (t.1.getD 0 .junk)).getD 3 .junk)), (vI ((vAg (t.1.getD 0 .junk)).getD 4 .junk)), (vI ((vAg (t.1.getD 0 .junk)).getD 5 .junk)), (vI ((vAg (t.1.getD 1 .junk)).getD 0 .junk)), (vI ((vAg (t.1.getD 1 .junk)).getD 1 .junk)), (vI ((vAg (t.1.getD 1 .junk)).getD 2 .junk)), (vI ((vAg (t.1.getD 1 .junk)).getD 3 .junk)), (vI ((vAg (t.1.getD 1 .junk)).getD 4 .junk)), (vI ((vAg (t.1.getD 1 .junk)).getD 5 .junk)))
theorem i_uSub : ∀ x y, A_uSub x = A_uSub y → x = y := fun x y h => (congrArg d_uSub h :)
def R_uSub : g_uSub → CRes := (fun z => (fun (n : Int) (d0 : Int) (d1 : Int) (d2 : Int) (d3 : Int) (d4 : Int) (e : Int) => .ret (.tup [.agg [i64 n, i64 d0, i64 d1, i64 d2, i64 d3, i64 d4], i64 e]) []) z.1 z.2.1 z.2.2.1 z.2.2.2.1 z.2.2.2.2.1 z.2.2.2.2.2.1 z.2.2.2.2.2.2 : (Int × Int × Int × Int × Int × Int × Int) → CRes)
def x_uSub (z : g_uSub) (k : CRes → Option Ans) : Option Ans := k (R_uSub z)
theorem xe_uSub : ∀ z k, x_uSub z k = k (R_uSub z) := fun z k => rfl
def t_uSub {β : Type} (c_checked : a_checked → Option g_checked) (x : a_uSub) (dn : g_uSub → Option β) : Option β :=
 if (if true = true then !(x.2.1 == x.2.2.2.2.2.2.2.1 && (x.2.2.1 == x.2.2.2.2.2.2.2.2.1 && (x.2.2.2.1 == x.2.2.2.2.2.2.2.2.2.1 && (x.2.2.2.2.1 == x.2.2.2.2.2.2.2.2.2.2.1 && (x.2.2.2.2.2.1 == x.2.2.2.2.2.2.2.2.2.2.2 && true))))) else x.2.1 == x.2.2.2.2.2.2.2.1 && (x.2.2.1 == x.2.2.2.2.2.2.2.2.1 && (x.2.2.2.1 == x.2.2.2.2.2.2.2.2.2.1 && (x.2.2.2.2.1 == x.2.2.2.2.2.2.2.2.2.2.1 && (x.2.2.2.2.2.1 == x.2.2.2.2.2.2.2.2.2.2.2 && true))))) = true then
  dn (((0 : Int), (0 : Int), (0 : Int), (0 : Int), (0 : Int), (0 : Int), (10 : Int)))
 else
  (c_checked ((w (x.1 - x.2.2.2.2.2.2.1), x.2.1, x.2.2.1, x.2.2.2.1, x.2.2.2.2.1, x.2.2.2.2.2.1))).bind fun z6 =>
   dn z6
theorem n_uSub {β : Type} (c_checked : a_checked → Option g_checked) (x : a_uSub) (dn : g_uSub → Option β) : t_uSub c_checked x dn = (t_uSub c_checked x some).bind dn := by
  unfold t_uSub
  repeat' first | exact free_none | refine free_bind (fun z => ?_) | refine free_ite ?_ ?_ | refine free_sum (fun z => ?_) (fun z => ?_) | rfl
theorem r_uSub (c_checked : a_checked → Option g_checked) (x : a_uSub) : callK E5 (ftab 59 (fun _ _ => true) A_checked x_checked c_checked (callG E5 20)) lo0 40 (A_uSub x).1 (A_uSub x).2 K = t_uSub (fun x => viaF A_checked c_checked (A_checked x)) x (fun z => some (.c (R_uSub z))) := by kernel_rfl
theorem s_uSub (c_checked : a_checked → Option g_checked) (h_checked : ∀ x z, c_checked x = some z → SC E5 59 (A_checked x).1 (A_checked x).2 (R_checked z)) (q : Nat) (x : a_uSub) (z : g_uSub) (h : t_uSub c_checked x some = some z) : SC E5 40 (A_uSub x).1 (A_uSub x).2 (R_uSub z) := by
  refine SC.of hW5 hX5 (ftab_cons h_checked xe_checked (sound_G hW5 hX5 20).1) lo0_sound ((r_uSub c_checked x).trans ?_)
  rw [via_eq i_checked c_checked, n_uSub, h]; rfl
noncomputable def uSub (q : Nat) (x : a_uSub) : Option g_uSub := t_uSub (checked q) x some
theorem sc_uSub (q : Nat) : ∀ (x : a_uSub) (z : g_uSub), uSub q x = some z → SC E5 40 (A_uSub x).1 (A_uSub x).2 (R_uSub z) := fun x z h => s_uSub (checked q) (sc_checked q) q x z h
abbrev a_uAdd : Type := Int × Int × Int × Int × Int × Int × Int × Int × Int × Int × Int × Int
abbrev g_uAdd : Type := Int × Int × Int × Int × Int × Int × Int
def A_uAdd : a_uAdd → List V × List (Option Chunk) := (fun x => (fun (a : Int) (d0 : Int) (d1 : Int) (d2 : Int) (d3 : Int) (d4 : Int) (b : Int) (f0 : Int) (f1 : Int) (f2 : Int) (f3 : Int) (f4 : Int) => (([.agg [i64 a, i64 d0, i64 d1, i64 d2, i64 d3, i64 d4], .agg [i64 b, i64 f0, i64 f1, i64 f2, i64 f3, i64 f4]] : List V), ([] : List (Option Chunk)))) x.1 x.2.1 x.2.2.1 x.2.2.2.1 x.2.2.2.2.1 x.2.2.2.2.2.1 x.2.2.2.2.2.2.1 x.2.2.2.2.2.2.2.1 x.2.2.2.2.2.2.2.2.1 x.2.2.2.2.2.2.2.2.2.1 x.2.2.2.2.2.2.2.2.2.2.1 x.2.2.2.2.2.2.2.2.2.2.2)
def d_uAdd (t : List V × List (Option Chunk)) : a_uAdd := ((vI ((vAg (t.1.getD 0 .junk)).getD 0 .junk)), (vI ((vAg (t.1.getD 0 .junk)).getD 1 .junk)), (vI ((vAg (t.1.getD 0 .junk)).getD 2 .junk)), (vI ((vAg (t.1.getD 0 .junk)).getD 3 .junk)), (vI ((vAg (t.1.getD 0 .junk)).getD 4 .junk)), (vI ((vAg (t.1.getD 0 .junk)).getD 5 .junk)), (vI ((vAg (t.1.getD 1 .junk)).getD 0 .junk)), (vI ((vAg (t.1.getD 1 .junk)).getD 1 .junk)), (vI ((vAg (t.1.getD 1 .junk)).getD 2 .junk)), (vI ((vAg (t.1.getD 1 .junk)).getD 3 .junk)), (vI ((vAg (t.1.getD 1 .junk)).getD 4 .junk)), (vI ((vAg (t.1.getD 1 .junk)).getD 5 .junk)))
theorem i_uAdd : ∀ x y, A_uAdd x = A_uAdd y → x = y := fun x y h => (congrArg d_uAdd h :)
def R_uAdd : g_uAdd → CRes := (fun z => (fun (n : Int) (d0 : Int) (d1 : Int) (d2 : Int) (d3 : Int) (d4 : Int) (e : Int) => .ret (.tup [.agg [i64 n, i64 d0, i64 d1, i64 d2, i64 d3, i64 d4], i64 e]) []) z.1 z.2.1 z.2.2.1 z.2.2.2.1 z.2.2.2.2.1 z.2.2.2.2.2.1 z.2.2.2.2.2.2 : (Int × Int × Int × Int × Int × Int × Int) → CRes)
def x_uAdd (z : g_uAdd) (k : CRes → Option Ans) : Option Ans := k (R_uAdd z)
theorem xe_uAdd : ∀ z k, x_uAdd z k = k (R_uAdd z) := fun z k => rfl
def t_uAdd {β : Type} (c_checked : a_checked → Option g_checked) (x : a_uAdd) (dn : g_uAdd → Option β) : Option β :=
 if (if true = true then !(x.2.1 == x.2.2.2.2.2.2.2.1 && (x.2.2.1 == x.2.2.2.2.2.2.2.2.1 && (x.2.2.2.1 == x.2.2.2.2.2.2.2.2.2.1 && (x.2.2.2.2.1 == x.2.2.2.2.2.2.2.2.2.2.1 && (x.2.2.2.2.2.1 == x.2.2.2.2.2.2.2.2.2.2.2 && true))))) else x.2.1 == x.2.2.2.2.2.2.2.1 && (x.2.2.1 == x.2.2.2.2.2.2.2.2.1 && (x.2.2.2.1 == x.2.2.2.2.2.2.2.2.2.1 && (x.2.2.2.2.1 == x.2.2.2.2.2.2.2.2.2.2.1 && (x.2.2.2.2.2.1 == x.2.2.2.2.2.2.2.2.2.2.2 && true))))) = true then
  dn (((0 : Int), (0 : Int), (0 : Int), (0 : Int), (0 : Int), (0 : Int), (10 : Int)))
 else
  (c_checked ((w (x.1 + x.2.2.2.2.2.2.1), x.2.1, x.2.2.1, x.2.2.2.1, x.2.2.2.2.1, x.2.2.2.2.2.1))).bind fun z6 =>
   dn z6
theorem n_uAdd {β : Type} (c_checked : a_checked → Option g_checked) (x : a_uAdd) (dn : g_uAdd → Option β) : t_uAdd c_checked x dn = (t_uAdd c_checked x some).bind dn := by
  unfold t_uAdd
  repeat' first | exact free_none | refine free_bind (fun z => ?_) | refine free_ite ?_ ?_ | refine free_sum (fun z => ?_) (fun z => ?_) | rfl
theorem r_uAdd (c_checked : a_checked → Option g_checked) (x : a_uAdd) : callK E5 (ftab 59 (fun _ _ => true) A_checked x_checked c_checked (callG E5 20)) lo0 60 (A_uAdd x).1 (A_uAdd x).2 K = t_uAdd (fun x => viaF A_checked c_checked (A_checked x)) x (fun z => some (.c (R_uAdd z))) := by kernel_rfl
theorem s_uAdd (c_checked : a_checked → Option g_checked) (h_checked : ∀ x z, c_checked x = some z → SC E5 59 (A_checked x).1 (A_checked x).2 (R_checked z)) (q : Nat) (x : a_uAdd) (z : g_uAdd) (h : t_uAdd c_checked x some = some z) : SC E5 60 (A_uAdd x).1 (A_uAdd x).2 (R_uAdd z) := by
  refine SC.of hW5 hX5 (ftab_cons h_checked xe_checked (sound_G hW5 hX5 20).1) lo0_sound ((r_uAdd c_checked x).trans ?_)
  rw [via_eq i_checked c_checked, n_uAdd, h]; rfl
noncomputable def uAdd (q : Nat) (x : a_uAdd) : Option g_uAdd := t_uAdd (checked q) x some
theorem sc_uAdd (q : Nat) : ∀ (x : a_uAdd) (z : g_uAdd), uAdd q x = some z → SC E5 60 (A_uAdd x).1 (A_uAdd x).2 (R_uAdd z) := fun x z h => s_uAdd (checked q) (sc_checked q) q x z h
abbrev a_uMul : Type := Int × Int × Int × Int × Int × Int × Int × Int × Int × Int × Int × Int
abbrev g_uMul : Type := Int × Int × Int × Int × Int × Int × Int
def A_uMul : a_uMul → List V × List (Option Chunk) := (fun x => (fun (a : Int) (d0 : Int) (d1 : Int) (d2 : Int) (d3 : Int) (d4 : Int) (b : Int) (f0 : Int) (f1 : Int) (f2 : Int) (f3 : Int) (f4 : Int) => (([.agg [i64 a, i64 d0, i64 d1, i64 d2, i64 d3, i64 d4], .agg [i64 b, i64 f0, i64 f1, i64 f2, i64 f3, i64 f4]] : List V), ([] : List (Option Chunk)))) x.1 x.2.1 x.2.2.1 x.2.2.2.1 x.2.2.2.2.1 x.2.2.2.2.2.1 x.2.2.2.2.2.2.1 x.2.2.2.2.2.2.2.1 x.2.2.2.2.2.2.2.2.1 x.2.2.2.2.2.2.2.2.2.1 x.2.2.2.2.2.2.2.2.2.2.1 x.2.2.2.2.2.2.2.2.2.2.2)
def d_uMul (t : List V × List (Option Chunk)) : a_uMul := ((vI ((vAg (t.1.getD 0 .junk)).getD 0 .junk)), (vI ((vAg (t.1.getD 0 .junk)).getD 1 .junk)), (vI ((vAg (t.1.getD 0 .junk)).getD 2 .junk)), (vI ((vAg (t.1.getD 0 .junk)).getD 3 .junk)), (vI ((vAg (t.1.getD 0 .junk)).getD 4 .junk)), (vI ((vAg (t.1.getD 0 .junk)).getD 5 .junk)), (vI ((vAg (t.1.getD 1 .junk)).getD 0 .junk)), (vI ((vAg (t.1.getD 1 .junk)).getD 1 .junk)), (vI ((vAg (t.1.getD 1 .junk)).getD 2 .junk)), (vI ((vAg (t.1.getD 1 .junk)).getD 3 .junk)), (vI ((vAg (t.1.getD 1 .junk)).getD 4 .junk)), (vI ((vAg (t.1.getD 1 .junk)).getD 5 .junk)))
theorem i_uMul : ∀ x y, A_uMul x = A_uMul y → x = y := fun x y h => (congrArg d_uMul h :)
def R_uMul : g_uMul → CRes := (fun z => (fun (n : Int) (d0 : Int) (d1 : Int) (d2 : Int) (d3 : Int) (d4 : Int) (e : Int) => .ret (.tup [.agg [i64 n, i64 d0, i64 d1, i64 d2, i64 d3, i64 d4], i64 e]) []) z.1 z.2.1 z.2.2.1 z.2.2.2.1 z.2.2.2.2.1 z.2.2.2.2.2.1 z.2.2.2.2.2.2 : (Int × Int × Int × Int × Int × Int × Int) → CRes)
def x_uMul (z : g_uMul) (k : CRes → Option Ans) : Option Ans := k (R_uMul z)
theorem xe_uMul : ∀ z k, x_uMul z k = k (R_uMul z) := fun z k => rfl
def t_uMul {β : Type} (c_checked : a_checked → Option g_checked) (c_Times : a_Times → Option g_Times) (x : a_uMul) (dn : g_uMul → Option β) : Option β :=
 (c_Times ((x.2.1, x.2.2.1, x.2.2.2.1, x.2.2.2.2.1, x.2.2.2.2.2.1, x.2.2.2.2.2.2.2))).bind fun z10 =>
  (c_checked ((w (x.1 * x.2.2.2.2.2.2.1), z10))).bind fun z17 =>
   dn z17
theorem n_uMul {β : Type} (c_checked : a_checked → Option g_checked) (c_Times : a_Times → Option g_Times) (x : a_uMul) (dn : g_uMul → Option β) : t_uMul c_checked c_Times x dn = (t_uMul c_checked c_Times x some).bind dn := by
  unfold t_uMul
  repeat' first | exact free_none | refine free_bind (fun z => ?_) | refine free_ite ?_ ?_ | refine free_sum (fun z => ?_) (fun z => ?_) | rfl
theorem r_uMul (c_checked : a_checked → Option g_checked) (c_Times : a_Times → Option g_Times) (x : a_uMul) : callK E5 (ftab 59 (fun _ _ => true) A_checked x_checked c_checked (ftab 45 (fun _ _ => true) A_Times x_Times c_Times (callG E5 20))) lo0 61 (A_uMul x).1 (A_uMul x).2 K = t_uMul (fun x => viaF A_checked c_checked (A_checked x)) (fun x => viaF A_Times c_Times (A_Times x)) x (fun z => some (.c (R_uMul z))) := by kernel_rfl
theorem s_uMul (c_checked : a_checked → Option g_checked) (h_checked : ∀ x z, c_checked x = some z → SC E5 59 (A_checked x).1 (A_checked x).2 (R_checked z)) (c_Times : a_Times → Option g_Times) (h_Times : ∀ x z, c_Times x = some z → SC E5 45 (A_Times x).1 (A_Times x).2 (R_Times z)) (q : Nat) (x : a_uMul) (z : g_uMul) (h : t_uMul c_checked c_Times x some = some z) : SC E5 61 (A_uMul x).1 (A_uMul x).2 (R_uMul z) := by
  refine SC.of hW5 hX5 (ftab_cons h_checked xe_checked (ftab_cons h_Times xe_Times (sound_G hW5 hX5 20).1)) lo0_sound ((r_uMul c_checked c_Times x).trans ?_)
  rw [via_eq i_checked c_checked, via_eq i_Times c_Times, n_uMul, h]; rfl
noncomputable def uMul (q : Nat) (x : a_uMul) : Option g_uMul := t_uMul (checked q) (Times q) x some
theorem sc_uMul (q : Nat) : ∀ (x : a_uMul) (z : g_uMul), uMul q x = some z → SC E5 61 (A_uMul x).1 (A_uMul x).2 (R_uMul z) := fun x z h => s_uMul (checked q) (sc_checked q) (Times q) (sc_Times q) q x z h
abbrev a_uDiv : Type := Int × Int × Int × Int × Int × Int × Int × Int × Int × Int × Int × Int
abbrev g_uDiv : Type := Int × Int × Int × Int × Int × Int × Int
def A_uDiv : a_uDiv → List V × List (Option Chunk) := (fun x => (fun (a : Int) (d0 : Int) (d1 : Int) (d2 : Int) (d3 : Int) (d4 : Int) (b : Int) (f0 : Int) (f1 : Int) (f2 : Int) (f3 : Int) (f4 : Int) => (([.agg [i64 a, i64 d0, i64 d1, i64 d2, i64 d3, i64 d4], .agg [i64 b, i64 f0, i64 f1, i64 f2, i64 f3, i64 f4]] : List V), ([] : List (Option Chunk)))) x.1 x.2.1 x.2.2.1 x.2.2.2.1 x.2.2.2.2.1 x.2.2.2.2.2.1 x.2.2.2.2.2.2.1 x.2.2.2.2.2.2.2.1 x.2.2.2.2.2.2.2.2.1 x.2.2.2.2.2.2.2.2.2.1 x.2.2.2.2.2.2.2.2.2.2.1 x.2.2.2.2.2.2.2.2.2.2.2)
def d_uDiv (t : List V × List (Option Chunk)) : a_uDiv := ((vI ((vAg (t.1.getD 0 .junk)).getD 0 .junk)), (vI ((vAg (t.1.getD 0 .junk)).getD 1 .junk)), (vI ((vAg (t.1.getD 0 .junk)).getD 2 .junk)), (vI ((vAg (t.1.getD 0 .junk)).getD 3 .junk)), (vI ((vAg (t.1.getD 0 .junk)).getD 4 .junk)), (vI ((vAg (t.1.getD 0 .junk)).getD 5 .junk)), (vI ((vAg (t.1.getD 1 .junk)).getD 0 .junk)), (vI ((vAg (t.1.getD 1 .junk)).getD 1 .junk)), (vI ((vAg (t.1.getD 1 .junk)).getD 2 .junk)), (vI ((vAg (t.1.getD 1 .junk)).getD 3 .junk)), (vI ((vAg (t.1.getD 1 .junk)).getD 4 .junk)), (vI ((vAg (t.1.getD 1 .junk)).getD 5 .junk)))
theorem i_uDiv : ∀ x y, A_uDiv x = A_uDiv y → x = y := fun x y h => (congrArg d_uDiv h :)
def R_uDiv : g_uDiv → CRes := (fun z => (fun (n : Int) (d0 : Int) (d1 : Int) (d2 : Int) (d3 : Int) (d4 : Int) (e : Int) => .ret (.tup [.agg [i64 n, i64 d0, i64 d1, i64 d2, i64 d3, i64 d4], i64 e]) []) z.1 z.2.1 z.2.2.1 z.2.2.2.1 z.2.2.2.2.1 z.2.2.2.2.2.1 z.2.2.2.2.2.2 : (Int × Int × Int × Int × Int × Int × Int) → CRes)
def x_uDiv (z : g_uDiv) (k : CRes → Option Ans) : Option Ans := k (R_uDiv z)
theorem xe_uDiv : ∀ z k, x_uDiv z k = k (R_uDiv z) := fun z k => rfl
def t_uDiv {β : Type} (c_checked : a_checked → Option g_checked) (c_Over : a_Over → Option g_Over) (x : a_uDiv) (dn : g_uDiv → Option β) : Option β :=
 if (x.2.2.2.2.2.2.1 == (0 : Int)) = true then
  dn (((0 : Int), (0 : Int), (0 : Int), (0 : Int), (0 : Int), (0 : Int), (1 : Int)))
 else
  if x.2.2.2.2.2.2.1 = (0 : Int) then
   none
  else
   if x.2.2.2.2.2.2.1 = (0 : Int) then
    none
   else
    if (Int.tmod (x.1) (x.2.2.2.2.2.2.1) != (0 : Int)) = true then
     if (!decide (x.1 < (0 : Int)) == decide (x.2.2.2.2.2.2.1 < (0 : Int))) = true then
      (c_Over ((x.2.1, x.2.2.1, x.2.2.2.1, x.2.2.2.2.1, x.2.2.2.2.2.1, x.2.2.2.2.2.2.2))).bind fun z10 =>
       (c_checked ((w (w (Int.tdiv (x.1) (x.2.2.2.2.2.2.1)) - (1 : Int)), z10))).bind fun z17 =>
        dn z17
     else
      (c_Over ((x.2.1, x.2.2.1, x.2.2.2.1, x.2.2.2.2.1, x.2.2.2.2.2.1, x.2.2.2.2.2.2.2))).bind fun z28 =>
       (c_checked ((w (Int.tdiv (x.1) (x.2.2.2.2.2.2.1)), z28))).bind fun z35 =>
        dn z35
    else
     (c_Over ((x.2.1, x.2.2.1, x.2.2.2.1, x.2.2.2.2.1, x.2.2.2.2.2.1, x.2.2.2.2.2.2.2))).bind fun z46 =>
      (c_checked ((w (Int.tdiv (x.1) (x.2.2.2.2.2.2.1)), z46))).bind fun z53 =>
       dn z53
theorem n_uDiv {β : Type} (c_checked : a_checked → Option g_checked) (c_Over : a_Over → Option g_Over) (x : a_uDiv) (dn : g_uDiv → Option β) : t_uDiv c_checked c_Over x dn = (t_uDiv c_checked c_Over x some).bind dn := by
  unfold t_uDiv
  repeat' first | exact free_none | refine free_bind (fun z => ?_) | refine free_ite ?_ ?_ | refine free_sum (fun z => ?_) (fun z => ?_) | rfl
theorem r_uDiv (c_checked : a_checked → Option g_checked) (c_Over : a_Over → Option g_Over) (x : a_uDiv) : callK E5 (ftab 59 (fun _ _ => true) A_checked x_checked c_checked (ftab 46 (fun _ _ => true) A_Over x_Over c_Over (callG E5 20))) lo0 62 (A_uDiv x).1 (A_uDiv x).2 K = t_uDiv (fun x => viaF A_checked c_checked (A_checked x)) (fun x => viaF A_Over c_Over (A_Over x)) x (fun z => some (.c (R_uDiv z))) := by kernel_rfl
theorem s_uDiv (c_checked : a_checked → Option g_checked) (h_checked : ∀ x z, c_checked x = some z → SC E5 59 (A_checked x).1 (A_checked x).2 (R_checked z)) (c_Over : a_Over → Option g_Over) (h_Over : ∀ x z, c_Over x = some z → SC E5 46 (A_Over x).1 (A_Over x).2 (R_Over z)) (q : Nat) (x : a_uDiv) (z : g_uDiv) (h : t_uDiv c_checked c_Over x some = some z) : SC E5 62 (A_uDiv x).1 (A_uDiv x).2 (R_uDiv z) := by
  refine SC.of hW5 hX5 (ftab_cons h_checked xe_checked (ftab_cons h_Over xe_Over (sound_G hW5 hX5 20).1)) lo0_sound ((r_uDiv c_checked c_Over x).trans ?_)
  rw [via_eq i_checked c_checked, via_eq i_Over c_Over, n_uDiv, h]; rfl
noncomputable def uDiv (q : Nat) (x : a_uDiv) : Option g_uDiv := t_uDiv (checked q) (Over q) x some
theorem sc_uDiv (q : Nat) : ∀ (x : a_uDiv) (z : g_uDiv), uDiv q x = some z → SC E5 62 (A_uDiv x).1 (A_uDiv x).2 (R_uDiv z) := fun x z h => s_uDiv (checked q) (sc_checked q) (Over q) (sc_Over q) q x z h
abbrev a_uCompare : Type := Int × Int × Int × Int × Int × Int × Int × Int × Int × Int × Int × Int
abbrev g_uCompare : Type := Int × Int
def A_uCompare : a_uCompare → List V × List (Option Chunk) := (fun x => (fun (a : Int) (d0 : Int) (d1 : Int) (d2 : Int) (d3 : Int) (d4 : Int) (b : Int) (f0 : Int) (f1 : Int) (f2 : Int) (f3 : Int) (f4 : Int) => (([.agg [i64 a, i64 d0, i64 d1, i64 d2, i64 d3, i64 d4], .agg [i64 b, i64 f0, i64 f1, i64 f2, i64 f3, i64 f4]] : List V), ([] : List (Option Chunk)))) x.1 x.2.1 x.2.2.1 x.2.2.2.1 x.2.2.2.2.1 x.2.2.2.2.2.1 x.2.2.2.2.2.2.1 x.2.2.2.2.2.2.2.1 x.2.2.2.2.2.2.2.2.1 x.2.2.2.2.2.2.2.2.2.1 x.2.2.2.2.2.2.2.2.2.2.1 x.2.2.2.2.2.2.2.2.2.2.2)
def d_uCompare (t : List V × List (Option Chunk)) : a_uCompare := ((vI ((vAg (t.1.getD 0 .junk)).getD 0 .junk)), (vI ((vAg (t.1.getD 0 .junk)).getD 1 .junk)), (vI ((vAg (t.1.getD 0 .junk)).getD 2 .junk)), (vI ((vAg (t.1.getD 0 .junk)).getD 3 .junk)), (vI ((vAg (t.1.getD 0 .junk)).getD 4 .junk)), (vI ((vAg (t.1.getD 0 .junk)).getD 5 .junk)), (vI ((vAg (t.1.getD 1 .junk)).getD 0 .junk)), (vI ((vAg (t.1.getD 1 .junk)).getD 1 .junk)), (vI ((vAg (t.1.getD 1 .junk)).getD 2 .junk)), (vI ((vAg (t.1.getD 1 .junk)).getD 3 .junk)), (vI ((vAg (t.1.getD 1 .junk)).getD 4 .junk)), (vI ((vAg (t.1.getD 1 .junk)).getD 5 .junk)))
theorem i_uCompare : ∀ x y, A_uCompare x = A_uCompare y → x = y := fun x y h => (congrArg d_uCompare h :)
def R_uCompare : g_uCompare → CRes := (fun z => (fun (c : Int) (e : Int) => .ret (.tup [i64 c, i64 e]) []) z.1 z.2 : (Int × Int) → CRes)
def x_uCompare (z : g_uCompare) (k : CRes → Option Ans) : Option Ans := k (R_uCompare z)
theorem xe_uCompare : ∀ z k, x_uCompare z k = k (R_uCompare z) := fun z k => rfl
def t_uCompare {β : Type} (x : a_uCompare) (dn : g_uCompare → Option β) : Option β :=
 if (if true = true then !(x.2.1 == x.2.2.2.2.2.2.2.1 && (x.2.2.1 == x.2.2.2.2.2.2.2.2.1 && (x.2.2.2.1 == x.2.2.2.2.2.2.2.2.2.1 && (x.2.2.2.2.1 == x.2.2.2.2.2.2.2.2.2.2.1 && (x.2.2.2.2.2.1 == x.2.2.2.2.2.2.2.2.2.2.2 && true))))) else x.2.1 == x.2.2.2.2.2.2.2.1 && (x.2.2.1 == x.2.2.2.2.2.2.2.2.1 && (x.2.2.2.1 == x.2.2.2.2.2.2.2.2.2.1 && (x.2.2.2.2.1 == x.2.2.2.2.2.2.2.2.2.2.1 && (x.2.2.2.2.2.1 == x.2.2.2.2.2.2.2.2.2.2.2 && true))))) = true then
  dn (((0 : Int), (10 : Int)))
 else
  if decide (x.1 < x.2.2.2.2.2.2.1) = true then
   dn (((-1 : Int), (0 : Int)))
  else
   if decide (x.1 > x.2.2.2.2.2.2.1) = true then
    dn (((1 : Int), (0 : Int)))
   else
    dn (((0 : Int), (0 : Int)))
theorem n_uCompare {β : Type} (x : a_uCompare) (dn : g_uCompare → Option β) : t_uCompare x dn = (t_uCompare x some).bind dn := by
  unfold t_uCompare
  repeat' first | exact free_none | refine free_bind (fun z => ?_) | refine free_ite ?_ ?_ | refine free_sum (fun z => ?_) (fun z => ?_) | rfl
theorem r_uCompare (x : a_uCompare) : callK E5 (callG E5 20) lo0 63 (A_uCompare x).1 (A_uCompare x).2 K = t_uCompare x (fun z => some (.c (R_uCompare z))) := by kernel_rfl
theorem s_uCompare (q : Nat) (x : a_uCompare) (z : g_uCompare) (h : t_uCompare x some = some z) : SC E5 63 (A_uCompare x).1 (A_uCompare x).2 (R_uCompare z) := by
  refine SC.of hW5 hX5 (sound_G hW5 hX5 20).1 lo0_sound ((r_uCompare x).trans ?_)
  rw [n_uCompare, h]; rfl
noncomputable def uCompare (q : Nat) (x : a_uCompare) : Option g_uCompare := t_uCompare x some
theorem sc_uCompare (q : Nat) : ∀ (x : a_uCompare) (z : g_uCompare), uCompare q x = some z → SC E5 63 (A_uCompare x).1 (A_uCompare x).2 (R_uCompare z) := fun x z h => s_uCompare q x z h
abbrev a_Pick : Type := Nat × (Nat → Int) × Int × Int
abbrev g_Pick : Type := Int
def A_Pick : a_Pick → List V × List (Option Chunk) := (fun x => (fun (ln : Nat) (lv : Nat → Int) (i : Int) (m : Int) => (([.ro 1 ln (fun j => [i64 (lv j)]), i64 i, i64 m] : List V), ([] : List (Option Chunk)))) x.1 x.2.1 x.2.2.1 x.2.2.2)
def d_Pick (t : List V × List (Option Chunk)) : a_Pick := ((vRoN (t.1.getD 0 .junk)), (fun j => (vI (((vRoF (t.1.getD 0 .junk)) j).getD 0 .junk))), (vI (t.1.getD 1 .junk)), (vI (t.1.getD 2 .junk)))
theorem i_Pick : ∀ x y, A_Pick x = A_Pick y → x = y := fun x y h => (congrArg d_Pick h :)
def R_Pick : g_Pick → CRes := (fun z => (fun (k : Int) => .ret (i64 k) []) z : (Int) → CRes)
def x_Pick (z : g_Pick) (k : CRes → Option Ans) : Option Ans := k (R_Pick z)
theorem xe_Pick : ∀ z k, x_Pick z k = k (R_Pick z) := fun z k => rfl
def t_Pick {β : Type} (x : a_Pick) (dn : g_Pick → Option β) : Option β :=
 if decide (x.2.2.1 < (0 : Int)) = true then
  dn ((0 : Int))
 else
  if decide (x.2.2.1 ≥ ((x.1 : Nat) : Int)) = true then
   dn ((0 : Int))
  else
   if (0 : Int) ≤ x.2.2.1 ∧ x.2.2.1 < ((x.1 : Nat) : Int) then
    if decide (x.2.1 (Int.toNat (x.2.2.1)) < (0 : Int)) = true then
     if x.2.2.2 = (0 : Int) then
      none
     else
      dn (Int.tmod (w ((0 : Int) - w (x.2.1 (Int.toNat (x.2.2.1)) + (1 : Int)))) (x.2.2.2))
    else
     if x.2.2.2 = (0 : Int) then
      none
     else
      dn (Int.tmod (x.2.1 (Int.toNat (x.2.2.1))) (x.2.2.2))
   else
    none
theorem n_Pick {β : Type} (x : a_Pick) (dn : g_Pick → Option β) : t_Pick x dn = (t_Pick x some).bind dn := by
  unfold t_Pick
  repeat' first | exact free_none | refine free_bind (fun z => ?_) | refine free_ite ?_ ?_ | refine free_sum (fun z => ?_) (fun z => ?_) | rfl
theorem r_Pick (x : a_Pick) : callK E5 (callG E5 20) lo0 39 (A_Pick x).1 (A_Pick x).2 K = t_Pick x (fun z => some (.c (R_Pick z))) := by kernel_rfl
theorem s_Pick (q : Nat) (x : a_Pick) (z : g_Pick) (h : t_Pick x some = some z) : SC E5 39 (A_Pick x).1 (A_Pick x).2 (R_Pick z) := by
  refine SC.of hW5 hX5 (sound_G hW5 hX5 20).1 lo0_sound ((r_Pick x).trans ?_)
  rw [n_Pick, h]; rfl
noncomputable def Pick (q : Nat) (x : a_Pick) : Option g_Pick := t_Pick x some
theorem sc_Pick (q : Nat) : ∀ (x : a_Pick) (z : g_Pick), Pick q x = some z → SC E5 39 (A_Pick x).1 (A_Pick x).2 (R_Pick z) := fun x z h => s_Pick q x z h
abbrev a_combine : Type := ByteArray × Bool × Bool × Int × Int × Int × Int × Int × Int × Int × Bool × Bool × Int × Int × Int × Int × Int × Int × Int
abbrev g_combine : Type := Bool × Bool × Int × Int × Int × Int × Int × Int × Int
def A_combine : a_combine → List V × List (Option Chunk) := (fun x => (fun (s : ByteArray) (is : Bool) (tr : Bool) (n : Int) (d0 : Int) (d1 : Int) (d2 : Int) (d3 : Int) (d4 : Int) (e : Int) (js : Bool) (us : Bool) (m : Int) (f0 : Int) (f1 : Int) (f2 : Int) (f3 : Int) (f4 : Int) (g : Int) => (([st s, .agg [bo is, bo tr, i64 n, i64 d0, i64 d1, i64 d2, i64 d3, i64 d4, i64 e], .agg [bo js, bo us, i64 m, i64 f0, i64 f1, i64 f2, i64 f3, i64 f4, i64 g]] : List V), ([] : List (Option Chunk)))) x.1 x.2.1 x.2.2.1 x.2.2.2.1 x.2.2.2.2.1 x.2.2.2.2.2.1 x.2.2.2.2.2.2.1 x.2.2.2.2.2.2.2.1 x.2.2.2.2.2.2.2.2.1 x.2.2.2.2.2.2.2.2.2.1 x.2.2.2.2.2.2.2.2.2.2.1 x.2.2.2.2.2.2.2.2.2.2.2.1 x.2.2.2.2.2.2.2.2.2.2.2.2.1 x.2.2.2.2.2.2.2.2.2.2.2.2.2.1 x.2.2.2.2.2.2.2.2.2.2.2.2.2.2.1 x.2.2.2.2.2.2.2.2.2.2.2.2.2.2.2.1 x.2.2.2.2.2.2.2.2.2.2.2.2.2.2.2.2.1 x.2.2.2.2.2.2.2.2.2.2.2.2.2.2.2.2.2.1 x.2.2.2.2.2.2.2.2.2.2.2.2.2.2.2.2.2.2)
def d_combine (t : List V × List (Option Chunk)) : a_combine := ((vS (t.1.getD 0 .junk)), (vB ((vAg (t.1.getD 1 .junk)).getD 0 .junk)), (vB ((vAg (t.1.getD 1 .junk)).getD 1 .junk)), (vI ((vAg (t.1.getD 1 .junk)).getD 2 .junk)), (vI ((vAg (t.1.getD 1 .junk)).getD 3 .junk)), (vI ((vAg (t.1.getD 1 .junk)).getD 4 .junk)), (vI ((vAg (t.1.getD 1 .junk)).getD 5 .junk)), (vI ((vAg (t.1.getD 1 .junk)).getD 6 .junk)), (vI ((vAg (t.1.getD 1 .junk)).getD 7 .junk)), (vI ((vAg (t.1.getD 1 .junk)).getD 8 .junk)), (vB ((vAg (t.1.getD 2 .junk)).getD 0 .junk)), (vB ((vAg (t.1.getD 2 .junk)).getD 1 .junk)), (vI ((vAg (t.1.getD 2 .junk)).getD 2 .junk)), (vI ((vAg (t.1.getD 2 .junk)).getD 3 .junk)), (vI ((vAg (t.1.getD 2 .junk)).getD 4 .junk)), (vI ((vAg (t.1.getD 2 .junk)).getD 5 .junk)), (vI ((vAg (t.1.getD 2 .junk)).getD 6 .junk)), (vI ((vAg (t.1.getD 2 .junk)).getD 7 .junk)), (vI ((vAg (t.1.getD 2 .junk)).getD 8 .junk)))
theorem i_combine : ∀ x y, A_combine x = A_combine y → x = y := fun x y h => (congrArg d_combine h :)
def R_combine : g_combine → CRes := (fun z => (fun (is : Bool) (tr : Bool) (n : Int) (d0 : Int) (d1 : Int) (d2 : Int) (d3 : Int) (d4 : Int) (e : Int) => .ret (.agg [bo is, bo tr, i64 n, i64 d0, i64 d1, i64 d2, i64 d3, i64 d4, i64 e]) []) z.1 z.2.1 z.2.2.1 z.2.2.2.1 z.2.2.2.2.1 z.2.2.2.2.2.1 z.2.2.2.2.2.2.1 z.2.2.2.2.2.2.2.1 z.2.2.2.2.2.2.2.2 : (Bool × Bool × Int × Int × Int × Int × Int × Int × Int) → CRes)
def x_combine (z : g_combine) (k : CRes → Option Ans) : Option Ans := k (R_combine z)
theorem xe_combine : ∀ z k, x_combine z k = k (R_combine z) := fun z k => rfl
def t_combine {β : Type} (c_uAdd : a_uAdd → Option g_uAdd) (c_uSub : a_uSub → Option g_uSub) (c_uMul : a_uMul → Option g_uMul) (c_uDiv : a_uDiv → Option g_uDiv) (c_uCompare : a_uCompare → Option g_uCompare) (x : a_combine) (dn : g_combine → Option β) : Option β :=
 if (ByteArray.toList (x.1) == ByteArray.toList { data := #[(38 : UInt8), (38 : UInt8)] }) = true then
  if x.2.2.1 = true then
   dn ((true, x.2.2.2.2.2.2.2.2.2.2.2.1, (0 : Int), (0 : Int), (0 : Int), (0 : Int), (0 : Int), (0 : Int), (0 : Int)))
  else
   dn ((true, false, (0 : Int), (0 : Int), (0 : Int), (0 : Int), (0 : Int), (0 : Int), (0 : Int)))
 else
  if (ByteArray.toList (x.1) == ByteArray.toList { data := #[(124 : UInt8), (124 : UInt8)] }) = true then
   if x.2.2.1 = true then
    dn ((true, true, (0 : Int), (0 : Int), (0 : Int), (0 : Int), (0 : Int), (0 : Int), (0 : Int)))
   else
    dn ((true, x.2.2.2.2.2.2.2.2.2.2.2.1, (0 : Int), (0 : Int), (0 : Int), (0 : Int), (0 : Int), (0 : Int), (0 : Int)))
  else
   if (ByteArray.toList (x.1) == ByteArray.toList { data := #[(43 : UInt8)] }) = true then
    (c_uAdd ((x.2.2.2.1, x.2.2.2.2.1, x.2.2.2.2.2.1, x.2.2.2.2.2.2.1, x.2.2.2.2.2.2.2.1, x.2.2.2.2.2.2.2.2.1, x.2.2.2.2.2.2.2.2.2.2.2.2.1, x.2.2.2.2.2.2.2.2.2.2.2.2.2.1, x.2.2.2.2.2.2.2.2.2.2.2.2.2.2.1, x.2.2.2.2.2.2.2.2.2.2.2.2.2.2.2.1, x.2.2.2.2.2.2.2.2.2.2.2.2.2.2.2.2.1, x.2.2.2.2.2.2.2.2.2.2.2.2.2.2.2.2.2.1))).bind fun z12 =>
     dn ((false, false, z12))
   else
    if (ByteArray.toList (x.1) == ByteArray.toList { data := #[(45 : UInt8)] }) = true then
     (c_uSub ((x.2.2.2.1, x.2.2.2.2.1, x.2.2.2.2.2.1, x.2.2.2.2.2.2.1, x.2.2.2.2.2.2.2.1, x.2.2.2.2.2.2.2.2.1, x.2.2.2.2.2.2.2.2.2.2.2.2.1, x.2.2.2.2.2.2.2.2.2.2.2.2.2.1, x.2.2.2.2.2.2.2.2.2.2.2.2.2.2.1, x.2.2.2.2.2.2.2.2.2.2.2.2.2.2.2.1, x.2.2.2.2.2.2.2.2.2.2.2.2.2.2.2.2.1, x.2.2.2.2.2.2.2.2.2.2.2.2.2.2.2.2.2.1))).bind fun z25 =>
      dn ((false, false, z25))
    else
     if (ByteArray.toList (x.1) == ByteArray.toList { data := #[(42 : UInt8)] }) = true then
      (c_uMul ((x.2.2.2.1, x.2.2.2.2.1, x.2.2.2.2.2.1, x.2.2.2.2.2.2.1, x.2.2.2.2.2.2.2.1, x.2.2.2.2.2.2.2.2.1, x.2.2.2.2.2.2.2.2.2.2.2.2.1, x.2.2.2.2.2.2.2.2.2.2.2.2.2.1, x.2.2.2.2.2.2.2.2.2.2.2.2.2.2.1, x.2.2.2.2.2.2.2.2.2.2.2.2.2.2.2.1, x.2.2.2.2.2.2.2.2.2.2.2.2.2.2.2.2.1, x.2.2.2.2.2.2.2.2.2.2.2.2.2.2.2.2.2.1))).bind fun z38 =>
       dn ((false, false, z38))
     else
      if (ByteArray.toList (x.1) == ByteArray.toList { data := #[(47 : UInt8)] }) = true then
       (c_uDiv ((x.2.2.2.1, x.2.2.2.2.1, x.2.2.2.2.2.1, x.2.2.2.2.2.2.1, x.2.2.2.2.2.2.2.1, x.2.2.2.2.2.2.2.2.1, x.2.2.2.2.2.2.2.2.2.2.2.2.1, x.2.2.2.2.2.2.2.2.2.2.2.2.2.1, x.2.2.2.2.2.2.2.2.2.2.2.2.2.2.1, x.2.2.2.2.2.2.2.2.2.2.2.2.2.2.2.1, x.2.2.2.2.2.2.2.2.2.2.2.2.2.2.2.2.1, x.2.2.2.2.2.2.2.2.2.2.2.2.2.2.2.2.2.1))).bind fun z51 =>
        dn ((false, false, z51))
      else
       (c_uCompare ((x.2.2.2.1, x.2.2.2.2.1, x.2.2.2.2.2.1, x.2.2.2.2.2.2.1, x.2.2.2.2.2.2.2.1, x.2.2.2.2.2.2.2.2.1, x.2.2.2.2.2.2.2.2.2.2.2.2.1, x.2.2.2.2.2.2.2.2.2.2.2.2.2.1, x.2.2.2.2.2.2.2.2.2.2.2.2.2.2.1, x.2.2.2.2.2.2.2.2.2.2.2.2.2.2.2.1, x.2.2.2.2.2.2.2.2.2.2.2.2.2.2.2.2.1, x.2.2.2.2.2.2.2.2.2.2.2.2.2.2.2.2.2.1))).bind fun z64 =>
        dn ((true, decide (z64.1 < (0 : Int)), (0 : Int), (0 : Int), (0 : Int), (0 : Int), (0 : Int), (0 : Int), z64.2))
theorem n_combine {β : Type} (c_uAdd : a_uAdd → Option g_uAdd) (c_uSub : a_uSub → Option g_uSub) (c_uMul : a_uMul → Option g_uMul) (c_uDiv : a_uDiv → Option g_uDiv) (c_uCompare : a_uCompare → Option g_uCompare) (x : a_combine) (dn : g_combine → Option β) : t_combine c_uAdd c_uSub c_uMul c_uDiv c_uCompare x dn = (t_combine c_uAdd c_uSub c_uMul c_uDiv c_uCompare x some).bind dn := by
  unfold t_combine
  repeat' first | exact free_none | refine free_bind (fun z => ?_) | refine free_ite ?_ ?_ | refine free_sum (fun z => ?_) (fun z => ?_) | rfl
theorem r_combine (c_uAdd : a_uAdd → Option g_uAdd) (c_uSub : a_uSub → Option g_uSub) (c_uMul : a_uMul → Option g_uMul) (c_uDiv : a_uDiv → Option g_uDiv) (c_uCompare : a_uCompare → Option g_uCompare) (x : a_combine) : callK E5 (ftab 60 (fun _ _ => true) A_uAdd x_uAdd c_uAdd (ftab 40 (fun _ _ => true) A_uSub x_uSub c_uSub (ftab 61 (fun _ _ => true) A_uMul x_uMul c_uMul (ftab 62 (fun _ _ => true) A_uDiv x_uDiv c_uDiv (ftab 63 (fun _ _ => true) A_uCompare x_uCompare c_uCompare ca0))))) lo0 41 (A_combine x).1 (A_combine x).2 K = t_combine (fun x => viaF A_uAdd c_uAdd (A_uAdd x)) (fun x => viaF A_uSub c_uSub (A_uSub x)) (fun x => viaF A_uMul c_uMul (A_uMul x)) (fun x => viaF A_uDiv c_uDiv (A_uDiv x)) (fun x => viaF A_uCompare c_uCompare (A_uCompare x)) x (fun z => some (.c (R_combine z))) := by kernel_rfl
theorem s_combine (c_uAdd : a_uAdd → Option g_uAdd) (h_uAdd : ∀ x z, c_uAdd x = some z → SC E5 60 (A_uAdd x).1 (A_uAdd x).2 (R_uAdd z)) (c_uSub : a_uSub → Option g_uSub) (h_uSub : ∀ x z, c_uSub x = some z → SC E5 40 (A_uSub x).1 (A_uSub x).2 (R_uSub z)) (c_uMul : a_uMul → Option g_uMul) (h_uMul : ∀ x z, c_uMul x = some z → SC E5 61 (A_uMul x).1 (A_uMul x).2 (R_uMul z)) (c_uDiv : a_uDiv → Option g_uDiv) (h_uDiv : ∀ x z, c_uDiv x = some z → SC E5 62 (A_uDiv x).1 (A_uDiv x).2 (R_uDiv z)) (c_uCompare : a_uCompare → Option g_uCompare) (h_uCompare : ∀ x z, c_uCompare x = some z → SC E5 63 (A_uCompare x).1 (A_uCompare x).2 (R_uCompare z)) (q : Nat) (x : a_combine) (z : g_combine) (h : t_combine c_uAdd c_uSub c_uMul c_uDiv c_uCompare x some = some z) : SC E5 41 (A_combine x).1 (A_combine x).2 (R_combine z) := by
  refine SC.of hW5 hX5 (ftab_cons h_uAdd xe_uAdd (ftab_cons h_uSub xe_uSub (ftab_cons h_uMul xe_uMul (ftab_cons h_uDiv xe_uDiv (ftab_cons h_uCompare xe_uCompare ca0_sound))))) lo0_sound ((r_combine c_uAdd c_uSub c_uMul c_uDiv c_uCompare x).trans ?_)
  rw [via_eq i_uAdd c_uAdd, via_eq i_uSub c_uSub, via_eq i_uMul c_uMul, via_eq i_uDiv c_uDiv, via_eq i_uCompare c_uCompare, n_combine, h]; rfl
noncomputable def combine (q : Nat) (x : a_combine) : Option g_combine := t_combine (uAdd q) (uSub q) (uMul q) (uDiv q) (uCompare q) x some
theorem sc_combine (q : Nat) : ∀ (x : a_combine) (z : g_combine), combine q x = some z → SC E5 41 (A_combine x).1 (A_combine x).2 (R_combine z) := fun x z h => s_combine (uAdd q) (sc_uAdd q) (uSub q) (sc_uSub q) (uMul q) (sc_uMul q) (uDiv q) (sc_uDiv q) (uCompare q) (sc_uCompare q) q x z h
abbrev a_eval : Type := Int × Int × ByteArray × Nat × (Nat → List V) × Nat × (Nat → ByteArray) × (Nat → Int) × (Nat → Int) × (Nat → Int) × (Nat → Int) × (Nat → Int) × Nat × (Nat → Int)
abbrev g_eval : Type := Bool × Bool × Int × Int × Int × Int × Int × Int × Int
def A_eval : a_eval → List V × List (Option Chunk) := (fun x => (fun (nk : Int) (nn : Int) (ns : ByteArray) (nm : Nat) (nf : Nat → List V) (vn : Nat) (vs : Nat → ByteArray) (v0 : Nat → Int) (v1 : Nat → Int) (v2 : Nat → Int) (v3 : Nat → Int) (v4 : Nat → Int) (ln : Nat) (lv : Nat → Int) => (([.agg [i64 nk, i64 nn, st ns, .ro 4 nm nf], .ro 6 vn (fun j => [st (vs j), i64 (v0 j), i64 (v1 j), i64 (v2 j), i64 (v3 j), i64 (v4 j)]), .ro 1 ln (fun j => [i64 (lv j)])] : List V), ([] : List (Option Chunk)))) x.1 x.2.1 x.2.2.1 x.2.2.2.1 x.2.2.2.2.1 x.2.2.2.2.2.1 x.2.2.2.2.2.2.1 x.2.2.2.2.2.2.2.1 x.2.2.2.2.2.2.2.2.1 x.2.2.2.2.2.2.2.2.2.1 x.2.2.2.2.2.2.2.2.2.2.1 x.2.2.2.2.2.2.2.2.2.2.2.1 x.2.2.2.2.2.2.2.2.2.2.2.2.1 x.2.2.2.2.2.2.2.2.2.2.2.2.2)
def d_eval (t : List V × List (Option Chunk)) : a_eval := ((vI ((vAg (t.1.getD 0 .junk)).getD 0 .junk)), (vI ((vAg (t.1.getD 0 .junk)).getD 1 .junk)), (vS ((vAg (t.1.getD 0 .junk)).getD 2 .junk)), (vRoN ((vAg (t.1.getD 0 .junk)).getD 3 .junk)), (vRoF ((vAg (t.1.getD 0 .junk)).getD 3 .junk)), (vRoN (t.1.getD 1 .junk)), (fun j => vS ((vRoF (t.1.getD 1 .junk) j).getD 0 .junk)), (fun j => vI ((vRoF (t.1.getD 1 .junk) j).getD 1 .junk)), (fun j => vI ((vRoF (t.1.getD 1 .junk) j).getD 2 .junk)), (fun j => vI ((vRoF (t.1.getD 1 .junk) j).getD 3 .junk)), (fun j => vI ((vRoF (t.1.getD 1 .junk) j).getD 4 .junk)), (fun j => vI ((vRoF (t.1.getD 1 .junk) j).getD 5 .junk)), (vRoN (t.1.getD 2 .junk)), (fun j => vI ((vRoF (t.1.getD 2 .junk) j).getD 0 .junk)))
theorem i_eval : ∀ x y, A_eval x = A_eval y → x = y := fun x y h => (congrArg d_eval h :)
def R_eval : g_eval → CRes := (fun z => (fun (is : Bool) (tr : Bool) (n : Int) (d0 : Int) (d1 : Int) (d2 : Int) (d3 : Int) (d4 : Int) (e : Int) => .ret (.agg [bo is, bo tr, i64 n, i64 d0, i64 d1, i64 d2, i64 d3, i64 d4, i64 e]) []) z.1 z.2.1 z.2.2.1 z.2.2.2.1 z.2.2.2.2.1 z.2.2.2.2.2.1 z.2.2.2.2.2.2.1 z.2.2.2.2.2.2.2.1 z.2.2.2.2.2.2.2.2 : (Bool × Bool × Int × Int × Int × Int × Int × Int × Int) → CRes)
def x_eval (z : g_eval) (k : CRes → Option Ans) : Option Ans := k (R_eval z)
theorem xe_eval : ∀ z k, x_eval z k = k (R_eval z) := fun z k => rfl
abbrev a_evalN : Type := Int × Int × ByteArray × Nat × (Nat → Int) × (Nat → Int) × (Nat → ByteArray) × (Nat → Nat) × (Nat → Nat → List V) × Nat × (Nat → ByteArray) × (Nat → Int) × (Nat → Int) × (Nat → Int) × (Nat → Int) × (Nat → Int) × Nat × (Nat → Int)
abbrev g_evalN : Type := Bool × Bool × Int × Int × Int × Int × Int × Int × Int
def A_evalN : a_evalN → List V × List (Option Chunk) := (fun x => (fun (nk : Int) (nn : Int) (ns : ByteArray) (nm : Nat) (ek : Nat → Int) (en : Nat → Int) (es : Nat → ByteArray) (em : Nat → Nat) (ef : Nat → Nat → List V) (vn : Nat) (vs : Nat → ByteArray) (v0 : Nat → Int) (v1 : Nat → Int) (v2 : Nat → Int) (v3 : Nat → Int) (v4 : Nat → Int) (ln : Nat) (lv : Nat → Int) => (([.agg [i64 nk, i64 nn, st ns, .ro 4 nm (fun j => [i64 (ek j), i64 (en j), st (es j), .ro 4 (em j) (ef j)])], .ro 6 vn (fun j => [st (vs j), i64 (v0 j), i64 (v1 j), i64 (v2 j), i64 (v3 j), i64 (v4 j)]), .ro 1 ln (fun j => [i64 (lv j)])] : List V), ([] : List (Option Chunk)))) x.1 x.2.1 x.2.2.1 x.2.2.2.1 x.2.2.2.2.1 x.2.2.2.2.2.1 x.2.2.2.2.2.2.1 x.2.2.2.2.2.2.2.1 x.2.2.2.2.2.2.2.2.1 x.2.2.2.2.2.2.2.2.2.1 x.2.2.2.2.2.2.2.2.2.2.1 x.2.2.2.2.2.2.2.2.2.2.2.1 x.2.2.2.2.2.2.2.2.2.2.2.2.1 x.2.2.2.2.2.2.2.2.2.2.2.2.2.1 x.2.2.2.2.2.2.2.2.2.2.2.2.2.2.1 x.2.2.2.2.2.2.2.2.2.2.2.2.2.2.2.1 x.2.2.2.2.2.2.2.2.2.2.2.2.2.2.2.2.1 x.2.2.2.2.2.2.2.2.2.2.2.2.2.2.2.2.2)
def R_evalN : g_evalN → CRes := (fun z => (fun (is : Bool) (tr : Bool) (n : Int) (d0 : Int) (d1 : Int) (d2 : Int) (d3 : Int) (d4 : Int) (e : Int) => .ret (.agg [bo is, bo tr, i64 n, i64 d0, i64 d1, i64 d2, i64 d3, i64 d4, i64 e]) []) z.1 z.2.1 z.2.2.1 z.2.2.2.1 z.2.2.2.2.1 z.2.2.2.2.2.1 z.2.2.2.2.2.2.1 z.2.2.2.2.2.2.2.1 z.2.2.2.2.2.2.2.2 : (Bool × Bool × Int × Int × Int × Int × Int × Int × Int) → CRes)
def t_evalN {β : Type} (c_eval : a_eval → Option g_eval) (c_Lookup : a_Lookup → Option g_Lookup) (c_Find : a_Find → Option g_Find) (c_Pick : a_Pick → Option g_Pick) (c_Tele : a_Tele → Option g_Tele) (c_uSub : a_uSub → Option g_uSub) (c_combine : a_combine → Option g_combine) (x : a_evalN) (dn : g_evalN → Option β) : Option β :=
 if (x.1 == (15 : Int)) = true then
  (c_Lookup (x.2.2.1)).bind fun z1 =>
   if (ByteArray.toList (x.2.2.1) == ByteArray.toList { data := #[] }) = true then
    dn ((false, false, w (x.2.1 * (1 : Int)), z1.1, z1.2.1, z1.2.2.1, z1.2.2.2.1, z1.2.2.2.2.1, (0 : Int)))
   else
    dn ((false, false, w (x.2.1 * z1.2.2.2.2.2.1), z1.1, z1.2.1, z1.2.2.1, z1.2.2.2.1, z1.2.2.2.2.1, (0 : Int)))
 else
  if (x.1 == (16 : Int)) = true then
   dn ((true, x.2.1 == (1 : Int), (0 : Int), (0 : Int), (0 : Int), (0 : Int), (0 : Int), (0 : Int), (0 : Int)))
  else
   if (x.1 == (17 : Int)) = true then
    (c_Find ((x.2.2.2.2.2.2.2.2.2.1, x.2.2.2.2.2.2.2.2.2.2.1, x.2.2.2.2.2.2.2.2.2.2.2.1, x.2.2.2.2.2.2.2.2.2.2.2.2.1, x.2.2.2.2.2.2.2.2.2.2.2.2.2.1, x.2.2.2.2.2.2.2.2.2.2.2.2.2.2.1, x.2.2.2.2.2.2.2.2.2.2.2.2.2.2.2.1, x.2.2.1))).bind fun z10 =>
     (c_Pick ((x.2.2.2.2.2.2.2.2.2.2.2.2.2.2.2.2.1, x.2.2.2.2.2.2.2.2.2.2.2.2.2.2.2.2.2, z10, (1000 : Int)))).bind fun z15 =>
      if (0 : Int) ≤ z10 ∧ z10 < ((x.2.2.2.2.2.2.2.2.2.1 : Nat) : Int) then
       dn ((false, false, z15, x.2.2.2.2.2.2.2.2.2.2.2.1 (Int.toNat z10), x.2.2.2.2.2.2.2.2.2.2.2.2.1 (Int.toNat z10), x.2.2.2.2.2.2.2.2.2.2.2.2.2.1 (Int.toNat z10), x.2.2.2.2.2.2.2.2.2.2.2.2.2.2.1 (Int.toNat z10), x.2.2.2.2.2.2.2.2.2.2.2.2.2.2.2.1 (Int.toNat z10), (0 : Int)))
      else
       none
   else
    if (x.1 == (18 : Int)) = true then
     (c_Tele (x.2.2.1)).bind fun z17 =>
      dn ((false, false, w ((100 : Int) + z17.1), z17.2.1, z17.2.2.1, z17.2.2.2.1, z17.2.2.2.2.1, z17.2.2.2.2.2.1, (0 : Int)))
    else
     if (0 : Int) ≤ (0 : Int) ∧ (0 : Int) < ((x.2.2.2.1 : Nat) : Int) then
      (c_eval ((x.2.2.2.2.1 0, x.2.2.2.2.2.1 0, x.2.2.2.2.2.2.1 0, x.2.2.2.2.2.2.2.1 0, x.2.2.2.2.2.2.2.2.1 0, x.2.2.2.2.2.2.2.2.2))).bind fun z32 =>
       if (z32.2.2.2.2.2.2.2.2 != (0 : Int)) = true then
        dn z32
       else
        if (x.1 == (19 : Int)) = true then
         if (ByteArray.toList (x.2.2.1) == ByteArray.toList { data := #[(33 : UInt8)] }) = true then
          dn ((true, !z32.2.1, (0 : Int), (0 : Int), (0 : Int), (0 : Int), (0 : Int), (0 : Int), (0 : Int)))
         else
          (c_uSub (((0 : Int), z32.2.2.2.1, z32.2.2.2.2.1, z32.2.2.2.2.2.1, z32.2.2.2.2.2.2.1, z32.2.2.2.2.2.2.2.1, z32.2.2.1, z32.2.2.2.1, z32.2.2.2.2.1, z32.2.2.2.2.2.1, z32.2.2.2.2.2.2.1, z32.2.2.2.2.2.2.2.1))).bind fun z45 =>
           dn ((false, false, z45))
        else
         if (0 : Int) ≤ (1 : Int) ∧ (1 : Int) < ((x.2.2.2.1 : Nat) : Int) then
          (c_eval ((x.2.2.2.2.1 1, x.2.2.2.2.2.1 1, x.2.2.2.2.2.2.1 1, x.2.2.2.2.2.2.2.1 1, x.2.2.2.2.2.2.2.2.1 1, x.2.2.2.2.2.2.2.2.2))).bind fun z60 =>
           if (z60.2.2.2.2.2.2.2.2 != (0 : Int)) = true then
            dn z60
           else
            (c_combine ((x.2.2.1, z32.1, z32.2.1, z32.2.2.1, z32.2.2.2.1, z32.2.2.2.2.1, z32.2.2.2.2.2.1, z32.2.2.2.2.2.2.1, z32.2.2.2.2.2.2.2.1, z32.2.2.2.2.2.2.2.2, z60))).bind fun z80 =>
             dn z80
         else
          none
     else
      none
theorem n_evalN {β : Type} (c_eval : a_eval → Option g_eval) (c_Lookup : a_Lookup → Option g_Lookup) (c_Find : a_Find → Option g_Find) (c_Pick : a_Pick → Option g_Pick) (c_Tele : a_Tele → Option g_Tele) (c_uSub : a_uSub → Option g_uSub) (c_combine : a_combine → Option g_combine) (x : a_evalN) (dn : g_evalN → Option β) : t_evalN c_eval c_Lookup c_Find c_Pick c_Tele c_uSub c_combine x dn = (t_evalN c_eval c_Lookup c_Find c_Pick c_Tele c_uSub c_combine x some).bind dn := by
  unfold t_evalN
  repeat' first | exact free_none | refine free_bind (fun z => ?_) | refine free_ite ?_ ?_ | refine free_sum (fun z => ?_) (fun z => ?_) | rfl
theorem r_evalN (c_eval : a_eval → Option g_eval) (c_Lookup : a_Lookup → Option g_Lookup) (c_Find : a_Find → Option g_Find) (c_Pick : a_Pick → Option g_Pick) (c_Tele : a_Tele → Option g_Tele) (c_uSub : a_uSub → Option g_uSub) (c_combine : a_combine → Option g_combine) (x : a_evalN) : callK E5 (ftab 21 (fun _ _ => true) A_eval x_eval c_eval (ftab 36 (fun _ _ => true) A_Lookup x_Lookup c_Lookup (ftab 28 (fun _ _ => true) A_Find x_Find c_Find (ftab 39 (fun _ _ => true) A_Pick x_Pick c_Pick (ftab 15 (fun _ _ => true) A_Tele x_Tele c_Tele (ftab 40 (fun _ _ => true) A_uSub x_uSub c_uSub (ftab 41 (fun _ _ => true) A_combine x_combine c_combine ca0))))))) lo0 21 (A_evalN x).1 (A_evalN x).2 K = t_evalN (fun x => viaF A_eval c_eval (A_eval x)) (fun x => viaF A_Lookup c_Lookup (A_Lookup x)) (fun x => viaF A_Find c_Find (A_Find x)) (fun x => viaF A_Pick c_Pick (A_Pick x)) (fun x => viaF A_Tele c_Tele (A_Tele x)) (fun x => viaF A_uSub c_uSub (A_uSub x)) (fun x => viaF A_combine c_combine (A_combine x)) x (fun z => some (.c (R_evalN z))) := by kernel_rfl
theorem s_evalN (c_eval : a_eval → Option g_eval) (h_eval : ∀ x z, c_eval x = some z → SC E5 21 (A_eval x).1 (A_eval x).2 (R_eval z)) (c_Lookup : a_Lookup → Option g_Lookup) (h_Lookup : ∀ x z, c_Lookup x = some z → SC E5 36 (A_Lookup x).1 (A_Lookup x).2 (R_Lookup z)) (c_Find : a_Find → Option g_Find) (h_Find : ∀ x z, c_Find x = some z → SC E5 28 (A_Find x).1 (A_Find x).2 (R_Find z)) (c_Pick : a_Pick → Option g_Pick) (h_Pick : ∀ x z, c_Pick x = some z → SC E5 39 (A_Pick x).1 (A_Pick x).2 (R_Pick z)) (c_Tele : a_Tele → Option g_Tele) (h_Tele : ∀ x z, c_Tele x = some z → SC E5 15 (A_Tele x).1 (A_Tele x).2 (R_Tele z)) (c_uSub : a_uSub → Option g_uSub) (h_uSub : ∀ x z, c_uSub x = some z → SC E5 40 (A_uSub x).1 (A_uSub x).2 (R_uSub z)) (c_combine : a_combine → Option g_combine) (h_combine : ∀ x z, c_combine x = some z → SC E5 41 (A_combine x).1 (A_combine x).2 (R_combine z)) (q : Nat) (x : a_evalN) (z : g_evalN) (h : t_evalN c_eval c_Lookup c_Find c_Pick c_Tele c_uSub c_combine x some = some z) : SC E5 21 (A_evalN x).1 (A_evalN x).2 (R_evalN z) := by
  refine SC.of hW5 hX5 (ftab_cons h_eval xe_eval (ftab_cons h_Lookup xe_Lookup (ftab_cons h_Find xe_Find (ftab_cons h_Pick xe_Pick (ftab_cons h_Tele xe_Tele (ftab_cons h_uSub xe_uSub (ftab_cons h_combine xe_combine ca0_sound))))))) lo0_sound ((r_evalN c_eval c_Lookup c_Find c_Pick c_Tele c_uSub c_combine x).trans ?_)
  rw [via_eq i_eval c_eval, via_eq i_Lookup c_Lookup, via_eq i_Find c_Find, via_eq i_Pick c_Pick, via_eq i_Tele c_Tele, via_eq i_uSub c_uSub, via_eq i_combine c_combine, n_evalN, h]; rfl
open Classical in
noncomputable def eval : Nat → a_eval → Option g_eval
  | 0, _ => none
  | q + 1, x => if OpenN x.2.2.2.2.1 then t_evalN (eval q) (Lookup q) (Find q) (Pick q) (Tele q) (uSub q) (combine q) (x.1, x.2.1, x.2.2.1, x.2.2.2.1, opK x.2.2.2.2.1, opN x.2.2.2.2.1, opS x.2.2.2.2.1, opM x.2.2.2.2.1, opF x.2.2.2.2.1, x.2.2.2.2.2) some else none
theorem sc_eval : ∀ (q : Nat) (x : a_eval) (z : g_eval), eval q x = some z → SC E5 21 (A_eval x).1 (A_eval x).2 (R_eval z) := by
  intro q
  induction q with
  | zero => intro x z h; cases h
  | succ q ih =>
    intro x z h
    unfold eval at h
    split at h
    · rename_i hO
      have this := s_evalN (eval q) ih (Lookup q) (sc_Lookup q) (Find q) (sc_Find q) (Pick q) (sc_Pick q) (Tele q) (sc_Tele q) (uSub q) (sc_uSub q) (combine q) (sc_combine q) q (x.1, x.2.1, x.2.2.1, x.2.2.2.1, opK x.2.2.2.2.1, opN x.2.2.2.2.1, opS x.2.2.2.2.1, opM x.2.2.2.2.1, opF x.2.2.2.2.1, x.2.2.2.2.2) z h
      unfold A_evalN at this
      unfold A_eval
      simp only at this ⊢
      rw [open_eq hO] at this
      exact this
    · cases h
abbrev a_sound : Type := Int × Int × ByteArray × Nat × (Nat → List V) × Nat × (Nat → ByteArray) × (Nat → Int) × (Nat → Int) × (Nat → Int) × (Nat → Int) × (Nat → Int) × Nat × (Nat → Int)
abbrev g_sound : Type := Bool
def A_sound : a_sound → List V × List (Option Chunk) := (fun x => (fun (nk : Int) (nn : Int) (ns : ByteArray) (nm : Nat) (nf : Nat → List V) (vn : Nat) (vs : Nat → ByteArray) (v0 : Nat → Int) (v1 : Nat → Int) (v2 : Nat → Int) (v3 : Nat → Int) (v4 : Nat → Int) (ln : Nat) (lv : Nat → Int) => (([.agg [i64 nk, i64 nn, st ns, .ro 4 nm nf], .ro 6 vn (fun j => [st (vs j), i64 (v0 j), i64 (v1 j), i64 (v2 j), i64 (v3 j), i64 (v4 j)]), .ro 1 ln (fun j => [i64 (lv j)])] : List V), ([] : List (Option Chunk)))) x.1 x.2.1 x.2.2.1 x.2.2.2.1 x.2.2.2.2.1 x.2.2.2.2.2.1 x.2.2.2.2.2.2.1 x.2.2.2.2.2.2.2.1 x.2.2.2.2.2.2.2.2.1 x.2.2.2.2.2.2.2.2.2.1 x.2.2.2.2.2.2.2.2.2.2.1 x.2.2.2.2.2.2.2.2.2.2.2.1 x.2.2.2.2.2.2.2.2.2.2.2.2.1 x.2.2.2.2.2.2.2.2.2.2.2.2.2)
def R_sound : g_sound → CRes := (fun z => CRes.ret (bo z) [] : (Bool) → CRes)
def t_sound {β : Type} (c_Nodes : a_Nodes → Option g_Nodes) (c_lives : a_lives → Option g_lives) (c_VarsR : a_VarsR → Option g_VarsR) (c_table : a_table → Option g_table) (c_Of : a_Of → Option g_Of) (c_eval : a_eval → Option g_eval) (x : a_sound) (dn : g_sound → Option β) : Option β :=
 (c_Nodes ((x.1, x.2.1, x.2.2.1, x.2.2.2.1, x.2.2.2.2.1, (300 : Int)))).bind fun z6 =>
  if decide (z6 > (300 : Int)) = true then
   (c_lives ()).bind fun z7 =>
    dn z7
  else
   if decide (((x.2.2.2.2.2.1 : Nat) : Int) > (40 : Int)) = true then
    (c_lives ()).bind fun z8 =>
     dn z8
   else
    (c_VarsR ((x.2.2.2.2.2.1, x.2.2.2.2.2.2.1, x.2.2.2.2.2.2.2.1, x.2.2.2.2.2.2.2.2.1, x.2.2.2.2.2.2.2.2.2.1, x.2.2.2.2.2.2.2.2.2.2.1, x.2.2.2.2.2.2.2.2.2.2.2.1))).bind fun z16 =>
     (c_table z16).bind fun z24 =>
      (c_Of ((x.1, x.2.1, x.2.2.1, x.2.2.2.1, x.2.2.2.2.1, z24))).bind fun z37 =>
       if (z37.2.2.2.2.2.2.1 != (0 : Int)) = true then
        (c_lives ()).bind fun z38 =>
         dn z38
       else
        (c_eval ((x.1, x.2.1, x.2.2.1, x.2.2.2.1, x.2.2.2.2.1, z16.1, z16.2.1, z16.2.2.1, z16.2.2.2.1, z16.2.2.2.2.1, z16.2.2.2.2.2.1, z16.2.2.2.2.2.2, x.2.2.2.2.2.2.2.2.2.2.2.2))).bind fun z53 =>
         if (z53.2.2.2.2.2.2.2.2 != (0 : Int)) = true then
          if (z53.2.2.2.2.2.2.2.2 == (5 : Int)) = true then
           (c_lives ()).bind fun z54 =>
            dn z54
          else
           if (z53.2.2.2.2.2.2.2.2 == (1 : Int)) = true then
            (c_lives ()).bind fun z55 =>
             dn z55
           else
            dn false
         else
          if (z53.1 == z37.1) = true then
           if z37.1 = true then
            (c_lives ()).bind fun z56 =>
             dn z56
           else
            if (if false = true then !(z53.2.2.2.1 == z37.2.1 && (z53.2.2.2.2.1 == z37.2.2.1 && (z53.2.2.2.2.2.1 == z37.2.2.2.1 && (z53.2.2.2.2.2.2.1 == z37.2.2.2.2.1 && (z53.2.2.2.2.2.2.2.1 == z37.2.2.2.2.2.1 && true))))) else z53.2.2.2.1 == z37.2.1 && (z53.2.2.2.2.1 == z37.2.2.1 && (z53.2.2.2.2.2.1 == z37.2.2.2.1 && (z53.2.2.2.2.2.2.1 == z37.2.2.2.2.1 && (z53.2.2.2.2.2.2.2.1 == z37.2.2.2.2.2.1 && true))))) = true then
             (c_lives ()).bind fun z57 =>
              dn z57
            else
             dn false
          else
           dn false
theorem n_sound {β : Type} (c_Nodes : a_Nodes → Option g_Nodes) (c_lives : a_lives → Option g_lives) (c_VarsR : a_VarsR → Option g_VarsR) (c_table : a_table → Option g_table) (c_Of : a_Of → Option g_Of) (c_eval : a_eval → Option g_eval) (x : a_sound) (dn : g_sound → Option β) : t_sound c_Nodes c_lives c_VarsR c_table c_Of c_eval x dn = (t_sound c_Nodes c_lives c_VarsR c_table c_Of c_eval x some).bind dn := by
  unfold t_sound
  repeat' first | exact free_none | refine free_bind (fun z => ?_) | refine free_ite ?_ ?_ | refine free_sum (fun z => ?_) (fun z => ?_) | rfl
theorem r_sound (c_Nodes : a_Nodes → Option g_Nodes) (c_lives : a_lives → Option g_lives) (c_VarsR : a_VarsR → Option g_VarsR) (c_table : a_table → Option g_table) (c_Of : a_Of → Option g_Of) (c_eval : a_eval → Option g_eval) (x : a_sound) : callK E5 (ftab 9 (fun _ _ => true) A_Nodes x_Nodes c_Nodes (ftab 10 (fun _ _ => true) A_lives x_lives c_lives (ftab 11 (fun _ _ => true) A_VarsR x_VarsR c_VarsR (ftab 13 (fun _ _ => true) A_table x_table c_table (ftab 12 (fun _ _ => true) A_Of x_Of c_Of (ftab 21 (fun _ _ => true) A_eval x_eval c_eval ca0)))))) lo0 8 (A_sound x).1 (A_sound x).2 K = t_sound (fun x => viaF A_Nodes c_Nodes (A_Nodes x)) (fun x => viaF A_lives c_lives (A_lives x)) (fun x => viaF A_VarsR c_VarsR (A_VarsR x)) (fun x => viaF A_table c_table (A_table x)) (fun x => viaF A_Of c_Of (A_Of x)) (fun x => viaF A_eval c_eval (A_eval x)) x (fun z => some (.c (R_sound z))) := by kernel_rfl
theorem s_sound (c_Nodes : a_Nodes → Option g_Nodes) (h_Nodes : ∀ x z, c_Nodes x = some z → SC E5 9 (A_Nodes x).1 (A_Nodes x).2 (R_Nodes z)) (c_lives : a_lives → Option g_lives) (h_lives : ∀ x z, c_lives x = some z → SC E5 10 (A_lives x).1 (A_lives x).2 (R_lives z)) (c_VarsR : a_VarsR → Option g_VarsR) (h_VarsR : ∀ x z, c_VarsR x = some z → SC E5 11 (A_VarsR x).1 (A_VarsR x).2 (R_VarsR z)) (c_table : a_table → Option g_table) (h_table : ∀ x z, c_table x = some z → SC E5 13 (A_table x).1 (A_table x).2 (R_table z)) (c_Of : a_Of → Option g_Of) (h_Of : ∀ x z, c_Of x = some z → SC E5 12 (A_Of x).1 (A_Of x).2 (R_Of z)) (c_eval : a_eval → Option g_eval) (h_eval : ∀ x z, c_eval x = some z → SC E5 21 (A_eval x).1 (A_eval x).2 (R_eval z)) (q : Nat) (x : a_sound) (z : g_sound) (h : t_sound c_Nodes c_lives c_VarsR c_table c_Of c_eval x some = some z) : SC E5 8 (A_sound x).1 (A_sound x).2 (R_sound z) := by
  refine SC.of hW5 hX5 (ftab_cons h_Nodes xe_Nodes (ftab_cons h_lives xe_lives (ftab_cons h_VarsR xe_VarsR (ftab_cons h_table xe_table (ftab_cons h_Of xe_Of (ftab_cons h_eval xe_eval ca0_sound)))))) lo0_sound ((r_sound c_Nodes c_lives c_VarsR c_table c_Of c_eval x).trans ?_)
  rw [via_eq i_Nodes c_Nodes, via_eq i_lives c_lives, via_eq i_VarsR c_VarsR, via_eq i_table c_table, via_eq i_Of c_Of, via_eq i_eval c_eval, n_sound, h]; rfl
noncomputable def sound (q : Nat) (x : a_sound) : Option g_sound := t_sound (Nodes q) (lives q) (VarsR q) (table q) (Of q) (eval q) x some
theorem sc_sound (q : Nat) : ∀ (x : a_sound) (z : g_sound), sound q x = some z → SC E5 8 (A_sound x).1 (A_sound x).2 (R_sound z) := fun x z h => s_sound (Nodes q) (sc_Nodes q) (lives q) (sc_lives q) (VarsR q) (sc_VarsR q) (table q) (sc_table q) (Of q) (sc_Of q) (eval q) (sc_eval q) q x z h
end Go.Proofs.YtniogljhkjbcgaaDoor
/- TypesSound (plain). -/
namespace Go.Proofs.YtniogljhkjbcgaaDoor
open Go Go.Am Go.Proofs
set_option linter.unusedSimpArgs false
set_option linter.unusedVariables false
set_option maxRecDepth 100000
def evE (z : g_eval) : Int := z.2.2.2.2.2.2.2.2
def evD (z : g_eval) : DimT := (z.2.2.2.1, z.2.2.2.2.1, z.2.2.2.2.2.1, z.2.2.2.2.2.2.1, z.2.2.2.2.2.2.2.1)
def tyD (z : Ty) : DimT := (z.2.1, z.2.2.1, z.2.2.2.1, z.2.2.2.2.1, z.2.2.2.2.2.1)
/-- A value of the type, or one of the two errors. -/
def SV (T : Ty) (z : g_eval) : Prop := (evE z = 5 ∨ evE z = 1) ∨ (evE z = 0 ∧ z.1 = T.1 ∧ (T.1 = false → evD z = tyD T))
def quE (z : g_checked) : Int := z.2.2.2.2.2.2
def quD (z : g_checked) : DimT := (z.2.1, z.2.2.1, z.2.2.2.1, z.2.2.2.2.1, z.2.2.2.2.2.1)
def QD (d : DimT) (z : g_checked) : Prop := (quE z = 5 ∨ quE z = 1) ∨ (quE z = 0 ∧ quD z = d)
theorem QD.sv {d : DimT} {z : g_checked} {T : Ty} (h : QD d z) (h1 : T.1 = false) (h2 : tyD T = d) : SV T (false, false, z) := by
  rcases h with h | ⟨h, h3⟩
  · exact .inl h
  · exact .inr ⟨h, h1.symm, fun _ => h3.trans h2.symm⟩
theorem checked_runs (q : Nat) (n : Int) (d : DimT) : Runs (checked q (n, d)) (QD d) := by
  obtain ⟨d0, d1, d2, d3, d4⟩ := d
  unfold checked t_checked
  dsimp only
  repeat' first
    | exact Runs.some (.inl (.inl rfl))
    | exact Runs.some (.inr ⟨rfl, rfl⟩)
    | refine Runs.ite (fun _ => ?_) (fun _ => ?_)
theorem sub_runs (q : Nat) (a b d0 d1 d2 d3 d4 : Int) : Runs (uSub q (a, d0, d1, d2, d3, d4, b, d0, d1, d2, d3, d4)) (QD (d0, d1, d2, d3, d4)) := by
  unfold uSub t_uSub
  exact Runs.if_neg (by simp) (Runs.bind (checked_runs q _ _) fun z hz => Runs.some hz)
theorem add_runs (q : Nat) (a b d0 d1 d2 d3 d4 : Int) : Runs (uAdd q (a, d0, d1, d2, d3, d4, b, d0, d1, d2, d3, d4)) (QD (d0, d1, d2, d3, d4)) := by
  unfold uAdd t_uAdd
  exact Runs.if_neg (by simp) (Runs.bind (checked_runs q _ _) fun z hz => Runs.some hz)
theorem cmp_runs (q : Nat) (a b d0 d1 d2 d3 d4 : Int) : Runs (uCompare q (a, d0, d1, d2, d3, d4, b, d0, d1, d2, d3, d4)) (fun z => z.2 = 0) := by
  unfold uCompare t_uCompare
  exact Runs.if_neg (by simp) (Runs.ite (fun _ => Runs.some rfl) fun _ => Runs.ite (fun _ => Runs.some rfl) fun _ => Runs.some rfl)
theorem mul_runs (q : Nat) (a b d0 d1 d2 d3 d4 : Int) (f : DimT) {t : DimT} (ht : Times 0 (d0, d1, d2, d3, d4, f) = some t) : Runs (uMul q (a, d0, d1, d2, d3, d4, b, f)) (QD t) := by
  unfold uMul t_uMul
  refine Runs.bind (P := fun z => z = t) ⟨t, (show Times q (d0, d1, d2, d3, d4, f) = _ from ht), rfl⟩ fun z hz => ?_
  subst hz
  exact Runs.bind (checked_runs q _ _) fun z hz => Runs.some hz
theorem div_runs (q : Nat) (a b d0 d1 d2 d3 d4 : Int) (f : DimT) {t : DimT} (ht : Over 0 (d0, d1, d2, d3, d4, f) = some t) : Runs (uDiv q (a, d0, d1, d2, d3, d4, b, f)) (QD t) := by
  unfold uDiv t_uDiv
  have key : ∀ n, Runs ((Over q (d0, d1, d2, d3, d4, f)).bind fun z => (checked q (n, z)).bind fun y => some y) (QD t) := fun n => by
    refine Runs.bind (P := fun z => z = t) ⟨t, (show Over q (d0, d1, d2, d3, d4, f) = _ from ht), rfl⟩ fun z hz => ?_
    subst hz
    exact Runs.bind (checked_runs q _ _) fun z hz => Runs.some hz
  dsimp only
  refine Runs.ite (fun _ => Runs.some (.inl (.inr rfl))) fun h => ?_
  have h0 : ¬ b = 0 := by simpa using h
  exact Runs.if_neg h0 (Runs.if_neg h0 (Runs.ite (fun _ => Runs.ite (fun _ => key _) fun _ => key _) fun _ => key _))
theorem pick_runs (q : Nat) (ln : Nat) (lv : Nat → Int) (i : Int) : Runs (Pick q (ln, lv, i, 1000)) (fun _ => True) := by
  unfold Pick t_Pick
  dsimp only
  refine Runs.ite (fun _ => Runs.some trivial) fun h1 => Runs.ite (fun _ => Runs.some trivial) fun h2 => Runs.if_pos ?_ (Runs.ite (fun _ => Runs.if_neg (by decide) (Runs.some trivial)) fun _ => Runs.if_neg (by decide) (Runs.some trivial))
  simp only [decide_eq_true_eq] at h1 h2
  omega
abbrev sAnd : ByteArray := { data := #[38, 38] }
abbrev sOr : ByteArray := { data := #[124, 124] }
abbrev sAdd : ByteArray := { data := #[43] }
abbrev sSub : ByteArray := { data := #[45] }
abbrev sMul : ByteArray := { data := #[42] }
abbrev sDiv : ByteArray := { data := #[47] }
theorem kind_and : kind 0 sAnd = some 1 := by kernel_rfl
theorem kind_or : kind 0 sOr = some 1 := by kernel_rfl
theorem kind_add : kind 0 sAdd = some 2 := by kernel_rfl
theorem kind_sub : kind 0 sSub = some 2 := by kernel_rfl
theorem kind_mul : kind 0 sMul = some 3 := by kernel_rfl
theorem kind_div : kind 0 sDiv = some 3 := by kernel_rfl
theorem kind_other {s : ByteArray} {k : Int} (h : kind 0 s = some k) (h1 : s ≠ sAnd) (h2 : s ≠ sOr) (h3 : s ≠ sAdd) (h4 : s ≠ sSub) (h5 : s ≠ sMul) (h6 : s ≠ sDiv) : k = 4 ∨ k = 0 := by
  have key : Runs (kind 0 s) (fun k => k = 4 ∨ k = 0) := by
    unfold kind t_kind
    refine Runs.if_neg (fun h => h2 (tl_eq.1 h).symm) (Runs.if_neg (fun h => h1 (tl_eq.1 h).symm) (Runs.if_neg (fun h => h3 (tl_eq.1 h).symm) (Runs.if_neg (fun h => h4 (tl_eq.1 h).symm) (Runs.if_neg (fun h => h5 (tl_eq.1 h).symm) (Runs.if_neg (fun h => h6 (tl_eq.1 h).symm) ?_)))))
    repeat' first
      | exact Runs.some (.inl rfl)
      | exact Runs.some (.inr rfl)
      | refine Runs.ite (fun _ => ?_) (fun _ => ?_)
  obtain ⟨z, hz, hp⟩ := key
  rw [h] at hz
  cases hz
  exact hp
theorem kids_two {n : Int} {s : ByteArray} (h : kidsV 20 n s = 2) : ∃ k : Int, kind 0 s = some k ∧ k > 0 := by
  obtain ⟨v, hv, _⟩ := kind_both 0 0 s
  refine ⟨v, hv, ?_⟩
  unfold kidsV kids t_kids at h
  simp only [hv, Option.bind_some] at h
  by_cases hp : v > 0
  · exact hp
  · exfalso
    have hp : ¬ ((v : Int) > 0) := hp
    simp [hp] at h
theorem dims_ne {a b c d e a' b' c' d' e' : Int} : ((if true = true then !(a == a' && (b == b' && (c == c' && (d == d' && (e == e' && true))))) else a == a' && (b == b' && (c == c' && (d == d' && (e == e' && true))))) = true) ↔ ¬ ((a, b, c, d, e) = (a', b', c', d', e')) := by
  simp only [if_true, Bool.not_eq_true', Bool.and_true, Prod.mk.injEq]
  rw [← Bool.not_eq_true]
  simp only [Bool.and_eq_true, beq_iff_eq]
theorem bin_cases {s : ByteArray} {x y : Bool} {d0 d1 d2 d3 d4 : Int} {f : DimT} {k : Int} (hk : kind 0 s = some k) (h : errV (binV (s, x, y, d0, d1, d2, d3, d4, f)) = 0) :
    (k = 1 ∧ (binV (s, x, y, d0, d1, d2, d3, d4, f)).1 = true) ∨ (k ≠ 1 ∧ x = false ∧ y = false ∧
      ((k = 3 ∧ s = sDiv ∧ ∃ t, Over 0 (d0, d1, d2, d3, d4, f) = some t ∧ (binV (s, x, y, d0, d1, d2, d3, d4, f)).1 = false ∧ tyD (binV (s, x, y, d0, d1, d2, d3, d4, f)) = t) ∨
       (k = 3 ∧ s ≠ sDiv ∧ ∃ t, Times 0 (d0, d1, d2, d3, d4, f) = some t ∧ (binV (s, x, y, d0, d1, d2, d3, d4, f)).1 = false ∧ tyD (binV (s, x, y, d0, d1, d2, d3, d4, f)) = t) ∨
       (k ≠ 3 ∧ f = (d0, d1, d2, d3, d4) ∧ ((k = 4 ∧ (binV (s, x, y, d0, d1, d2, d3, d4, f)).1 = true) ∨ (k ≠ 4 ∧ (binV (s, x, y, d0, d1, d2, d3, d4, f)).1 = false ∧ tyD (binV (s, x, y, d0, d1, d2, d3, d4, f)) = (d0, d1, d2, d3, d4)))))) := by
  have e := bin_eq 0 (s, x, y, d0, d1, d2, d3, d4, f)
  generalize binV (s, x, y, d0, d1, d2, d3, d4, f) = B at e h ⊢
  obtain ⟨f0, f1, f2, f3, f4⟩ := f
  obtain ⟨o, ho⟩ : ∃ o, Over 0 (d0, d1, d2, d3, d4, f0, f1, f2, f3, f4) = some o := ⟨_, rfl⟩
  obtain ⟨t, ht⟩ : ∃ o, Times 0 (d0, d1, d2, d3, d4, f0, f1, f2, f3, f4) = some o := ⟨_, rfl⟩
  obtain ⟨b1, hb1⟩ := adm_some 0 o
  obtain ⟨b2, hb2⟩ := adm_some 0 t
  unfold binary t_binary at e
  simp only [hk, ho, ht, hb1, hb2, Option.bind_some, tl_eq] at e
  have bad : ∀ {n : Int}, n ≠ 0 → B = badV n → False := fun {n} hn hB => by subst hB; exact hn h
  by_cases k1 : k = 1
  · subst k1
    refine .inl ⟨rfl, ?_⟩
    cases x <;> cases y <;> simp at e
    all_goals first
      | (subst e; rfl)
      | exact (bad (n := 12) (by decide) (by rw [← e]; rfl)).elim
  · refine .inr ⟨k1, ?_⟩
    have e1 : (k == (1 : Int)) = false := by simpa using k1
    simp only [e1] at e
    cases x <;> cases y <;> simp only [Bool.not_true, Bool.not_false, beq_self_eq_true, Bool.false_eq_true, if_true, if_false, reduceIte, show (true == false) = false from rfl, show (false == true) = false from rfl, show (true == true) = true from rfl, show (false == false) = true from rfl] at e
    · refine ⟨rfl, rfl, ?_⟩
      by_cases k3 : k = 3
      · rw [if_pos (by simpa using k3)] at e
        by_cases hs : s = sDiv
        · rw [if_pos hs] at e
          refine .inl ⟨k3, hs, o, ho, ?_⟩
          cases b1
          · exact (bad (n := 5) (by decide) (by simp at e; rw [← e]; rfl)).elim
          · simp at e; subst e; exact ⟨rfl, rfl⟩
        · rw [if_neg hs] at e
          refine .inr (.inl ⟨k3, hs, t, ht, ?_⟩)
          cases b2
          · exact (bad (n := 5) (by decide) (by simp at e; rw [← e]; rfl)).elim
          · simp at e; subst e; exact ⟨rfl, rfl⟩
      · rw [if_neg (by simpa using k3)] at e
        refine .inr (.inr ⟨k3, ?_⟩)
        by_cases hd : (d0, d1, d2, d3, d4) = (f0, f1, f2, f3, f4)
        · simp only [Prod.mk.injEq] at hd
          obtain ⟨rfl, rfl, rfl, rfl, rfl⟩ := hd
          refine ⟨rfl, ?_⟩
          by_cases k4 : k = 4
          · simp [k4] at e; subst e; exact .inl ⟨k4, rfl⟩
          · simp [k4] at e; subst e; exact .inr ⟨k4, rfl, rfl⟩
        · exact (bad (n := 10) (by decide) (by
            rw [if_pos (by exact dims_ne.2 hd)] at e
            cases e; rfl)).elim
    all_goals exact (bad (n := 12) (by decide) (by cases e; rfl)).elim
theorem combine_runs {q : Nat} {n : Int} {s : ByteArray} {A B : Ty} {a b : g_eval} (hk : kidsV 20 n s = 2) (ha : evE a = 0) (hb : evE b = 0) (ha1 : a.1 = A.1) (hb1 : b.1 = B.1) (ha2 : A.1 = false → evD a = tyD A) (hb2 : B.1 = false → evD b = tyD B) (hA : errV A = 0) (hB : errV B = 0)
    (h0 : errV (biV s A B) = 0) : Runs (combine q (s, a.1, a.2.1, a.2.2.1, a.2.2.2.1, a.2.2.2.2.1, a.2.2.2.2.2.1, a.2.2.2.2.2.2.1, a.2.2.2.2.2.2.2.1, a.2.2.2.2.2.2.2.2, b)) (SV (biV s A B)) := by
  obtain ⟨k, hk1, hk2⟩ := kids_two hk
  unfold biV at h0 ⊢
  rw [if_neg (by simpa using hA), if_neg (by simpa using hB)] at h0 ⊢
  obtain ⟨a1, at', an, a0, ax1, ax2, ax3, ax4, ae⟩ := a
  obtain ⟨b1, bt, bn, b0, bx1, bx2, bx3, bx4, be⟩ := b
  simp only [evD, evE, tyD, Prod.mk.injEq] at ha hb ha1 hb1 ha2 hb2
  have C := bin_cases hk1 h0
  generalize hBV : binV (s, A.1, B.1, A.2.1, A.2.2.1, A.2.2.2.1, A.2.2.2.2.1, A.2.2.2.2.2.1, B.2.1, B.2.2.1, B.2.2.2.1, B.2.2.2.2.1, B.2.2.2.2.2.1) = R at C
  have logic : ∀ b, k = 1 → SV R (true, b, 0, 0, 0, 0, 0, 0, 0) := fun b hk => by
    rcases C with ⟨_, c⟩ | ⟨c, _⟩
    · exact .inr ⟨rfl, c.symm, fun h => by rw [c] at h; cases h⟩
    · exact absurd hk c
  unfold combine t_combine
  dsimp only
  refine Runs.ite (fun h => ?_) fun n1 => Runs.ite (fun h => ?_) fun n2 => Runs.ite (fun h => ?_) fun n3 => Runs.ite (fun h => ?_) fun n4 => Runs.ite (fun h => ?_) fun n5 => Runs.ite (fun h => ?_) fun n6 => ?_
  · have h : s = sAnd := tl_eq.1 h
    have hk' : k = 1 := by rw [h, kind_and] at hk1; cases hk1; rfl
    exact Runs.ite (fun _ => Runs.some (logic _ hk')) fun _ => Runs.some (logic _ hk')
  · have h : s = sOr := tl_eq.1 h
    have hk' : k = 1 := by rw [h, kind_or] at hk1; cases hk1; rfl
    exact Runs.ite (fun _ => Runs.some (logic _ hk')) fun _ => Runs.some (logic _ hk')
  · have h : s = sAdd := tl_eq.1 h
    have hk' : k = 2 := by rw [h, kind_add] at hk1; cases hk1; rfl
    rcases C with ⟨c, _⟩ | ⟨_, cx, cy, c⟩
    · omega
    rcases c with ⟨c, _⟩ | ⟨c, _⟩ | ⟨_, cd, c⟩
    · omega
    · omega
    rcases c with ⟨c, _⟩ | ⟨_, c1, c2⟩
    · omega
    obtain ⟨rfl, rfl, rfl, rfl, rfl⟩ := ha2 cx
    obtain ⟨rfl, rfl, rfl, rfl, rfl⟩ := hb2 cy
    simp only [Prod.mk.injEq] at cd
    obtain ⟨e0, e1, e2, e3, e4⟩ := cd
    rw [e0, e1, e2, e3, e4]
    exact Runs.bind (add_runs q _ _ _ _ _ _ _) fun z hz => Runs.some (hz.sv c1 c2)
  · have h : s = sSub := tl_eq.1 h
    have hk' : k = 2 := by rw [h, kind_sub] at hk1; cases hk1; rfl
    rcases C with ⟨c, _⟩ | ⟨_, cx, cy, c⟩
    · omega
    rcases c with ⟨c, _⟩ | ⟨c, _⟩ | ⟨_, cd, c⟩
    · omega
    · omega
    rcases c with ⟨c, _⟩ | ⟨_, c1, c2⟩
    · omega
    obtain ⟨rfl, rfl, rfl, rfl, rfl⟩ := ha2 cx
    obtain ⟨rfl, rfl, rfl, rfl, rfl⟩ := hb2 cy
    simp only [Prod.mk.injEq] at cd
    obtain ⟨e0, e1, e2, e3, e4⟩ := cd
    rw [e0, e1, e2, e3, e4]
    exact Runs.bind (sub_runs q _ _ _ _ _ _ _) fun z hz => Runs.some (hz.sv c1 c2)
  · have h : s = sMul := tl_eq.1 h
    have hk' : k = 3 := by rw [h, kind_mul] at hk1; cases hk1; rfl
    rcases C with ⟨c, _⟩ | ⟨_, cx, cy, c⟩
    · omega
    rcases c with ⟨_, c, _⟩ | ⟨_, _, t, c0, c1, c2⟩ | ⟨c, _⟩
    · rw [h] at c; exact absurd c (by decide)
    · obtain ⟨rfl, rfl, rfl, rfl, rfl⟩ := ha2 cx
      obtain ⟨rfl, rfl, rfl, rfl, rfl⟩ := hb2 cy
      exact Runs.bind (mul_runs q _ _ _ _ _ _ _ _ c0) fun z hz => Runs.some (hz.sv c1 c2)
    · omega
  · have h : s = sDiv := tl_eq.1 h
    have hk' : k = 3 := by rw [h, kind_div] at hk1; cases hk1; rfl
    rcases C with ⟨c, _⟩ | ⟨_, cx, cy, c⟩
    · omega
    rcases c with ⟨_, c, t, c0, c1, c2⟩ | ⟨_, c, _⟩ | ⟨c, _⟩
    · obtain ⟨rfl, rfl, rfl, rfl, rfl⟩ := ha2 cx
      obtain ⟨rfl, rfl, rfl, rfl, rfl⟩ := hb2 cy
      exact Runs.bind (div_runs q _ _ _ _ _ _ _ _ c0) fun z hz => Runs.some (hz.sv c1 c2)
    · exact absurd h c
    · omega
  · have hk' := kind_other hk1 (fun h => n1 (tl_eq.2 h)) (fun h => n2 (tl_eq.2 h)) (fun h => n3 (tl_eq.2 h)) (fun h => n4 (tl_eq.2 h)) (fun h => n5 (tl_eq.2 h)) (fun h => n6 (tl_eq.2 h))
    rcases C with ⟨c, _⟩ | ⟨_, cx, cy, c⟩
    · omega
    rcases c with ⟨c, _⟩ | ⟨c, _⟩ | ⟨_, cd, c⟩
    · omega
    · omega
    rcases c with ⟨_, c1⟩ | ⟨c, _⟩
    · obtain ⟨rfl, rfl, rfl, rfl, rfl⟩ := ha2 cx
      obtain ⟨rfl, rfl, rfl, rfl, rfl⟩ := hb2 cy
      simp only [Prod.mk.injEq] at cd
      obtain ⟨e0, e1, e2, e3, e4⟩ := cd
      rw [e0, e1, e2, e3, e4]
      exact Runs.bind (cmp_runs q _ _ _ _ _ _ _) fun z hz => Runs.some (.inr ⟨hz, c1.symm, fun h => by rw [c1] at h; cases h⟩)
    · omega
end Go.Proofs.YtniogljhkjbcgaaDoor
/- TypesSound (plain): evaluation. -/
namespace Go.Proofs.YtniogljhkjbcgaaDoor
open Go Go.Am Go.Proofs
set_option linter.unusedSimpArgs false
set_option linter.unusedVariables false
set_option maxRecDepth 100000
theorem lookup_empty : Lookup 0 { data := #[] } = some (0, 0, 0, 0, 0, 0, false) := by kernel_rfl
theorem num_dims {n : Int} {s : ByteArray} (h : (numV n s).2.2.2.2.2 = 0) : ∃ l, Lookup 0 s = some l ∧ (l.1, l.2.1, l.2.2.1, l.2.2.2.1, l.2.2.2.2.1) = ((numV n s).1, (numV n s).2.1, (numV n s).2.2.1, (numV n s).2.2.2.1, (numV n s).2.2.2.2.1) := by
  have e := num_eq 0 15 n s 0 (fun _ => [])
  generalize numV n s = z at e h ⊢
  have key : Runs (number 0 (15, n, s, 0, fun _ => [])) (fun z => z.2.2.2.2.2 = 0 → ∃ l, Lookup 0 s = some l ∧ (l.1, l.2.1, l.2.2.1, l.2.2.2.1, l.2.2.2.2.1) = (z.1, z.2.1, z.2.2.1, z.2.2.2.1, z.2.2.2.2.1)) := by
    obtain ⟨l, hl, _, hf⟩ := lookup_both 0 0 s
    unfold number t_number
    dsimp only
    refine Runs.ite (fun _ => Runs.bind (P := fun z => z = l) ⟨l, hl, rfl⟩ fun z hz => ?_) fun hs => ?_
    · subst hz
      refine Runs.ite (fun _ => Runs.some fun h => by cases h) fun g => Runs.ite (fun _ => Runs.some fun h => by cases h) fun _ => Runs.if_neg ?_ (Runs.ite (fun _ => Runs.some fun h => by cases h) fun _ => Runs.some fun _ => ⟨z, hl, rfl⟩)
      have := hf.2 (by simpa using g)
      omega
    · have hs : s = { data := #[] } := tl_eq.1 (by simpa using hs)
      subst hs
      refine Runs.ite (fun _ => Runs.some fun h => by cases h) fun _ => Runs.ite (fun _ => Runs.some fun h => by cases h) fun _ => Runs.some fun _ => ⟨_, lookup_empty, rfl⟩
  obtain ⟨y, hy, hp⟩ := key
  rw [e] at hy
  cases hy
  exact hp h
theorem lastV_none {v : VarT} {s : ByteArray} : ∀ (n : Nat), (∀ j, j < n → v.2.1 j ≠ s) → lastV v n s = none
  | 0, _ => rfl
  | n + 1, h => by
    simp only [lastV]
    rw [if_neg (fun e => h n (by omega) e.symm), lastV_none n fun j hj => h j (by omega)]
theorem lastV_at {v : VarT} (hv : VOk v) {i : Nat} : ∀ (n : Nat), n ≤ v.1 → i < n → lastV v n (v.2.1 i) = some (dimAt v i)
  | 0, _, h => absurd h (by omega)
  | n + 1, hn, h => by
    simp only [lastV]
    by_cases hi : i = n
    · subst hi; rw [if_pos rfl]
    · rw [if_neg (fun e => hv.ne i n (by omega) (by omega) e), lastV_at hv n (by omega) (by omega)]
theorem leaf15 (T : ByteArray → Option DimT) (n : Int) (s : ByteArray) : leafV' T 15 n s = (false, numV n s) := by unfold leafV'; simp
theorem leaf16 (T : ByteArray → Option DimT) (n : Int) (s : ByteArray) : leafV' T 16 n s = (true, 0, 0, 0, 0, 0, 0) := by unfold leafV'; simp
theorem leaf17 (T : ByteArray → Option DimT) (n : Int) (s : ByteArray) : leafV' T 17 n s = (match T s with | some d => (false, d.1, d.2.1, d.2.2.1, d.2.2.2.1, d.2.2.2.2, 0) | none => badV 3) := by unfold leafV'; rw [if_neg (by decide), if_neg (by decide), if_pos rfl]; cases T s <;> rfl
theorem leaf18 (T : ByteArray → Option DimT) (n : Int) (s : ByteArray) : leafV' T 18 n s = if (teleV s).2.2.2.2.2.2 = true then (false, (teleV s).2.1, (teleV s).2.2.1, (teleV s).2.2.2.1, (teleV s).2.2.2.2.1, (teleV s).2.2.2.2.2.1, 0) else badV 3 := by unfold leafV'; simp
theorem un_cases {s : ByteArray} {z : Ty} (h : errV (unV s z) = 0) : errV z = 0 ∧ (z.1 = true ↔ s = { data := #[33] }) ∧ (unV s z).1 = z.1 ∧ tyD (unV s z) = tyD z := by
  have h0 := un_err h
  unfold unV at h ⊢
  rw [if_neg (by simpa using h0)] at h ⊢
  by_cases hx : (!z.1 == (ByteArray.toList s == ByteArray.toList { data := #[(33 : UInt8)] })) = true
  · rw [if_pos hx] at h; cases h
  · rw [if_neg hx]
    refine ⟨h0, ?_, rfl, rfl⟩
    have hx : z.1 = (ByteArray.toList s == ByteArray.toList { data := #[(33 : UInt8)] }) := by simpa using hx
    rw [hx, tl_eq]
theorem eval_V {v : VarT} (hv : VOk v) {ln : Nat} {lv : Nat → Int} : ∀ (tr : Tr) (x : NodeT) (q : Nat), Rep tr x → siz tr + 20 < q → errV (ofV (lastV v v.1) tr) = 0 →
    Runs (eval q (x.1, x.2.1, x.2.2.1, x.2.2.2.1, x.2.2.2.2, v.1, v.2.1, v.2.2.1, v.2.2.2.1, v.2.2.2.2.1, v.2.2.2.2.2.1, v.2.2.2.2.2.2, ln, lv)) (SV (ofV (lastV v v.1) tr))
  | .node k n s [], (k', n', s', m', f), q, hr, hq, he => by
    simp only [Rep] at hr
    obtain ⟨rfl, rfl, rfl, rfl, hl, ho, hk⟩ := hr
    obtain ⟨q, rfl⟩ : ∃ k, q = k + 1 := ⟨q - 1, by omega⟩
    have hn := hv.n
    rw [ofV_nil] at he ⊢
    by_cases h0 : kidsV k' n' s' = 0
    · rw [if_pos h0] at he ⊢
      unfold eval
      dsimp only
      rw [_root_.if_pos ho]
      unfold t_evalN
      dsimp only [List.length_nil]
      rcases (kidsV_range k' n' s').1 h0 with rfl | rfl | rfl | rfl
      · rw [leaf15] at he ⊢
        obtain ⟨l, hl, hd⟩ := num_dims (show (numV n' s').2.2.2.2.2 = 0 from he)
        have hl' : Lookup q s' = some l := hl
        refine Runs.if_pos (by decide) (Runs.bind (P := fun z => z = l) ⟨l, hl', rfl⟩ fun z hz => ?_)
        subst hz
        exact Runs.ite (fun _ => Runs.some (.inr ⟨rfl, rfl, fun _ => hd⟩)) fun _ => Runs.some (.inr ⟨rfl, rfl, fun _ => hd⟩)
      · rw [leaf16] at he ⊢
        exact Runs.if_neg (by decide) (Runs.if_pos (by decide) (Runs.some (.inr ⟨rfl, rfl, fun h => by cases h⟩)))
      · rw [leaf17] at he ⊢
        refine Runs.if_neg (by decide) (Runs.if_neg (by decide) (Runs.if_pos (by decide) (Runs.bind (find_runs (by omega) (by omega)) fun (z : Int) hz => Runs.bind (pick_runs q ln lv z) fun (y : Int) _ => ?_)))
        rcases hz with ⟨rfl, hno⟩ | ⟨i, hi, rfl, his, _⟩
        · rw [lastV_none v.1 hno] at he; cases he
        · rw [← his, lastV_at hv v.1 (Nat.le_refl _) hi] at he ⊢
          refine Runs.if_pos ⟨by show (0 : Int) ≤ (i : Int); omega, by show (i : Int) < ((v.1 : Nat) : Int); omega⟩ (Runs.some (.inr ⟨rfl, rfl, fun _ => ?_⟩))
          simp only [Int.toNat_natCast]
          rfl
      · rw [leaf18] at he ⊢
        refine Runs.if_neg (by decide) (Runs.if_neg (by decide) (Runs.if_neg (by decide) (Runs.if_pos (by decide) (Runs.bind (P := fun z => z = teleV s') ⟨_, tele_eq _ _, rfl⟩ fun z hz => ?_))))
        subst hz
        by_cases hT : (teleV s').2.2.2.2.2.2 = true
        · rw [if_pos hT] at he ⊢
          exact Runs.some (.inr ⟨rfl, rfl, fun _ => rfl⟩)
        · rw [if_neg hT] at he; cases he
    · rw [if_neg h0] at he; cases he
  | .node k n s [a], (k', n', s', m', f), q, hr, hq, he => by
    simp only [Rep, RepL] at hr
    obtain ⟨rfl, rfl, rfl, rfl, hl, ho, ha, -⟩ := hr
    obtain ⟨q, rfl⟩ : ∃ k, q = k + 1 := ⟨q - 1, by omega⟩
    simp only [siz, sizL] at hq
    rw [ofV_one] at he ⊢
    by_cases h0 : kidsV k' n' s' = 1
    · rw [if_pos h0] at he ⊢
      obtain rfl := (kidsV_range k' n' s').2.1 h0
      obtain ⟨c0, c1, c2, c3⟩ := un_cases he
      have ih := eval_V hv (ln := ln) (lv := lv) a (kidAt f 0) q ha (by omega) c0
      unfold eval
      dsimp only
      rw [_root_.if_pos ho]
      unfold t_evalN
      dsimp only [List.length_cons, List.length_nil]
      refine Runs.if_neg (by decide) (Runs.if_neg (by decide) (Runs.if_neg (by decide) (Runs.if_neg (by decide) (Runs.if_pos ⟨by decide, by decide⟩ (Runs.bind ih fun z hz => ?_)))))
      rcases hz with hz | ⟨z0, z1, z2⟩
      · refine Runs.if_pos ?_ (Runs.some (.inl hz))
        have hz : z.2.2.2.2.2.2.2.2 ≠ 0 := by rcases hz with h | h <;> (show evE z ≠ 0; rw [h]; decide)
        simpa using hz
      · have z0' : z.2.2.2.2.2.2.2.2 = 0 := z0
        refine Runs.if_neg (by simpa using z0') (Runs.if_pos (by decide) (Runs.ite (fun h => Runs.some (.inr ⟨rfl, ?_, ?_⟩)) fun h => Runs.bind (sub_runs q _ _ _ _ _ _ _) fun y hy => Runs.some (hy.sv ?_ ?_)))
        · rw [c2, c1.2 (tl_eq.1 h)]
        · intro h'; rw [c2, c1.2 (tl_eq.1 h)] at h'; cases h'
        · rw [c2]
          cases hb : (ofV (lastV v v.1) a).1
          · rfl
          · exact absurd (tl_eq.2 (c1.1 hb)) h
        · rw [c3]
          cases hb : (ofV (lastV v v.1) a).1
          · exact (z2 hb).symm
          · exact absurd (tl_eq.2 (c1.1 hb)) h
    · rw [if_neg h0] at he; cases he
  | .node k n s [a, b], (k', n', s', m', f), q, hr, hq, he => by
    simp only [Rep, RepL] at hr
    obtain ⟨rfl, rfl, rfl, rfl, hl, ho, ha, hb, -⟩ := hr
    obtain ⟨q, rfl⟩ : ∃ k, q = k + 1 := ⟨q - 1, by omega⟩
    simp only [siz, sizL] at hq
    rw [ofV_two] at he ⊢
    by_cases h0 : kidsV k' n' s' = 2
    · rw [if_pos h0] at he ⊢
      obtain rfl := (kidsV_range k' n' s').2.2.1 h0
      obtain ⟨c0, c1⟩ := bi_err he
      have ih := eval_V hv (ln := ln) (lv := lv) a (kidAt f 0) q ha (by omega) c0
      have ih' := eval_V hv (ln := ln) (lv := lv) b (kidAt f 1) q hb (by omega) c1
      unfold eval
      dsimp only
      rw [_root_.if_pos ho]
      unfold t_evalN
      dsimp only [List.length_cons, List.length_nil]
      have ef : ∀ {T : Ty} {z : g_eval}, evE z = 5 ∨ evE z = 1 → (z.2.2.2.2.2.2.2.2 != 0) = true := fun {T z} hz => by
        have hz : z.2.2.2.2.2.2.2.2 ≠ 0 := by rcases hz with h | h <;> (show evE z ≠ 0; rw [h]; decide)
        simpa using hz
      refine Runs.if_neg (by decide) (Runs.if_neg (by decide) (Runs.if_neg (by decide) (Runs.if_neg (by decide) (Runs.if_pos ⟨by decide, by decide⟩ (Runs.bind ih fun z hz => ?_)))))
      rcases hz with hz | ⟨z0, z1, z2⟩
      · exact Runs.if_pos (ef (T := badV 0) hz) (Runs.some (.inl hz))
      · have z0' : z.2.2.2.2.2.2.2.2 = 0 := z0
        refine Runs.if_neg (by simpa using z0') (Runs.if_neg (by decide) (Runs.if_pos ⟨by decide, by decide⟩ (Runs.bind ih' fun y hy => ?_)))
        rcases hy with hy | ⟨y0, y1, y2⟩
        · exact Runs.if_pos (ef (T := badV 0) hy) (Runs.some (.inl hy))
        · have y0' : y.2.2.2.2.2.2.2.2 = 0 := y0
          exact Runs.if_neg (by simpa using y0') (Runs.bind (combine_runs h0 z0 y0 z1 y1 z2 y2 c0 c1 he) fun w hw => Runs.some hw)
    · rw [if_neg h0] at he; cases he
  | .node k n s (a :: b :: c :: l), (k', n', s', m', f), q, hr, hq, he => by
    rw [ofV_more] at he; cases he
theorem sound_true {tr : Tr} {nk nn : Int} {ns : ByteArray} {m : Nat} {f : Nat → List V} {vn : Nat} {vs : Nat → ByteArray} {v0 v1 v2 v3 v4 : Nat → Int} {ln : Nat} {lv : Nat → Int}
    (hr : Rep tr (nk, nn, ns, m, f)) (hv : ∀ j, j < vn → inR (v0 j) ∧ inR (v1 j) ∧ inR (v2 j) ∧ inR (v3 j) ∧ inR (v4 j)) (hvn : vn ≤ Go.maxLen) :
    ∃ q, Runs (sound q (nk, nn, ns, m, f, vn, vs, v0, v1, v2, v3, v4, ln, lv)) (fun z => z = true) := by
  obtain ⟨q, hq⟩ : ∃ q, q = 400 + siz tr + vn := ⟨_, rfl⟩
  refine ⟨q, ?_⟩
  have hml : Go.maxLen = 9223372036854775807 := by decide
  have hvn2 : vn ≤ 9223372036854775807 := by omega
  unfold sound t_sound
  dsimp only
  have liv : ∀ {β : Type} {k : g_lives → Option β} {P : β → Prop}, Runs (k true) P → Runs ((lives q ()).bind k) P := fun h => h
  refine Runs.bind (nodes_V q tr _ 300 hr (by omega) (by omega)) fun (z : Int) hz => ?_
  refine Runs.ite (fun _ => liv (Runs.some rfl)) fun g1 => Runs.ite (fun _ => liv (Runs.some rfl)) fun g3 => ?_
  refine Runs.bind (vars_runs (x := (vn, vs, v0, v1, v2, v3, v4)) ⟨hvn2, hv⟩ (by show vn + 60 < q; omega)) fun v hvk => ?_
  have hn := hvk.n
  refine Runs.bind (table_V (v := v) (by omega) (by omega)) fun t ht => ?_
  have hof : Runs (Of q (nk, nn, ns, m, f, t)) (fun z => z = ((ofV (tabOf t) tr).1, (ofV (tabOf t) tr).2.1, (ofV (tabOf t) tr).2.2.1, (ofV (tabOf t) tr).2.2.2.1, (ofV (tabOf t) tr).2.2.2.2.1, (ofV (tabOf t) tr).2.2.2.2.2.1, (ofV (tabOf t) tr).2.2.2.2.2.2, t)) := ⟨_, of_V t tr (nk, nn, ns, m, f) q hr (by omega), rfl⟩
  refine Runs.bind hof fun y hy => ?_
  subst hy
  rw [ht]
  dsimp only
  have key := eval_V hvk (ln := ln) (lv := lv) tr (nk, nn, ns, m, f) q hr (by omega)
  generalize ofV (lastV v v.1) tr = T at key ⊢
  refine Runs.ite (fun _ => liv (Runs.some rfl)) fun g5 => ?_
  have e5 : T.2.2.2.2.2.2 = 0 := by simpa using g5
  refine Runs.bind (key e5) fun y hy => ?_
  rcases hy with hy | ⟨y0, y1, y2⟩
  · refine Runs.if_pos ?_ ?_
    · have hy : y.2.2.2.2.2.2.2.2 ≠ 0 := by rcases hy with h | h <;> (show evE y ≠ 0; rw [h]; decide)
      simpa using hy
    · refine Runs.ite (fun _ => liv (Runs.some rfl)) fun h1 => Runs.ite (fun _ => liv (Runs.some rfl)) fun h2 => ?_
      rcases hy with hy | hy
      · exact absurd (show (y.2.2.2.2.2.2.2.2 == 5) = true by rw [show y.2.2.2.2.2.2.2.2 = 5 from hy]; rfl) h1
      · exact absurd (show (y.2.2.2.2.2.2.2.2 == 1) = true by rw [show y.2.2.2.2.2.2.2.2 = 1 from hy]; rfl) h2
  · have y0' : y.2.2.2.2.2.2.2.2 = 0 := y0
    refine Runs.if_neg (by simpa using y0') (Runs.if_pos (by simpa using y1) (Runs.ite (fun _ => liv (Runs.some rfl)) fun h1 => Runs.if_pos ?_ (liv (Runs.some rfl))))
    have hd := y2 (by simpa using h1)
    simp only [evD, tyD, Prod.mk.injEq] at hd
    simp [hd]
end Go.Proofs.YtniogljhkjbcgaaDoor
/- Check, lifted. -/
namespace Go.Proofs.YtniogljhkjbcgaaDoor
open Go Go.Am Go.Proofs
set_option linter.unusedSimpArgs false
set_option linter.unusedVariables false
set_option maxRecDepth 100000
abbrev a_declare : Type := ByteArray × Int × Int × Int × Int × Int × Nat × (ByteArray → Bool) × (ByteArray → Int) × (ByteArray → Int) × (ByteArray → Int) × (ByteArray → Int) × (ByteArray → Int)
abbrev g_declare : Type := Int × Nat × (ByteArray → Bool) × (ByteArray → Int) × (ByteArray → Int) × (ByteArray → Int) × (ByteArray → Int) × (ByteArray → Int)
def A_declare : a_declare → List V × List (Option Chunk) := (fun x => (fun (s : ByteArray) (d0 : Int) (d1 : Int) (d2 : Int) (d3 : Int) (d4 : Int) (mn : Nat) (mh : ByteArray → Bool) (m0 : ByteArray → Int) (m1 : ByteArray → Int) (m2 : ByteArray → Int) (m3 : ByteArray → Int) (m4 : ByteArray → Int) => (([.ptr 0 0, st s, .agg [i64 d0, i64 d1, i64 d2, i64 d3, i64 d4]] : List V), ([some (.blk [.mp 1]), some (.smap mn mh (fun j => .agg [i64 (m0 j), i64 (m1 j), i64 (m2 j), i64 (m3 j), i64 (m4 j)]))] : List (Option Chunk)))) x.1 x.2.1 x.2.2.1 x.2.2.2.1 x.2.2.2.2.1 x.2.2.2.2.2.1 x.2.2.2.2.2.2.1 x.2.2.2.2.2.2.2.1 x.2.2.2.2.2.2.2.2.1 x.2.2.2.2.2.2.2.2.2.1 x.2.2.2.2.2.2.2.2.2.2.1 x.2.2.2.2.2.2.2.2.2.2.2.1 x.2.2.2.2.2.2.2.2.2.2.2.2)
def d_declare (t : List V × List (Option Chunk)) : a_declare := ((vS (t.1.getD 1 .junk)), (vI ((vAg (t.1.getD 2 .junk)).getD 0 .junk)), (vI ((vAg (t.1.getD 2 .junk)).getD 1 .junk)), (vI ((vAg (t.1.getD 2 .junk)).getD 2 .junk)), (vI ((vAg (t.1.getD 2 .junk)).getD 3 .junk)), (vI ((vAg (t.1.getD 2 .junk)).getD 4 .junk)), (smN (t.2.getD 1 none)), (smH (t.2.getD 1 none)), (fun j => (vI ((vAg ((smF (t.2.getD 1 none)) j)).getD 0 .junk))), (fun j => (vI ((vAg ((smF (t.2.getD 1 none)) j)).getD 1 .junk))), (fun j => (vI ((vAg ((smF (t.2.getD 1 none)) j)).getD 2 .junk))), (fun j => (vI ((vAg ((smF (t.2.getD 1 none)) j)).getD 3 .junk))), (fun j => (vI ((vAg ((smF (t.2.getD 1 none)) j)).getD 4 .junk))))
theorem i_declare : ∀ x y, A_declare x = A_declare y → x = y := fun x y h => (congrArg d_declare h :)
def R_declare : g_declare → CRes := (fun z => (fun (e : Int) (mn : Nat) (mh : ByteArray → Bool) (m0 : ByteArray → Int) (m1 : ByteArray → Int) (m2 : ByteArray → Int) (m3 : ByteArray → Int) (m4 : ByteArray → Int) => .ret (i64 e) [some (.blk [.mp 1]), some (.smap mn mh (fun j => .agg [i64 (m0 j), i64 (m1 j), i64 (m2 j), i64 (m3 j), i64 (m4 j)]))]) z.1 z.2.1 z.2.2.1 z.2.2.2.1 z.2.2.2.2.1 z.2.2.2.2.2.1 z.2.2.2.2.2.2.1 z.2.2.2.2.2.2.2 : (Int × Nat × (ByteArray → Bool) × (ByteArray → Int) × (ByteArray → Int) × (ByteArray → Int) × (ByteArray → Int) × (ByteArray → Int)) → CRes)
def x_declare (z : g_declare) (k : CRes → Option Ans) : Option Ans := k (R_declare z)
theorem xe_declare : ∀ z k, x_declare z k = k (R_declare z) := fun z k => rfl
def t_declare {β : Type} (x : a_declare) (dn : g_declare → Option β) : Option β :=
 if x.2.2.2.2.2.2.2.1 (x.1) = true then
  dn (((4 : Int), x.2.2.2.2.2.2))
 else
  if decide (((x.2.2.2.2.2.2.1 : Nat) : Int) ≥ (12 : Int)) = true then
   dn (((2 : Int), x.2.2.2.2.2.2))
  else
   dn (((0 : Int), if x.2.2.2.2.2.2.2.1 (x.1) = true then x.2.2.2.2.2.2.1 else x.2.2.2.2.2.2.1 + 1, fun (q : ByteArray) => q == x.1 || x.2.2.2.2.2.2.2.1 q, fun (j : ByteArray) => if (j == x.1) = true then x.2.1 else x.2.2.2.2.2.2.2.2.1 j, fun (j : ByteArray) => if (j == x.1) = true then x.2.2.1 else x.2.2.2.2.2.2.2.2.2.1 j, fun (j : ByteArray) => if (j == x.1) = true then x.2.2.2.1 else x.2.2.2.2.2.2.2.2.2.2.1 j, fun (j : ByteArray) => if (j == x.1) = true then x.2.2.2.2.1 else x.2.2.2.2.2.2.2.2.2.2.2.1 j, fun (j : ByteArray) => if (j == x.1) = true then x.2.2.2.2.2.1 else x.2.2.2.2.2.2.2.2.2.2.2.2 j))
theorem n_declare {β : Type} (x : a_declare) (dn : g_declare → Option β) : t_declare x dn = (t_declare x some).bind dn := by
  unfold t_declare
  repeat' first | exact free_none | refine free_bind (fun z => ?_) | refine free_ite ?_ ?_ | refine free_sum (fun z => ?_) (fun z => ?_) | rfl
theorem r_declare (x : a_declare) : callK E5 ca0 lo0 37 (A_declare x).1 (A_declare x).2 K = t_declare x (fun z => some (.c (R_declare z))) := by kernel_rfl
theorem s_declare (q : Nat) (x : a_declare) (z : g_declare) (h : t_declare x some = some z) : SC E5 37 (A_declare x).1 (A_declare x).2 (R_declare z) := by
  refine SC.of hW5 hX5 ca0_sound lo0_sound ((r_declare x).trans ?_)
  rw [n_declare, h]; rfl
noncomputable def declare (q : Nat) (x : a_declare) : Option g_declare := t_declare x some
theorem sc_declare (q : Nat) : ∀ (x : a_declare) (z : g_declare), declare q x = some z → SC E5 37 (A_declare x).1 (A_declare x).2 (R_declare z) := fun x z h => s_declare q x z h
abbrev a_wellF : Type := Int × Int × ByteArray × Nat × (Nat → Int) × (Nat → Int) × (Nat → ByteArray) × (Nat → Nat) × (Nat → Nat → List V)
abbrev g_wellF : Type := Bool
def A_wellF : a_wellF → List V × List (Option Chunk) := (fun x => (fun (nk : Int) (nn : Int) (ns : ByteArray) (nm : Nat) (ek : Nat → Int) (en : Nat → Int) (es : Nat → ByteArray) (em : Nat → Nat) (ef : Nat → Nat → List V) => (([.agg [i64 nk, i64 nn, st ns, .ro 4 nm (fun j => [i64 (ek j), i64 (en j), st (es j), .ro 4 (em j) (ef j)])]] : List V), ([] : List (Option Chunk)))) x.1 x.2.1 x.2.2.1 x.2.2.2.1 x.2.2.2.2.1 x.2.2.2.2.2.1 x.2.2.2.2.2.2.1 x.2.2.2.2.2.2.2.1 x.2.2.2.2.2.2.2.2)
def d_wellF (t : List V × List (Option Chunk)) : a_wellF := ((vI ((vAg (t.1.getD 0 .junk)).getD 0 .junk)), (vI ((vAg (t.1.getD 0 .junk)).getD 1 .junk)), (vS ((vAg (t.1.getD 0 .junk)).getD 2 .junk)), (vRoN ((vAg (t.1.getD 0 .junk)).getD 3 .junk)), (fun j => (vI (((vRoF ((vAg (t.1.getD 0 .junk)).getD 3 .junk)) j).getD 0 .junk))), (fun j => (vI (((vRoF ((vAg (t.1.getD 0 .junk)).getD 3 .junk)) j).getD 1 .junk))), (fun j => (vS (((vRoF ((vAg (t.1.getD 0 .junk)).getD 3 .junk)) j).getD 2 .junk))), (fun j => (vRoN (((vRoF ((vAg (t.1.getD 0 .junk)).getD 3 .junk)) j).getD 3 .junk))), (fun j => (vRoF (((vRoF ((vAg (t.1.getD 0 .junk)).getD 3 .junk)) j).getD 3 .junk))))
theorem i_wellF : ∀ x y, A_wellF x = A_wellF y → x = y := fun x y h => (congrArg d_wellF h :)
def R_wellF : g_wellF → CRes := (fun z => (fun (b : Bool) => .ret (bo b) []) z : (Bool) → CRes)
def x_wellF (z : g_wellF) (k : CRes → Option Ans) : Option Ans := k (R_wellF z)
theorem xe_wellF : ∀ z k, x_wellF z k = k (R_wellF z) := fun z k => rfl
def t_wellF {β : Type} (x : a_wellF) (dn : g_wellF → Option β) : Option β :=
 if (x.1 == (14 : Int)) = true then
  dn true
 else
  if (x.1 == (1 : Int)) = true then
   dn (((x.2.2.2.1 : Nat) : Int) == (1 : Int))
  else
   if (x.1 == (2 : Int)) = true then
    dn (((x.2.2.2.1 : Nat) : Int) == (1 : Int))
   else
    if (x.1 == (7 : Int)) = true then
     dn (((x.2.2.2.1 : Nat) : Int) == (1 : Int))
    else
     if (x.1 == (8 : Int)) = true then
      dn (((x.2.2.2.1 : Nat) : Int) == (1 : Int))
     else
      if (x.1 == (5 : Int)) = true then
       if (((x.2.2.2.1 : Nat) : Int) == (1 : Int)) = true then
        if (0 : Int) ≤ (0 : Int) ∧ (0 : Int) < ((x.2.2.2.1 : Nat) : Int) then
         dn (x.2.2.2.2.1 0 == (15 : Int))
        else
         none
       else
        dn false
      else
       if (x.1 == (11 : Int)) = true then
        if (((x.2.2.2.1 : Nat) : Int) == (1 : Int)) = true then
         if (0 : Int) ≤ (0 : Int) ∧ (0 : Int) < ((x.2.2.2.1 : Nat) : Int) then
          dn (x.2.2.2.2.1 0 == (15 : Int))
         else
          none
        else
         dn false
       else
        if (x.1 == (9 : Int)) = true then
         if (((x.2.2.2.1 : Nat) : Int) == (1 : Int)) = true then
          if (0 : Int) ≤ (0 : Int) ∧ (0 : Int) < ((x.2.2.2.1 : Nat) : Int) then
           dn (x.2.2.2.2.1 0 == (15 : Int))
          else
           none
         else
          dn false
        else
         if (x.1 == (10 : Int)) = true then
          if (((x.2.2.2.1 : Nat) : Int) == (1 : Int)) = true then
           if (0 : Int) ≤ (0 : Int) ∧ (0 : Int) < ((x.2.2.2.1 : Nat) : Int) then
            dn (x.2.2.2.2.1 0 == (15 : Int))
           else
            none
          else
           dn false
         else
          if (x.1 == (6 : Int)) = true then
           if (((x.2.2.2.1 : Nat) : Int) == (2 : Int)) = true then
            if (0 : Int) ≤ (1 : Int) ∧ (1 : Int) < ((x.2.2.2.1 : Nat) : Int) then
             dn (x.2.2.2.2.1 1 == (15 : Int))
            else
             none
           else
            dn false
          else
           if (x.1 == (3 : Int)) = true then
            if (((x.2.2.2.1 : Nat) : Int) == (3 : Int)) = true then
             if (0 : Int) ≤ (1 : Int) ∧ (1 : Int) < ((x.2.2.2.1 : Nat) : Int) then
              if (x.2.2.2.2.1 1 == (14 : Int)) = true then
               if (0 : Int) ≤ (2 : Int) ∧ (2 : Int) < ((x.2.2.2.1 : Nat) : Int) then
                dn (x.2.2.2.2.1 2 == (14 : Int))
               else
                none
              else
               dn false
             else
              none
            else
             dn false
           else
            if (x.1 == (4 : Int)) = true then
             if (((x.2.2.2.1 : Nat) : Int) == (1 : Int)) = true then
              if (0 : Int) ≤ (0 : Int) ∧ (0 : Int) < ((x.2.2.2.1 : Nat) : Int) then
               dn (x.2.2.2.2.1 0 == (14 : Int))
              else
               none
             else
              dn false
            else
             if (x.1 == (12 : Int)) = true then
              dn (((x.2.2.2.1 : Nat) : Int) == (0 : Int))
             else
              if (x.1 == (13 : Int)) = true then
               dn (((x.2.2.2.1 : Nat) : Int) == (0 : Int))
              else
               dn false
theorem n_wellF {β : Type} (x : a_wellF) (dn : g_wellF → Option β) : t_wellF x dn = (t_wellF x some).bind dn := by
  unfold t_wellF
  repeat' first | exact free_none | refine free_bind (fun z => ?_) | refine free_ite ?_ ?_ | refine free_sum (fun z => ?_) (fun z => ?_) | rfl
theorem r_wellF (x : a_wellF) : callK E5 (callG E5 20) lo0 53 (A_wellF x).1 (A_wellF x).2 K = t_wellF x (fun z => some (.c (R_wellF z))) := by kernel_rfl
theorem s_wellF (q : Nat) (x : a_wellF) (z : g_wellF) (h : t_wellF x some = some z) : SC E5 53 (A_wellF x).1 (A_wellF x).2 (R_wellF z) := by
  refine SC.of hW5 hX5 (sound_G hW5 hX5 20).1 lo0_sound ((r_wellF x).trans ?_)
  rw [n_wellF, h]; rfl
noncomputable def wellF (q : Nat) (x : a_wellF) : Option g_wellF := t_wellF x some
theorem sc_wellF (q : Nat) : ∀ (x : a_wellF) (z : g_wellF), wellF q x = some z → SC E5 53 (A_wellF x).1 (A_wellF x).2 (R_wellF z) := fun x z h => s_wellF q x z h
abbrev a_inRange : Type := Int × Int × ByteArray × Nat × (Nat → List V)
abbrev g_inRange : Type := Bool
def A_inRange : a_inRange → List V × List (Option Chunk) := (fun x => (fun (nk : Int) (nn : Int) (ns : ByteArray) (nm : Nat) (nf : Nat → List V) => (([.agg [i64 nk, i64 nn, st ns, .ro 4 nm nf]] : List V), ([] : List (Option Chunk)))) x.1 x.2.1 x.2.2.1 x.2.2.2.1 x.2.2.2.2)
def d_inRange (t : List V × List (Option Chunk)) : a_inRange := ((vI ((vAg (t.1.getD 0 .junk)).getD 0 .junk)), (vI ((vAg (t.1.getD 0 .junk)).getD 1 .junk)), (vS ((vAg (t.1.getD 0 .junk)).getD 2 .junk)), (vRoN ((vAg (t.1.getD 0 .junk)).getD 3 .junk)), (vRoF ((vAg (t.1.getD 0 .junk)).getD 3 .junk)))
theorem i_inRange : ∀ x y, A_inRange x = A_inRange y → x = y := fun x y h => (congrArg d_inRange h :)
def R_inRange : g_inRange → CRes := (fun z => (fun (b : Bool) => .ret (bo b) []) z : (Bool) → CRes)
def x_inRange (z : g_inRange) (k : CRes → Option Ans) : Option Ans := k (R_inRange z)
theorem xe_inRange : ∀ z k, x_inRange z k = k (R_inRange z) := fun z k => rfl
def t_inRange {β : Type} (x : a_inRange) (dn : g_inRange → Option β) : Option β :=
 if (x.1 == (4 : Int)) = true then
  if decide (x.2.1 ≥ (1 : Int)) = true then
   dn (decide (x.2.1 ≤ (100 : Int)))
  else
   dn false
 else
  if (x.1 == (9 : Int)) = true then
   if decide (x.2.1 ≥ (0 : Int)) = true then
    dn (decide (x.2.1 ≤ (7 : Int)))
   else
    dn false
  else
   if (x.1 == (10 : Int)) = true then
    if decide (x.2.1 ≥ (0 : Int)) = true then
     dn (decide (x.2.1 ≤ (7 : Int)))
    else
     dn false
   else
    if (x.1 == (12 : Int)) = true then
     if decide (x.2.1 ≥ (0 : Int)) = true then
      dn (decide (x.2.1 ≤ (99 : Int)))
     else
      dn false
    else
     if (x.1 == (13 : Int)) = true then
      if decide (x.2.1 ≥ (0 : Int)) = true then
       dn (decide (x.2.1 ≤ (999 : Int)))
      else
       dn false
     else
      dn true
theorem n_inRange {β : Type} (x : a_inRange) (dn : g_inRange → Option β) : t_inRange x dn = (t_inRange x some).bind dn := by
  unfold t_inRange
  repeat' first | exact free_none | refine free_bind (fun z => ?_) | refine free_ite ?_ ?_ | refine free_sum (fun z => ?_) (fun z => ?_) | rfl
theorem r_inRange (x : a_inRange) : callK E5 ca0 lo0 54 (A_inRange x).1 (A_inRange x).2 K = t_inRange x (fun z => some (.c (R_inRange z))) := by kernel_rfl
theorem s_inRange (q : Nat) (x : a_inRange) (z : g_inRange) (h : t_inRange x some = some z) : SC E5 54 (A_inRange x).1 (A_inRange x).2 (R_inRange z) := by
  refine SC.of hW5 hX5 ca0_sound lo0_sound ((r_inRange x).trans ?_)
  rw [n_inRange, h]; rfl
noncomputable def inRange (q : Nat) (x : a_inRange) : Option g_inRange := t_inRange x some
theorem sc_inRange (q : Nat) : ∀ (x : a_inRange) (z : g_inRange), inRange q x = some z → SC E5 54 (A_inRange x).1 (A_inRange x).2 (R_inRange z) := fun x z h => s_inRange q x z h
abbrev a_cond : Type := Int × Int × ByteArray × Nat × (Nat → List V) × Nat × (ByteArray → Bool) × (ByteArray → Int) × (ByteArray → Int) × (ByteArray → Int) × (ByteArray → Int) × (ByteArray → Int)
abbrev g_cond : Type := Int × Nat × (ByteArray → Bool) × (ByteArray → Int) × (ByteArray → Int) × (ByteArray → Int) × (ByteArray → Int) × (ByteArray → Int)
def A_cond : a_cond → List V × List (Option Chunk) := (fun x => (fun (nk : Int) (nn : Int) (ns : ByteArray) (nm : Nat) (nf : Nat → List V) (mn : Nat) (mh : ByteArray → Bool) (m0 : ByteArray → Int) (m1 : ByteArray → Int) (m2 : ByteArray → Int) (m3 : ByteArray → Int) (m4 : ByteArray → Int) => (([.ptr 0 0, .agg [i64 nk, i64 nn, st ns, .ro 4 nm nf]] : List V), ([some (.blk [.mp 1]), some (.smap mn mh (fun j => .agg [i64 (m0 j), i64 (m1 j), i64 (m2 j), i64 (m3 j), i64 (m4 j)]))] : List (Option Chunk)))) x.1 x.2.1 x.2.2.1 x.2.2.2.1 x.2.2.2.2.1 x.2.2.2.2.2.1 x.2.2.2.2.2.2.1 x.2.2.2.2.2.2.2.1 x.2.2.2.2.2.2.2.2.1 x.2.2.2.2.2.2.2.2.2.1 x.2.2.2.2.2.2.2.2.2.2.1 x.2.2.2.2.2.2.2.2.2.2.2)
def d_cond (t : List V × List (Option Chunk)) : a_cond := ((vI ((vAg (t.1.getD 1 .junk)).getD 0 .junk)), (vI ((vAg (t.1.getD 1 .junk)).getD 1 .junk)), (vS ((vAg (t.1.getD 1 .junk)).getD 2 .junk)), (vRoN ((vAg (t.1.getD 1 .junk)).getD 3 .junk)), (vRoF ((vAg (t.1.getD 1 .junk)).getD 3 .junk)), (smN (t.2.getD 1 none)), (smH (t.2.getD 1 none)), (fun j => (vI ((vAg ((smF (t.2.getD 1 none)) j)).getD 0 .junk))), (fun j => (vI ((vAg ((smF (t.2.getD 1 none)) j)).getD 1 .junk))), (fun j => (vI ((vAg ((smF (t.2.getD 1 none)) j)).getD 2 .junk))), (fun j => (vI ((vAg ((smF (t.2.getD 1 none)) j)).getD 3 .junk))), (fun j => (vI ((vAg ((smF (t.2.getD 1 none)) j)).getD 4 .junk))))
theorem i_cond : ∀ x y, A_cond x = A_cond y → x = y := fun x y h => (congrArg d_cond h :)
def R_cond : g_cond → CRes := (fun z => (fun (e : Int) (mn : Nat) (mh : ByteArray → Bool) (m0 : ByteArray → Int) (m1 : ByteArray → Int) (m2 : ByteArray → Int) (m3 : ByteArray → Int) (m4 : ByteArray → Int) => .ret (i64 e) [some (.blk [.mp 1]), some (.smap mn mh (fun j => .agg [i64 (m0 j), i64 (m1 j), i64 (m2 j), i64 (m3 j), i64 (m4 j)]))]) z.1 z.2.1 z.2.2.1 z.2.2.2.1 z.2.2.2.2.1 z.2.2.2.2.2.1 z.2.2.2.2.2.2.1 z.2.2.2.2.2.2.2 : (Int × Nat × (ByteArray → Bool) × (ByteArray → Int) × (ByteArray → Int) × (ByteArray → Int) × (ByteArray → Int) × (ByteArray → Int)) → CRes)
def x_cond (z : g_cond) (k : CRes → Option Ans) : Option Ans := k (R_cond z)
theorem xe_cond : ∀ z k, x_cond z k = k (R_cond z) := fun z k => rfl
def t_cond {β : Type} (c_Of : a_Of → Option g_Of) (x : a_cond) (dn : g_cond → Option β) : Option β :=
 (c_Of x).bind fun z12 =>
  if (z12.2.2.2.2.2.2.1 == (0 : Int)) = true then
   if (!z12.1) = true then
    dn (((12 : Int), z12.2.2.2.2.2.2.2))
   else
    dn (z12.2.2.2.2.2.2)
  else
   dn (z12.2.2.2.2.2.2)
theorem n_cond {β : Type} (c_Of : a_Of → Option g_Of) (x : a_cond) (dn : g_cond → Option β) : t_cond c_Of x dn = (t_cond c_Of x some).bind dn := by
  unfold t_cond
  repeat' first | exact free_none | refine free_bind (fun z => ?_) | refine free_ite ?_ ?_ | refine free_sum (fun z => ?_) (fun z => ?_) | rfl
theorem r_cond (c_Of : a_Of → Option g_Of) (x : a_cond) : callK E5 (ftab 12 (fun _ _ => true) A_Of x_Of c_Of ca0) lo0 56 (A_cond x).1 (A_cond x).2 K = t_cond (fun x => viaF A_Of c_Of (A_Of x)) x (fun z => some (.c (R_cond z))) := by kernel_rfl
theorem s_cond (c_Of : a_Of → Option g_Of) (h_Of : ∀ x z, c_Of x = some z → SC E5 12 (A_Of x).1 (A_Of x).2 (R_Of z)) (q : Nat) (x : a_cond) (z : g_cond) (h : t_cond c_Of x some = some z) : SC E5 56 (A_cond x).1 (A_cond x).2 (R_cond z) := by
  refine SC.of hW5 hX5 (ftab_cons h_Of xe_Of ca0_sound) lo0_sound ((r_cond c_Of x).trans ?_)
  rw [via_eq i_Of c_Of, n_cond, h]; rfl
noncomputable def cond (q : Nat) (x : a_cond) : Option g_cond := t_cond (Of q) x some
theorem sc_cond (q : Nat) : ∀ (x : a_cond) (z : g_cond), cond q x = some z → SC E5 56 (A_cond x).1 (A_cond x).2 (R_cond z) := fun x z h => s_cond (Of q) (sc_Of q) q x z h
abbrev a_quant : Type := Int × Int × ByteArray × Nat × (Nat → List V) × Int × Int × Int × Int × Int × Nat × (ByteArray → Bool) × (ByteArray → Int) × (ByteArray → Int) × (ByteArray → Int) × (ByteArray → Int) × (ByteArray → Int)
abbrev g_quant : Type := Int × Nat × (ByteArray → Bool) × (ByteArray → Int) × (ByteArray → Int) × (ByteArray → Int) × (ByteArray → Int) × (ByteArray → Int)
def A_quant : a_quant → List V × List (Option Chunk) := (fun x => (fun (nk : Int) (nn : Int) (ns : ByteArray) (nm : Nat) (nf : Nat → List V) (d0 : Int) (d1 : Int) (d2 : Int) (d3 : Int) (d4 : Int) (mn : Nat) (mh : ByteArray → Bool) (m0 : ByteArray → Int) (m1 : ByteArray → Int) (m2 : ByteArray → Int) (m3 : ByteArray → Int) (m4 : ByteArray → Int) => (([.ptr 0 0, .agg [i64 nk, i64 nn, st ns, .ro 4 nm nf], .agg [i64 d0, i64 d1, i64 d2, i64 d3, i64 d4]] : List V), ([some (.blk [.mp 1]), some (.smap mn mh (fun j => .agg [i64 (m0 j), i64 (m1 j), i64 (m2 j), i64 (m3 j), i64 (m4 j)]))] : List (Option Chunk)))) x.1 x.2.1 x.2.2.1 x.2.2.2.1 x.2.2.2.2.1 x.2.2.2.2.2.1 x.2.2.2.2.2.2.1 x.2.2.2.2.2.2.2.1 x.2.2.2.2.2.2.2.2.1 x.2.2.2.2.2.2.2.2.2.1 x.2.2.2.2.2.2.2.2.2.2.1 x.2.2.2.2.2.2.2.2.2.2.2.1 x.2.2.2.2.2.2.2.2.2.2.2.2.1 x.2.2.2.2.2.2.2.2.2.2.2.2.2.1 x.2.2.2.2.2.2.2.2.2.2.2.2.2.2.1 x.2.2.2.2.2.2.2.2.2.2.2.2.2.2.2.1 x.2.2.2.2.2.2.2.2.2.2.2.2.2.2.2.2)
def d_quant (t : List V × List (Option Chunk)) : a_quant := ((vI ((vAg (t.1.getD 1 .junk)).getD 0 .junk)), (vI ((vAg (t.1.getD 1 .junk)).getD 1 .junk)), (vS ((vAg (t.1.getD 1 .junk)).getD 2 .junk)), (vRoN ((vAg (t.1.getD 1 .junk)).getD 3 .junk)), (vRoF ((vAg (t.1.getD 1 .junk)).getD 3 .junk)), (vI ((vAg (t.1.getD 2 .junk)).getD 0 .junk)), (vI ((vAg (t.1.getD 2 .junk)).getD 1 .junk)), (vI ((vAg (t.1.getD 2 .junk)).getD 2 .junk)), (vI ((vAg (t.1.getD 2 .junk)).getD 3 .junk)), (vI ((vAg (t.1.getD 2 .junk)).getD 4 .junk)), (smN (t.2.getD 1 none)), (smH (t.2.getD 1 none)), (fun j => (vI ((vAg ((smF (t.2.getD 1 none)) j)).getD 0 .junk))), (fun j => (vI ((vAg ((smF (t.2.getD 1 none)) j)).getD 1 .junk))), (fun j => (vI ((vAg ((smF (t.2.getD 1 none)) j)).getD 2 .junk))), (fun j => (vI ((vAg ((smF (t.2.getD 1 none)) j)).getD 3 .junk))), (fun j => (vI ((vAg ((smF (t.2.getD 1 none)) j)).getD 4 .junk))))
theorem i_quant : ∀ x y, A_quant x = A_quant y → x = y := fun x y h => (congrArg d_quant h :)
def R_quant : g_quant → CRes := (fun z => (fun (e : Int) (mn : Nat) (mh : ByteArray → Bool) (m0 : ByteArray → Int) (m1 : ByteArray → Int) (m2 : ByteArray → Int) (m3 : ByteArray → Int) (m4 : ByteArray → Int) => .ret (i64 e) [some (.blk [.mp 1]), some (.smap mn mh (fun j => .agg [i64 (m0 j), i64 (m1 j), i64 (m2 j), i64 (m3 j), i64 (m4 j)]))]) z.1 z.2.1 z.2.2.1 z.2.2.2.1 z.2.2.2.2.1 z.2.2.2.2.2.1 z.2.2.2.2.2.2.1 z.2.2.2.2.2.2.2 : (Int × Nat × (ByteArray → Bool) × (ByteArray → Int) × (ByteArray → Int) × (ByteArray → Int) × (ByteArray → Int) × (ByteArray → Int)) → CRes)
def x_quant (z : g_quant) (k : CRes → Option Ans) : Option Ans := k (R_quant z)
theorem xe_quant : ∀ z k, x_quant z k = k (R_quant z) := fun z k => rfl
def t_quant {β : Type} (c_Of : a_Of → Option g_Of) (x : a_quant) (dn : g_quant → Option β) : Option β :=
 (c_Of ((x.1, x.2.1, x.2.2.1, x.2.2.2.1, x.2.2.2.2.1, x.2.2.2.2.2.2.2.2.2.2))).bind fun z12 =>
  if (z12.2.2.2.2.2.2.1 != (0 : Int)) = true then
   dn (z12.2.2.2.2.2.2)
  else
   if z12.1 = true then
    dn (((12 : Int), z12.2.2.2.2.2.2.2))
   else
    if (if true = true then !(z12.2.1 == x.2.2.2.2.2.1 && (z12.2.2.1 == x.2.2.2.2.2.2.1 && (z12.2.2.2.1 == x.2.2.2.2.2.2.2.1 && (z12.2.2.2.2.1 == x.2.2.2.2.2.2.2.2.1 && (z12.2.2.2.2.2.1 == x.2.2.2.2.2.2.2.2.2.1 && true))))) else z12.2.1 == x.2.2.2.2.2.1 && (z12.2.2.1 == x.2.2.2.2.2.2.1 && (z12.2.2.2.1 == x.2.2.2.2.2.2.2.1 && (z12.2.2.2.2.1 == x.2.2.2.2.2.2.2.2.1 && (z12.2.2.2.2.2.1 == x.2.2.2.2.2.2.2.2.2.1 && true))))) = true then
     dn (((10 : Int), z12.2.2.2.2.2.2.2))
    else
     dn (((0 : Int), z12.2.2.2.2.2.2.2))
theorem n_quant {β : Type} (c_Of : a_Of → Option g_Of) (x : a_quant) (dn : g_quant → Option β) : t_quant c_Of x dn = (t_quant c_Of x some).bind dn := by
  unfold t_quant
  repeat' first | exact free_none | refine free_bind (fun z => ?_) | refine free_ite ?_ ?_ | refine free_sum (fun z => ?_) (fun z => ?_) | rfl
theorem r_quant (c_Of : a_Of → Option g_Of) (x : a_quant) : callK E5 (ftab 12 (fun _ _ => true) A_Of x_Of c_Of ca0) lo0 57 (A_quant x).1 (A_quant x).2 K = t_quant (fun x => viaF A_Of c_Of (A_Of x)) x (fun z => some (.c (R_quant z))) := by kernel_rfl
theorem s_quant (c_Of : a_Of → Option g_Of) (h_Of : ∀ x z, c_Of x = some z → SC E5 12 (A_Of x).1 (A_Of x).2 (R_Of z)) (q : Nat) (x : a_quant) (z : g_quant) (h : t_quant c_Of x some = some z) : SC E5 57 (A_quant x).1 (A_quant x).2 (R_quant z) := by
  refine SC.of hW5 hX5 (ftab_cons h_Of xe_Of ca0_sound) lo0_sound ((r_quant c_Of x).trans ?_)
  rw [via_eq i_Of c_Of, n_quant, h]; rfl
noncomputable def quant (q : Nat) (x : a_quant) : Option g_quant := t_quant (Of q) x some
theorem sc_quant (q : Nat) : ∀ (x : a_quant) (z : g_quant), quant q x = some z → SC E5 57 (A_quant x).1 (A_quant x).2 (R_quant z) := fun x z h => s_quant (Of q) (sc_Of q) q x z h
abbrev a_letS : Type := Int × Int × ByteArray × Nat × (Nat → Int) × (Nat → Int) × (Nat → ByteArray) × (Nat → Nat) × (Nat → Nat → List V) × Nat × (ByteArray → Bool) × (ByteArray → Int) × (ByteArray → Int) × (ByteArray → Int) × (ByteArray → Int) × (ByteArray → Int)
abbrev g_letS : Type := Int × Nat × (ByteArray → Bool) × (ByteArray → Int) × (ByteArray → Int) × (ByteArray → Int) × (ByteArray → Int) × (ByteArray → Int)
def A_letS : a_letS → List V × List (Option Chunk) := (fun x => (fun (nk : Int) (nn : Int) (ns : ByteArray) (nm : Nat) (ek : Nat → Int) (en : Nat → Int) (es : Nat → ByteArray) (em : Nat → Nat) (ef : Nat → Nat → List V) (mn : Nat) (mh : ByteArray → Bool) (m0 : ByteArray → Int) (m1 : ByteArray → Int) (m2 : ByteArray → Int) (m3 : ByteArray → Int) (m4 : ByteArray → Int) => (([.ptr 0 0, .agg [i64 nk, i64 nn, st ns, .ro 4 nm (fun j => [i64 (ek j), i64 (en j), st (es j), .ro 4 (em j) (ef j)])]] : List V), ([some (.blk [.mp 1]), some (.smap mn mh (fun j => .agg [i64 (m0 j), i64 (m1 j), i64 (m2 j), i64 (m3 j), i64 (m4 j)]))] : List (Option Chunk)))) x.1 x.2.1 x.2.2.1 x.2.2.2.1 x.2.2.2.2.1 x.2.2.2.2.2.1 x.2.2.2.2.2.2.1 x.2.2.2.2.2.2.2.1 x.2.2.2.2.2.2.2.2.1 x.2.2.2.2.2.2.2.2.2.1 x.2.2.2.2.2.2.2.2.2.2.1 x.2.2.2.2.2.2.2.2.2.2.2.1 x.2.2.2.2.2.2.2.2.2.2.2.2.1 x.2.2.2.2.2.2.2.2.2.2.2.2.2.1 x.2.2.2.2.2.2.2.2.2.2.2.2.2.2.1 x.2.2.2.2.2.2.2.2.2.2.2.2.2.2.2)
def d_letS (t : List V × List (Option Chunk)) : a_letS := ((vI ((vAg (t.1.getD 1 .junk)).getD 0 .junk)), (vI ((vAg (t.1.getD 1 .junk)).getD 1 .junk)), (vS ((vAg (t.1.getD 1 .junk)).getD 2 .junk)), (vRoN ((vAg (t.1.getD 1 .junk)).getD 3 .junk)), (fun j => (vI (((vRoF ((vAg (t.1.getD 1 .junk)).getD 3 .junk)) j).getD 0 .junk))), (fun j => (vI (((vRoF ((vAg (t.1.getD 1 .junk)).getD 3 .junk)) j).getD 1 .junk))), (fun j => (vS (((vRoF ((vAg (t.1.getD 1 .junk)).getD 3 .junk)) j).getD 2 .junk))), (fun j => (vRoN (((vRoF ((vAg (t.1.getD 1 .junk)).getD 3 .junk)) j).getD 3 .junk))), (fun j => (vRoF (((vRoF ((vAg (t.1.getD 1 .junk)).getD 3 .junk)) j).getD 3 .junk))), (smN (t.2.getD 1 none)), (smH (t.2.getD 1 none)), (fun j => (vI ((vAg ((smF (t.2.getD 1 none)) j)).getD 0 .junk))), (fun j => (vI ((vAg ((smF (t.2.getD 1 none)) j)).getD 1 .junk))), (fun j => (vI ((vAg ((smF (t.2.getD 1 none)) j)).getD 2 .junk))), (fun j => (vI ((vAg ((smF (t.2.getD 1 none)) j)).getD 3 .junk))), (fun j => (vI ((vAg ((smF (t.2.getD 1 none)) j)).getD 4 .junk))))
theorem i_letS : ∀ x y, A_letS x = A_letS y → x = y := fun x y h => (congrArg d_letS h :)
def R_letS : g_letS → CRes := (fun z => (fun (e : Int) (mn : Nat) (mh : ByteArray → Bool) (m0 : ByteArray → Int) (m1 : ByteArray → Int) (m2 : ByteArray → Int) (m3 : ByteArray → Int) (m4 : ByteArray → Int) => .ret (i64 e) [some (.blk [.mp 1]), some (.smap mn mh (fun j => .agg [i64 (m0 j), i64 (m1 j), i64 (m2 j), i64 (m3 j), i64 (m4 j)]))]) z.1 z.2.1 z.2.2.1 z.2.2.2.1 z.2.2.2.2.1 z.2.2.2.2.2.1 z.2.2.2.2.2.2.1 z.2.2.2.2.2.2.2 : (Int × Nat × (ByteArray → Bool) × (ByteArray → Int) × (ByteArray → Int) × (ByteArray → Int) × (ByteArray → Int) × (ByteArray → Int)) → CRes)
def x_letS (z : g_letS) (k : CRes → Option Ans) : Option Ans := k (R_letS z)
theorem xe_letS : ∀ z k, x_letS z k = k (R_letS z) := fun z k => rfl
def t_letS {β : Type} (c_Of : a_Of → Option g_Of) (c_declare : a_declare → Option g_declare) (x : a_letS) (dn : g_letS → Option β) : Option β :=
 if (0 : Int) ≤ (0 : Int) ∧ (0 : Int) < ((x.2.2.2.1 : Nat) : Int) then
  (c_Of ((x.2.2.2.2.1 0, x.2.2.2.2.2.1 0, x.2.2.2.2.2.2.1 0, x.2.2.2.2.2.2.2.1 0, x.2.2.2.2.2.2.2.2.1 0, x.2.2.2.2.2.2.2.2.2))).bind fun z12 =>
   if (z12.2.2.2.2.2.2.1 != (0 : Int)) = true then
    dn (z12.2.2.2.2.2.2)
   else
    if (x.1 == (2 : Int)) = true then
     if (!z12.2.2.2.2.2.2.2.2.1 (x.2.2.1)) = true then
      dn (((3 : Int), z12.2.2.2.2.2.2.2))
     else
      if z12.1 = true then
       dn (((12 : Int), z12.2.2.2.2.2.2.2))
      else
       if (x.1 == (2 : Int)) = true then
        if (if true = true then !((if z12.2.2.2.2.2.2.2.2.1 (x.2.2.1) = true then z12.2.2.2.2.2.2.2.2.2.1 (x.2.2.1) else (0 : Int)) == z12.2.1 && ((if z12.2.2.2.2.2.2.2.2.1 (x.2.2.1) = true then z12.2.2.2.2.2.2.2.2.2.2.1 (x.2.2.1) else (0 : Int)) == z12.2.2.1 && ((if z12.2.2.2.2.2.2.2.2.1 (x.2.2.1) = true then z12.2.2.2.2.2.2.2.2.2.2.2.1 (x.2.2.1) else (0 : Int)) == z12.2.2.2.1 && ((if z12.2.2.2.2.2.2.2.2.1 (x.2.2.1) = true then z12.2.2.2.2.2.2.2.2.2.2.2.2.1 (x.2.2.1) else (0 : Int)) == z12.2.2.2.2.1 && ((if z12.2.2.2.2.2.2.2.2.1 (x.2.2.1) = true then z12.2.2.2.2.2.2.2.2.2.2.2.2.2 (x.2.2.1) else (0 : Int)) == z12.2.2.2.2.2.1 && true))))) else (if z12.2.2.2.2.2.2.2.2.1 (x.2.2.1) = true then z12.2.2.2.2.2.2.2.2.2.1 (x.2.2.1) else (0 : Int)) == z12.2.1 && ((if z12.2.2.2.2.2.2.2.2.1 (x.2.2.1) = true then z12.2.2.2.2.2.2.2.2.2.2.1 (x.2.2.1) else (0 : Int)) == z12.2.2.1 && ((if z12.2.2.2.2.2.2.2.2.1 (x.2.2.1) = true then z12.2.2.2.2.2.2.2.2.2.2.2.1 (x.2.2.1) else (0 : Int)) == z12.2.2.2.1 && ((if z12.2.2.2.2.2.2.2.2.1 (x.2.2.1) = true then z12.2.2.2.2.2.2.2.2.2.2.2.2.1 (x.2.2.1) else (0 : Int)) == z12.2.2.2.2.1 && ((if z12.2.2.2.2.2.2.2.2.1 (x.2.2.1) = true then z12.2.2.2.2.2.2.2.2.2.2.2.2.2 (x.2.2.1) else (0 : Int)) == z12.2.2.2.2.2.1 && true))))) = true then
         dn (((10 : Int), z12.2.2.2.2.2.2.2))
        else
         if (x.1 == (2 : Int)) = true then
          dn (((0 : Int), z12.2.2.2.2.2.2.2))
         else
          (c_declare ((x.2.2.1, z12.2.1, z12.2.2.1, z12.2.2.2.1, z12.2.2.2.2.1, z12.2.2.2.2.2.1, z12.2.2.2.2.2.2.2))).bind fun z26 =>
           dn z26
       else
        if (x.1 == (2 : Int)) = true then
         dn (((0 : Int), z12.2.2.2.2.2.2.2))
        else
         (c_declare ((x.2.2.1, z12.2.1, z12.2.2.1, z12.2.2.2.1, z12.2.2.2.2.1, z12.2.2.2.2.2.1, z12.2.2.2.2.2.2.2))).bind fun z40 =>
          dn z40
    else
     if z12.1 = true then
      dn (((12 : Int), z12.2.2.2.2.2.2.2))
     else
      if (x.1 == (2 : Int)) = true then
       if (if true = true then !((if z12.2.2.2.2.2.2.2.2.1 (x.2.2.1) = true then z12.2.2.2.2.2.2.2.2.2.1 (x.2.2.1) else (0 : Int)) == z12.2.1 && ((if z12.2.2.2.2.2.2.2.2.1 (x.2.2.1) = true then z12.2.2.2.2.2.2.2.2.2.2.1 (x.2.2.1) else (0 : Int)) == z12.2.2.1 && ((if z12.2.2.2.2.2.2.2.2.1 (x.2.2.1) = true then z12.2.2.2.2.2.2.2.2.2.2.2.1 (x.2.2.1) else (0 : Int)) == z12.2.2.2.1 && ((if z12.2.2.2.2.2.2.2.2.1 (x.2.2.1) = true then z12.2.2.2.2.2.2.2.2.2.2.2.2.1 (x.2.2.1) else (0 : Int)) == z12.2.2.2.2.1 && ((if z12.2.2.2.2.2.2.2.2.1 (x.2.2.1) = true then z12.2.2.2.2.2.2.2.2.2.2.2.2.2 (x.2.2.1) else (0 : Int)) == z12.2.2.2.2.2.1 && true))))) else (if z12.2.2.2.2.2.2.2.2.1 (x.2.2.1) = true then z12.2.2.2.2.2.2.2.2.2.1 (x.2.2.1) else (0 : Int)) == z12.2.1 && ((if z12.2.2.2.2.2.2.2.2.1 (x.2.2.1) = true then z12.2.2.2.2.2.2.2.2.2.2.1 (x.2.2.1) else (0 : Int)) == z12.2.2.1 && ((if z12.2.2.2.2.2.2.2.2.1 (x.2.2.1) = true then z12.2.2.2.2.2.2.2.2.2.2.2.1 (x.2.2.1) else (0 : Int)) == z12.2.2.2.1 && ((if z12.2.2.2.2.2.2.2.2.1 (x.2.2.1) = true then z12.2.2.2.2.2.2.2.2.2.2.2.2.1 (x.2.2.1) else (0 : Int)) == z12.2.2.2.2.1 && ((if z12.2.2.2.2.2.2.2.2.1 (x.2.2.1) = true then z12.2.2.2.2.2.2.2.2.2.2.2.2.2 (x.2.2.1) else (0 : Int)) == z12.2.2.2.2.2.1 && true))))) = true then
        dn (((10 : Int), z12.2.2.2.2.2.2.2))
       else
        if (x.1 == (2 : Int)) = true then
         dn (((0 : Int), z12.2.2.2.2.2.2.2))
        else
         (c_declare ((x.2.2.1, z12.2.1, z12.2.2.1, z12.2.2.2.1, z12.2.2.2.2.1, z12.2.2.2.2.2.1, z12.2.2.2.2.2.2.2))).bind fun z54 =>
          dn z54
      else
       if (x.1 == (2 : Int)) = true then
        dn (((0 : Int), z12.2.2.2.2.2.2.2))
       else
        (c_declare ((x.2.2.1, z12.2.1, z12.2.2.1, z12.2.2.2.1, z12.2.2.2.2.1, z12.2.2.2.2.2.1, z12.2.2.2.2.2.2.2))).bind fun z68 =>
         dn z68
 else
  none
theorem n_letS {β : Type} (c_Of : a_Of → Option g_Of) (c_declare : a_declare → Option g_declare) (x : a_letS) (dn : g_letS → Option β) : t_letS c_Of c_declare x dn = (t_letS c_Of c_declare x some).bind dn := by
  unfold t_letS
  repeat' first | exact free_none | refine free_bind (fun z => ?_) | refine free_ite ?_ ?_ | refine free_sum (fun z => ?_) (fun z => ?_) | rfl
theorem r_letS (c_Of : a_Of → Option g_Of) (c_declare : a_declare → Option g_declare) (x : a_letS) : callK E5 (ftab 12 (fun _ _ => true) A_Of x_Of c_Of (ftab 37 (fun _ _ => true) A_declare x_declare c_declare ca0)) lo0 55 (A_letS x).1 (A_letS x).2 K = t_letS (fun x => viaF A_Of c_Of (A_Of x)) (fun x => viaF A_declare c_declare (A_declare x)) x (fun z => some (.c (R_letS z))) := by kernel_rfl
theorem s_letS (c_Of : a_Of → Option g_Of) (h_Of : ∀ x z, c_Of x = some z → SC E5 12 (A_Of x).1 (A_Of x).2 (R_Of z)) (c_declare : a_declare → Option g_declare) (h_declare : ∀ x z, c_declare x = some z → SC E5 37 (A_declare x).1 (A_declare x).2 (R_declare z)) (q : Nat) (x : a_letS) (z : g_letS) (h : t_letS c_Of c_declare x some = some z) : SC E5 55 (A_letS x).1 (A_letS x).2 (R_letS z) := by
  refine SC.of hW5 hX5 (ftab_cons h_Of xe_Of (ftab_cons h_declare xe_declare ca0_sound)) lo0_sound ((r_letS c_Of c_declare x).trans ?_)
  rw [via_eq i_Of c_Of, via_eq i_declare c_declare, n_letS, h]; rfl
noncomputable def letS (q : Nat) (x : a_letS) : Option g_letS := t_letS (Of q) (declare q) x some
theorem sc_letS (q : Nat) : ∀ (x : a_letS) (z : g_letS), letS q x = some z → SC E5 55 (A_letS x).1 (A_letS x).2 (R_letS z) := fun x z h => s_letS (Of q) (sc_Of q) (declare q) (sc_declare q) q x z h
abbrev a_stmt : Type := Int × Int × ByteArray × Nat × (Nat → List V) × Nat × (ByteArray → Bool) × (ByteArray → Int) × (ByteArray → Int) × (ByteArray → Int) × (ByteArray → Int) × (ByteArray → Int)
abbrev g_stmt : Type := Int × Nat × (ByteArray → Bool) × (ByteArray → Int) × (ByteArray → Int) × (ByteArray → Int) × (ByteArray → Int) × (ByteArray → Int)
def A_stmt : a_stmt → List V × List (Option Chunk) := (fun x => (fun (nk : Int) (nn : Int) (ns : ByteArray) (nm : Nat) (nf : Nat → List V) (mn : Nat) (mh : ByteArray → Bool) (m0 : ByteArray → Int) (m1 : ByteArray → Int) (m2 : ByteArray → Int) (m3 : ByteArray → Int) (m4 : ByteArray → Int) => (([.ptr 0 0, .agg [i64 nk, i64 nn, st ns, .ro 4 nm nf]] : List V), ([some (.blk [.mp 1]), some (.smap mn mh (fun j => .agg [i64 (m0 j), i64 (m1 j), i64 (m2 j), i64 (m3 j), i64 (m4 j)]))] : List (Option Chunk)))) x.1 x.2.1 x.2.2.1 x.2.2.2.1 x.2.2.2.2.1 x.2.2.2.2.2.1 x.2.2.2.2.2.2.1 x.2.2.2.2.2.2.2.1 x.2.2.2.2.2.2.2.2.1 x.2.2.2.2.2.2.2.2.2.1 x.2.2.2.2.2.2.2.2.2.2.1 x.2.2.2.2.2.2.2.2.2.2.2)
def d_stmt (t : List V × List (Option Chunk)) : a_stmt := ((vI ((vAg (t.1.getD 1 .junk)).getD 0 .junk)), (vI ((vAg (t.1.getD 1 .junk)).getD 1 .junk)), (vS ((vAg (t.1.getD 1 .junk)).getD 2 .junk)), (vRoN ((vAg (t.1.getD 1 .junk)).getD 3 .junk)), (vRoF ((vAg (t.1.getD 1 .junk)).getD 3 .junk)), (smN (t.2.getD 1 none)), (smH (t.2.getD 1 none)), (fun j => vI ((vAg (smF (t.2.getD 1 none) j)).getD 0 .junk)), (fun j => vI ((vAg (smF (t.2.getD 1 none) j)).getD 1 .junk)), (fun j => vI ((vAg (smF (t.2.getD 1 none) j)).getD 2 .junk)), (fun j => vI ((vAg (smF (t.2.getD 1 none) j)).getD 3 .junk)), (fun j => vI ((vAg (smF (t.2.getD 1 none) j)).getD 4 .junk)))
theorem i_stmt : ∀ x y, A_stmt x = A_stmt y → x = y := fun x y h => (congrArg d_stmt h :)
def R_stmt : g_stmt → CRes := (fun z => (fun (e : Int) (mn : Nat) (mh : ByteArray → Bool) (m0 : ByteArray → Int) (m1 : ByteArray → Int) (m2 : ByteArray → Int) (m3 : ByteArray → Int) (m4 : ByteArray → Int) => .ret (i64 e) [some (.blk [.mp 1]), some (.smap mn mh (fun j => .agg [i64 (m0 j), i64 (m1 j), i64 (m2 j), i64 (m3 j), i64 (m4 j)]))]) z.1 z.2.1 z.2.2.1 z.2.2.2.1 z.2.2.2.2.1 z.2.2.2.2.2.1 z.2.2.2.2.2.2.1 z.2.2.2.2.2.2.2 : (Int × Nat × (ByteArray → Bool) × (ByteArray → Int) × (ByteArray → Int) × (ByteArray → Int) × (ByteArray → Int) × (ByteArray → Int)) → CRes)
def x_stmt (z : g_stmt) (k : CRes → Option Ans) : Option Ans := k (R_stmt z)
theorem xe_stmt : ∀ z k, x_stmt z k = k (R_stmt z) := fun z k => rfl
abbrev a_alls : Type := Nat × (Nat → List V) × Nat × (ByteArray → Bool) × (ByteArray → Int) × (ByteArray → Int) × (ByteArray → Int) × (ByteArray → Int) × (ByteArray → Int)
abbrev g_alls : Type := Int × Nat × (ByteArray → Bool) × (ByteArray → Int) × (ByteArray → Int) × (ByteArray → Int) × (ByteArray → Int) × (ByteArray → Int)
def A_alls : a_alls → List V × List (Option Chunk) := (fun x => (fun (nm : Nat) (nf : Nat → List V) (mn : Nat) (mh : ByteArray → Bool) (m0 : ByteArray → Int) (m1 : ByteArray → Int) (m2 : ByteArray → Int) (m3 : ByteArray → Int) (m4 : ByteArray → Int) => (([.ptr 0 0, .ro 4 nm nf] : List V), ([some (.blk [.mp 1]), some (.smap mn mh (fun j => .agg [i64 (m0 j), i64 (m1 j), i64 (m2 j), i64 (m3 j), i64 (m4 j)]))] : List (Option Chunk)))) x.1 x.2.1 x.2.2.1 x.2.2.2.1 x.2.2.2.2.1 x.2.2.2.2.2.1 x.2.2.2.2.2.2.1 x.2.2.2.2.2.2.2.1 x.2.2.2.2.2.2.2.2)
def d_alls (t : List V × List (Option Chunk)) : a_alls := ((vRoN (t.1.getD 1 .junk)), (vRoF (t.1.getD 1 .junk)), (smN (t.2.getD 1 none)), (smH (t.2.getD 1 none)), (fun j => vI ((vAg (smF (t.2.getD 1 none) j)).getD 0 .junk)), (fun j => vI ((vAg (smF (t.2.getD 1 none) j)).getD 1 .junk)), (fun j => vI ((vAg (smF (t.2.getD 1 none) j)).getD 2 .junk)), (fun j => vI ((vAg (smF (t.2.getD 1 none) j)).getD 3 .junk)), (fun j => vI ((vAg (smF (t.2.getD 1 none) j)).getD 4 .junk)))
theorem i_alls : ∀ x y, A_alls x = A_alls y → x = y := fun x y h => (congrArg d_alls h :)
def R_alls : g_alls → CRes := (fun z => (fun (e : Int) (mn : Nat) (mh : ByteArray → Bool) (m0 : ByteArray → Int) (m1 : ByteArray → Int) (m2 : ByteArray → Int) (m3 : ByteArray → Int) (m4 : ByteArray → Int) => .ret (i64 e) [some (.blk [.mp 1]), some (.smap mn mh (fun j => .agg [i64 (m0 j), i64 (m1 j), i64 (m2 j), i64 (m3 j), i64 (m4 j)]))]) z.1 z.2.1 z.2.2.1 z.2.2.2.1 z.2.2.2.2.1 z.2.2.2.2.2.1 z.2.2.2.2.2.2.1 z.2.2.2.2.2.2.2 : (Int × Nat × (ByteArray → Bool) × (ByteArray → Int) × (ByteArray → Int) × (ByteArray → Int) × (ByteArray → Int) × (ByteArray → Int)) → CRes)
def x_alls (z : g_alls) (k : CRes → Option Ans) : Option Ans := k (R_alls z)
theorem xe_alls : ∀ z k, x_alls z k = k (R_alls z) := fun z k => rfl
abbrev a_stmtN : Type := Int × Int × ByteArray × Nat × (Nat → Int) × (Nat → Int) × (Nat → ByteArray) × (Nat → Nat) × (Nat → Nat → List V) × Nat × (ByteArray → Bool) × (ByteArray → Int) × (ByteArray → Int) × (ByteArray → Int) × (ByteArray → Int) × (ByteArray → Int)
abbrev g_stmtN : Type := Int × Nat × (ByteArray → Bool) × (ByteArray → Int) × (ByteArray → Int) × (ByteArray → Int) × (ByteArray → Int) × (ByteArray → Int)
def A_stmtN : a_stmtN → List V × List (Option Chunk) := (fun x => (fun (nk : Int) (nn : Int) (ns : ByteArray) (nm : Nat) (ek : Nat → Int) (en : Nat → Int) (es : Nat → ByteArray) (em : Nat → Nat) (ef : Nat → Nat → List V) (mn : Nat) (mh : ByteArray → Bool) (m0 : ByteArray → Int) (m1 : ByteArray → Int) (m2 : ByteArray → Int) (m3 : ByteArray → Int) (m4 : ByteArray → Int) => (([.ptr 0 0, .agg [i64 nk, i64 nn, st ns, .ro 4 nm (fun j => [i64 (ek j), i64 (en j), st (es j), .ro 4 (em j) (ef j)])]] : List V), ([some (.blk [.mp 1]), some (.smap mn mh (fun j => .agg [i64 (m0 j), i64 (m1 j), i64 (m2 j), i64 (m3 j), i64 (m4 j)]))] : List (Option Chunk)))) x.1 x.2.1 x.2.2.1 x.2.2.2.1 x.2.2.2.2.1 x.2.2.2.2.2.1 x.2.2.2.2.2.2.1 x.2.2.2.2.2.2.2.1 x.2.2.2.2.2.2.2.2.1 x.2.2.2.2.2.2.2.2.2.1 x.2.2.2.2.2.2.2.2.2.2.1 x.2.2.2.2.2.2.2.2.2.2.2.1 x.2.2.2.2.2.2.2.2.2.2.2.2.1 x.2.2.2.2.2.2.2.2.2.2.2.2.2.1 x.2.2.2.2.2.2.2.2.2.2.2.2.2.2.1 x.2.2.2.2.2.2.2.2.2.2.2.2.2.2.2)
def R_stmtN : g_stmtN → CRes := (fun z => (fun (e : Int) (mn : Nat) (mh : ByteArray → Bool) (m0 : ByteArray → Int) (m1 : ByteArray → Int) (m2 : ByteArray → Int) (m3 : ByteArray → Int) (m4 : ByteArray → Int) => .ret (i64 e) [some (.blk [.mp 1]), some (.smap mn mh (fun j => .agg [i64 (m0 j), i64 (m1 j), i64 (m2 j), i64 (m3 j), i64 (m4 j)]))]) z.1 z.2.1 z.2.2.1 z.2.2.2.1 z.2.2.2.2.1 z.2.2.2.2.2.1 z.2.2.2.2.2.2.1 z.2.2.2.2.2.2.2 : (Int × Nat × (ByteArray → Bool) × (ByteArray → Int) × (ByteArray → Int) × (ByteArray → Int) × (ByteArray → Int) × (ByteArray → Int)) → CRes)
abbrev a_allsN : Type := Nat × (Nat → Int) × (Nat → Int) × (Nat → ByteArray) × (Nat → Nat) × (Nat → Nat → List V) × Nat × (ByteArray → Bool) × (ByteArray → Int) × (ByteArray → Int) × (ByteArray → Int) × (ByteArray → Int) × (ByteArray → Int)
abbrev g_allsN : Type := Int × Nat × (ByteArray → Bool) × (ByteArray → Int) × (ByteArray → Int) × (ByteArray → Int) × (ByteArray → Int) × (ByteArray → Int)
def A_allsN : a_allsN → List V × List (Option Chunk) := (fun x => (fun (nm : Nat) (ek : Nat → Int) (en : Nat → Int) (es : Nat → ByteArray) (em : Nat → Nat) (ef : Nat → Nat → List V) (mn : Nat) (mh : ByteArray → Bool) (m0 : ByteArray → Int) (m1 : ByteArray → Int) (m2 : ByteArray → Int) (m3 : ByteArray → Int) (m4 : ByteArray → Int) => (([.ptr 0 0, .ro 4 nm (fun j => [i64 (ek j), i64 (en j), st (es j), .ro 4 (em j) (ef j)])] : List V), ([some (.blk [.mp 1]), some (.smap mn mh (fun j => .agg [i64 (m0 j), i64 (m1 j), i64 (m2 j), i64 (m3 j), i64 (m4 j)]))] : List (Option Chunk)))) x.1 x.2.1 x.2.2.1 x.2.2.2.1 x.2.2.2.2.1 x.2.2.2.2.2.1 x.2.2.2.2.2.2.1 x.2.2.2.2.2.2.2.1 x.2.2.2.2.2.2.2.2.1 x.2.2.2.2.2.2.2.2.2.1 x.2.2.2.2.2.2.2.2.2.2.1 x.2.2.2.2.2.2.2.2.2.2.2.1 x.2.2.2.2.2.2.2.2.2.2.2.2)
def R_allsN : g_allsN → CRes := (fun z => (fun (e : Int) (mn : Nat) (mh : ByteArray → Bool) (m0 : ByteArray → Int) (m1 : ByteArray → Int) (m2 : ByteArray → Int) (m3 : ByteArray → Int) (m4 : ByteArray → Int) => .ret (i64 e) [some (.blk [.mp 1]), some (.smap mn mh (fun j => .agg [i64 (m0 j), i64 (m1 j), i64 (m2 j), i64 (m3 j), i64 (m4 j)]))]) z.1 z.2.1 z.2.2.1 z.2.2.2.1 z.2.2.2.2.1 z.2.2.2.2.2.1 z.2.2.2.2.2.2.1 z.2.2.2.2.2.2.2 : (Int × Nat × (ByteArray → Bool) × (ByteArray → Int) × (ByteArray → Int) × (ByteArray → Int) × (ByteArray → Int) × (ByteArray → Int)) → CRes)
def t_stmtN {β : Type} (c_wellF : a_wellF → Option g_wellF) (c_inRange : a_inRange → Option g_inRange) (c_letS : a_letS → Option g_letS) (c_cond : a_cond → Option g_cond) (c_quant : a_quant → Option g_quant) (c_alls : a_alls → Option g_alls) (x : a_stmtN) (dn : g_stmtN → Option β) : Option β :=
 (c_wellF ((x.1, x.2.1, x.2.2.1, x.2.2.2.1, x.2.2.2.2.1, x.2.2.2.2.2.1, x.2.2.2.2.2.2.1, x.2.2.2.2.2.2.2.1, x.2.2.2.2.2.2.2.2.1))).bind fun z9 =>
  if (!z9) = true then
   dn (((7 : Int), x.2.2.2.2.2.2.2.2.2))
  else
   (c_inRange ((x.1, x.2.1, x.2.2.1, x.2.2.2.1, fun (j : Nat) => [i64 (x.2.2.2.2.1 j), i64 (x.2.2.2.2.2.1 j), st (x.2.2.2.2.2.2.1 j), V.ro 4 (x.2.2.2.2.2.2.2.1 j) (x.2.2.2.2.2.2.2.2.1 j)]))).bind fun z15 =>
    if (!z15) = true then
     dn (((5 : Int), x.2.2.2.2.2.2.2.2.2))
    else
     if (x.1 == (1 : Int)) = true then
      (c_letS x).bind fun z32 =>
       dn z32
     else
      if (x.1 == (2 : Int)) = true then
       (c_letS x).bind fun z49 =>
        dn z49
      else
       if (x.1 == (7 : Int)) = true then
        if (0 : Int) ≤ (0 : Int) ∧ (0 : Int) < ((x.2.2.2.1 : Nat) : Int) then
         (c_cond ((x.2.2.2.2.1 0, x.2.2.2.2.2.1 0, x.2.2.2.2.2.2.1 0, x.2.2.2.2.2.2.2.1 0, x.2.2.2.2.2.2.2.2.1 0, x.2.2.2.2.2.2.2.2.2))).bind fun z62 =>
          dn z62
        else
         none
       else
        if (x.1 == (8 : Int)) = true then
         if (0 : Int) ≤ (0 : Int) ∧ (0 : Int) < ((x.2.2.2.1 : Nat) : Int) then
          (c_quant ((x.2.2.2.2.1 0, x.2.2.2.2.2.1 0, x.2.2.2.2.2.2.1 0, x.2.2.2.2.2.2.2.1 0, x.2.2.2.2.2.2.2.2.1 0, (0 : Int), (0 : Int), (0 : Int), (1 : Int), (0 : Int), x.2.2.2.2.2.2.2.2.2))).bind fun z80 =>
           dn z80
         else
          none
        else
         if (x.1 == (5 : Int)) = true then
          if (0 : Int) ≤ (0 : Int) ∧ (0 : Int) < ((x.2.2.2.1 : Nat) : Int) then
           (c_quant ((x.2.2.2.2.1 0, x.2.2.2.2.2.1 0, x.2.2.2.2.2.2.1 0, x.2.2.2.2.2.2.2.1 0, x.2.2.2.2.2.2.2.2.1 0, (0 : Int), (0 : Int), (1 : Int), (0 : Int), (0 : Int), x.2.2.2.2.2.2.2.2.2))).bind fun z98 =>
            dn z98
          else
           none
         else
          if (x.1 == (9 : Int)) = true then
           if (0 : Int) ≤ (0 : Int) ∧ (0 : Int) < ((x.2.2.2.1 : Nat) : Int) then
            (c_quant ((x.2.2.2.2.1 0, x.2.2.2.2.2.1 0, x.2.2.2.2.2.2.1 0, x.2.2.2.2.2.2.2.1 0, x.2.2.2.2.2.2.2.2.1 0, (0 : Int), (0 : Int), (1 : Int), (0 : Int), (0 : Int), x.2.2.2.2.2.2.2.2.2))).bind fun z116 =>
             dn z116
           else
            none
          else
           if (x.1 == (10 : Int)) = true then
            if (0 : Int) ≤ (0 : Int) ∧ (0 : Int) < ((x.2.2.2.1 : Nat) : Int) then
             (c_quant ((x.2.2.2.2.1 0, x.2.2.2.2.2.1 0, x.2.2.2.2.2.2.1 0, x.2.2.2.2.2.2.2.1 0, x.2.2.2.2.2.2.2.2.1 0, (0 : Int), (1 : Int), (0 : Int), (0 : Int), (0 : Int), x.2.2.2.2.2.2.2.2.2))).bind fun z134 =>
              dn z134
            else
             none
           else
            if (x.1 == (11 : Int)) = true then
             if (0 : Int) ≤ (0 : Int) ∧ (0 : Int) < ((x.2.2.2.1 : Nat) : Int) then
              (c_quant ((x.2.2.2.2.1 0, x.2.2.2.2.2.1 0, x.2.2.2.2.2.2.1 0, x.2.2.2.2.2.2.2.1 0, x.2.2.2.2.2.2.2.2.1 0, (0 : Int), (1 : Int), (0 : Int), (0 : Int), (0 : Int), x.2.2.2.2.2.2.2.2.2))).bind fun z152 =>
               dn z152
             else
              none
            else
             if (x.1 == (6 : Int)) = true then
              if (0 : Int) ≤ (0 : Int) ∧ (0 : Int) < ((x.2.2.2.1 : Nat) : Int) then
               (c_cond ((x.2.2.2.2.1 0, x.2.2.2.2.2.1 0, x.2.2.2.2.2.2.1 0, x.2.2.2.2.2.2.2.1 0, x.2.2.2.2.2.2.2.2.1 0, x.2.2.2.2.2.2.2.2.2))).bind fun z165 =>
                if (z165.1 != (0 : Int)) = true then
                 dn z165
                else
                 if (0 : Int) ≤ (1 : Int) ∧ (1 : Int) < ((x.2.2.2.1 : Nat) : Int) then
                  (c_quant ((x.2.2.2.2.1 1, x.2.2.2.2.2.1 1, x.2.2.2.2.2.2.1 1, x.2.2.2.2.2.2.2.1 1, x.2.2.2.2.2.2.2.2.1 1, (0 : Int), (0 : Int), (1 : Int), (0 : Int), (0 : Int), z165.2))).bind fun z183 =>
                   dn z183
                 else
                  none
              else
               none
             else
              if (x.1 == (3 : Int)) = true then
               if (0 : Int) ≤ (0 : Int) ∧ (0 : Int) < ((x.2.2.2.1 : Nat) : Int) then
                (c_cond ((x.2.2.2.2.1 0, x.2.2.2.2.2.1 0, x.2.2.2.2.2.2.1 0, x.2.2.2.2.2.2.2.1 0, x.2.2.2.2.2.2.2.2.1 0, x.2.2.2.2.2.2.2.2.2))).bind fun z196 =>
                 if (z196.1 != (0 : Int)) = true then
                  dn z196
                 else
                  if (0 : Int) ≤ (1 : Int) ∧ (1 : Int) ≤ ((x.2.2.2.1 : Nat) : Int) ∧ ((x.2.2.2.1 : Nat) : Int) ≤ ((x.2.2.2.1 : Nat) : Int) then
                   (c_alls ((Int.toNat ((x.2.2.2.1 : Nat) : Int) - 1, fun (j : Nat) => [i64 (x.2.2.2.2.1 (1 + j)), i64 (x.2.2.2.2.2.1 (1 + j)), st (x.2.2.2.2.2.2.1 (1 + j)), V.ro 4 (x.2.2.2.2.2.2.2.1 (1 + j)) (x.2.2.2.2.2.2.2.2.1 (1 + j))], z196.2))).bind fun z206 =>
                    dn z206
                  else
                   none
               else
                none
              else
               (c_alls ((x.2.2.2.1, fun (j : Nat) => [i64 (x.2.2.2.2.1 j), i64 (x.2.2.2.2.2.1 j), st (x.2.2.2.2.2.2.1 j), V.ro 4 (x.2.2.2.2.2.2.2.1 j) (x.2.2.2.2.2.2.2.2.1 j)], x.2.2.2.2.2.2.2.2.2))).bind fun z216 =>
                dn z216
theorem n_stmtN {β : Type} (c_wellF : a_wellF → Option g_wellF) (c_inRange : a_inRange → Option g_inRange) (c_letS : a_letS → Option g_letS) (c_cond : a_cond → Option g_cond) (c_quant : a_quant → Option g_quant) (c_alls : a_alls → Option g_alls) (x : a_stmtN) (dn : g_stmtN → Option β) : t_stmtN c_wellF c_inRange c_letS c_cond c_quant c_alls x dn = (t_stmtN c_wellF c_inRange c_letS c_cond c_quant c_alls x some).bind dn := by
  unfold t_stmtN
  repeat' first | exact free_none | refine free_bind (fun z => ?_) | refine free_ite ?_ ?_ | refine free_sum (fun z => ?_) (fun z => ?_) | rfl
theorem r_stmtN (c_wellF : a_wellF → Option g_wellF) (c_inRange : a_inRange → Option g_inRange) (c_letS : a_letS → Option g_letS) (c_cond : a_cond → Option g_cond) (c_quant : a_quant → Option g_quant) (c_alls : a_alls → Option g_alls) (x : a_stmtN) : callK E5 (ftab 53 (fun _ _ => true) A_wellF x_wellF c_wellF (ftab 54 (fun _ _ => true) A_inRange x_inRange c_inRange (ftab 55 (fun _ _ => true) A_letS x_letS c_letS (ftab 56 (fun _ _ => true) A_cond x_cond c_cond (ftab 57 (fun _ _ => true) A_quant x_quant c_quant (ftab 58 (fun _ _ => true) A_alls x_alls c_alls ca0)))))) lo0 38 (A_stmtN x).1 (A_stmtN x).2 K = t_stmtN (fun x => viaF A_wellF c_wellF (A_wellF x)) (fun x => viaF A_inRange c_inRange (A_inRange x)) (fun x => viaF A_letS c_letS (A_letS x)) (fun x => viaF A_cond c_cond (A_cond x)) (fun x => viaF A_quant c_quant (A_quant x)) (fun x => viaF A_alls c_alls (A_alls x)) x (fun z => some (.c (R_stmtN z))) := by kernel_rfl
theorem s_stmtN (c_wellF : a_wellF → Option g_wellF) (h_wellF : ∀ x z, c_wellF x = some z → SC E5 53 (A_wellF x).1 (A_wellF x).2 (R_wellF z)) (c_inRange : a_inRange → Option g_inRange) (h_inRange : ∀ x z, c_inRange x = some z → SC E5 54 (A_inRange x).1 (A_inRange x).2 (R_inRange z)) (c_letS : a_letS → Option g_letS) (h_letS : ∀ x z, c_letS x = some z → SC E5 55 (A_letS x).1 (A_letS x).2 (R_letS z)) (c_cond : a_cond → Option g_cond) (h_cond : ∀ x z, c_cond x = some z → SC E5 56 (A_cond x).1 (A_cond x).2 (R_cond z)) (c_quant : a_quant → Option g_quant) (h_quant : ∀ x z, c_quant x = some z → SC E5 57 (A_quant x).1 (A_quant x).2 (R_quant z)) (c_alls : a_alls → Option g_alls) (h_alls : ∀ x z, c_alls x = some z → SC E5 58 (A_alls x).1 (A_alls x).2 (R_alls z)) (q : Nat) (x : a_stmtN) (z : g_stmtN) (h : t_stmtN c_wellF c_inRange c_letS c_cond c_quant c_alls x some = some z) : SC E5 38 (A_stmtN x).1 (A_stmtN x).2 (R_stmtN z) := by
  refine SC.of hW5 hX5 (ftab_cons h_wellF xe_wellF (ftab_cons h_inRange xe_inRange (ftab_cons h_letS xe_letS (ftab_cons h_cond xe_cond (ftab_cons h_quant xe_quant (ftab_cons h_alls xe_alls ca0_sound)))))) lo0_sound ((r_stmtN c_wellF c_inRange c_letS c_cond c_quant c_alls x).trans ?_)
  rw [via_eq i_wellF c_wellF, via_eq i_inRange c_inRange, via_eq i_letS c_letS, via_eq i_cond c_cond, via_eq i_quant c_quant, via_eq i_alls c_alls, n_stmtN, h]; rfl
abbrev allsN_l0_a : Type := Int × Nat × (ByteArray → Bool) × (ByteArray → Int) × (ByteArray → Int) × (ByteArray → Int) × (ByteArray → Int) × (ByteArray → Int)
abbrev allsN_l0_g : Type := (Int × Nat × (ByteArray → Bool) × (ByteArray → Int) × (ByteArray → Int) × (ByteArray → Int) × (ByteArray → Int) × (ByteArray → Int)) ⊕ (Nat × (ByteArray → Bool) × (ByteArray → Int) × (ByteArray → Int) × (ByteArray → Int) × (ByteArray → Int) × (ByteArray → Int))
def allsN_l0_S (x : a_allsN) (y : allsN_l0_a) : St := { fr := [V.ptr 0 0] ++ jk 7 ++ [V.ro 4 (x.1) fun (j : Nat) => [i64 (x.2.1 j), i64 (x.2.2.1 j), st (x.2.2.2.1 j), V.ro 4 (x.2.2.2.2.1 j) (x.2.2.2.2.2.1 j)], i64 ((x.1 : Nat) : Int), i64 (y.1)] ++ jk 10, H := hp [some (Chunk.blk [V.mp 1]), some (Chunk.smap (y.2.1) (y.2.2.1) fun (j : ByteArray) => V.agg [i64 (y.2.2.2.1 j), i64 (y.2.2.2.2.1 j), i64 (y.2.2.2.2.2.1 j), i64 (y.2.2.2.2.2.2.1 j), i64 (y.2.2.2.2.2.2.2 j)])], nx := 2, rt := 1, me := 58 }
def allsN_l0_d (s : St) : allsN_l0_a := ((vI (s.fr.getD 10 .junk)), (smN (s.H 1)), (smH (s.H 1)), (fun j => (vI ((vAg ((smF (s.H 1)) j)).getD 0 .junk))), (fun j => (vI ((vAg ((smF (s.H 1)) j)).getD 1 .junk))), (fun j => (vI ((vAg ((smF (s.H 1)) j)).getD 2 .junk))), (fun j => (vI ((vAg ((smF (s.H 1)) j)).getD 3 .junk))), (fun j => (vI ((vAg ((smF (s.H 1)) j)).getD 4 .junk))))
theorem allsN_l0_i (x : a_allsN) : ∀ y y', allsN_l0_S x y = allsN_l0_S x y' → y = y' := fun y y' h => (congrArg allsN_l0_d h :)
def allsN_l0_T (x : a_allsN) : allsN_l0_g → Ex × St := (Sum.elim (fun z => (Ex.ret, { fr := jk 4 ++ [i64 (z.1)] ++ jk 16, H := hp [some (Chunk.blk [V.mp 1]), some (Chunk.smap (z.2.1) (z.2.2.1) fun (j : ByteArray) => V.agg [i64 (z.2.2.2.1 j), i64 (z.2.2.2.2.1 j), i64 (z.2.2.2.2.2.1 j), i64 (z.2.2.2.2.2.2.1 j), i64 (z.2.2.2.2.2.2.2 j)])], nx := 2, rt := 1, me := 58 })) (fun z => (Ex.exit 0, { fr := [V.junk] ++ jk 20, H := hp [some (Chunk.blk [V.mp 1]), some (Chunk.smap (z.1) (z.2.1) fun (j : ByteArray) => V.agg [i64 (z.2.2.1 j), i64 (z.2.2.2.1 j), i64 (z.2.2.2.2.1 j), i64 (z.2.2.2.2.2.1 j), i64 (z.2.2.2.2.2.2 j)])], nx := 2, rt := 1, me := 58 })))
def allsN_l0_x (x : a_allsN) (z : allsN_l0_g) (k : KX) : Option Ans := Sum.elim (fun za => k (allsN_l0_T x (.inl za)).1 (allsN_l0_T x (.inl za)).2) (fun zb => k (allsN_l0_T x (.inr zb)).1 (allsN_l0_T x (.inr zb)).2) z
theorem allsN_l0_xe (x : a_allsN) : ∀ z k, allsN_l0_x x z k = k (allsN_l0_T x z).1 (allsN_l0_T x z).2 := fun z k => by
  rcases z with z | z <;> rfl
theorem allsN_l0_k0 (x : a_allsN) (z : Int × Nat × (ByteArray → Bool) × (ByteArray → Int) × (ByteArray → Int) × (ByteArray → Int) × (ByteArray → Int) × (ByteArray → Int)) : KCM [(0, 0)] 16 (allsN_l0_T x (.inl z)).1 (allsN_l0_T x (.inl z)).2 = some (.l (allsN_l0_T x (.inl z)).1 (allsN_l0_T x (.inl z)).2) := by kernel_rfl
theorem allsN_l0_k1 (x : a_allsN) (z : Nat × (ByteArray → Bool) × (ByteArray → Int) × (ByteArray → Int) × (ByteArray → Int) × (ByteArray → Int) × (ByteArray → Int)) : KCM [(0, 0)] 16 (allsN_l0_T x (.inr z)).1 (allsN_l0_T x (.inr z)).2 = some (.l (allsN_l0_T x (.inr z)).1 (allsN_l0_T x (.inr z)).2) := by kernel_rfl
def allsN_l0_t {β : Type} (c_stmt : a_stmt → Option g_stmt) (x : a_allsN) (y : allsN_l0_a) (nx : allsN_l0_a → Option β) (dn : allsN_l0_g → Option β) : Option β :=
 if decide (y.1 < ((x.1 : Nat) : Int)) = true then
  if (0 : Int) ≤ y.1 ∧ y.1 < ((x.1 : Nat) : Int) then
   (c_stmt ((x.2.1 (Int.toNat (y.1)), x.2.2.1 (Int.toNat (y.1)), x.2.2.2.1 (Int.toNat (y.1)), x.2.2.2.2.1 (Int.toNat (y.1)), x.2.2.2.2.2.1 (Int.toNat (y.1)), y.2))).bind fun z116 =>
    if (z116.1 != (0 : Int)) = true then
     dn (.inl z116)
    else
     nx ((w (y.1 + (1 : Int)), z116.2))
  else
   none
 else
  dn (.inr (y.2))
theorem allsN_l0_n {β : Type} (c_stmt : a_stmt → Option g_stmt) (x : a_allsN) (y : allsN_l0_a) (nx : allsN_l0_a → Option β) (dn : allsN_l0_g → Option β) : allsN_l0_t c_stmt x y nx dn = (allsN_l0_t c_stmt x y (fun y => some (.inl y)) (fun z => some (.inr z))).bind fun r => Sum.elim nx dn r := by
  unfold allsN_l0_t
  repeat' first | exact free_none | refine free_bind (fun z => ?_) | refine free_ite ?_ ?_ | refine free_sum (fun z => ?_) (fun z => ?_) | rfl
theorem allsN_l0_r (c_stmt : a_stmt → Option g_stmt) (x : a_allsN) (y : allsN_l0_a) (lo : LoopT) : loopK E5 (ftab 38 (fun _ _ => true) A_stmt x_stmt c_stmt ca0) lo 0 1793 (bodyOf E5 58 0) (allsN_l0_S x y) (KCM [(0, 0)] 16) = allsN_l0_t (fun x => viaF A_stmt c_stmt (A_stmt x)) x y (fun y => lo 0 1793 (bodyOf E5 58 0) (allsN_l0_S x y) (KCM [(0, 0)] 16)) (fun z => some (.l (allsN_l0_T x z).1 (allsN_l0_T x z).2)) := by kernel_rfl
noncomputable def allsN_l0 (c_stmt : a_stmt → Option g_stmt) (q : Nat) (x : a_allsN) : allsN_l0_a → Option allsN_l0_g := lpG (fun y => allsN_l0_t c_stmt x y (fun y => some (.inl y)) (fun z => some (.inr z))) q
theorem allsN_l0_s (c_stmt : a_stmt → Option g_stmt) (h_stmt : ∀ x z, c_stmt x = some z → SC E5 38 (A_stmt x).1 (A_stmt x).2 (R_stmt z)) (q : Nat) (x : a_allsN) : ∀ y z, allsN_l0 c_stmt q x y = some z → SL E5 (bodyOf E5 58 0) (allsN_l0_S x y) (allsN_l0_T x z).1 (allsN_l0_T x z).2 :=
  SL.lp (LT := fun lo => lo) (T := allsN_l0_T x) (S := allsN_l0_S x) (ftab_cons h_stmt xe_stmt ca0_sound) hX5 (fun lo h => h) (fun lo y => (allsN_l0_r c_stmt x y lo).trans (by rw [via_eq i_stmt c_stmt]; exact allsN_l0_n _ _ _ _ _)) (fun z => by rcases z with z | z <;> first | exact allsN_l0_k0 x z | exact allsN_l0_k1 x z) q
def t_allsN {β : Type} (c_stmt : a_stmt → Option g_stmt) (l_allsN_l0 : allsN_l0_a → Option allsN_l0_g) (x : a_allsN) (dn : g_allsN → Option β) : Option β :=
 (l_allsN_l0 (((0 : Int), x.2.2.2.2.2.2))).bind fun z80 =>
  Sum.elim (fun z80a =>
  dn z80a) (fun z80b =>
  dn (((0 : Int), z80b))) z80
theorem n_allsN {β : Type} (c_stmt : a_stmt → Option g_stmt) (l_allsN_l0 : allsN_l0_a → Option allsN_l0_g) (x : a_allsN) (dn : g_allsN → Option β) : t_allsN c_stmt l_allsN_l0 x dn = (t_allsN c_stmt l_allsN_l0 x some).bind dn := by
  unfold t_allsN
  repeat' first | exact free_none | refine free_bind (fun z => ?_) | refine free_ite ?_ ?_ | refine free_sum (fun z => ?_) (fun z => ?_) | rfl
theorem r_allsN (c_stmt : a_stmt → Option g_stmt) (l_allsN_l0 : allsN_l0_a → Option allsN_l0_g) (x : a_allsN) : callK E5 (ftab 38 (fun _ _ => true) A_stmt x_stmt c_stmt ca0) (ltabF 0 (fun _ => true) (bodyOf E5 58 0) (allsN_l0_S x) (allsN_l0_x x) l_allsN_l0 lo0) 58 (A_allsN x).1 (A_allsN x).2 K = t_allsN (fun x => viaF A_stmt c_stmt (A_stmt x)) (fun y => viaF (fun y => (bodyOf E5 58 0, allsN_l0_S x y)) l_allsN_l0 (bodyOf E5 58 0, allsN_l0_S x y)) x (fun z => some (.c (R_allsN z))) := by kernel_rfl
theorem s_allsN (c_stmt : a_stmt → Option g_stmt) (h_stmt : ∀ x z, c_stmt x = some z → SC E5 38 (A_stmt x).1 (A_stmt x).2 (R_stmt z)) (q : Nat) (x : a_allsN) (z : g_allsN) (h : t_allsN c_stmt (allsN_l0 c_stmt q x) x some = some z) : SC E5 58 (A_allsN x).1 (A_allsN x).2 (R_allsN z) := by
  refine SC.of hW5 hX5 (ftab_cons h_stmt xe_stmt ca0_sound) (ltabF_cons (allsN_l0_s c_stmt h_stmt q x) (allsN_l0_xe x) lo0_sound) ((r_allsN c_stmt (allsN_l0 c_stmt q x) x).trans ?_)
  rw [via_eq i_stmt c_stmt, via_eq (pair_inj (bodyOf E5 58 0) (allsN_l0_i x)) (allsN_l0 c_stmt q x), n_allsN, h]; rfl
open Classical in
noncomputable def stAl : Nat → (a_stmt → Option g_stmt) × (a_alls → Option g_alls)
  | 0 => (fun _ => none, fun _ => none)
  | q + 1 => (fun x => if OpenN x.2.2.2.2.1 then t_stmtN (wellF q) (inRange q) (letS q) (cond q) (quant q) (stAl q).2 (x.1, x.2.1, x.2.2.1, x.2.2.2.1, opK x.2.2.2.2.1, opN x.2.2.2.2.1, opS x.2.2.2.2.1, opM x.2.2.2.2.1, opF x.2.2.2.2.1, x.2.2.2.2.2) some else none,
      fun x => if OpenN x.2.1 then t_allsN (stAl q).1 (allsN_l0 (stAl q).1 q (x.1, opK x.2.1, opN x.2.1, opS x.2.1, opM x.2.1, opF x.2.1, x.2.2)) (x.1, opK x.2.1, opN x.2.1, opS x.2.1, opM x.2.1, opF x.2.1, x.2.2) some else none)
noncomputable def stmt (q : Nat) : a_stmt → Option g_stmt := (stAl q).1
noncomputable def alls (q : Nat) : a_alls → Option g_alls := (stAl q).2
theorem stAl_sc : ∀ q, (∀ x z, stmt q x = some z → SC E5 38 (A_stmt x).1 (A_stmt x).2 (R_stmt z)) ∧ (∀ x z, alls q x = some z → SC E5 58 (A_alls x).1 (A_alls x).2 (R_alls z)) := by
  intro q
  induction q with
  | zero => exact ⟨(fun x z h => by cases h), (fun x z h => by cases h)⟩
  | succ q ih =>
    obtain ⟨h1, h2⟩ := ih
    refine ⟨fun x z h => ?_, fun x z h => ?_⟩
    · unfold stmt stAl at h
      dsimp only at h
      split at h
      · rename_i hO
        have this := s_stmtN (wellF q) (sc_wellF q) (inRange q) (sc_inRange q) (letS q) (sc_letS q) (cond q) (sc_cond q) (quant q) (sc_quant q) (alls q) h2 q (x.1, x.2.1, x.2.2.1, x.2.2.2.1, opK x.2.2.2.2.1, opN x.2.2.2.2.1, opS x.2.2.2.2.1, opM x.2.2.2.2.1, opF x.2.2.2.2.1, x.2.2.2.2.2) z h
        unfold A_stmtN at this
        unfold A_stmt
        simp only at this ⊢
        rw [open_eq hO] at this
        exact this
      · cases h
    · unfold alls stAl at h
      dsimp only at h
      split at h
      · rename_i hO
        have this := s_allsN (stmt q) h1 q (x.1, opK x.2.1, opN x.2.1, opS x.2.1, opM x.2.1, opF x.2.1, x.2.2) z h
        unfold A_allsN at this
        unfold A_alls
        simp only at this ⊢
        rw [open_eq hO] at this
        exact this
      · cases h
theorem sc_stmt (q : Nat) : ∀ (x : a_stmt) (z : g_stmt), stmt q x = some z → SC E5 38 (A_stmt x).1 (A_stmt x).2 (R_stmt z) := (stAl_sc q).1
abbrev a_Check : Type := ByteArray × Nat × (Nat → ByteArray) × (Nat → ByteArray) × Int × Int × ByteArray × Nat × (Nat → List V)
abbrev g_Check : Type := Int
def A_Check : a_Check → List V × List (Option Chunk) := (fun x => (fun (pn : ByteArray) (pm : Nat) (pa : Nat → ByteArray) (pu : Nat → ByteArray) (nk : Int) (nn : Int) (ns : ByteArray) (nm : Nat) (nf : Nat → List V) => (([.agg [st pn, .ro 2 pm (fun j => [st (pa j), st (pu j)]), i64 nk, i64 nn, st ns, .ro 4 nm nf]] : List V), ([] : List (Option Chunk)))) x.1 x.2.1 x.2.2.1 x.2.2.2.1 x.2.2.2.2.1 x.2.2.2.2.2.1 x.2.2.2.2.2.2.1 x.2.2.2.2.2.2.2.1 x.2.2.2.2.2.2.2.2)
def d_Check (t : List V × List (Option Chunk)) : a_Check := ((vS ((vAg (t.1.getD 0 .junk)).getD 0 .junk)), (vRoN ((vAg (t.1.getD 0 .junk)).getD 1 .junk)), (fun j => (vS (((vRoF ((vAg (t.1.getD 0 .junk)).getD 1 .junk)) j).getD 0 .junk))), (fun j => (vS (((vRoF ((vAg (t.1.getD 0 .junk)).getD 1 .junk)) j).getD 1 .junk))), (vI ((vAg (t.1.getD 0 .junk)).getD 2 .junk)), (vI ((vAg (t.1.getD 0 .junk)).getD 3 .junk)), (vS ((vAg (t.1.getD 0 .junk)).getD 4 .junk)), (vRoN ((vAg (t.1.getD 0 .junk)).getD 5 .junk)), (vRoF ((vAg (t.1.getD 0 .junk)).getD 5 .junk)))
theorem i_Check : ∀ x y, A_Check x = A_Check y → x = y := fun x y h => (congrArg d_Check h :)
def R_Check : g_Check → CRes := (fun z => (fun (e : Int) => .ret (i64 e) []) z : (Int) → CRes)
def x_Check (z : g_Check) (k : CRes → Option Ans) : Option Ans := k (R_Check z)
theorem xe_Check : ∀ z k, x_Check z k = k (R_Check z) := fun z k => rfl
abbrev Check_l0_a : Type := Int × Nat × (ByteArray → Bool) × (ByteArray → Int) × (ByteArray → Int) × (ByteArray → Int) × (ByteArray → Int) × (ByteArray → Int)
abbrev Check_l0_g : Type := (Int) ⊕ (Nat × (ByteArray → Bool) × (ByteArray → Int) × (ByteArray → Int) × (ByteArray → Int) × (ByteArray → Int) × (ByteArray → Int))
def Check_l0_S (x : a_Check) (y : Check_l0_a) : St := { fr := [V.junk, V.ptr 0 0, V.junk, V.ptr 1 0] ++ jk 9 ++ [V.ro 2 (x.2.1) fun (j : Nat) => [st (x.2.2.1 j), st (x.2.2.2.1 j)], i64 ((x.2.1 : Nat) : Int), i64 (y.1)] ++ jk 32, H := hp [some (Chunk.blk [st (x.1), V.ro 2 (x.2.1) fun (j : Nat) => [st (x.2.2.1 j), st (x.2.2.2.1 j)], i64 (x.2.2.2.2.1), i64 (x.2.2.2.2.2.1), st (x.2.2.2.2.2.2.1), V.ro 4 (x.2.2.2.2.2.2.2.1) (x.2.2.2.2.2.2.2.2)]), some (Chunk.blk [V.mp 2]), some (Chunk.smap (y.2.1) (y.2.2.1) fun (j : ByteArray) => V.agg [i64 (y.2.2.2.1 j), i64 (y.2.2.2.2.1 j), i64 (y.2.2.2.2.2.1 j), i64 (y.2.2.2.2.2.2.1 j), i64 (y.2.2.2.2.2.2.2 j)])], nx := 3, rt := 0, me := 20 }
def Check_l0_d (s : St) : Check_l0_a := ((vI (s.fr.getD 15 .junk)), (smN (s.H 2)), (smH (s.H 2)), (fun j => (vI ((vAg ((smF (s.H 2)) j)).getD 0 .junk))), (fun j => (vI ((vAg ((smF (s.H 2)) j)).getD 1 .junk))), (fun j => (vI ((vAg ((smF (s.H 2)) j)).getD 2 .junk))), (fun j => (vI ((vAg ((smF (s.H 2)) j)).getD 3 .junk))), (fun j => (vI ((vAg ((smF (s.H 2)) j)).getD 4 .junk))))
theorem Check_l0_i (x : a_Check) : ∀ y y', Check_l0_S x y = Check_l0_S x y' → y = y' := fun y y' h => (congrArg Check_l0_d h :)
def Check_l0_T (x : a_Check) : Check_l0_g → Ex × St := (Sum.elim (fun z => (Ex.ret, { fr := [V.junk, V.junk, i64 z] ++ jk 45, H := hp [], nx := 0, rt := 0, me := 20 })) (fun z => (Ex.exit 0, { fr := [V.junk, V.ptr 0 0, V.junk, V.ptr 1 0] ++ jk 44, H := hp [some (Chunk.blk [st (x.1), V.ro 2 (x.2.1) fun (j : Nat) => [st (x.2.2.1 j), st (x.2.2.2.1 j)], i64 (x.2.2.2.2.1), i64 (x.2.2.2.2.2.1), st (x.2.2.2.2.2.2.1), V.ro 4 (x.2.2.2.2.2.2.2.1) (x.2.2.2.2.2.2.2.2)]), some (Chunk.blk [V.mp 2]), some (Chunk.smap (z.1) (z.2.1) fun (j : ByteArray) => V.agg [i64 (z.2.2.1 j), i64 (z.2.2.2.1 j), i64 (z.2.2.2.2.1 j), i64 (z.2.2.2.2.2.1 j), i64 (z.2.2.2.2.2.2 j)])], nx := 3, rt := 0, me := 20 })))
def Check_l0_x (x : a_Check) (z : Check_l0_g) (k : KX) : Option Ans := Sum.elim (fun za => k (Check_l0_T x (.inl za)).1 (Check_l0_T x (.inl za)).2) (fun zb => k (Check_l0_T x (.inr zb)).1 (Check_l0_T x (.inr zb)).2) z
theorem Check_l0_xe (x : a_Check) : ∀ z k, Check_l0_x x z k = k (Check_l0_T x z).1 (Check_l0_T x z).2 := fun z k => by
  rcases z with z | z <;> rfl
theorem Check_l0_k0 (x : a_Check) (z : Int) : KCM [(0, 10)] 4 (Check_l0_T x (.inl z)).1 (Check_l0_T x (.inl z)).2 = some (.l (Check_l0_T x (.inl z)).1 (Check_l0_T x (.inl z)).2) := by kernel_rfl
theorem Check_l0_k1 (x : a_Check) (z : Nat × (ByteArray → Bool) × (ByteArray → Int) × (ByteArray → Int) × (ByteArray → Int) × (ByteArray → Int) × (ByteArray → Int)) : KCM [(0, 10)] 4 (Check_l0_T x (.inr z)).1 (Check_l0_T x (.inr z)).2 = some (.l (Check_l0_T x (.inr z)).1 (Check_l0_T x (.inr z)).2) := by kernel_rfl
def Check_l0_t {β : Type} (c_Lookup : a_Lookup → Option g_Lookup) (c_declare : a_declare → Option g_declare) (c_stmt : a_stmt → Option g_stmt) (x : a_Check) (y : Check_l0_a) (nx : Check_l0_a → Option β) (dn : Check_l0_g → Option β) : Option β :=
 if decide (y.1 < ((x.2.1 : Nat) : Int)) = true then
  if (0 : Int) ≤ y.1 ∧ y.1 < ((x.2.1 : Nat) : Int) then
   if (!ByteArray.toList (x.2.2.2.1 (Int.toNat (y.1))) == ByteArray.toList { data := #[] }) = true then
    (c_Lookup (x.2.2.2.1 (Int.toNat (y.1)))).bind fun z146 =>
     if (!z146.2.2.2.2.2.2) = true then
      dn (.inl ((10 : Int)))
     else
      (c_declare ((x.2.2.1 (Int.toNat (y.1)), z146.1, z146.2.1, z146.2.2.1, z146.2.2.2.1, z146.2.2.2.2.1, y.2))).bind fun z160 =>
       if (z160.1 != (0 : Int)) = true then
        dn (.inl (z160.1))
       else
        nx ((w (y.1 + (1 : Int)), z160.2))
   else
    (c_declare ((x.2.2.1 (Int.toNat (y.1)), (0 : Int), (0 : Int), (0 : Int), (0 : Int), (0 : Int), y.2))).bind fun z174 =>
     if (z174.1 != (0 : Int)) = true then
      dn (.inl (z174.1))
     else
      nx ((w (y.1 + (1 : Int)), z174.2))
  else
   none
 else
  dn (.inr (y.2))
theorem Check_l0_n {β : Type} (c_Lookup : a_Lookup → Option g_Lookup) (c_declare : a_declare → Option g_declare) (c_stmt : a_stmt → Option g_stmt) (x : a_Check) (y : Check_l0_a) (nx : Check_l0_a → Option β) (dn : Check_l0_g → Option β) : Check_l0_t c_Lookup c_declare c_stmt x y nx dn = (Check_l0_t c_Lookup c_declare c_stmt x y (fun y => some (.inl y)) (fun z => some (.inr z))).bind fun r => Sum.elim nx dn r := by
  unfold Check_l0_t
  repeat' first | exact free_none | refine free_bind (fun z => ?_) | refine free_ite ?_ ?_ | refine free_sum (fun z => ?_) (fun z => ?_) | rfl
theorem Check_l0_r (c_Lookup : a_Lookup → Option g_Lookup) (c_declare : a_declare → Option g_declare) (c_stmt : a_stmt → Option g_stmt) (x : a_Check) (y : Check_l0_a) (lo : LoopT) : loopK E5 (ftab 36 (fun _ _ => true) A_Lookup x_Lookup c_Lookup (ftab 37 (fun _ _ => true) A_declare x_declare c_declare (ftab 38 (fun _ _ => true) A_stmt x_stmt c_stmt ca0))) lo 0 57354 (bodyOf E5 20 0) (Check_l0_S x y) (KCM [(0, 10)] 4) = Check_l0_t (fun x => viaF A_Lookup c_Lookup (A_Lookup x)) (fun x => viaF A_declare c_declare (A_declare x)) (fun x => viaF A_stmt c_stmt (A_stmt x)) x y (fun y => lo 0 57354 (bodyOf E5 20 0) (Check_l0_S x y) (KCM [(0, 10)] 4)) (fun z => some (.l (Check_l0_T x z).1 (Check_l0_T x z).2)) := by kernel_rfl
noncomputable def Check_l0 (c_Lookup : a_Lookup → Option g_Lookup) (c_declare : a_declare → Option g_declare) (c_stmt : a_stmt → Option g_stmt) (q : Nat) (x : a_Check) : Check_l0_a → Option Check_l0_g := lpG (fun y => Check_l0_t c_Lookup c_declare c_stmt x y (fun y => some (.inl y)) (fun z => some (.inr z))) q
theorem Check_l0_s (c_Lookup : a_Lookup → Option g_Lookup) (h_Lookup : ∀ x z, c_Lookup x = some z → SC E5 36 (A_Lookup x).1 (A_Lookup x).2 (R_Lookup z)) (c_declare : a_declare → Option g_declare) (h_declare : ∀ x z, c_declare x = some z → SC E5 37 (A_declare x).1 (A_declare x).2 (R_declare z)) (c_stmt : a_stmt → Option g_stmt) (h_stmt : ∀ x z, c_stmt x = some z → SC E5 38 (A_stmt x).1 (A_stmt x).2 (R_stmt z)) (q : Nat) (x : a_Check) : ∀ y z, Check_l0 c_Lookup c_declare c_stmt q x y = some z → SL E5 (bodyOf E5 20 0) (Check_l0_S x y) (Check_l0_T x z).1 (Check_l0_T x z).2 :=
  SL.lp (LT := fun lo => lo) (T := Check_l0_T x) (S := Check_l0_S x) (ftab_cons h_Lookup xe_Lookup (ftab_cons h_declare xe_declare (ftab_cons h_stmt xe_stmt ca0_sound))) hX5 (fun lo h => h) (fun lo y => (Check_l0_r c_Lookup c_declare c_stmt x y lo).trans (by rw [via_eq i_Lookup c_Lookup, via_eq i_declare c_declare, via_eq i_stmt c_stmt]; exact Check_l0_n _ _ _ _ _ _ _)) (fun z => by rcases z with z | z <;> first | exact Check_l0_k0 x z | exact Check_l0_k1 x z) q
def t_Check {β : Type} (c_Lookup : a_Lookup → Option g_Lookup) (c_declare : a_declare → Option g_declare) (c_stmt : a_stmt → Option g_stmt) (l_Check_l0 : Check_l0_a → Option Check_l0_g) (x : a_Check) (dn : g_Check → Option β) : Option β :=
 (l_Check_l0 (((0 : Int), 0, fun (x : ByteArray) => false, fun (j : ByteArray) => (0 : Int), fun (j : ByteArray) => (0 : Int), fun (j : ByteArray) => (0 : Int), fun (j : ByteArray) => (0 : Int), fun (j : ByteArray) => (0 : Int)))).bind fun z119 =>
  Sum.elim (fun z119a =>
  dn z119a) (fun z119b =>
  if (x.2.2.2.2.1 != (14 : Int)) = true then
   dn ((7 : Int))
  else
   (c_stmt ((x.2.2.2.2.1, x.2.2.2.2.2.1, x.2.2.2.2.2.2.1, x.2.2.2.2.2.2.2.1, x.2.2.2.2.2.2.2.2, z119b))).bind fun z133 =>
    dn (z133.1)) z119
theorem n_Check {β : Type} (c_Lookup : a_Lookup → Option g_Lookup) (c_declare : a_declare → Option g_declare) (c_stmt : a_stmt → Option g_stmt) (l_Check_l0 : Check_l0_a → Option Check_l0_g) (x : a_Check) (dn : g_Check → Option β) : t_Check c_Lookup c_declare c_stmt l_Check_l0 x dn = (t_Check c_Lookup c_declare c_stmt l_Check_l0 x some).bind dn := by
  unfold t_Check
  repeat' first | exact free_none | refine free_bind (fun z => ?_) | refine free_ite ?_ ?_ | refine free_sum (fun z => ?_) (fun z => ?_) | rfl
theorem r_Check (c_Lookup : a_Lookup → Option g_Lookup) (c_declare : a_declare → Option g_declare) (c_stmt : a_stmt → Option g_stmt) (l_Check_l0 : Check_l0_a → Option Check_l0_g) (x : a_Check) : callK E5 (ftab 36 (fun _ _ => true) A_Lookup x_Lookup c_Lookup (ftab 37 (fun _ _ => true) A_declare x_declare c_declare (ftab 38 (fun _ _ => true) A_stmt x_stmt c_stmt ca0))) (ltabF 0 (fun _ => true) (bodyOf E5 20 0) (Check_l0_S x) (Check_l0_x x) l_Check_l0 lo0) 20 (A_Check x).1 (A_Check x).2 K = t_Check (fun x => viaF A_Lookup c_Lookup (A_Lookup x)) (fun x => viaF A_declare c_declare (A_declare x)) (fun x => viaF A_stmt c_stmt (A_stmt x)) (fun y => viaF (fun y => (bodyOf E5 20 0, Check_l0_S x y)) l_Check_l0 (bodyOf E5 20 0, Check_l0_S x y)) x (fun z => some (.c (R_Check z))) := by kernel_rfl
theorem s_Check (c_Lookup : a_Lookup → Option g_Lookup) (h_Lookup : ∀ x z, c_Lookup x = some z → SC E5 36 (A_Lookup x).1 (A_Lookup x).2 (R_Lookup z)) (c_declare : a_declare → Option g_declare) (h_declare : ∀ x z, c_declare x = some z → SC E5 37 (A_declare x).1 (A_declare x).2 (R_declare z)) (c_stmt : a_stmt → Option g_stmt) (h_stmt : ∀ x z, c_stmt x = some z → SC E5 38 (A_stmt x).1 (A_stmt x).2 (R_stmt z)) (q : Nat) (x : a_Check) (z : g_Check) (h : t_Check c_Lookup c_declare c_stmt (Check_l0 c_Lookup c_declare c_stmt q x) x some = some z) : SC E5 20 (A_Check x).1 (A_Check x).2 (R_Check z) := by
  refine SC.of hW5 hX5 (ftab_cons h_Lookup xe_Lookup (ftab_cons h_declare xe_declare (ftab_cons h_stmt xe_stmt ca0_sound))) (ltabF_cons (Check_l0_s c_Lookup h_Lookup c_declare h_declare c_stmt h_stmt q x) (Check_l0_xe x) lo0_sound) ((r_Check c_Lookup c_declare c_stmt (Check_l0 c_Lookup c_declare c_stmt q x) x).trans ?_)
  rw [via_eq i_Lookup c_Lookup, via_eq i_declare c_declare, via_eq i_stmt c_stmt, via_eq (pair_inj (bodyOf E5 20 0) (Check_l0_i x)) (Check_l0 c_Lookup c_declare c_stmt q x), n_Check, h]; rfl
noncomputable def Check (q : Nat) (x : a_Check) : Option g_Check := t_Check (Lookup q) (declare q) (stmt q) (Check_l0 (Lookup q) (declare q) (stmt q) q x) x some
theorem sc_Check (q : Nat) : ∀ (x : a_Check) (z : g_Check), Check q x = some z → SC E5 20 (A_Check x).1 (A_Check x).2 (R_Check z) := fun x z h => s_Check (Lookup q) (sc_Lookup q) (declare q) (sc_declare q) (stmt q) (sc_stmt q) q x z h
abbrev a_prefixes : Type := ByteArray × Nat × (Nat → ByteArray) × (Nat → ByteArray) × Int × Int × ByteArray × Nat × (Nat → List V)
abbrev g_prefixes : Type := Bool
def A_prefixes : a_prefixes → List V × List (Option Chunk) := (fun x => (fun (pn : ByteArray) (pm : Nat) (pa : Nat → ByteArray) (pu : Nat → ByteArray) (nk : Int) (nn : Int) (ns : ByteArray) (nm : Nat) (nf : Nat → List V) => (([.agg [st pn, .ro 2 pm (fun j => [st (pa j), st (pu j)]), i64 nk, i64 nn, st ns, .ro 4 nm nf]] : List V), ([] : List (Option Chunk)))) x.1 x.2.1 x.2.2.1 x.2.2.2.1 x.2.2.2.2.1 x.2.2.2.2.2.1 x.2.2.2.2.2.2.1 x.2.2.2.2.2.2.2.1 x.2.2.2.2.2.2.2.2)
def R_prefixes : g_prefixes → CRes := (fun z => CRes.ret (bo z) [] : (Bool) → CRes)
abbrev prefixes_l0_a : Type := Int × Int × Int
abbrev prefixes_l0_g : Type := (Unit) ⊕ (Int × Int)
def prefixes_l0_S (x : a_prefixes) (y : prefixes_l0_a) : St := { fr := [V.junk, V.ptr 0 0, V.junk, i64 (y.1), i64 (y.2.1), i64 (y.2.2)] ++ jk 62, H := hp [some (Chunk.blk [st (x.1), V.ro 2 (x.2.1) fun (j : Nat) => [st (x.2.2.1 j), st (x.2.2.2.1 j)], i64 (x.2.2.2.2.1), i64 (x.2.2.2.2.2.1), st (x.2.2.2.2.2.2.1), V.ro 4 (x.2.2.2.2.2.2.2.1) (x.2.2.2.2.2.2.2.2)])], nx := 1, rt := 0, me := 7 }
def prefixes_l0_d (s : St) : prefixes_l0_a := ((vI (s.fr.getD 3 .junk)), (vI (s.fr.getD 4 .junk)), (vI (s.fr.getD 5 .junk)))
theorem prefixes_l0_i (x : a_prefixes) : ∀ y y', prefixes_l0_S x y = prefixes_l0_S x y' → y = y' := fun y y' h => (congrArg prefixes_l0_d h :)
def prefixes_l0_T (x : a_prefixes) : prefixes_l0_g → Ex × St := (Sum.elim (fun z => (Ex.ret, { fr := [V.junk, V.junk, bo false] ++ jk 65, H := hp [], nx := 0, rt := 0, me := 7 })) (fun z => (Ex.exit 0, { fr := [V.junk, V.junk, V.junk, i64 (z.1), i64 (z.2)] ++ jk 63, H := hp [], nx := 0, rt := 0, me := 7 })))
def prefixes_l0_x (x : a_prefixes) (z : prefixes_l0_g) (k : KX) : Option Ans := Sum.elim (fun za => k (prefixes_l0_T x (.inl za)).1 (prefixes_l0_T x (.inl za)).2) (fun zb => k (prefixes_l0_T x (.inr zb)).1 (prefixes_l0_T x (.inr zb)).2) z
theorem prefixes_l0_xe (x : a_prefixes) : ∀ z k, prefixes_l0_x x z k = k (prefixes_l0_T x z).1 (prefixes_l0_T x z).2 := fun z k => by
  rcases z with z | z <;> rfl
theorem prefixes_l0_k0 (x : a_prefixes) (z : Unit) : KCM [(0, 24)] 4 (prefixes_l0_T x (.inl z)).1 (prefixes_l0_T x (.inl z)).2 = some (.l (prefixes_l0_T x (.inl z)).1 (prefixes_l0_T x (.inl z)).2) := by kernel_rfl
theorem prefixes_l0_k1 (x : a_prefixes) (z : Int × Int) : KCM [(0, 24)] 4 (prefixes_l0_T x (.inr z)).1 (prefixes_l0_T x (.inr z)).2 = some (.l (prefixes_l0_T x (.inr z)).1 (prefixes_l0_T x (.inr z)).2) := by kernel_rfl
def prefixes_l0_t {β : Type} (c_Nodes : a_Nodes → Option g_Nodes) (c_lives : a_lives → Option g_lives) (c_Check : a_Check → Option g_Check) (x : a_prefixes) (y : prefixes_l0_a) (nx : prefixes_l0_a → Option β) (dn : prefixes_l0_g → Option β) : Option β :=
 if decide (y.2.2 ≤ ((x.2.2.2.2.2.2.2.1 : Nat) : Int)) = true then
  if (0 : Int) ≤ (0 : Int) ∧ (0 : Int) ≤ y.2.2 ∧ y.2.2 ≤ ((x.2.2.2.2.2.2.2.1 : Nat) : Int) then
   (c_Check ((x.1, x.2.1, x.2.2.1, x.2.2.2.1, (14 : Int), (0 : Int), { data := #[] }, Int.toNat (y.2.2) - 0, fun (j : Nat) => x.2.2.2.2.2.2.2.2 (0 + j)))).bind fun z96 =>
    if (z96 != (0 : Int)) = true then
     if (y.2.1 == (0 : Int)) = true then
      if (z96 != (0 : Int)) = true then
       if (z96 != z96) = true then
        dn (.inl ())
       else
        nx ((y.1, z96, w (y.2.2 + (1 : Int))))
      else
       nx ((y.1, z96, w (y.2.2 + (1 : Int))))
     else
      if (y.2.1 != (0 : Int)) = true then
       if (z96 != y.2.1) = true then
        dn (.inl ())
       else
        nx ((y.1, y.2.1, w (y.2.2 + (1 : Int))))
      else
       nx ((y.1, y.2.1, w (y.2.2 + (1 : Int))))
    else
     if (y.2.1 != (0 : Int)) = true then
      if (z96 != y.2.1) = true then
       dn (.inl ())
      else
       nx ((y.1, y.2.1, w (y.2.2 + (1 : Int))))
     else
      nx ((y.1, y.2.1, w (y.2.2 + (1 : Int))))
  else
   none
 else
  dn (.inr ((y.1, y.2.1)))
theorem prefixes_l0_n {β : Type} (c_Nodes : a_Nodes → Option g_Nodes) (c_lives : a_lives → Option g_lives) (c_Check : a_Check → Option g_Check) (x : a_prefixes) (y : prefixes_l0_a) (nx : prefixes_l0_a → Option β) (dn : prefixes_l0_g → Option β) : prefixes_l0_t c_Nodes c_lives c_Check x y nx dn = (prefixes_l0_t c_Nodes c_lives c_Check x y (fun y => some (.inl y)) (fun z => some (.inr z))).bind fun r => Sum.elim nx dn r := by
  unfold prefixes_l0_t
  repeat' first | exact free_none | refine free_bind (fun z => ?_) | refine free_ite ?_ ?_ | refine free_sum (fun z => ?_) (fun z => ?_) | rfl
theorem prefixes_l0_r (c_Nodes : a_Nodes → Option g_Nodes) (c_lives : a_lives → Option g_lives) (c_Check : a_Check → Option g_Check) (x : a_prefixes) (y : prefixes_l0_a) (lo : LoopT) : loopK E5 (ftab 9 (fun _ _ => true) A_Nodes x_Nodes c_Nodes (ftab 10 (fun _ _ => true) A_lives x_lives c_lives (ftab 20 (fun _ _ => true) A_Check x_Check c_Check ca0))) lo 0 58 (bodyOf E5 7 0) (prefixes_l0_S x y) (KCM [(0, 24)] 4) = prefixes_l0_t (fun x => viaF A_Nodes c_Nodes (A_Nodes x)) (fun x => viaF A_lives c_lives (A_lives x)) (fun x => viaF A_Check c_Check (A_Check x)) x y (fun y => lo 0 58 (bodyOf E5 7 0) (prefixes_l0_S x y) (KCM [(0, 24)] 4)) (fun z => some (.l (prefixes_l0_T x z).1 (prefixes_l0_T x z).2)) := by kernel_rfl
noncomputable def prefixes_l0 (c_Nodes : a_Nodes → Option g_Nodes) (c_lives : a_lives → Option g_lives) (c_Check : a_Check → Option g_Check) (q : Nat) (x : a_prefixes) : prefixes_l0_a → Option prefixes_l0_g := lpG (fun y => prefixes_l0_t c_Nodes c_lives c_Check x y (fun y => some (.inl y)) (fun z => some (.inr z))) q
theorem prefixes_l0_s (c_Nodes : a_Nodes → Option g_Nodes) (h_Nodes : ∀ x z, c_Nodes x = some z → SC E5 9 (A_Nodes x).1 (A_Nodes x).2 (R_Nodes z)) (c_lives : a_lives → Option g_lives) (h_lives : ∀ x z, c_lives x = some z → SC E5 10 (A_lives x).1 (A_lives x).2 (R_lives z)) (c_Check : a_Check → Option g_Check) (h_Check : ∀ x z, c_Check x = some z → SC E5 20 (A_Check x).1 (A_Check x).2 (R_Check z)) (q : Nat) (x : a_prefixes) : ∀ y z, prefixes_l0 c_Nodes c_lives c_Check q x y = some z → SL E5 (bodyOf E5 7 0) (prefixes_l0_S x y) (prefixes_l0_T x z).1 (prefixes_l0_T x z).2 :=
  SL.lp (LT := fun lo => lo) (T := prefixes_l0_T x) (S := prefixes_l0_S x) (ftab_cons h_Nodes xe_Nodes (ftab_cons h_lives xe_lives (ftab_cons h_Check xe_Check ca0_sound))) hX5 (fun lo h => h) (fun lo y => (prefixes_l0_r c_Nodes c_lives c_Check x y lo).trans (by rw [via_eq i_Nodes c_Nodes, via_eq i_lives c_lives, via_eq i_Check c_Check]; exact prefixes_l0_n _ _ _ _ _ _ _)) (fun z => by rcases z with z | z <;> first | exact prefixes_l0_k0 x z | exact prefixes_l0_k1 x z) q
def t_prefixes {β : Type} (c_Nodes : a_Nodes → Option g_Nodes) (c_lives : a_lives → Option g_lives) (c_Check : a_Check → Option g_Check) (l_prefixes_l0 : prefixes_l0_a → Option prefixes_l0_g) (x : a_prefixes) (dn : g_prefixes → Option β) : Option β :=
 (c_Nodes ((x.2.2.2.2.1, x.2.2.2.2.2.1, x.2.2.2.2.2.2.1, x.2.2.2.2.2.2.2.1, x.2.2.2.2.2.2.2.2, (300 : Int)))).bind fun z6 =>
  if decide (z6 > (300 : Int)) = true then
   (c_lives ()).bind fun z7 =>
    dn z7
  else
   if decide (((x.2.1 : Nat) : Int) > (40 : Int)) = true then
    (c_lives ()).bind fun z8 =>
     dn z8
   else
    if (x.2.2.2.2.1 != (14 : Int)) = true then
     (c_lives ()).bind fun z9 =>
      dn z9
    else
     (c_Check x).bind fun z19 =>
      (l_prefixes_l0 ((z19, (0 : Int), (0 : Int)))).bind fun z70 =>
       Sum.elim (fun z70a =>
       dn false) (fun z70b =>
       if (z70b.2 == z70b.1) = true then
        (c_lives ()).bind fun z72 =>
         dn z72
       else
        dn false) z70
theorem n_prefixes {β : Type} (c_Nodes : a_Nodes → Option g_Nodes) (c_lives : a_lives → Option g_lives) (c_Check : a_Check → Option g_Check) (l_prefixes_l0 : prefixes_l0_a → Option prefixes_l0_g) (x : a_prefixes) (dn : g_prefixes → Option β) : t_prefixes c_Nodes c_lives c_Check l_prefixes_l0 x dn = (t_prefixes c_Nodes c_lives c_Check l_prefixes_l0 x some).bind dn := by
  unfold t_prefixes
  repeat' first | exact free_none | refine free_bind (fun z => ?_) | refine free_ite ?_ ?_ | refine free_sum (fun z => ?_) (fun z => ?_) | rfl
theorem r_prefixes (c_Nodes : a_Nodes → Option g_Nodes) (c_lives : a_lives → Option g_lives) (c_Check : a_Check → Option g_Check) (l_prefixes_l0 : prefixes_l0_a → Option prefixes_l0_g) (x : a_prefixes) : callK E5 (ftab 9 (fun _ _ => true) A_Nodes x_Nodes c_Nodes (ftab 10 (fun _ _ => true) A_lives x_lives c_lives (ftab 20 (fun _ _ => true) A_Check x_Check c_Check ca0))) (ltabF 0 (fun _ => true) (bodyOf E5 7 0) (prefixes_l0_S x) (prefixes_l0_x x) l_prefixes_l0 lo0) 7 (A_prefixes x).1 (A_prefixes x).2 K = t_prefixes (fun x => viaF A_Nodes c_Nodes (A_Nodes x)) (fun x => viaF A_lives c_lives (A_lives x)) (fun x => viaF A_Check c_Check (A_Check x)) (fun y => viaF (fun y => (bodyOf E5 7 0, prefixes_l0_S x y)) l_prefixes_l0 (bodyOf E5 7 0, prefixes_l0_S x y)) x (fun z => some (.c (R_prefixes z))) := by kernel_rfl
theorem s_prefixes (c_Nodes : a_Nodes → Option g_Nodes) (h_Nodes : ∀ x z, c_Nodes x = some z → SC E5 9 (A_Nodes x).1 (A_Nodes x).2 (R_Nodes z)) (c_lives : a_lives → Option g_lives) (h_lives : ∀ x z, c_lives x = some z → SC E5 10 (A_lives x).1 (A_lives x).2 (R_lives z)) (c_Check : a_Check → Option g_Check) (h_Check : ∀ x z, c_Check x = some z → SC E5 20 (A_Check x).1 (A_Check x).2 (R_Check z)) (q : Nat) (x : a_prefixes) (z : g_prefixes) (h : t_prefixes c_Nodes c_lives c_Check (prefixes_l0 c_Nodes c_lives c_Check q x) x some = some z) : SC E5 7 (A_prefixes x).1 (A_prefixes x).2 (R_prefixes z) := by
  refine SC.of hW5 hX5 (ftab_cons h_Nodes xe_Nodes (ftab_cons h_lives xe_lives (ftab_cons h_Check xe_Check ca0_sound))) (ltabF_cons (prefixes_l0_s c_Nodes h_Nodes c_lives h_lives c_Check h_Check q x) (prefixes_l0_xe x) lo0_sound) ((r_prefixes c_Nodes c_lives c_Check (prefixes_l0 c_Nodes c_lives c_Check q x) x).trans ?_)
  rw [via_eq i_Nodes c_Nodes, via_eq i_lives c_lives, via_eq i_Check c_Check, via_eq (pair_inj (bodyOf E5 7 0) (prefixes_l0_i x)) (prefixes_l0 c_Nodes c_lives c_Check q x), n_prefixes, h]; rfl
noncomputable def prefixes (q : Nat) (x : a_prefixes) : Option g_prefixes := t_prefixes (Nodes q) (lives q) (Check q) (prefixes_l0 (Nodes q) (lives q) (Check q) q x) x some
theorem sc_prefixes (q : Nat) : ∀ (x : a_prefixes) (z : g_prefixes), prefixes q x = some z → SC E5 7 (A_prefixes x).1 (A_prefixes x).2 (R_prefixes z) := fun x z h => s_prefixes (Nodes q) (sc_Nodes q) (lives q) (sc_lives q) (Check q) (sc_Check q) q x z h
end Go.Proofs.YtniogljhkjbcgaaDoor
/- Types: statements on trees as data (plain). -/
namespace Go.Proofs.YtniogljhkjbcgaaDoor
open Go Go.Am Go.Proofs
set_option linter.unusedSimpArgs false
set_option linter.unusedVariables false
set_option maxRecDepth 100000
/-- Variables: how many, and of which dimension. -/
abbrev Sg : Type := Nat × (ByteArray → Option DimT)
def absS (t : TabT) : Sg := (t.1, tabOf t)
def putT (T : ByteArray → Option DimT) (s : ByteArray) (d : DimT) : ByteArray → Option DimT := fun x => if x = s then some d else T x
def declV (s : ByteArray) (d : DimT) (g : Sg) : Int × Sg := if (g.2 s).isSome then (4, g) else if g.1 ≥ 12 then (2, g) else (0, g.1 + 1, putT g.2 s d)
def tyD' (z : Ty) : DimT := (z.2.1, z.2.2.1, z.2.2.2.1, z.2.2.2.2.1, z.2.2.2.2.2.1)
noncomputable def condV (a : Tr) (g : Sg) : Int := if errV (ofV g.2 a) = 0 then (if (ofV g.2 a).1 = true then 0 else 12) else errV (ofV g.2 a)
noncomputable def quantV (a : Tr) (d : DimT) (g : Sg) : Int := if errV (ofV g.2 a) = 0 then (if (ofV g.2 a).1 = true then 12 else if tyD' (ofV g.2 a) = d then 0 else 10) else errV (ofV g.2 a)
noncomputable def letT (T : Ty) (k : Int) (s : ByteArray) (g : Sg) : Int × Sg :=
  if errV T = 0 then
    if k = 2 then (match g.2 s with | none => (3, g) | some d => if T.1 = true then (12, g) else if d = tyD' T then (0, g) else (10, g))
    else if T.1 = true then (12, g) else declV s (tyD' T) g
  else (errV T, g)
noncomputable def letV (k : Int) (s : ByteArray) (a : Tr) (g : Sg) : Int × Sg := letT (ofV g.2 a) k s g
def kdT : Tr → Int | .node k _ _ _ => k
def kdAt (l : List Tr) (i : Nat) : Int := match l[i]? with | some t => kdT t | none => 0
/-- Statements that are well-formed. -/
def wfV (k : Int) (l : List Tr) : Bool :=
  if k = 14 then true else
  if k = 1 ∨ k = 2 ∨ k = 7 ∨ k = 8 then l.length == 1 else
  if k = 5 ∨ k = 11 ∨ k = 9 ∨ k = 10 then l.length == 1 && kdAt l 0 == 15 else
  if k = 6 then l.length == 2 && kdAt l 1 == 15 else
  if k = 3 then l.length == 3 && (kdAt l 1 == 14 && kdAt l 2 == 14) else
  if k = 4 then l.length == 1 && kdAt l 0 == 14 else
  if k = 12 ∨ k = 13 then l.length == 0 else false
def rgV (k n : Int) : Bool :=
  if k = 4 then decide (1 ≤ n ∧ n ≤ 100) else
  if k = 9 ∨ k = 10 then decide (0 ≤ n ∧ n ≤ 7) else
  if k = 12 then decide (0 ≤ n ∧ n ≤ 99) else
  if k = 13 then decide (0 ≤ n ∧ n ≤ 999) else true
def hdT (l : List Tr) : Tr := l.headD (.node 0 0 ByteArray.empty [])
def sdT (l : List Tr) : Tr := l.tail.headD (.node 0 0 ByteArray.empty [])
mutual
noncomputable def stV : Tr → Sg → Int × Sg
  | .node k n s l, g =>
    if wfV k l = false then (7, g) else
    if rgV k n = false then (5, g) else
    if k = 1 ∨ k = 2 then letV k s (hdT l) g else
    if k = 7 then (condV (hdT l) g, g) else
    if k = 8 then (quantV (hdT l) (0, 0, 0, 1, 0) g, g) else
    if k = 5 ∨ k = 9 then (quantV (hdT l) (0, 0, 1, 0, 0) g, g) else
    if k = 10 ∨ k = 11 then (quantV (hdT l) (0, 1, 0, 0, 0) g, g) else
    if k = 6 then (if condV (hdT l) g = 0 then (quantV (sdT l) (0, 0, 1, 0, 0) g, g) else (condV (hdT l) g, g)) else
    if k = 3 then (if condV (hdT l) g = 0 then alV 1 l g else (condV (hdT l) g, g)) else
    alV 0 l g
/-- Statements one after the other, the first ones passed over. -/
noncomputable def alV : Nat → List Tr → Sg → Int × Sg
  | _, [], g => (0, g)
  | i + 1, _ :: l, g => alV i l g
  | 0, t :: l, g => if (stV t g).1 = 0 then alV 0 l (stV t g).2 else stV t g
end
theorem stV_node (k n : Int) (s : ByteArray) (l : List Tr) (g : Sg) : stV (.node k n s l) g =
    if wfV k l = false then (7, g) else
    if rgV k n = false then (5, g) else
    if k = 1 ∨ k = 2 then letV k s (hdT l) g else
    if k = 7 then (condV (hdT l) g, g) else
    if k = 8 then (quantV (hdT l) (0, 0, 0, 1, 0) g, g) else
    if k = 5 ∨ k = 9 then (quantV (hdT l) (0, 0, 1, 0, 0) g, g) else
    if k = 10 ∨ k = 11 then (quantV (hdT l) (0, 1, 0, 0, 0) g, g) else
    if k = 6 then (if condV (hdT l) g = 0 then (quantV (sdT l) (0, 0, 1, 0, 0) g, g) else (condV (hdT l) g, g)) else
    if k = 3 then (if condV (hdT l) g = 0 then alV 1 l g else (condV (hdT l) g, g)) else
    alV 0 l g := by rw [stV]
theorem alV_nil (i : Nat) (g : Sg) : alV i [] g = (0, g) := by cases i <;> rw [alV]
theorem alV_cons (t : Tr) (l : List Tr) (g : Sg) : alV 0 (t :: l) g = if (stV t g).1 = 0 then alV 0 l (stV t g).2 else stV t g := by rw [alV]
theorem alV_one (t : Tr) (l : List Tr) (g : Sg) : alV 1 (t :: l) g = alV 0 l g := by rw [alV]
abbrev Out (r : Int × Sg) (z : g_declare) : Prop := (z.1, absS z.2) = r
theorem has_eq (t : TabT) (s : ByteArray) : (tabOf t s).isSome = t.2.1 s := by
  unfold tabOf; cases t.2.1 s <;> simp
theorem declV_dup {s : ByteArray} {d : DimT} {g : Sg} (h : (g.2 s).isSome = true) : declV s d g = (4, g) := by unfold declV; rw [if_pos h]
theorem declV_full {s : ByteArray} {d : DimT} {g : Sg} (h : ¬ (g.2 s).isSome = true) (h2 : g.1 ≥ 12) : declV s d g = (2, g) := by unfold declV; rw [if_neg h, if_pos h2]
theorem declV_ok {s : ByteArray} {d : DimT} {g : Sg} (h : ¬ (g.2 s).isSome = true) (h2 : ¬ g.1 ≥ 12) : declV s d g = (0, g.1 + 1, putT g.2 s d) := by unfold declV; rw [if_neg h, if_neg h2]
theorem declare_V (q : Nat) (s : ByteArray) (d : DimT) (t : TabT) : Runs (declare q (s, d.1, d.2.1, d.2.2.1, d.2.2.2.1, d.2.2.2.2, t)) (Out (declV s d (absS t))) := by
  have hs : ((absS t).2 s).isSome = t.2.1 s := has_eq t s
  unfold declare t_declare
  dsimp only
  refine Runs.ite (fun h => Runs.some ?_) fun h => Runs.ite (fun h2 => Runs.some ?_) fun h2 => Runs.some ?_
  · rw [declV_dup (by rw [hs]; exact h)]
  · rw [declV_full (by rw [hs]; exact h) (show t.1 ≥ 12 by simp only [decide_eq_true_eq] at h2; omega)]
  · rw [declV_ok (by rw [hs]; exact h) (show ¬ t.1 ≥ 12 by simp only [decide_eq_true_eq] at h2; omega)]
    show ((0 : Int), absS _) = _
    rw [if_neg h]
    unfold absS
    rw [tabOf_put t s d]
    rfl
theorem of_R {t : TabT} {a : Tr} {x : NodeT} {q : Nat} (h : Rep a x) (hq : siz a < q) : Runs (Of q (x.1, x.2.1, x.2.2.1, x.2.2.2.1, x.2.2.2.2, t)) (fun z => z = ((ofV (tabOf t) a).1, (ofV (tabOf t) a).2.1, (ofV (tabOf t) a).2.2.1, (ofV (tabOf t) a).2.2.2.1, (ofV (tabOf t) a).2.2.2.2.1, (ofV (tabOf t) a).2.2.2.2.2.1, (ofV (tabOf t) a).2.2.2.2.2.2, t)) := ⟨_, of_V t a x q h hq, rfl⟩
theorem cond_V {t : TabT} {a : Tr} {x : NodeT} {q : Nat} (h : Rep a x) (hq : siz a < q) : Runs (cond q (x.1, x.2.1, x.2.2.1, x.2.2.2.1, x.2.2.2.2, t)) (Out (condV a (absS t), absS t)) := by
  unfold cond t_cond condV errV
  refine Runs.bind (of_R h hq) fun z hz => ?_
  subst hz
  dsimp only
  show Runs _ (Out ((if (ofV (tabOf t) a).2.2.2.2.2.2 = 0 then (if (ofV (tabOf t) a).1 = true then 0 else 12) else (ofV (tabOf t) a).2.2.2.2.2.2), absS t))
  generalize ofV (tabOf t) a = T
  by_cases he : T.2.2.2.2.2.2 = 0
  · rw [if_pos (by simpa using he), if_pos he]
    cases hb : T.1
    · exact Runs.if_pos rfl (Runs.some rfl)
    · exact Runs.if_neg (by simp) (Runs.some (by rw [he]; rfl))
  · rw [if_neg (by simpa using he), if_neg he]
    exact Runs.some rfl
theorem quant_V {t : TabT} {a : Tr} {x : NodeT} {d : DimT} {q : Nat} (h : Rep a x) (hq : siz a < q) : Runs (quant q (x.1, x.2.1, x.2.2.1, x.2.2.2.1, x.2.2.2.2, d.1, d.2.1, d.2.2.1, d.2.2.2.1, d.2.2.2.2, t)) (Out (quantV a d (absS t), absS t)) := by
  unfold quant t_quant quantV errV
  refine Runs.bind (of_R h hq) fun z hz => ?_
  subst hz
  dsimp only
  show Runs _ (Out ((if (ofV (tabOf t) a).2.2.2.2.2.2 = 0 then (if (ofV (tabOf t) a).1 = true then 12 else if tyD' (ofV (tabOf t) a) = d then 0 else 10) else (ofV (tabOf t) a).2.2.2.2.2.2), absS t))
  generalize ofV (tabOf t) a = T
  by_cases he : T.2.2.2.2.2.2 = 0
  · rw [if_neg (by simpa using he), if_pos he]
    by_cases hb : T.1 = true
    · rw [if_pos hb, if_pos hb]
      exact Runs.some rfl
    · rw [if_neg hb, if_neg hb]
      by_cases hd : tyD' T = d
      · rw [if_pos hd, if_neg (by rw [dims_ne]; exact fun h => h hd)]
        exact Runs.some rfl
      · rw [if_neg hd, if_pos (by rw [dims_ne]; exact hd)]
        exact Runs.some rfl
  · rw [if_pos (by simpa using he), if_neg he]
    exact Runs.some rfl
theorem inRange_V (q : Nat) (k n : Int) (s : ByteArray) (m : Nat) (f : Nat → List V) : Runs (inRange q (k, n, s, m, f)) (fun b => b = rgV k n) := by
  unfold inRange t_inRange rgV
  dsimp only
  have key : ∀ (lo hi : Int), Runs (if decide (n ≥ lo) = true then (some (decide (n ≤ hi)) : Option g_inRange) else some false) (fun b => b = decide (lo ≤ n ∧ n ≤ hi)) := fun lo hi => by
    refine Runs.ite (fun h => Runs.some ?_) fun h => Runs.some ?_
    · have h : lo ≤ n := by simpa using h
      simp [h]
    · have h : ¬ lo ≤ n := by simpa using h
      simp [h]
  by_cases h4 : k = 4
  · rw [if_pos (show k = 4 by omega)]; exact Runs.if_pos (by simpa using h4) (key 1 100)
  rw [if_neg (show ¬ (k = 4) by omega)]; refine Runs.if_neg (by simpa using h4) ?_
  by_cases h9 : k = 9
  · rw [if_pos (show k = 9 ∨ k = 10 by omega)]; exact Runs.if_pos (by simpa using h9) (key 0 7)
  refine Runs.if_neg (by simpa using h9) ?_
  by_cases h10 : k = 10
  · rw [if_pos (show k = 9 ∨ k = 10 by omega)]; exact Runs.if_pos (by simpa using h10) (key 0 7)
  rw [if_neg (show ¬ (k = 9 ∨ k = 10) by omega)]; refine Runs.if_neg (by simpa using h10) ?_
  by_cases h12 : k = 12
  · rw [if_pos (show k = 12 by omega)]; exact Runs.if_pos (by simpa using h12) (key 0 99)
  rw [if_neg (show ¬ (k = 12) by omega)]; refine Runs.if_neg (by simpa using h12) ?_
  by_cases h13 : k = 13
  · rw [if_pos (show k = 13 by omega)]; exact Runs.if_pos (by simpa using h13) (key 0 999)
  rw [if_neg (show ¬ (k = 13) by omega)]; refine Runs.if_neg (by simpa using h13) ?_
  exact Runs.some rfl
theorem rep_kd {t : Tr} {x : NodeT} (h : Rep t x) : x.1 = kdT t := by
  obtain ⟨k, n, s, l⟩ := t
  unfold Rep at h
  exact h.1
theorem kdAt_rep {l : List Tr} {f : Nat → List V} (hr : RepL l f 0) {i : Nat} (hi : i < l.length) : kdAt l i = opK f i := by
  unfold kdAt
  rw [List.getElem?_eq_getElem hi]
  have := repL_at l f 0 hr i _ (List.getElem?_eq_getElem hi)
  rw [Nat.zero_add] at this
  exact (rep_kd this).symm
theorem wellF_V (q : Nat) (k n : Int) (s : ByteArray) {l : List Tr} {f : Nat → List V} (hr : RepL l f 0) : Runs (wellF q (k, n, s, l.length, opK f, opN f, opS f, opM f, opF f)) (fun b => b = wfV k l) := by
  unfold wellF t_wellF wfV
  dsimp only
  have e1 : ∀ m : Nat, ((l.length : Int) == (m : Int)) = (l.length == m) := fun m => by
    by_cases h : l.length = m
    · simp [h]
    · have h2 : ¬ ((l.length : Int) = (m : Int)) := by omega
      rw [beq_eq_false_iff_ne.2 h2, beq_eq_false_iff_ne.2 h]
  have lit : ∀ (c : Int), Runs (if ((l.length : Int) == (1 : Int)) = true then (if (0 : Int) ≤ (0 : Int) ∧ (0 : Int) < (l.length : Int) then (some (opK f 0 == c) : Option g_wellF) else none) else some false) (fun b => b = (l.length == 1 && kdAt l 0 == c)) := fun c => by
    refine Runs.ite (fun h => ?_) fun h => Runs.some ?_
    · have h : (l.length : Int) = 1 := by simpa using h
      have h' : l.length = 1 := by omega
      refine Runs.if_pos ⟨by omega, by omega⟩ (Runs.some ?_)
      rw [kdAt_rep hr (by omega)]
      simp [h']
    · have h : ¬ (l.length : Int) = 1 := by simpa using h
      have h' : ¬ l.length = 1 := by omega
      simp [h']
  have cnt : ∀ (m : Nat), ((l.length : Int) == ((m : Nat) : Int)) = (l.length == m) := e1
  by_cases h14 : k = 14
  · rw [if_pos (show k = 14 by omega)]; exact Runs.if_pos (by simpa using h14) (Runs.some rfl)
  rw [if_neg (show ¬ (k = 14) by omega)]; refine Runs.if_neg (by simpa using h14) ?_
  by_cases h1 : k = 1
  · rw [if_pos (show k = 1 ∨ k = 2 ∨ k = 7 ∨ k = 8 by omega)]; exact Runs.if_pos (by simpa using h1) (Runs.some (cnt 1))
  refine Runs.if_neg (by simpa using h1) ?_
  by_cases h2 : k = 2
  · rw [if_pos (show k = 1 ∨ k = 2 ∨ k = 7 ∨ k = 8 by omega)]; exact Runs.if_pos (by simpa using h2) (Runs.some (cnt 1))
  refine Runs.if_neg (by simpa using h2) ?_
  by_cases h7 : k = 7
  · rw [if_pos (show k = 1 ∨ k = 2 ∨ k = 7 ∨ k = 8 by omega)]; exact Runs.if_pos (by simpa using h7) (Runs.some (cnt 1))
  refine Runs.if_neg (by simpa using h7) ?_
  by_cases h8 : k = 8
  · rw [if_pos (show k = 1 ∨ k = 2 ∨ k = 7 ∨ k = 8 by omega)]; exact Runs.if_pos (by simpa using h8) (Runs.some (cnt 1))
  rw [if_neg (show ¬ (k = 1 ∨ k = 2 ∨ k = 7 ∨ k = 8) by omega)]; refine Runs.if_neg (by simpa using h8) ?_
  by_cases h5 : k = 5
  · rw [if_pos (show k = 5 ∨ k = 11 ∨ k = 9 ∨ k = 10 by omega)]; exact Runs.if_pos (by simpa using h5) (lit 15)
  refine Runs.if_neg (by simpa using h5) ?_
  by_cases h11 : k = 11
  · rw [if_pos (show k = 5 ∨ k = 11 ∨ k = 9 ∨ k = 10 by omega)]; exact Runs.if_pos (by simpa using h11) (lit 15)
  refine Runs.if_neg (by simpa using h11) ?_
  by_cases h9 : k = 9
  · rw [if_pos (show k = 5 ∨ k = 11 ∨ k = 9 ∨ k = 10 by omega)]; exact Runs.if_pos (by simpa using h9) (lit 15)
  refine Runs.if_neg (by simpa using h9) ?_
  by_cases h10 : k = 10
  · rw [if_pos (show k = 5 ∨ k = 11 ∨ k = 9 ∨ k = 10 by omega)]; exact Runs.if_pos (by simpa using h10) (lit 15)
  rw [if_neg (show ¬ (k = 5 ∨ k = 11 ∨ k = 9 ∨ k = 10) by omega)]; refine Runs.if_neg (by simpa using h10) ?_
  by_cases h6 : k = 6
  · rw [if_pos (show k = 6 by omega)]; refine Runs.if_pos (by simpa using h6) ?_
    refine Runs.ite (fun h => ?_) fun h => Runs.some ?_
    · have h : (l.length : Int) = 2 := by simpa using h
      have h' : l.length = 2 := by omega
      refine Runs.if_pos ⟨by omega, by omega⟩ (Runs.some ?_)
      rw [kdAt_rep hr (by omega)]
      simp [h']
    · have h : ¬ (l.length : Int) = 2 := by simpa using h
      have h' : ¬ l.length = 2 := by omega
      simp [h']
  rw [if_neg (show ¬ (k = 6) by omega)]; refine Runs.if_neg (by simpa using h6) ?_
  by_cases h3 : k = 3
  · rw [if_pos (show k = 3 by omega)]; refine Runs.if_pos (by simpa using h3) ?_
    refine Runs.ite (fun h => ?_) fun h => Runs.some ?_
    · have h : (l.length : Int) = 3 := by simpa using h
      have h' : l.length = 3 := by omega
      refine Runs.if_pos ⟨by omega, by omega⟩ ?_
      rw [kdAt_rep hr (by omega), kdAt_rep hr (by omega)]
      refine Runs.ite (fun g => Runs.if_pos ⟨by omega, by omega⟩ (Runs.some ?_)) fun g => Runs.some ?_
      · simp [h', g]
      · have g : (opK f 1 == 14) = false := by simpa using g
        simp [g]
    · have h : ¬ (l.length : Int) = 3 := by simpa using h
      have h' : ¬ l.length = 3 := by omega
      simp [h']
  rw [if_neg (show ¬ (k = 3) by omega)]; refine Runs.if_neg (by simpa using h3) ?_
  by_cases h4 : k = 4
  · rw [if_pos (show k = 4 by omega)]; exact Runs.if_pos (by simpa using h4) (lit 14)
  rw [if_neg (show ¬ (k = 4) by omega)]; refine Runs.if_neg (by simpa using h4) ?_
  by_cases h12 : k = 12
  · rw [if_pos (show k = 12 ∨ k = 13 by omega)]; exact Runs.if_pos (by simpa using h12) (Runs.some (cnt 0))
  refine Runs.if_neg (by simpa using h12) ?_
  by_cases h13 : k = 13
  · rw [if_pos (show k = 12 ∨ k = 13 by omega)]; exact Runs.if_pos (by simpa using h13) (Runs.some (cnt 0))
  rw [if_neg (show ¬ (k = 12 ∨ k = 13) by omega)]; refine Runs.if_neg (by simpa using h13) ?_
  exact Runs.some rfl
theorem hd_rep {l : List Tr} {f : Nat → List V} (hr : RepL l f 0) (h : 0 < l.length) : Rep (hdT l) (kidAt f 0) ∧ siz (hdT l) ≤ sizL l := by
  cases l with
  | nil => simp at h
  | cons a l =>
    simp only [RepL] at hr
    refine ⟨hr.1, ?_⟩
    show siz a ≤ _
    simp only [sizL]; omega
theorem sd_rep {l : List Tr} {f : Nat → List V} (hr : RepL l f 0) (h : 1 < l.length) : Rep (sdT l) (kidAt f 1) ∧ siz (sdT l) ≤ sizL l := by
  cases l with
  | nil => simp at h
  | cons a l =>
    cases l with
    | nil => simp at h
    | cons b l =>
      simp only [RepL] at hr
      refine ⟨hr.2.1, ?_⟩
      show siz b ≤ _
      simp only [sizL]; omega
theorem letT_err {T : Ty} {k : Int} {s : ByteArray} {g : Sg} (h : ¬ T.2.2.2.2.2.2 = 0) : letT T k s g = (T.2.2.2.2.2.2, g) := by
  unfold letT errV; rw [if_neg h]
theorem letT_none {T : Ty} {s : ByteArray} {g : Sg} (h : T.2.2.2.2.2.2 = 0) (hs : g.2 s = none) : letT T 2 s g = (3, g) := by
  unfold letT errV; rw [if_pos h, if_pos rfl, hs]
theorem letT_bool {T : Ty} {s : ByteArray} {g : Sg} {d : DimT} (h : T.2.2.2.2.2.2 = 0) (hs : g.2 s = some d) (hb : T.1 = true) : letT T 2 s g = (12, g) := by
  unfold letT errV; rw [if_pos h, if_pos rfl, hs]; dsimp only; rw [if_pos hb]
theorem letT_same {T : Ty} {s : ByteArray} {g : Sg} {d : DimT} (h : T.2.2.2.2.2.2 = 0) (hs : g.2 s = some d) (hb : ¬ T.1 = true) (hd : d = tyD' T) : letT T 2 s g = (0, g) := by
  unfold letT errV; rw [if_pos h, if_pos rfl, hs]; dsimp only; rw [if_neg hb, if_pos hd]
theorem letT_diff {T : Ty} {s : ByteArray} {g : Sg} {d : DimT} (h : T.2.2.2.2.2.2 = 0) (hs : g.2 s = some d) (hb : ¬ T.1 = true) (hd : ¬ d = tyD' T) : letT T 2 s g = (10, g) := by
  unfold letT errV; rw [if_pos h, if_pos rfl, hs]; dsimp only; rw [if_neg hb, if_neg hd]
theorem letT_bool1 {T : Ty} {s : ByteArray} {g : Sg} (h : T.2.2.2.2.2.2 = 0) (hb : T.1 = true) : letT T 1 s g = (12, g) := by
  unfold letT errV; rw [if_pos h, if_neg (by decide), if_pos hb]
theorem letT_decl {T : Ty} {s : ByteArray} {g : Sg} (h : T.2.2.2.2.2.2 = 0) (hb : ¬ T.1 = true) : letT T 1 s g = declV s (tyD' T) g := by
  unfold letT errV; rw [if_pos h, if_neg (by decide), if_neg hb]
theorem letS_V {t : TabT} {k n : Int} {s : ByteArray} {l : List Tr} {f : Nat → List V} {q : Nat} (hr : RepL l f 0) (h : 0 < l.length) (hk : k = 1 ∨ k = 2) (hq : sizL l < q) : Runs (letS q (k, n, s, l.length, opK f, opN f, opS f, opM f, opF f, t)) (Out (letV k s (hdT l) (absS t))) := by
  obtain ⟨h1, h2⟩ := hd_rep hr h
  unfold letS t_letS letV
  dsimp only
  refine Runs.if_pos ⟨by omega, by omega⟩ (Runs.bind (of_R h1 (by omega)) fun z hz => ?_)
  subst hz
  dsimp only
  show Runs _ (Out (letT (ofV (tabOf t) (hdT l)) k s (absS t)))
  generalize ofV (tabOf t) (hdT l) = T
  by_cases he : T.2.2.2.2.2.2 = 0
  · refine Runs.if_neg (by simpa using he) ?_
    have dcl : Runs ((declare q (s, T.2.1, T.2.2.1, T.2.2.2.1, T.2.2.2.2.1, T.2.2.2.2.2.1, t)).bind fun z => some z) (Out (declV s (tyD' T) (absS t))) := Runs.bind (declare_V q s (tyD' T) t) fun z hz => Runs.some hz
    rcases hk with rfl | rfl
    · refine Runs.if_neg (by decide) (Runs.ite (fun hb => ?_) fun hb => Runs.if_neg (by decide) (Runs.if_neg (by decide) ?_))
      · rw [letT_bool1 he hb]; exact Runs.some rfl
      · rw [letT_decl he hb]; exact dcl
    · refine Runs.if_pos (by decide) ?_
      by_cases hs : t.2.1 s = true
      · have e : (absS t).2 s = some (t.2.2.1 s, t.2.2.2.1 s, t.2.2.2.2.1 s, t.2.2.2.2.2.1 s, t.2.2.2.2.2.2 s) := by show tabOf t s = _; unfold tabOf; rw [if_pos hs]
        refine Runs.if_neg (by rw [hs]; decide) (Runs.ite (fun hb => ?_) fun hb => Runs.if_pos (by decide) ?_)
        · rw [letT_bool he e hb]; exact Runs.some rfl
        · rw [if_pos hs, if_pos hs, if_pos hs, if_pos hs, if_pos hs]
          by_cases hd : (t.2.2.1 s, t.2.2.2.1 s, t.2.2.2.2.1 s, t.2.2.2.2.2.1 s, t.2.2.2.2.2.2 s) = tyD' T
          · rw [letT_same he e hb hd]
            exact Runs.if_neg (fun g => (dims_ne.1 g) hd) (Runs.if_pos (by decide) (Runs.some rfl))
          · rw [letT_diff he e hb hd]
            exact Runs.if_pos (dims_ne.2 hd) (Runs.some rfl)
      · have e : (absS t).2 s = none := by show tabOf t s = _; unfold tabOf; rw [if_neg hs]
        rw [letT_none he e]
        exact Runs.if_pos (by simpa using hs) (Runs.some rfl)
  · rw [letT_err he]
    exact Runs.if_pos (by simpa using he) (Runs.some rfl)
end Go.Proofs.YtniogljhkjbcgaaDoor
