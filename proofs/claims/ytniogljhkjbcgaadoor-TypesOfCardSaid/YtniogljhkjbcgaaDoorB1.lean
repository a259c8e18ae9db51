/- Types: trees, lifted. -/
import Derived.Test.YtniogljhkjbcgaaDoorA1
namespace Go.Proofs.YtniogljhkjbcgaaDoor
open Go Go.Am Go.Proofs
set_option linter.unusedSimpArgs false
set_option linter.unusedVariables false
set_option maxRecDepth 100000
def opK (f : Nat → List V) (j : Nat) : Int := vI ((f j).getD 0 .junk)
def opN (f : Nat → List V) (j : Nat) : Int := vI ((f j).getD 1 .junk)
def opS (f : Nat → List V) (j : Nat) : ByteArray := vS ((f j).getD 2 .junk)
def opM (f : Nat → List V) (j : Nat) : Nat := vRoN ((f j).getD 3 .junk)
def opF (f : Nat → List V) (j : Nat) : Nat → List V := vRoF ((f j).getD 3 .junk)
/-- The cells of the kids are those of nodes. -/
def OpenN (f : Nat → List V) : Prop := ∀ j, f j = [i64 (opK f j), i64 (opN f j), st (opS f j), .ro 4 (opM f j) (opF f j)]
theorem open_eq {f : Nat → List V} (h : OpenN f) : (fun j => [i64 (opK f j), i64 (opN f j), st (opS f j), .ro 4 (opM f j) (opF f j)]) = f := funext fun j => (h j).symm
def jk (n : Nat) : List V := List.replicate n .junk
def fstNil : List V → Bool | .sc (.slice none 0 0) :: _ => true | _ => false
def sndNil : List V → Bool | _ :: .sc (.slice none 0 0) :: _ => true | _ => false
/-! ### Bound (27) -/
abbrev a_Bound : Type := Int × Int
abbrev g_Bound : Type := Int
def A_Bound : a_Bound → List V × List (Option Chunk) := (fun x => (fun (n : Int) (m : Int) => (([i64 n, i64 m] : List V), ([] : List (Option Chunk)))) x.1 x.2)
def d_Bound (t : List V × List (Option Chunk)) : a_Bound := ((vI (t.1.getD 0 .junk)), (vI (t.1.getD 1 .junk)))
theorem i_Bound : ∀ x y, A_Bound x = A_Bound y → x = y := fun x y h => (congrArg d_Bound h :)
def R_Bound : g_Bound → CRes := (fun z => (fun (k : Int) => .ret (i64 k) []) z : (Int) → CRes)
def x_Bound (z : g_Bound) (k : CRes → Option Ans) : Option Ans := k (R_Bound z)
theorem xe_Bound : ∀ z k, x_Bound z k = k (R_Bound z) := fun z k => rfl
def t_Bound {β : Type} (x : a_Bound) (dn : g_Bound → Option β) : Option β :=
 if decide (x.1 < (0 : Int)) = true then
  if w (w ((2 : Int) * x.2) + (1 : Int)) = (0 : Int) then
   none
  else
   dn (w (Int.tmod (w ((0 : Int) - w (x.1 + (1 : Int)))) (w (w ((2 : Int) * x.2) + (1 : Int))) - x.2))
 else
  if w (w ((2 : Int) * x.2) + (1 : Int)) = (0 : Int) then
   none
  else
   dn (w (Int.tmod (x.1) (w (w ((2 : Int) * x.2) + (1 : Int))) - x.2))
theorem n_Bound {β : Type} (x : a_Bound) (dn : g_Bound → Option β) : t_Bound x dn = (t_Bound x some).bind dn := by
  unfold t_Bound
  repeat' first | exact free_none | refine free_bind (fun z => ?_) | refine free_ite ?_ ?_ | refine free_sum (fun z => ?_) (fun z => ?_) | rfl
theorem r_Bound (x : a_Bound) : callK E5 (callG E5 20) lo0 27 (A_Bound x).1 (A_Bound x).2 K = t_Bound x (fun z => some (.c (R_Bound z))) := by kernel_rfl
theorem s_Bound (q : Nat) (x : a_Bound) (z : g_Bound) (h : t_Bound x some = some z) : SC E5 27 (A_Bound x).1 (A_Bound x).2 (R_Bound z) := by
  refine SC.of hW5 hX5 (sound_G hW5 hX5 20).1 lo0_sound ((r_Bound x).trans ?_)
  rw [n_Bound, h]; rfl
noncomputable def Bound (q : Nat) (x : a_Bound) : Option g_Bound := t_Bound x some
theorem sc_Bound (q : Nat) : ∀ (x : a_Bound) (z : g_Bound), Bound q x = some z → SC E5 27 (A_Bound x).1 (A_Bound x).2 (R_Bound z) := fun x z h => s_Bound q x z h
/-! ### Find (28) -/
abbrev a_Find : Type := Nat × (Nat → ByteArray) × (Nat → Int) × (Nat → Int) × (Nat → Int) × (Nat → Int) × (Nat → Int) × ByteArray
abbrev g_Find : Type := Int
def A_Find : a_Find → List V × List (Option Chunk) := (fun x => (fun (vn : Nat) (vs : Nat → ByteArray) (v0 : Nat → Int) (v1 : Nat → Int) (v2 : Nat → Int) (v3 : Nat → Int) (v4 : Nat → Int) (s : ByteArray) => (([.ro 6 vn (fun j => [st (vs j), i64 (v0 j), i64 (v1 j), i64 (v2 j), i64 (v3 j), i64 (v4 j)]), st s] : List V), ([] : List (Option Chunk)))) x.1 x.2.1 x.2.2.1 x.2.2.2.1 x.2.2.2.2.1 x.2.2.2.2.2.1 x.2.2.2.2.2.2.1 x.2.2.2.2.2.2.2)
def d_Find (t : List V × List (Option Chunk)) : a_Find := ((vRoN (t.1.getD 0 .junk)), (fun j => (vS (((vRoF (t.1.getD 0 .junk)) j).getD 0 .junk))), (fun j => (vI (((vRoF (t.1.getD 0 .junk)) j).getD 1 .junk))), (fun j => (vI (((vRoF (t.1.getD 0 .junk)) j).getD 2 .junk))), (fun j => (vI (((vRoF (t.1.getD 0 .junk)) j).getD 3 .junk))), (fun j => (vI (((vRoF (t.1.getD 0 .junk)) j).getD 4 .junk))), (fun j => (vI (((vRoF (t.1.getD 0 .junk)) j).getD 5 .junk))), (vS (t.1.getD 1 .junk)))
theorem i_Find : ∀ x y, A_Find x = A_Find y → x = y := fun x y h => (congrArg d_Find h :)
def R_Find : g_Find → CRes := (fun z => (fun (k : Int) => .ret (i64 k) []) z : (Int) → CRes)
def x_Find (z : g_Find) (k : CRes → Option Ans) : Option Ans := k (R_Find z)
theorem xe_Find : ∀ z k, x_Find z k = k (R_Find z) := fun z k => rfl
abbrev Find_l0_a : Type := Int
abbrev Find_l0_g : Type := (Int) ⊕ (Unit)
def Find_l0_S (x : a_Find) (y : Find_l0_a) : St := { fr := [V.ro 6 (x.1) fun (j : Nat) => [st (x.2.1 j), i64 (x.2.2.1 j), i64 (x.2.2.2.1 j), i64 (x.2.2.2.2.1 j), i64 (x.2.2.2.2.2.1 j), i64 (x.2.2.2.2.2.2.1 j)], st (x.2.2.2.2.2.2.2), V.junk, V.junk, V.junk, i64 y] ++ jk 14, H := hp [], nx := 0, rt := 0, me := 28 }
def Find_l0_d (s : St) : Find_l0_a := ((vI (s.fr.getD 5 .junk)))
theorem Find_l0_i (x : a_Find) : ∀ y y', Find_l0_S x y = Find_l0_S x y' → y = y' := fun y y' h => (congrArg Find_l0_d h :)
def Find_l0_T (x : a_Find) : Find_l0_g → Ex × St := (Sum.elim (fun z => (Ex.ret, { fr := jk 4 ++ [i64 z] ++ jk 15, H := hp [], nx := 0, rt := 0, me := 28 })) (fun z => (Ex.exit 0, { fr := [V.junk] ++ jk 19, H := hp [], nx := 0, rt := 0, me := 28 })))
def Find_l0_x (x : a_Find) (z : Find_l0_g) (k : KX) : Option Ans := Sum.elim (fun za => k (Find_l0_T x (.inl za)).1 (Find_l0_T x (.inl za)).2) (fun zb => k (Find_l0_T x (.inr zb)).1 (Find_l0_T x (.inr zb)).2) z
theorem Find_l0_xe (x : a_Find) : ∀ z k, Find_l0_x x z k = k (Find_l0_T x z).1 (Find_l0_T x z).2 := fun z k => by
  rcases z with z | z <;> rfl
theorem Find_l0_k0 (x : a_Find) (z : Int) : KCM [(0, 0)] 16 (Find_l0_T x (.inl z)).1 (Find_l0_T x (.inl z)).2 = some (.l (Find_l0_T x (.inl z)).1 (Find_l0_T x (.inl z)).2) := by kernel_rfl
theorem Find_l0_k1 (x : a_Find) (z : Unit) : KCM [(0, 0)] 16 (Find_l0_T x (.inr z)).1 (Find_l0_T x (.inr z)).2 = some (.l (Find_l0_T x (.inr z)).1 (Find_l0_T x (.inr z)).2) := by kernel_rfl
def Find_l0_t {β : Type} (x : a_Find) (y : Find_l0_a) (nx : Find_l0_a → Option β) (dn : Find_l0_g → Option β) : Option β :=
 if decide (y < ((x.1 : Nat) : Int)) = true then
  if (0 : Int) ≤ y ∧ y < ((x.1 : Nat) : Int) then
   if (ByteArray.toList (x.2.1 (Int.toNat y)) == ByteArray.toList (x.2.2.2.2.2.2.2)) = true then
    dn (.inl y)
   else
    nx (w (y + (1 : Int)))
  else
   none
 else
  dn (.inr ())
theorem Find_l0_n {β : Type} (x : a_Find) (y : Find_l0_a) (nx : Find_l0_a → Option β) (dn : Find_l0_g → Option β) : Find_l0_t x y nx dn = (Find_l0_t x y (fun y => some (.inl y)) (fun z => some (.inr z))).bind fun r => Sum.elim nx dn r := by
  unfold Find_l0_t
  repeat' first | exact free_none | refine free_bind (fun z => ?_) | refine free_ite ?_ ?_ | refine free_sum (fun z => ?_) (fun z => ?_) | rfl
theorem Find_l0_r (x : a_Find) (y : Find_l0_a) (lo : LoopT) : loopK E5 ca0 lo 0 35 (bodyOf E5 28 0) (Find_l0_S x y) (KCM [(0, 0)] 16) = Find_l0_t x y (fun y => lo 0 35 (bodyOf E5 28 0) (Find_l0_S x y) (KCM [(0, 0)] 16)) (fun z => some (.l (Find_l0_T x z).1 (Find_l0_T x z).2)) := by kernel_rfl
noncomputable def Find_l0 (q : Nat) (x : a_Find) : Find_l0_a → Option Find_l0_g := lpG (fun y => Find_l0_t x y (fun y => some (.inl y)) (fun z => some (.inr z))) q
theorem Find_l0_s (q : Nat) (x : a_Find) : ∀ y z, Find_l0 q x y = some z → SL E5 (bodyOf E5 28 0) (Find_l0_S x y) (Find_l0_T x z).1 (Find_l0_T x z).2 :=
  SL.lp (LT := fun lo => lo) (T := Find_l0_T x) (S := Find_l0_S x) ca0_sound hX5 (fun lo h => h) (fun lo y => (Find_l0_r x y lo).trans (by exact Find_l0_n  _ _ _ _)) (fun z => by rcases z with z | z <;> first | exact Find_l0_k0 x z | exact Find_l0_k1 x z) q
def t_Find {β : Type} (l_Find_l0 : Find_l0_a → Option Find_l0_g) (x : a_Find) (dn : g_Find → Option β) : Option β :=
 (l_Find_l0 ((0 : Int))).bind fun z4 =>
  Sum.elim (fun z4a =>
  dn z4a) (fun z4b =>
  dn ((-1 : Int))) z4
theorem n_Find {β : Type} (l_Find_l0 : Find_l0_a → Option Find_l0_g) (x : a_Find) (dn : g_Find → Option β) : t_Find l_Find_l0 x dn = (t_Find l_Find_l0 x some).bind dn := by
  unfold t_Find
  repeat' first | exact free_none | refine free_bind (fun z => ?_) | refine free_ite ?_ ?_ | refine free_sum (fun z => ?_) (fun z => ?_) | rfl
theorem r_Find (l_Find_l0 : Find_l0_a → Option Find_l0_g) (x : a_Find) : callK E5 ca0 (ltabF 0 (fun _ => true) (bodyOf E5 28 0) (Find_l0_S x) (Find_l0_x x) l_Find_l0 lo0) 28 (A_Find x).1 (A_Find x).2 K = t_Find (fun y => viaF (fun y => (bodyOf E5 28 0, Find_l0_S x y)) l_Find_l0 (bodyOf E5 28 0, Find_l0_S x y)) x (fun z => some (.c (R_Find z))) := by kernel_rfl
theorem s_Find (q : Nat) (x : a_Find) (z : g_Find) (h : t_Find (Find_l0 q x) x some = some z) : SC E5 28 (A_Find x).1 (A_Find x).2 (R_Find z) := by
  refine SC.of hW5 hX5 ca0_sound (ltabF_cons (Find_l0_s q x) (Find_l0_xe x) lo0_sound) ((r_Find (Find_l0 q x) x).trans ?_)
  rw [via_eq (pair_inj (bodyOf E5 28 0) (Find_l0_i x)) (Find_l0 q x), n_Find, h]; rfl
noncomputable def Find (q : Nat) (x : a_Find) : Option g_Find := t_Find (Find_l0 q x) x some
theorem sc_Find (q : Nat) : ∀ (x : a_Find) (z : g_Find), Find q x = some z → SC E5 28 (A_Find x).1 (A_Find x).2 (R_Find z) := fun x z h => s_Find q x z h
/-! ### FindZ (28) -/
abbrev a_FindZ : Type := ByteArray
abbrev g_FindZ : Type := Int
def A_FindZ : a_FindZ → List V × List (Option Chunk) := (fun x => (fun (s : ByteArray) => (([nilS, st s] : List V), ([] : List (Option Chunk)))) x)
def d_FindZ (t : List V × List (Option Chunk)) : a_FindZ := ((vS (t.1.getD 1 .junk)))
theorem i_FindZ : ∀ x y, A_FindZ x = A_FindZ y → x = y := fun x y h => (congrArg d_FindZ h :)
def R_FindZ : g_FindZ → CRes := (fun z => (fun (k : Int) => .ret (i64 k) []) z : (Int) → CRes)
def x_FindZ (z : g_FindZ) (k : CRes → Option Ans) : Option Ans := k (R_FindZ z)
theorem xe_FindZ : ∀ z k, x_FindZ z k = k (R_FindZ z) := fun z k => rfl
abbrev FindZ_l0_a : Type := Unit
abbrev FindZ_l0_g : Type := Unit
def FindZ_l0_S (x : a_FindZ) (y : FindZ_l0_a) : St := { fr := [nilS, st x, V.junk, V.junk, V.junk, i64 (0 : Int)] ++ jk 14, H := hp [], nx := 0, rt := 0, me := 28 }
def FindZ_l0_d (s : St) : FindZ_l0_a := ()
theorem FindZ_l0_i (x : a_FindZ) : ∀ y y', FindZ_l0_S x y = FindZ_l0_S x y' → y = y' := fun y y' h => (congrArg FindZ_l0_d h :)
def FindZ_l0_T (x : a_FindZ) : FindZ_l0_g → Ex × St := (fun z => (Ex.exit 0, { fr := [V.junk] ++ jk 19, H := hp [], nx := 0, rt := 0, me := 28 }))
def FindZ_l0_x (x : a_FindZ) (z : FindZ_l0_g) (k : KX) : Option Ans := k (FindZ_l0_T x z).1 (FindZ_l0_T x z).2
theorem FindZ_l0_xe (x : a_FindZ) : ∀ z k, FindZ_l0_x x z k = k (FindZ_l0_T x z).1 (FindZ_l0_T x z).2 := fun z k => rfl
theorem FindZ_l0_k0 (x : a_FindZ) (z : Unit) : KCM [(0, 0)] 16 (FindZ_l0_T x z).1 (FindZ_l0_T x z).2 = some (.l (FindZ_l0_T x z).1 (FindZ_l0_T x z).2) := by kernel_rfl
def FindZ_l0_t {β : Type} (x : a_FindZ) (y : FindZ_l0_a) (nx : FindZ_l0_a → Option β) (dn : FindZ_l0_g → Option β) : Option β :=
 dn ()
theorem FindZ_l0_n {β : Type} (x : a_FindZ) (y : FindZ_l0_a) (nx : FindZ_l0_a → Option β) (dn : FindZ_l0_g → Option β) : FindZ_l0_t x y nx dn = (FindZ_l0_t x y (fun y => some (.inl y)) (fun z => some (.inr z))).bind fun r => Sum.elim nx dn r := by
  unfold FindZ_l0_t
  repeat' first | exact free_none | refine free_bind (fun z => ?_) | refine free_ite ?_ ?_ | refine free_sum (fun z => ?_) (fun z => ?_) | rfl
theorem FindZ_l0_r (x : a_FindZ) (y : FindZ_l0_a) (lo : LoopT) : loopK E5 ca0 lo 0 35 (bodyOf E5 28 0) (FindZ_l0_S x y) (KCM [(0, 0)] 16) = FindZ_l0_t x y (fun y => lo 0 35 (bodyOf E5 28 0) (FindZ_l0_S x y) (KCM [(0, 0)] 16)) (fun z => some (.l (FindZ_l0_T x z).1 (FindZ_l0_T x z).2)) := by kernel_rfl
noncomputable def FindZ_l0 (q : Nat) (x : a_FindZ) : FindZ_l0_a → Option FindZ_l0_g := lpG (fun y => FindZ_l0_t x y (fun y => some (.inl y)) (fun z => some (.inr z))) q
theorem FindZ_l0_s (q : Nat) (x : a_FindZ) : ∀ y z, FindZ_l0 q x y = some z → SL E5 (bodyOf E5 28 0) (FindZ_l0_S x y) (FindZ_l0_T x z).1 (FindZ_l0_T x z).2 :=
  SL.lp (LT := fun lo => lo) (T := FindZ_l0_T x) (S := FindZ_l0_S x) ca0_sound hX5 (fun lo h => h) (fun lo y => (FindZ_l0_r x y lo).trans (by exact FindZ_l0_n  _ _ _ _)) (FindZ_l0_k0 x) q
def t_FindZ {β : Type} (l_FindZ_l0 : FindZ_l0_a → Option FindZ_l0_g) (x : a_FindZ) (dn : g_FindZ → Option β) : Option β :=
 (l_FindZ_l0 ()).bind fun z0 =>
  dn ((-1 : Int))
theorem n_FindZ {β : Type} (l_FindZ_l0 : FindZ_l0_a → Option FindZ_l0_g) (x : a_FindZ) (dn : g_FindZ → Option β) : t_FindZ l_FindZ_l0 x dn = (t_FindZ l_FindZ_l0 x some).bind dn := by
  unfold t_FindZ
  repeat' first | exact free_none | refine free_bind (fun z => ?_) | refine free_ite ?_ ?_ | refine free_sum (fun z => ?_) (fun z => ?_) | rfl
theorem r_FindZ (l_FindZ_l0 : FindZ_l0_a → Option FindZ_l0_g) (x : a_FindZ) : callK E5 ca0 (ltabF 0 (fun _ => true) (bodyOf E5 28 0) (FindZ_l0_S x) (FindZ_l0_x x) l_FindZ_l0 lo0) 28 (A_FindZ x).1 (A_FindZ x).2 K = t_FindZ (fun y => viaF (fun y => (bodyOf E5 28 0, FindZ_l0_S x y)) l_FindZ_l0 (bodyOf E5 28 0, FindZ_l0_S x y)) x (fun z => some (.c (R_FindZ z))) := by kernel_rfl
theorem s_FindZ (q : Nat) (x : a_FindZ) (z : g_FindZ) (h : t_FindZ (FindZ_l0 q x) x some = some z) : SC E5 28 (A_FindZ x).1 (A_FindZ x).2 (R_FindZ z) := by
  refine SC.of hW5 hX5 ca0_sound (ltabF_cons (FindZ_l0_s q x) (FindZ_l0_xe x) lo0_sound) ((r_FindZ (FindZ_l0 q x) x).trans ?_)
  rw [via_eq (pair_inj (bodyOf E5 28 0) (FindZ_l0_i x)) (FindZ_l0 q x), n_FindZ, h]; rfl
noncomputable def FindZ (q : Nat) (x : a_FindZ) : Option g_FindZ := t_FindZ (FindZ_l0 q x) x some
theorem sc_FindZ (q : Nat) : ∀ (x : a_FindZ) (z : g_FindZ), FindZ q x = some z → SC E5 28 (A_FindZ x).1 (A_FindZ x).2 (R_FindZ z) := fun x z h => s_FindZ q x z h
/-! ### Nodes (9) -/
abbrev a_Nodes : Type := Int × Int × ByteArray × Nat × (Nat → List V) × Int
abbrev g_Nodes : Type := Int
def A_Nodes : a_Nodes → List V × List (Option Chunk) := (fun x => (fun (nk : Int) (nn : Int) (ns : ByteArray) (nm : Nat) (nf : Nat → List V) (most : Int) => (([.agg [i64 nk, i64 nn, st ns, .ro 4 nm nf], i64 most] : List V), ([] : List (Option Chunk)))) x.1 x.2.1 x.2.2.1 x.2.2.2.1 x.2.2.2.2.1 x.2.2.2.2.2)
def d_Nodes (t : List V × List (Option Chunk)) : a_Nodes := ((vI ((vAg (t.1.getD 0 .junk)).getD 0 .junk)), (vI ((vAg (t.1.getD 0 .junk)).getD 1 .junk)), (vS ((vAg (t.1.getD 0 .junk)).getD 2 .junk)), (vRoN ((vAg (t.1.getD 0 .junk)).getD 3 .junk)), (vRoF ((vAg (t.1.getD 0 .junk)).getD 3 .junk)), (vI (t.1.getD 1 .junk)))
theorem i_Nodes : ∀ x y, A_Nodes x = A_Nodes y → x = y := fun x y h => (congrArg d_Nodes h :)
def R_Nodes : g_Nodes → CRes := (fun z => (fun (k : Int) => .ret (i64 k) []) z : (Int) → CRes)
def x_Nodes (z : g_Nodes) (k : CRes → Option Ans) : Option Ans := k (R_Nodes z)
theorem xe_Nodes : ∀ z k, x_Nodes z k = k (R_Nodes z) := fun z k => rfl
/-! ### NodesN (9) -/
abbrev a_NodesN : Type := Int × Int × ByteArray × Nat × (Nat → Int) × (Nat → Int) × (Nat → ByteArray) × (Nat → Nat) × (Nat → Nat → List V) × Int
abbrev g_NodesN : Type := Int
def A_NodesN : a_NodesN → List V × List (Option Chunk) := (fun x => (fun (nk : Int) (nn : Int) (ns : ByteArray) (nm : Nat) (ek : Nat → Int) (en : Nat → Int) (es : Nat → ByteArray) (em : Nat → Nat) (ef : Nat → Nat → List V) (most : Int) => (([.agg [i64 nk, i64 nn, st ns, .ro 4 nm (fun j => [i64 (ek j), i64 (en j), st (es j), .ro 4 (em j) (ef j)])], i64 most] : List V), ([] : List (Option Chunk)))) x.1 x.2.1 x.2.2.1 x.2.2.2.1 x.2.2.2.2.1 x.2.2.2.2.2.1 x.2.2.2.2.2.2.1 x.2.2.2.2.2.2.2.1 x.2.2.2.2.2.2.2.2.1 x.2.2.2.2.2.2.2.2.2)
def d_NodesN (t : List V × List (Option Chunk)) : a_NodesN := ((vI ((vAg (t.1.getD 0 .junk)).getD 0 .junk)), (vI ((vAg (t.1.getD 0 .junk)).getD 1 .junk)), (vS ((vAg (t.1.getD 0 .junk)).getD 2 .junk)), (vRoN ((vAg (t.1.getD 0 .junk)).getD 3 .junk)), (fun j => (vI (((vRoF ((vAg (t.1.getD 0 .junk)).getD 3 .junk)) j).getD 0 .junk))), (fun j => (vI (((vRoF ((vAg (t.1.getD 0 .junk)).getD 3 .junk)) j).getD 1 .junk))), (fun j => (vS (((vRoF ((vAg (t.1.getD 0 .junk)).getD 3 .junk)) j).getD 2 .junk))), (fun j => (vRoN (((vRoF ((vAg (t.1.getD 0 .junk)).getD 3 .junk)) j).getD 3 .junk))), (fun j => (vRoF (((vRoF ((vAg (t.1.getD 0 .junk)).getD 3 .junk)) j).getD 3 .junk))), (vI (t.1.getD 1 .junk)))
theorem i_NodesN : ∀ x y, A_NodesN x = A_NodesN y → x = y := fun x y h => (congrArg d_NodesN h :)
def R_NodesN : g_NodesN → CRes := (fun z => (fun (k : Int) => .ret (i64 k) []) z : (Int) → CRes)
def x_NodesN (z : g_NodesN) (k : CRes → Option Ans) : Option Ans := k (R_NodesN z)
theorem xe_NodesN : ∀ z k, x_NodesN z k = k (R_NodesN z) := fun z k => rfl
abbrev NodesN_l0_a : Type := Int × Int
abbrev NodesN_l0_g : Type := Int
def NodesN_l0_S (x : a_NodesN) (y : NodesN_l0_a) : St := { fr := [V.junk, i64 (x.2.2.2.2.2.2.2.2.2), V.ptr 0 0, V.junk, V.junk, i64 (y.1), i64 (y.2)] ++ jk 24, H := hp [some (Chunk.blk [i64 (x.1), i64 (x.2.1), st (x.2.2.1), V.ro 4 (x.2.2.2.1) fun (j : Nat) => [i64 (x.2.2.2.2.1 j), i64 (x.2.2.2.2.2.1 j), st (x.2.2.2.2.2.2.1 j), V.ro 4 (x.2.2.2.2.2.2.2.1 j) (x.2.2.2.2.2.2.2.2.1 j)]])], nx := 1, rt := 0, me := 9 }
def NodesN_l0_d (s : St) : NodesN_l0_a := ((vI (s.fr.getD 5 .junk)), (vI (s.fr.getD 6 .junk)))
theorem NodesN_l0_i (x : a_NodesN) : ∀ y y', NodesN_l0_S x y = NodesN_l0_S x y' → y = y' := fun y y' h => (congrArg NodesN_l0_d h :)
def NodesN_l0_T (x : a_NodesN) : NodesN_l0_g → Ex × St := (fun z => (Ex.exit 0, { fr := jk 5 ++ [i64 z] ++ jk 25, H := hp [], nx := 0, rt := 0, me := 9 }))
def NodesN_l0_x (x : a_NodesN) (z : NodesN_l0_g) (k : KX) : Option Ans := k (NodesN_l0_T x z).1 (NodesN_l0_T x z).2
theorem NodesN_l0_xe (x : a_NodesN) : ∀ z k, NodesN_l0_x x z k = k (NodesN_l0_T x z).1 (NodesN_l0_T x z).2 := fun z k => rfl
theorem NodesN_l0_k0 (x : a_NodesN) (z : Int) : KCM [(0, 32)] 16 (NodesN_l0_T x z).1 (NodesN_l0_T x z).2 = some (.l (NodesN_l0_T x z).1 (NodesN_l0_T x z).2) := by kernel_rfl
def NodesN_l0_t {β : Type} (c_Nodes : a_Nodes → Option g_Nodes) (x : a_NodesN) (y : NodesN_l0_a) (nx : NodesN_l0_a → Option β) (dn : NodesN_l0_g → Option β) : Option β :=
 if decide (y.2 < ((x.2.2.2.1 : Nat) : Int)) = true then
  if decide (y.1 ≤ x.2.2.2.2.2.2.2.2.2) = true then
   if (0 : Int) ≤ y.2 ∧ y.2 < ((x.2.2.2.1 : Nat) : Int) then
    (c_Nodes ((x.2.2.2.2.1 (Int.toNat (y.2)), x.2.2.2.2.2.1 (Int.toNat (y.2)), x.2.2.2.2.2.2.1 (Int.toNat (y.2)), x.2.2.2.2.2.2.2.1 (Int.toNat (y.2)), x.2.2.2.2.2.2.2.2.1 (Int.toNat (y.2)), w (x.2.2.2.2.2.2.2.2.2 - y.1)))).bind fun z42 =>
     nx ((w (y.1 + z42), w (y.2 + (1 : Int))))
   else
    none
  else
   dn (y.1)
 else
  dn (y.1)
theorem NodesN_l0_n {β : Type} (c_Nodes : a_Nodes → Option g_Nodes) (x : a_NodesN) (y : NodesN_l0_a) (nx : NodesN_l0_a → Option β) (dn : NodesN_l0_g → Option β) : NodesN_l0_t c_Nodes x y nx dn = (NodesN_l0_t c_Nodes x y (fun y => some (.inl y)) (fun z => some (.inr z))).bind fun r => Sum.elim nx dn r := by
  unfold NodesN_l0_t
  repeat' first | exact free_none | refine free_bind (fun z => ?_) | refine free_ite ?_ ?_ | refine free_sum (fun z => ?_) (fun z => ?_) | rfl
theorem NodesN_l0_r (c_Nodes : a_Nodes → Option g_Nodes) (x : a_NodesN) (y : NodesN_l0_a) (lo : LoopT) : loopK E5 (ftab 9 (fun _ _ => true) A_Nodes x_Nodes c_Nodes ca0) lo 0 102 (bodyOf E5 9 0) (NodesN_l0_S x y) (KCM [(0, 32)] 16) = NodesN_l0_t (fun x => viaF A_Nodes c_Nodes (A_Nodes x)) x y (fun y => lo 0 102 (bodyOf E5 9 0) (NodesN_l0_S x y) (KCM [(0, 32)] 16)) (fun z => some (.l (NodesN_l0_T x z).1 (NodesN_l0_T x z).2)) := by kernel_rfl
noncomputable def NodesN_l0 (c_Nodes : a_Nodes → Option g_Nodes) (q : Nat) (x : a_NodesN) : NodesN_l0_a → Option NodesN_l0_g := lpG (fun y => NodesN_l0_t c_Nodes x y (fun y => some (.inl y)) (fun z => some (.inr z))) q
theorem NodesN_l0_s (c_Nodes : a_Nodes → Option g_Nodes) (h_Nodes : ∀ x z, c_Nodes x = some z → SC E5 9 (A_Nodes x).1 (A_Nodes x).2 (R_Nodes z)) (q : Nat) (x : a_NodesN) : ∀ y z, NodesN_l0 c_Nodes q x y = some z → SL E5 (bodyOf E5 9 0) (NodesN_l0_S x y) (NodesN_l0_T x z).1 (NodesN_l0_T x z).2 :=
  SL.lp (LT := fun lo => lo) (T := NodesN_l0_T x) (S := NodesN_l0_S x) (ftab_cons h_Nodes xe_Nodes ca0_sound) hX5 (fun lo h => h) (fun lo y => (NodesN_l0_r c_Nodes x y lo).trans (by rw [via_eq i_Nodes c_Nodes]; exact NodesN_l0_n _ _ _ _ _)) (NodesN_l0_k0 x) q
def t_NodesN {β : Type} (c_Nodes : a_Nodes → Option g_Nodes) (l_NodesN_l0 : NodesN_l0_a → Option NodesN_l0_g) (x : a_NodesN) (dn : g_NodesN → Option β) : Option β :=
 (l_NodesN_l0 (((1 : Int), (0 : Int)))).bind fun z23 =>
  dn z23
theorem n_NodesN {β : Type} (c_Nodes : a_Nodes → Option g_Nodes) (l_NodesN_l0 : NodesN_l0_a → Option NodesN_l0_g) (x : a_NodesN) (dn : g_NodesN → Option β) : t_NodesN c_Nodes l_NodesN_l0 x dn = (t_NodesN c_Nodes l_NodesN_l0 x some).bind dn := by
  unfold t_NodesN
  repeat' first | exact free_none | refine free_bind (fun z => ?_) | refine free_ite ?_ ?_ | refine free_sum (fun z => ?_) (fun z => ?_) | rfl
theorem r_NodesN (c_Nodes : a_Nodes → Option g_Nodes) (l_NodesN_l0 : NodesN_l0_a → Option NodesN_l0_g) (x : a_NodesN) : callK E5 (ftab 9 (fun _ _ => true) A_Nodes x_Nodes c_Nodes ca0) (ltabF 0 (fun _ => true) (bodyOf E5 9 0) (NodesN_l0_S x) (NodesN_l0_x x) l_NodesN_l0 lo0) 9 (A_NodesN x).1 (A_NodesN x).2 K = t_NodesN (fun x => viaF A_Nodes c_Nodes (A_Nodes x)) (fun y => viaF (fun y => (bodyOf E5 9 0, NodesN_l0_S x y)) l_NodesN_l0 (bodyOf E5 9 0, NodesN_l0_S x y)) x (fun z => some (.c (R_NodesN z))) := by kernel_rfl
theorem s_NodesN (c_Nodes : a_Nodes → Option g_Nodes) (h_Nodes : ∀ x z, c_Nodes x = some z → SC E5 9 (A_Nodes x).1 (A_Nodes x).2 (R_Nodes z)) (q : Nat) (x : a_NodesN) (z : g_NodesN) (h : t_NodesN c_Nodes (NodesN_l0 c_Nodes q x) x some = some z) : SC E5 9 (A_NodesN x).1 (A_NodesN x).2 (R_NodesN z) := by
  refine SC.of hW5 hX5 (ftab_cons h_Nodes xe_Nodes ca0_sound) (ltabF_cons (NodesN_l0_s c_Nodes h_Nodes q x) (NodesN_l0_xe x) lo0_sound) ((r_NodesN c_Nodes (NodesN_l0 c_Nodes q x) x).trans ?_)
  rw [via_eq i_Nodes c_Nodes, via_eq (pair_inj (bodyOf E5 9 0) (NodesN_l0_i x)) (NodesN_l0 c_Nodes q x), n_NodesN, h]; rfl
open Classical in
noncomputable def Nodes : Nat → a_Nodes → Option g_Nodes
  | 0, _ => none
  | q + 1, x => if OpenN x.2.2.2.2.1 then t_NodesN (Nodes q) (NodesN_l0 (Nodes q) q (x.1, x.2.1, x.2.2.1, x.2.2.2.1, opK x.2.2.2.2.1, opN x.2.2.2.2.1, opS x.2.2.2.2.1, opM x.2.2.2.2.1, opF x.2.2.2.2.1, x.2.2.2.2.2)) (x.1, x.2.1, x.2.2.1, x.2.2.2.1, opK x.2.2.2.2.1, opN x.2.2.2.2.1, opS x.2.2.2.2.1, opM x.2.2.2.2.1, opF x.2.2.2.2.1, x.2.2.2.2.2) some else none
theorem sc_Nodes : ∀ (q : Nat) (x : a_Nodes) (z : g_Nodes), Nodes q x = some z → SC E5 9 (A_Nodes x).1 (A_Nodes x).2 (R_Nodes z) := by
  intro q
  induction q with
  | zero => intro x z h; cases h
  | succ q ih =>
    intro x z h
    unfold Nodes at h
    split at h
    · rename_i hO
      have this := s_NodesN (Nodes q) ih q (x.1, x.2.1, x.2.2.1, x.2.2.2.1, opK x.2.2.2.2.1, opN x.2.2.2.2.1, opS x.2.2.2.2.1, opM x.2.2.2.2.1, opF x.2.2.2.2.1, x.2.2.2.2.2) z h
      unfold A_NodesN at this
      unfold A_Nodes
      simp only at this ⊢
      rw [open_eq hO] at this
      exact this
    · cases h
/-! ### Of (12) -/
abbrev a_Of : Type := Int × Int × ByteArray × Nat × (Nat → List V) × Nat × (ByteArray → Bool) × (ByteArray → Int) × (ByteArray → Int) × (ByteArray → Int) × (ByteArray → Int) × (ByteArray → Int)
abbrev g_Of : Type := Bool × Int × Int × Int × Int × Int × Int × Nat × (ByteArray → Bool) × (ByteArray → Int) × (ByteArray → Int) × (ByteArray → Int) × (ByteArray → Int) × (ByteArray → Int)
def A_Of : a_Of → List V × List (Option Chunk) := (fun x => (fun (nk : Int) (nn : Int) (ns : ByteArray) (nm : Nat) (nf : Nat → List V) (mn : Nat) (mh : ByteArray → Bool) (m0 : ByteArray → Int) (m1 : ByteArray → Int) (m2 : ByteArray → Int) (m3 : ByteArray → Int) (m4 : ByteArray → Int) => (([.agg [i64 nk, i64 nn, st ns, .ro 4 nm nf], .mp 0] : List V), ([some (.smap mn mh (fun j => .agg [i64 (m0 j), i64 (m1 j), i64 (m2 j), i64 (m3 j), i64 (m4 j)]))] : List (Option Chunk)))) x.1 x.2.1 x.2.2.1 x.2.2.2.1 x.2.2.2.2.1 x.2.2.2.2.2.1 x.2.2.2.2.2.2.1 x.2.2.2.2.2.2.2.1 x.2.2.2.2.2.2.2.2.1 x.2.2.2.2.2.2.2.2.2.1 x.2.2.2.2.2.2.2.2.2.2.1 x.2.2.2.2.2.2.2.2.2.2.2)
def d_Of (t : List V × List (Option Chunk)) : a_Of := ((vI ((vAg (t.1.getD 0 .junk)).getD 0 .junk)), (vI ((vAg (t.1.getD 0 .junk)).getD 1 .junk)), (vS ((vAg (t.1.getD 0 .junk)).getD 2 .junk)), (vRoN ((vAg (t.1.getD 0 .junk)).getD 3 .junk)), (vRoF ((vAg (t.1.getD 0 .junk)).getD 3 .junk)), (smN (t.2.getD 0 none)), (smH (t.2.getD 0 none)), (fun j => vI ((vAg (smF (t.2.getD 0 none) j)).getD 0 .junk)), (fun j => vI ((vAg (smF (t.2.getD 0 none) j)).getD 1 .junk)), (fun j => vI ((vAg (smF (t.2.getD 0 none) j)).getD 2 .junk)), (fun j => vI ((vAg (smF (t.2.getD 0 none) j)).getD 3 .junk)), (fun j => vI ((vAg (smF (t.2.getD 0 none) j)).getD 4 .junk)))
theorem i_Of : ∀ x y, A_Of x = A_Of y → x = y := fun x y h => (congrArg d_Of h :)
def R_Of : g_Of → CRes := (fun z => (fun (b : Bool) (d0 : Int) (d1 : Int) (d2 : Int) (d3 : Int) (d4 : Int) (e : Int) (mn : Nat) (mh : ByteArray → Bool) (m0 : ByteArray → Int) (m1 : ByteArray → Int) (m2 : ByteArray → Int) (m3 : ByteArray → Int) (m4 : ByteArray → Int) => .ret (.tup [bo b, .agg [i64 d0, i64 d1, i64 d2, i64 d3, i64 d4], i64 e]) [some (.smap mn mh (fun j => .agg [i64 (m0 j), i64 (m1 j), i64 (m2 j), i64 (m3 j), i64 (m4 j)]))]) z.1 z.2.1 z.2.2.1 z.2.2.2.1 z.2.2.2.2.1 z.2.2.2.2.2.1 z.2.2.2.2.2.2.1 z.2.2.2.2.2.2.2.1 z.2.2.2.2.2.2.2.2.1 z.2.2.2.2.2.2.2.2.2.1 z.2.2.2.2.2.2.2.2.2.2.1 z.2.2.2.2.2.2.2.2.2.2.2.1 z.2.2.2.2.2.2.2.2.2.2.2.2.1 z.2.2.2.2.2.2.2.2.2.2.2.2.2 : (Bool × Int × Int × Int × Int × Int × Int × Nat × (ByteArray → Bool) × (ByteArray → Int) × (ByteArray → Int) × (ByteArray → Int) × (ByteArray → Int) × (ByteArray → Int)) → CRes)
def x_Of (z : g_Of) (k : CRes → Option Ans) : Option Ans := k (R_Of z)
theorem xe_Of : ∀ z k, x_Of z k = k (R_Of z) := fun z k => rfl
/-! ### OfN (12) -/
abbrev a_OfN : Type := Int × Int × ByteArray × Nat × (Nat → Int) × (Nat → Int) × (Nat → ByteArray) × (Nat → Nat) × (Nat → Nat → List V) × Nat × (ByteArray → Bool) × (ByteArray → Int) × (ByteArray → Int) × (ByteArray → Int) × (ByteArray → Int) × (ByteArray → Int)
abbrev g_OfN : Type := Bool × Int × Int × Int × Int × Int × Int × Nat × (ByteArray → Bool) × (ByteArray → Int) × (ByteArray → Int) × (ByteArray → Int) × (ByteArray → Int) × (ByteArray → Int)
def A_OfN : a_OfN → List V × List (Option Chunk) := (fun x => (fun (nk : Int) (nn : Int) (ns : ByteArray) (nm : Nat) (ek : Nat → Int) (en : Nat → Int) (es : Nat → ByteArray) (em : Nat → Nat) (ef : Nat → Nat → List V) (mn : Nat) (mh : ByteArray → Bool) (m0 : ByteArray → Int) (m1 : ByteArray → Int) (m2 : ByteArray → Int) (m3 : ByteArray → Int) (m4 : ByteArray → Int) => (([.agg [i64 nk, i64 nn, st ns, .ro 4 nm (fun j => [i64 (ek j), i64 (en j), st (es j), .ro 4 (em j) (ef j)])], .mp 0] : List V), ([some (.smap mn mh (fun j => .agg [i64 (m0 j), i64 (m1 j), i64 (m2 j), i64 (m3 j), i64 (m4 j)]))] : List (Option Chunk)))) x.1 x.2.1 x.2.2.1 x.2.2.2.1 x.2.2.2.2.1 x.2.2.2.2.2.1 x.2.2.2.2.2.2.1 x.2.2.2.2.2.2.2.1 x.2.2.2.2.2.2.2.2.1 x.2.2.2.2.2.2.2.2.2.1 x.2.2.2.2.2.2.2.2.2.2.1 x.2.2.2.2.2.2.2.2.2.2.2.1 x.2.2.2.2.2.2.2.2.2.2.2.2.1 x.2.2.2.2.2.2.2.2.2.2.2.2.2.1 x.2.2.2.2.2.2.2.2.2.2.2.2.2.2.1 x.2.2.2.2.2.2.2.2.2.2.2.2.2.2.2)
def d_OfN (t : List V × List (Option Chunk)) : a_OfN := ((vI ((vAg (t.1.getD 0 .junk)).getD 0 .junk)), (vI ((vAg (t.1.getD 0 .junk)).getD 1 .junk)), (vS ((vAg (t.1.getD 0 .junk)).getD 2 .junk)), (vRoN ((vAg (t.1.getD 0 .junk)).getD 3 .junk)), (fun j => (vI (((vRoF ((vAg (t.1.getD 0 .junk)).getD 3 .junk)) j).getD 0 .junk))), (fun j => (vI (((vRoF ((vAg (t.1.getD 0 .junk)).getD 3 .junk)) j).getD 1 .junk))), (fun j => (vS (((vRoF ((vAg (t.1.getD 0 .junk)).getD 3 .junk)) j).getD 2 .junk))), (fun j => (vRoN (((vRoF ((vAg (t.1.getD 0 .junk)).getD 3 .junk)) j).getD 3 .junk))), (fun j => (vRoF (((vRoF ((vAg (t.1.getD 0 .junk)).getD 3 .junk)) j).getD 3 .junk))), (smN (t.2.getD 0 none)), (smH (t.2.getD 0 none)), (fun j => (vI ((vAg ((smF (t.2.getD 0 none)) j)).getD 0 .junk))), (fun j => (vI ((vAg ((smF (t.2.getD 0 none)) j)).getD 1 .junk))), (fun j => (vI ((vAg ((smF (t.2.getD 0 none)) j)).getD 2 .junk))), (fun j => (vI ((vAg ((smF (t.2.getD 0 none)) j)).getD 3 .junk))), (fun j => (vI ((vAg ((smF (t.2.getD 0 none)) j)).getD 4 .junk))))
theorem i_OfN : ∀ x y, A_OfN x = A_OfN y → x = y := fun x y h => (congrArg d_OfN h :)
def R_OfN : g_OfN → CRes := (fun z => (fun (b : Bool) (d0 : Int) (d1 : Int) (d2 : Int) (d3 : Int) (d4 : Int) (e : Int) (mn : Nat) (mh : ByteArray → Bool) (m0 : ByteArray → Int) (m1 : ByteArray → Int) (m2 : ByteArray → Int) (m3 : ByteArray → Int) (m4 : ByteArray → Int) => .ret (.tup [bo b, .agg [i64 d0, i64 d1, i64 d2, i64 d3, i64 d4], i64 e]) [some (.smap mn mh (fun j => .agg [i64 (m0 j), i64 (m1 j), i64 (m2 j), i64 (m3 j), i64 (m4 j)]))]) z.1 z.2.1 z.2.2.1 z.2.2.2.1 z.2.2.2.2.1 z.2.2.2.2.2.1 z.2.2.2.2.2.2.1 z.2.2.2.2.2.2.2.1 z.2.2.2.2.2.2.2.2.1 z.2.2.2.2.2.2.2.2.2.1 z.2.2.2.2.2.2.2.2.2.2.1 z.2.2.2.2.2.2.2.2.2.2.2.1 z.2.2.2.2.2.2.2.2.2.2.2.2.1 z.2.2.2.2.2.2.2.2.2.2.2.2.2 : (Bool × Int × Int × Int × Int × Int × Int × Nat × (ByteArray → Bool) × (ByteArray → Int) × (ByteArray → Int) × (ByteArray → Int) × (ByteArray → Int) × (ByteArray → Int)) → CRes)
def x_OfN (z : g_OfN) (k : CRes → Option Ans) : Option Ans := k (R_OfN z)
theorem xe_OfN : ∀ z k, x_OfN z k = k (R_OfN z) := fun z k => rfl
def t_OfN {β : Type} (c_kids : a_kids → Option g_kids) (c_Of : a_Of → Option g_Of) (c_number : a_number → Option g_number) (c_found : a_found → Option g_found) (c_Tele : a_Tele → Option g_Tele) (c_binary : a_binary → Option g_binary) (x : a_OfN) (dn : g_OfN → Option β) : Option β :=
 (c_kids ((x.1, x.2.1, x.2.2.1, x.2.2.2.1, fun (j : Nat) => [i64 (x.2.2.2.2.1 j), i64 (x.2.2.2.2.2.1 j), st (x.2.2.2.2.2.2.1 j), V.ro 4 (x.2.2.2.2.2.2.2.1 j) (x.2.2.2.2.2.2.2.2.1 j)]))).bind fun z5 =>
  if (z5 != ((x.2.2.2.1 : Nat) : Int)) = true then
   dn ((false, (0 : Int), (0 : Int), (0 : Int), (0 : Int), (0 : Int), (7 : Int), x.2.2.2.2.2.2.2.2.2))
  else
   if decide ((0 : Int) < ((x.2.2.2.1 : Nat) : Int)) = true then
    if (0 : Int) ≤ (0 : Int) ∧ (0 : Int) < ((x.2.2.2.1 : Nat) : Int) then
     (c_Of ((x.2.2.2.2.1 0, x.2.2.2.2.2.1 0, x.2.2.2.2.2.2.1 0, x.2.2.2.2.2.2.2.1 0, x.2.2.2.2.2.2.2.2.1 0, x.2.2.2.2.2.2.2.2.2))).bind fun z18 =>
      if (z18.2.2.2.2.2.2.1 != (0 : Int)) = true then
       dn ((false, (0 : Int), (0 : Int), (0 : Int), (0 : Int), (0 : Int), z18.2.2.2.2.2.2))
      else
       if decide ((1 : Int) < ((x.2.2.2.1 : Nat) : Int)) = true then
        if (0 : Int) ≤ (1 : Int) ∧ (1 : Int) < ((x.2.2.2.1 : Nat) : Int) then
         (c_Of ((x.2.2.2.2.1 1, x.2.2.2.2.2.1 1, x.2.2.2.2.2.2.1 1, x.2.2.2.2.2.2.2.1 1, x.2.2.2.2.2.2.2.2.1 1, z18.2.2.2.2.2.2.2))).bind fun z31 =>
          if (z31.2.2.2.2.2.2.1 != (0 : Int)) = true then
           dn ((false, (0 : Int), (0 : Int), (0 : Int), (0 : Int), (0 : Int), z31.2.2.2.2.2.2))
          else
           if decide ((2 : Int) < ((x.2.2.2.1 : Nat) : Int)) = true then
            if (0 : Int) ≤ (2 : Int) ∧ (2 : Int) < ((x.2.2.2.1 : Nat) : Int) then
             (c_Of ((x.2.2.2.2.1 2, x.2.2.2.2.2.1 2, x.2.2.2.2.2.2.1 2, x.2.2.2.2.2.2.2.1 2, x.2.2.2.2.2.2.2.2.1 2, z31.2.2.2.2.2.2.2))).bind fun z44 =>
              none
            else
             none
           else
            if (x.1 == (15 : Int)) = true then
             (c_number ((x.1, x.2.1, x.2.2.1, x.2.2.2.1, fun (j : Nat) => [i64 (x.2.2.2.2.1 j), i64 (x.2.2.2.2.2.1 j), st (x.2.2.2.2.2.2.1 j), V.ro 4 (x.2.2.2.2.2.2.2.1 j) (x.2.2.2.2.2.2.2.2.1 j)]))).bind fun z50 =>
              dn ((false, z50.1, z50.2.1, z50.2.2.1, z50.2.2.2.1, z50.2.2.2.2.1, z50.2.2.2.2.2, z31.2.2.2.2.2.2.2))
            else
             if (x.1 == (16 : Int)) = true then
              dn ((true, (0 : Int), (0 : Int), (0 : Int), (0 : Int), (0 : Int), (0 : Int), z31.2.2.2.2.2.2.2))
             else
              if (x.1 == (17 : Int)) = true then
               (c_found ((if z31.2.2.2.2.2.2.2.2.1 (x.2.2.1) = true then z31.2.2.2.2.2.2.2.2.2.1 (x.2.2.1) else (0 : Int), if z31.2.2.2.2.2.2.2.2.1 (x.2.2.1) = true then z31.2.2.2.2.2.2.2.2.2.2.1 (x.2.2.1) else (0 : Int), if z31.2.2.2.2.2.2.2.2.1 (x.2.2.1) = true then z31.2.2.2.2.2.2.2.2.2.2.2.1 (x.2.2.1) else (0 : Int), if z31.2.2.2.2.2.2.2.2.1 (x.2.2.1) = true then z31.2.2.2.2.2.2.2.2.2.2.2.2.1 (x.2.2.1) else (0 : Int), if z31.2.2.2.2.2.2.2.2.1 (x.2.2.1) = true then z31.2.2.2.2.2.2.2.2.2.2.2.2.2 (x.2.2.1) else (0 : Int), z31.2.2.2.2.2.2.2.2.1 (x.2.2.1)))).bind fun z57 =>
                dn ((z57.1, z57.2.1, z57.2.2.1, z57.2.2.2.1, z57.2.2.2.2.1, z57.2.2.2.2.2.1, z57.2.2.2.2.2.2, z31.2.2.2.2.2.2.2))
              else
               if (x.1 == (18 : Int)) = true then
                (c_Tele (x.2.2.1)).bind fun z59 =>
                 (c_found (z59.2)).bind fun z66 =>
                  dn ((z66.1, z66.2.1, z66.2.2.1, z66.2.2.2.1, z66.2.2.2.2.1, z66.2.2.2.2.2.1, z66.2.2.2.2.2.2, z31.2.2.2.2.2.2.2))
               else
                if (x.1 == (19 : Int)) = true then
                 if (!z18.1 == (ByteArray.toList (x.2.2.1) == ByteArray.toList { data := #[(33 : UInt8)] })) = true then
                  dn ((false, (0 : Int), (0 : Int), (0 : Int), (0 : Int), (0 : Int), (12 : Int), z31.2.2.2.2.2.2.2))
                 else
                  dn ((z18.1, z18.2.1, z18.2.2.1, z18.2.2.2.1, z18.2.2.2.2.1, z18.2.2.2.2.2.1, (0 : Int), z31.2.2.2.2.2.2.2))
                else
                 (c_binary ((x.2.2.1, z18.1, z31.1, z18.2.1, z18.2.2.1, z18.2.2.2.1, z18.2.2.2.2.1, z18.2.2.2.2.2.1, z31.2.1, z31.2.2.1, z31.2.2.2.1, z31.2.2.2.2.1, z31.2.2.2.2.2.1))).bind fun z80 =>
                  dn ((z80.1, z80.2.1, z80.2.2.1, z80.2.2.2.1, z80.2.2.2.2.1, z80.2.2.2.2.2.1, z80.2.2.2.2.2.2, z31.2.2.2.2.2.2.2))
        else
         none
       else
        if (x.1 == (15 : Int)) = true then
         (c_number ((x.1, x.2.1, x.2.2.1, x.2.2.2.1, fun (j : Nat) => [i64 (x.2.2.2.2.1 j), i64 (x.2.2.2.2.2.1 j), st (x.2.2.2.2.2.2.1 j), V.ro 4 (x.2.2.2.2.2.2.2.1 j) (x.2.2.2.2.2.2.2.2.1 j)]))).bind fun z86 =>
          dn ((false, z86.1, z86.2.1, z86.2.2.1, z86.2.2.2.1, z86.2.2.2.2.1, z86.2.2.2.2.2, z18.2.2.2.2.2.2.2))
        else
         if (x.1 == (16 : Int)) = true then
          dn ((true, (0 : Int), (0 : Int), (0 : Int), (0 : Int), (0 : Int), (0 : Int), z18.2.2.2.2.2.2.2))
         else
          if (x.1 == (17 : Int)) = true then
           (c_found ((if z18.2.2.2.2.2.2.2.2.1 (x.2.2.1) = true then z18.2.2.2.2.2.2.2.2.2.1 (x.2.2.1) else (0 : Int), if z18.2.2.2.2.2.2.2.2.1 (x.2.2.1) = true then z18.2.2.2.2.2.2.2.2.2.2.1 (x.2.2.1) else (0 : Int), if z18.2.2.2.2.2.2.2.2.1 (x.2.2.1) = true then z18.2.2.2.2.2.2.2.2.2.2.2.1 (x.2.2.1) else (0 : Int), if z18.2.2.2.2.2.2.2.2.1 (x.2.2.1) = true then z18.2.2.2.2.2.2.2.2.2.2.2.2.1 (x.2.2.1) else (0 : Int), if z18.2.2.2.2.2.2.2.2.1 (x.2.2.1) = true then z18.2.2.2.2.2.2.2.2.2.2.2.2.2 (x.2.2.1) else (0 : Int), z18.2.2.2.2.2.2.2.2.1 (x.2.2.1)))).bind fun z93 =>
            dn ((z93.1, z93.2.1, z93.2.2.1, z93.2.2.2.1, z93.2.2.2.2.1, z93.2.2.2.2.2.1, z93.2.2.2.2.2.2, z18.2.2.2.2.2.2.2))
          else
           if (x.1 == (18 : Int)) = true then
            (c_Tele (x.2.2.1)).bind fun z95 =>
             (c_found (z95.2)).bind fun z102 =>
              dn ((z102.1, z102.2.1, z102.2.2.1, z102.2.2.2.1, z102.2.2.2.2.1, z102.2.2.2.2.2.1, z102.2.2.2.2.2.2, z18.2.2.2.2.2.2.2))
           else
            if (x.1 == (19 : Int)) = true then
             if (!z18.1 == (ByteArray.toList (x.2.2.1) == ByteArray.toList { data := #[(33 : UInt8)] })) = true then
              dn ((false, (0 : Int), (0 : Int), (0 : Int), (0 : Int), (0 : Int), (12 : Int), z18.2.2.2.2.2.2.2))
             else
              dn ((z18.1, z18.2.1, z18.2.2.1, z18.2.2.2.1, z18.2.2.2.2.1, z18.2.2.2.2.2.1, (0 : Int), z18.2.2.2.2.2.2.2))
            else
             (c_binary ((x.2.2.1, z18.1, false, z18.2.1, z18.2.2.1, z18.2.2.2.1, z18.2.2.2.2.1, z18.2.2.2.2.2.1, (0 : Int), (0 : Int), (0 : Int), (0 : Int), (0 : Int)))).bind fun z116 =>
              dn ((z116.1, z116.2.1, z116.2.2.1, z116.2.2.2.1, z116.2.2.2.2.1, z116.2.2.2.2.2.1, z116.2.2.2.2.2.2, z18.2.2.2.2.2.2.2))
    else
     none
   else
    if (x.1 == (15 : Int)) = true then
     (c_number ((x.1, x.2.1, x.2.2.1, x.2.2.2.1, fun (j : Nat) => [i64 (x.2.2.2.2.1 j), i64 (x.2.2.2.2.2.1 j), st (x.2.2.2.2.2.2.1 j), V.ro 4 (x.2.2.2.2.2.2.2.1 j) (x.2.2.2.2.2.2.2.2.1 j)]))).bind fun z122 =>
      dn ((false, z122.1, z122.2.1, z122.2.2.1, z122.2.2.2.1, z122.2.2.2.2.1, z122.2.2.2.2.2, x.2.2.2.2.2.2.2.2.2))
    else
     if (x.1 == (16 : Int)) = true then
      dn ((true, (0 : Int), (0 : Int), (0 : Int), (0 : Int), (0 : Int), (0 : Int), x.2.2.2.2.2.2.2.2.2))
     else
      if (x.1 == (17 : Int)) = true then
       (c_found ((if x.2.2.2.2.2.2.2.2.2.2.1 (x.2.2.1) = true then x.2.2.2.2.2.2.2.2.2.2.2.1 (x.2.2.1) else (0 : Int), if x.2.2.2.2.2.2.2.2.2.2.1 (x.2.2.1) = true then x.2.2.2.2.2.2.2.2.2.2.2.2.1 (x.2.2.1) else (0 : Int), if x.2.2.2.2.2.2.2.2.2.2.1 (x.2.2.1) = true then x.2.2.2.2.2.2.2.2.2.2.2.2.2.1 (x.2.2.1) else (0 : Int), if x.2.2.2.2.2.2.2.2.2.2.1 (x.2.2.1) = true then x.2.2.2.2.2.2.2.2.2.2.2.2.2.2.1 (x.2.2.1) else (0 : Int), if x.2.2.2.2.2.2.2.2.2.2.1 (x.2.2.1) = true then x.2.2.2.2.2.2.2.2.2.2.2.2.2.2.2 (x.2.2.1) else (0 : Int), x.2.2.2.2.2.2.2.2.2.2.1 (x.2.2.1)))).bind fun z129 =>
        dn ((z129.1, z129.2.1, z129.2.2.1, z129.2.2.2.1, z129.2.2.2.2.1, z129.2.2.2.2.2.1, z129.2.2.2.2.2.2, x.2.2.2.2.2.2.2.2.2))
      else
       if (x.1 == (18 : Int)) = true then
        (c_Tele (x.2.2.1)).bind fun z131 =>
         (c_found (z131.2)).bind fun z138 =>
          dn ((z138.1, z138.2.1, z138.2.2.1, z138.2.2.2.1, z138.2.2.2.2.1, z138.2.2.2.2.2.1, z138.2.2.2.2.2.2, x.2.2.2.2.2.2.2.2.2))
       else
        if (x.1 == (19 : Int)) = true then
         if (!false == (ByteArray.toList (x.2.2.1) == ByteArray.toList { data := #[(33 : UInt8)] })) = true then
          dn ((false, (0 : Int), (0 : Int), (0 : Int), (0 : Int), (0 : Int), (12 : Int), x.2.2.2.2.2.2.2.2.2))
         else
          dn ((false, (0 : Int), (0 : Int), (0 : Int), (0 : Int), (0 : Int), (0 : Int), x.2.2.2.2.2.2.2.2.2))
        else
         (c_binary ((x.2.2.1, false, false, (0 : Int), (0 : Int), (0 : Int), (0 : Int), (0 : Int), (0 : Int), (0 : Int), (0 : Int), (0 : Int), (0 : Int)))).bind fun z152 =>
          dn ((z152.1, z152.2.1, z152.2.2.1, z152.2.2.2.1, z152.2.2.2.2.1, z152.2.2.2.2.2.1, z152.2.2.2.2.2.2, x.2.2.2.2.2.2.2.2.2))
theorem n_OfN {β : Type} (c_kids : a_kids → Option g_kids) (c_Of : a_Of → Option g_Of) (c_number : a_number → Option g_number) (c_found : a_found → Option g_found) (c_Tele : a_Tele → Option g_Tele) (c_binary : a_binary → Option g_binary) (x : a_OfN) (dn : g_OfN → Option β) : t_OfN c_kids c_Of c_number c_found c_Tele c_binary x dn = (t_OfN c_kids c_Of c_number c_found c_Tele c_binary x some).bind dn := by
  unfold t_OfN
  repeat' first | exact free_none | refine free_bind (fun z => ?_) | refine free_ite ?_ ?_ | refine free_sum (fun z => ?_) (fun z => ?_) | rfl
theorem r_OfN (c_kids : a_kids → Option g_kids) (c_Of : a_Of → Option g_Of) (c_number : a_number → Option g_number) (c_found : a_found → Option g_found) (c_Tele : a_Tele → Option g_Tele) (c_binary : a_binary → Option g_binary) (x : a_OfN) : callK E5 (ftab 29 (fun _ _ => true) A_kids x_kids c_kids (ftab 12 (fun _ _ => true) A_Of x_Of c_Of (ftab 30 (fun _ _ => true) A_number x_number c_number (ftab 31 (fun _ _ => true) A_found x_found c_found (ftab 15 (fun _ _ => true) A_Tele x_Tele c_Tele (ftab 32 (fun _ _ => true) A_binary x_binary c_binary ca0)))))) (loU E5 (ftab 29 (fun _ _ => true) A_kids x_kids c_kids (ftab 12 (fun _ _ => true) A_Of x_Of c_Of (ftab 30 (fun _ _ => true) A_number x_number c_number (ftab 31 (fun _ _ => true) A_found x_found c_found (ftab 15 (fun _ _ => true) A_Tele x_Tele c_Tele (ftab 32 (fun _ _ => true) A_binary x_binary c_binary ca0)))))) [0] lo0 20) 12 (A_OfN x).1 (A_OfN x).2 K = t_OfN (fun x => viaF A_kids c_kids (A_kids x)) (fun x => viaF A_Of c_Of (A_Of x)) (fun x => viaF A_number c_number (A_number x)) (fun x => viaF A_found c_found (A_found x)) (fun x => viaF A_Tele c_Tele (A_Tele x)) (fun x => viaF A_binary c_binary (A_binary x)) x (fun z => some (.c (R_OfN z))) := by kernel_rfl
theorem s_OfN (c_kids : a_kids → Option g_kids) (h_kids : ∀ x z, c_kids x = some z → SC E5 29 (A_kids x).1 (A_kids x).2 (R_kids z)) (c_Of : a_Of → Option g_Of) (h_Of : ∀ x z, c_Of x = some z → SC E5 12 (A_Of x).1 (A_Of x).2 (R_Of z)) (c_number : a_number → Option g_number) (h_number : ∀ x z, c_number x = some z → SC E5 30 (A_number x).1 (A_number x).2 (R_number z)) (c_found : a_found → Option g_found) (h_found : ∀ x z, c_found x = some z → SC E5 31 (A_found x).1 (A_found x).2 (R_found z)) (c_Tele : a_Tele → Option g_Tele) (h_Tele : ∀ x z, c_Tele x = some z → SC E5 15 (A_Tele x).1 (A_Tele x).2 (R_Tele z)) (c_binary : a_binary → Option g_binary) (h_binary : ∀ x z, c_binary x = some z → SC E5 32 (A_binary x).1 (A_binary x).2 (R_binary z)) (q : Nat) (x : a_OfN) (z : g_OfN) (h : t_OfN c_kids c_Of c_number c_found c_Tele c_binary x some = some z) : SC E5 12 (A_OfN x).1 (A_OfN x).2 (R_OfN z) := by
  refine SC.of hW5 hX5 (ftab_cons h_kids xe_kids (ftab_cons h_Of xe_Of (ftab_cons h_number xe_number (ftab_cons h_found xe_found (ftab_cons h_Tele xe_Tele (ftab_cons h_binary xe_binary ca0_sound)))))) (loU_sound (ftab_cons h_kids xe_kids (ftab_cons h_Of xe_Of (ftab_cons h_number xe_number (ftab_cons h_found xe_found (ftab_cons h_Tele xe_Tele (ftab_cons h_binary xe_binary ca0_sound)))))) hX5 lo0_sound 20) ((r_OfN c_kids c_Of c_number c_found c_Tele c_binary x).trans ?_)
  rw [via_eq i_kids c_kids, via_eq i_Of c_Of, via_eq i_number c_number, via_eq i_found c_found, via_eq i_Tele c_Tele, via_eq i_binary c_binary, n_OfN, h]; rfl
open Classical in
noncomputable def Of : Nat → a_Of → Option g_Of
  | 0, _ => none
  | q + 1, x => if OpenN x.2.2.2.2.1 then t_OfN (kids q) (Of q) (number q) (found q) (Tele q) (binary q) (x.1, x.2.1, x.2.2.1, x.2.2.2.1, opK x.2.2.2.2.1, opN x.2.2.2.2.1, opS x.2.2.2.2.1, opM x.2.2.2.2.1, opF x.2.2.2.2.1, x.2.2.2.2.2) some else none
theorem sc_Of : ∀ (q : Nat) (x : a_Of) (z : g_Of), Of q x = some z → SC E5 12 (A_Of x).1 (A_Of x).2 (R_Of z) := by
  intro q
  induction q with
  | zero => intro x z h; cases h
  | succ q ih =>
    intro x z h
    unfold Of at h
    split at h
    · rename_i hO
      have this := s_OfN (kids q) (sc_kids q) (Of q) ih (number q) (sc_number q) (found q) (sc_found q) (Tele q) (sc_Tele q) (binary q) (sc_binary q) q (x.1, x.2.1, x.2.2.1, x.2.2.2.1, opK x.2.2.2.2.1, opN x.2.2.2.2.1, opS x.2.2.2.2.1, opM x.2.2.2.2.1, opF x.2.2.2.2.1, x.2.2.2.2.2) z h
      unfold A_OfN at this
      unfold A_Of
      simp only at this ⊢
      rw [open_eq hO] at this
      exact this
    · cases h
/-! ### rleaf (34) -/
abbrev a_rleaf : Type := Int × Int × ByteArray × Nat × (Nat → List V) × Nat × (Nat → ByteArray) × (Nat → Int) × (Nat → Int) × (Nat → Int) × (Nat → Int) × (Nat → Int)
abbrev g_rleaf : Type := Bool × Int × Int × Int × Int × Int × Int
def A_rleaf : a_rleaf → List V × List (Option Chunk) := (fun x => (fun (nk : Int) (nn : Int) (ns : ByteArray) (nm : Nat) (nf : Nat → List V) (vn : Nat) (vs : Nat → ByteArray) (v0 : Nat → Int) (v1 : Nat → Int) (v2 : Nat → Int) (v3 : Nat → Int) (v4 : Nat → Int) => (([.agg [i64 nk, i64 nn, st ns, .ro 4 nm nf], .ro 6 vn (fun j => [st (vs j), i64 (v0 j), i64 (v1 j), i64 (v2 j), i64 (v3 j), i64 (v4 j)])] : List V), ([] : List (Option Chunk)))) x.1 x.2.1 x.2.2.1 x.2.2.2.1 x.2.2.2.2.1 x.2.2.2.2.2.1 x.2.2.2.2.2.2.1 x.2.2.2.2.2.2.2.1 x.2.2.2.2.2.2.2.2.1 x.2.2.2.2.2.2.2.2.2.1 x.2.2.2.2.2.2.2.2.2.2.1 x.2.2.2.2.2.2.2.2.2.2.2)
def d_rleaf (t : List V × List (Option Chunk)) : a_rleaf := ((vI ((vAg (t.1.getD 0 .junk)).getD 0 .junk)), (vI ((vAg (t.1.getD 0 .junk)).getD 1 .junk)), (vS ((vAg (t.1.getD 0 .junk)).getD 2 .junk)), (vRoN ((vAg (t.1.getD 0 .junk)).getD 3 .junk)), (vRoF ((vAg (t.1.getD 0 .junk)).getD 3 .junk)), (vRoN (t.1.getD 1 .junk)), (fun j => (vS (((vRoF (t.1.getD 1 .junk)) j).getD 0 .junk))), (fun j => (vI (((vRoF (t.1.getD 1 .junk)) j).getD 1 .junk))), (fun j => (vI (((vRoF (t.1.getD 1 .junk)) j).getD 2 .junk))), (fun j => (vI (((vRoF (t.1.getD 1 .junk)) j).getD 3 .junk))), (fun j => (vI (((vRoF (t.1.getD 1 .junk)) j).getD 4 .junk))), (fun j => (vI (((vRoF (t.1.getD 1 .junk)) j).getD 5 .junk))))
theorem i_rleaf : ∀ x y, A_rleaf x = A_rleaf y → x = y := fun x y h => (congrArg d_rleaf h :)
def R_rleaf : g_rleaf → CRes := (fun z => (fun (b : Bool) (d0 : Int) (d1 : Int) (d2 : Int) (d3 : Int) (d4 : Int) (e : Int) => .ret (.tup [bo b, .agg [i64 d0, i64 d1, i64 d2, i64 d3, i64 d4], i64 e]) []) z.1 z.2.1 z.2.2.1 z.2.2.2.1 z.2.2.2.2.1 z.2.2.2.2.2.1 z.2.2.2.2.2.2 : (Bool × Int × Int × Int × Int × Int × Int) → CRes)
def x_rleaf (z : g_rleaf) (k : CRes → Option Ans) : Option Ans := k (R_rleaf z)
theorem xe_rleaf : ∀ z k, x_rleaf z k = k (R_rleaf z) := fun z k => rfl
def t_rleaf {β : Type} (c_rliteral : a_rliteral → Option g_rliteral) (c_Find : a_Find → Option g_Find) (c_RTele : a_RTele → Option g_RTele) (x : a_rleaf) (dn : g_rleaf → Option β) : Option β :=
 if (x.1 == (15 : Int)) = true then
  (c_rliteral ((x.1, x.2.1, x.2.2.1, x.2.2.2.1, x.2.2.2.2.1))).bind fun z5 =>
   dn ((false, z5))
 else
  if (x.1 == (16 : Int)) = true then
   dn ((true, (0 : Int), (0 : Int), (0 : Int), (0 : Int), (0 : Int), (0 : Int)))
  else
   if (x.1 == (17 : Int)) = true then
    (c_Find ((x.2.2.2.2.2.1, x.2.2.2.2.2.2.1, x.2.2.2.2.2.2.2.1, x.2.2.2.2.2.2.2.2.1, x.2.2.2.2.2.2.2.2.2.1, x.2.2.2.2.2.2.2.2.2.2.1, x.2.2.2.2.2.2.2.2.2.2.2, x.2.2.1))).bind fun z14 =>
     if decide (z14 < (0 : Int)) = true then
      dn ((false, (0 : Int), (0 : Int), (0 : Int), (0 : Int), (0 : Int), (3 : Int)))
     else
      if (0 : Int) ≤ z14 ∧ z14 < ((x.2.2.2.2.2.1 : Nat) : Int) then
       dn ((false, x.2.2.2.2.2.2.2.1 (Int.toNat z14), x.2.2.2.2.2.2.2.2.1 (Int.toNat z14), x.2.2.2.2.2.2.2.2.2.1 (Int.toNat z14), x.2.2.2.2.2.2.2.2.2.2.1 (Int.toNat z14), x.2.2.2.2.2.2.2.2.2.2.2 (Int.toNat z14), (0 : Int)))
      else
       none
   else
    (c_RTele (x.2.2.1)).bind fun z16 =>
     if (!z16.2.2.2.2.2.2) = true then
      dn ((false, (0 : Int), (0 : Int), (0 : Int), (0 : Int), (0 : Int), (3 : Int)))
     else
      dn ((false, z16.2.1, z16.2.2.1, z16.2.2.2.1, z16.2.2.2.2.1, z16.2.2.2.2.2.1, (0 : Int)))
theorem n_rleaf {β : Type} (c_rliteral : a_rliteral → Option g_rliteral) (c_Find : a_Find → Option g_Find) (c_RTele : a_RTele → Option g_RTele) (x : a_rleaf) (dn : g_rleaf → Option β) : t_rleaf c_rliteral c_Find c_RTele x dn = (t_rleaf c_rliteral c_Find c_RTele x some).bind dn := by
  unfold t_rleaf
  repeat' first | exact free_none | refine free_bind (fun z => ?_) | refine free_ite ?_ ?_ | refine free_sum (fun z => ?_) (fun z => ?_) | rfl
theorem r_rleaf (c_rliteral : a_rliteral → Option g_rliteral) (c_Find : a_Find → Option g_Find) (c_RTele : a_RTele → Option g_RTele) (x : a_rleaf) : callK E5 (ftab 49 (fun _ _ => true) A_rliteral x_rliteral c_rliteral (ftab 28 (fun _ _ => true) A_Find x_Find c_Find (ftab 16 (fun _ _ => true) A_RTele x_RTele c_RTele ca0))) lo0 34 (A_rleaf x).1 (A_rleaf x).2 K = t_rleaf (fun x => viaF A_rliteral c_rliteral (A_rliteral x)) (fun x => viaF A_Find c_Find (A_Find x)) (fun x => viaF A_RTele c_RTele (A_RTele x)) x (fun z => some (.c (R_rleaf z))) := by kernel_rfl
theorem s_rleaf (c_rliteral : a_rliteral → Option g_rliteral) (h_rliteral : ∀ x z, c_rliteral x = some z → SC E5 49 (A_rliteral x).1 (A_rliteral x).2 (R_rliteral z)) (c_Find : a_Find → Option g_Find) (h_Find : ∀ x z, c_Find x = some z → SC E5 28 (A_Find x).1 (A_Find x).2 (R_Find z)) (c_RTele : a_RTele → Option g_RTele) (h_RTele : ∀ x z, c_RTele x = some z → SC E5 16 (A_RTele x).1 (A_RTele x).2 (R_RTele z)) (q : Nat) (x : a_rleaf) (z : g_rleaf) (h : t_rleaf c_rliteral c_Find c_RTele x some = some z) : SC E5 34 (A_rleaf x).1 (A_rleaf x).2 (R_rleaf z) := by
  refine SC.of hW5 hX5 (ftab_cons h_rliteral xe_rliteral (ftab_cons h_Find xe_Find (ftab_cons h_RTele xe_RTele ca0_sound))) lo0_sound ((r_rleaf c_rliteral c_Find c_RTele x).trans ?_)
  rw [via_eq i_rliteral c_rliteral, via_eq i_Find c_Find, via_eq i_RTele c_RTele, n_rleaf, h]; rfl
noncomputable def rleaf (q : Nat) (x : a_rleaf) : Option g_rleaf := t_rleaf (rliteral q) (Find q) (RTele q) x some
theorem sc_rleaf (q : Nat) : ∀ (x : a_rleaf) (z : g_rleaf), rleaf q x = some z → SC E5 34 (A_rleaf x).1 (A_rleaf x).2 (R_rleaf z) := fun x z h => s_rleaf (rliteral q) (sc_rliteral q) (Find q) (sc_Find q) (RTele q) (sc_RTele q) q x z h
/-! ### ROf (14) -/
abbrev a_ROf : Type := Int × Int × ByteArray × Nat × (Nat → List V) × Nat × (Nat → ByteArray) × (Nat → Int) × (Nat → Int) × (Nat → Int) × (Nat → Int) × (Nat → Int)
abbrev g_ROf : Type := Bool × Int × Int × Int × Int × Int × Int
def A_ROf : a_ROf → List V × List (Option Chunk) := (fun x => (fun (nk : Int) (nn : Int) (ns : ByteArray) (nm : Nat) (nf : Nat → List V) (vn : Nat) (vs : Nat → ByteArray) (v0 : Nat → Int) (v1 : Nat → Int) (v2 : Nat → Int) (v3 : Nat → Int) (v4 : Nat → Int) => (([.agg [i64 nk, i64 nn, st ns, .ro 4 nm nf], .ro 6 vn (fun j => [st (vs j), i64 (v0 j), i64 (v1 j), i64 (v2 j), i64 (v3 j), i64 (v4 j)])] : List V), ([] : List (Option Chunk)))) x.1 x.2.1 x.2.2.1 x.2.2.2.1 x.2.2.2.2.1 x.2.2.2.2.2.1 x.2.2.2.2.2.2.1 x.2.2.2.2.2.2.2.1 x.2.2.2.2.2.2.2.2.1 x.2.2.2.2.2.2.2.2.2.1 x.2.2.2.2.2.2.2.2.2.2.1 x.2.2.2.2.2.2.2.2.2.2.2)
def d_ROf (t : List V × List (Option Chunk)) : a_ROf := ((vI ((vAg (t.1.getD 0 .junk)).getD 0 .junk)), (vI ((vAg (t.1.getD 0 .junk)).getD 1 .junk)), (vS ((vAg (t.1.getD 0 .junk)).getD 2 .junk)), (vRoN ((vAg (t.1.getD 0 .junk)).getD 3 .junk)), (vRoF ((vAg (t.1.getD 0 .junk)).getD 3 .junk)), (vRoN (t.1.getD 1 .junk)), (fun j => vS ((vRoF (t.1.getD 1 .junk) j).getD 0 .junk)), (fun j => vI ((vRoF (t.1.getD 1 .junk) j).getD 1 .junk)), (fun j => vI ((vRoF (t.1.getD 1 .junk) j).getD 2 .junk)), (fun j => vI ((vRoF (t.1.getD 1 .junk) j).getD 3 .junk)), (fun j => vI ((vRoF (t.1.getD 1 .junk) j).getD 4 .junk)), (fun j => vI ((vRoF (t.1.getD 1 .junk) j).getD 5 .junk)))
theorem i_ROf : ∀ x y, A_ROf x = A_ROf y → x = y := fun x y h => (congrArg d_ROf h :)
def R_ROf : g_ROf → CRes := (fun z => (fun (b : Bool) (d0 : Int) (d1 : Int) (d2 : Int) (d3 : Int) (d4 : Int) (e : Int) => .ret (.tup [bo b, .agg [i64 d0, i64 d1, i64 d2, i64 d3, i64 d4], i64 e]) []) z.1 z.2.1 z.2.2.1 z.2.2.2.1 z.2.2.2.2.1 z.2.2.2.2.2.1 z.2.2.2.2.2.2 : (Bool × Int × Int × Int × Int × Int × Int) → CRes)
def x_ROf (z : g_ROf) (k : CRes → Option Ans) : Option Ans := k (R_ROf z)
theorem xe_ROf : ∀ z k, x_ROf z k = k (R_ROf z) := fun z k => rfl
/-! ### ROfN (14) -/
abbrev a_ROfN : Type := Int × Int × ByteArray × Nat × (Nat → Int) × (Nat → Int) × (Nat → ByteArray) × (Nat → Nat) × (Nat → Nat → List V) × Nat × (Nat → ByteArray) × (Nat → Int) × (Nat → Int) × (Nat → Int) × (Nat → Int) × (Nat → Int)
abbrev g_ROfN : Type := Bool × Int × Int × Int × Int × Int × Int
def A_ROfN : a_ROfN → List V × List (Option Chunk) := (fun x => (fun (nk : Int) (nn : Int) (ns : ByteArray) (nm : Nat) (ek : Nat → Int) (en : Nat → Int) (es : Nat → ByteArray) (em : Nat → Nat) (ef : Nat → Nat → List V) (vn : Nat) (vs : Nat → ByteArray) (v0 : Nat → Int) (v1 : Nat → Int) (v2 : Nat → Int) (v3 : Nat → Int) (v4 : Nat → Int) => (([.agg [i64 nk, i64 nn, st ns, .ro 4 nm (fun j => [i64 (ek j), i64 (en j), st (es j), .ro 4 (em j) (ef j)])], .ro 6 vn (fun j => [st (vs j), i64 (v0 j), i64 (v1 j), i64 (v2 j), i64 (v3 j), i64 (v4 j)])] : List V), ([] : List (Option Chunk)))) x.1 x.2.1 x.2.2.1 x.2.2.2.1 x.2.2.2.2.1 x.2.2.2.2.2.1 x.2.2.2.2.2.2.1 x.2.2.2.2.2.2.2.1 x.2.2.2.2.2.2.2.2.1 x.2.2.2.2.2.2.2.2.2.1 x.2.2.2.2.2.2.2.2.2.2.1 x.2.2.2.2.2.2.2.2.2.2.2.1 x.2.2.2.2.2.2.2.2.2.2.2.2.1 x.2.2.2.2.2.2.2.2.2.2.2.2.2.1 x.2.2.2.2.2.2.2.2.2.2.2.2.2.2.1 x.2.2.2.2.2.2.2.2.2.2.2.2.2.2.2)
def d_ROfN (t : List V × List (Option Chunk)) : a_ROfN := ((vI ((vAg (t.1.getD 0 .junk)).getD 0 .junk)), (vI ((vAg (t.1.getD 0 .junk)).getD 1 .junk)), (vS ((vAg (t.1.getD 0 .junk)).getD 2 .junk)), (vRoN ((vAg (t.1.getD 0 .junk)).getD 3 .junk)), (fun j => (vI (((vRoF ((vAg (t.1.getD 0 .junk)).getD 3 .junk)) j).getD 0 .junk))), (fun j => (vI (((vRoF ((vAg (t.1.getD 0 .junk)).getD 3 .junk)) j).getD 1 .junk))), (fun j => (vS (((vRoF ((vAg (t.1.getD 0 .junk)).getD 3 .junk)) j).getD 2 .junk))), (fun j => (vRoN (((vRoF ((vAg (t.1.getD 0 .junk)).getD 3 .junk)) j).getD 3 .junk))), (fun j => (vRoF (((vRoF ((vAg (t.1.getD 0 .junk)).getD 3 .junk)) j).getD 3 .junk))), (vRoN (t.1.getD 1 .junk)), (fun j => (vS (((vRoF (t.1.getD 1 .junk)) j).getD 0 .junk))), (fun j => (vI (((vRoF (t.1.getD 1 .junk)) j).getD 1 .junk))), (fun j => (vI (((vRoF (t.1.getD 1 .junk)) j).getD 2 .junk))), (fun j => (vI (((vRoF (t.1.getD 1 .junk)) j).getD 3 .junk))), (fun j => (vI (((vRoF (t.1.getD 1 .junk)) j).getD 4 .junk))), (fun j => (vI (((vRoF (t.1.getD 1 .junk)) j).getD 5 .junk))))
theorem i_ROfN : ∀ x y, A_ROfN x = A_ROfN y → x = y := fun x y h => (congrArg d_ROfN h :)
def R_ROfN : g_ROfN → CRes := (fun z => (fun (b : Bool) (d0 : Int) (d1 : Int) (d2 : Int) (d3 : Int) (d4 : Int) (e : Int) => .ret (.tup [bo b, .agg [i64 d0, i64 d1, i64 d2, i64 d3, i64 d4], i64 e]) []) z.1 z.2.1 z.2.2.1 z.2.2.2.1 z.2.2.2.2.1 z.2.2.2.2.2.1 z.2.2.2.2.2.2 : (Bool × Int × Int × Int × Int × Int × Int) → CRes)
def x_ROfN (z : g_ROfN) (k : CRes → Option Ans) : Option Ans := k (R_ROfN z)
theorem xe_ROfN : ∀ z k, x_ROfN z k = k (R_ROfN z) := fun z k => rfl
def t_ROfN {β : Type} (c_formed : a_formed → Option g_formed) (c_rleaf : a_rleaf → Option g_rleaf) (c_ROf : a_ROf → Option g_ROf) (c_rbinary : a_rbinary → Option g_rbinary) (x : a_ROfN) (dn : g_ROfN → Option β) : Option β :=
 (c_formed ((x.1, x.2.1, x.2.2.1, x.2.2.2.1, fun (j : Nat) => [i64 (x.2.2.2.2.1 j), i64 (x.2.2.2.2.2.1 j), st (x.2.2.2.2.2.2.1 j), V.ro 4 (x.2.2.2.2.2.2.2.1 j) (x.2.2.2.2.2.2.2.2.1 j)]))).bind fun z5 =>
  if (!z5) = true then
   dn ((false, (0 : Int), (0 : Int), (0 : Int), (0 : Int), (0 : Int), (7 : Int)))
  else
   if (((x.2.2.2.1 : Nat) : Int) == (0 : Int)) = true then
    (c_rleaf ((x.1, x.2.1, x.2.2.1, x.2.2.2.1, fun (j : Nat) => [i64 (x.2.2.2.2.1 j), i64 (x.2.2.2.2.2.1 j), st (x.2.2.2.2.2.2.1 j), V.ro 4 (x.2.2.2.2.2.2.2.1 j) (x.2.2.2.2.2.2.2.2.1 j)], x.2.2.2.2.2.2.2.2.2))).bind fun z18 =>
     dn z18
   else
    if (0 : Int) ≤ (0 : Int) ∧ (0 : Int) < ((x.2.2.2.1 : Nat) : Int) then
     (c_ROf ((x.2.2.2.2.1 0, x.2.2.2.2.2.1 0, x.2.2.2.2.2.2.1 0, x.2.2.2.2.2.2.2.1 0, x.2.2.2.2.2.2.2.2.1 0, x.2.2.2.2.2.2.2.2.2))).bind fun z31 =>
      if (z31.2.2.2.2.2.2 != (0 : Int)) = true then
       dn ((false, (0 : Int), (0 : Int), (0 : Int), (0 : Int), (0 : Int), z31.2.2.2.2.2.2))
      else
       if (x.1 == (19 : Int)) = true then
        if (!z31.1 == (ByteArray.toList (x.2.2.1) == ByteArray.toList { data := #[(33 : UInt8)] })) = true then
         dn ((false, (0 : Int), (0 : Int), (0 : Int), (0 : Int), (0 : Int), (12 : Int)))
        else
         dn ((z31.1, z31.2.1, z31.2.2.1, z31.2.2.2.1, z31.2.2.2.2.1, z31.2.2.2.2.2.1, (0 : Int)))
       else
        if (0 : Int) ≤ (1 : Int) ∧ (1 : Int) < ((x.2.2.2.1 : Nat) : Int) then
         (c_ROf ((x.2.2.2.2.1 1, x.2.2.2.2.2.1 1, x.2.2.2.2.2.2.1 1, x.2.2.2.2.2.2.2.1 1, x.2.2.2.2.2.2.2.2.1 1, x.2.2.2.2.2.2.2.2.2))).bind fun z44 =>
          if (z44.2.2.2.2.2.2 != (0 : Int)) = true then
           dn ((false, (0 : Int), (0 : Int), (0 : Int), (0 : Int), (0 : Int), z44.2.2.2.2.2.2))
          else
           (c_rbinary ((x.2.2.1, z31.1, z44.1, z31.2.1, z31.2.2.1, z31.2.2.2.1, z31.2.2.2.2.1, z31.2.2.2.2.2.1, z44.2.1, z44.2.2.1, z44.2.2.2.1, z44.2.2.2.2.1, z44.2.2.2.2.2.1))).bind fun z58 =>
            dn z58
        else
         none
    else
     none
theorem n_ROfN {β : Type} (c_formed : a_formed → Option g_formed) (c_rleaf : a_rleaf → Option g_rleaf) (c_ROf : a_ROf → Option g_ROf) (c_rbinary : a_rbinary → Option g_rbinary) (x : a_ROfN) (dn : g_ROfN → Option β) : t_ROfN c_formed c_rleaf c_ROf c_rbinary x dn = (t_ROfN c_formed c_rleaf c_ROf c_rbinary x some).bind dn := by
  unfold t_ROfN
  repeat' first | exact free_none | refine free_bind (fun z => ?_) | refine free_ite ?_ ?_ | refine free_sum (fun z => ?_) (fun z => ?_) | rfl
theorem r_ROfN (c_formed : a_formed → Option g_formed) (c_rleaf : a_rleaf → Option g_rleaf) (c_ROf : a_ROf → Option g_ROf) (c_rbinary : a_rbinary → Option g_rbinary) (x : a_ROfN) : callK E5 (ftab 33 (fun _ _ => true) A_formed x_formed c_formed (ftab 34 (fun _ _ => true) A_rleaf x_rleaf c_rleaf (ftab 14 (fun _ _ => true) A_ROf x_ROf c_ROf (ftab 35 (fun _ _ => true) A_rbinary x_rbinary c_rbinary ca0)))) lo0 14 (A_ROfN x).1 (A_ROfN x).2 K = t_ROfN (fun x => viaF A_formed c_formed (A_formed x)) (fun x => viaF A_rleaf c_rleaf (A_rleaf x)) (fun x => viaF A_ROf c_ROf (A_ROf x)) (fun x => viaF A_rbinary c_rbinary (A_rbinary x)) x (fun z => some (.c (R_ROfN z))) := by kernel_rfl
theorem s_ROfN (c_formed : a_formed → Option g_formed) (h_formed : ∀ x z, c_formed x = some z → SC E5 33 (A_formed x).1 (A_formed x).2 (R_formed z)) (c_rleaf : a_rleaf → Option g_rleaf) (h_rleaf : ∀ x z, c_rleaf x = some z → SC E5 34 (A_rleaf x).1 (A_rleaf x).2 (R_rleaf z)) (c_ROf : a_ROf → Option g_ROf) (h_ROf : ∀ x z, c_ROf x = some z → SC E5 14 (A_ROf x).1 (A_ROf x).2 (R_ROf z)) (c_rbinary : a_rbinary → Option g_rbinary) (h_rbinary : ∀ x z, c_rbinary x = some z → SC E5 35 (A_rbinary x).1 (A_rbinary x).2 (R_rbinary z)) (q : Nat) (x : a_ROfN) (z : g_ROfN) (h : t_ROfN c_formed c_rleaf c_ROf c_rbinary x some = some z) : SC E5 14 (A_ROfN x).1 (A_ROfN x).2 (R_ROfN z) := by
  refine SC.of hW5 hX5 (ftab_cons h_formed xe_formed (ftab_cons h_rleaf xe_rleaf (ftab_cons h_ROf xe_ROf (ftab_cons h_rbinary xe_rbinary ca0_sound)))) lo0_sound ((r_ROfN c_formed c_rleaf c_ROf c_rbinary x).trans ?_)
  rw [via_eq i_formed c_formed, via_eq i_rleaf c_rleaf, via_eq i_ROf c_ROf, via_eq i_rbinary c_rbinary, n_ROfN, h]; rfl
open Classical in
noncomputable def ROf : Nat → a_ROf → Option g_ROf
  | 0, _ => none
  | q + 1, x => if OpenN x.2.2.2.2.1 then t_ROfN (formed q) (rleaf q) (ROf q) (rbinary q) (x.1, x.2.1, x.2.2.1, x.2.2.2.1, opK x.2.2.2.2.1, opN x.2.2.2.2.1, opS x.2.2.2.2.1, opM x.2.2.2.2.1, opF x.2.2.2.2.1, x.2.2.2.2.2) some else none
theorem sc_ROf : ∀ (q : Nat) (x : a_ROf) (z : g_ROf), ROf q x = some z → SC E5 14 (A_ROf x).1 (A_ROf x).2 (R_ROf z) := by
  intro q
  induction q with
  | zero => intro x z h; cases h
  | succ q ih =>
    intro x z h
    unfold ROf at h
    split at h
    · rename_i hO
      have this := s_ROfN (formed q) (sc_formed q) (rleaf q) (sc_rleaf q) (ROf q) ih (rbinary q) (sc_rbinary q) q (x.1, x.2.1, x.2.2.1, x.2.2.2.1, opK x.2.2.2.2.1, opN x.2.2.2.2.1, opS x.2.2.2.2.1, opM x.2.2.2.2.1, opF x.2.2.2.2.1, x.2.2.2.2.2) z h
      unfold A_ROfN at this
      unfold A_ROf
      simp only at this ⊢
      rw [open_eq hO] at this
      exact this
    · cases h
/-! ### Vars (11) -/
abbrev a_Vars : Type := Nat × (Nat → ByteArray) × (Nat → Int) × (Nat → Int) × (Nat → Int) × (Nat → Int) × (Nat → Int)
abbrev g_Vars : Type := (Unit) ⊕ (Nat × (Nat → ByteArray) × (Nat → Int) × (Nat → Int) × (Nat → Int) × (Nat → Int) × (Nat → Int))
def A_Vars : a_Vars → List V × List (Option Chunk) := (fun x => (fun (vn : Nat) (vs : Nat → ByteArray) (v0 : Nat → Int) (v1 : Nat → Int) (v2 : Nat → Int) (v3 : Nat → Int) (v4 : Nat → Int) => (([.ro 6 vn (fun j => [st (vs j), i64 (v0 j), i64 (v1 j), i64 (v2 j), i64 (v3 j), i64 (v4 j)])] : List V), ([] : List (Option Chunk)))) x.1 x.2.1 x.2.2.1 x.2.2.2.1 x.2.2.2.2.1 x.2.2.2.2.2.1 x.2.2.2.2.2.2)
def d_Vars (t : List V × List (Option Chunk)) : a_Vars := ((vRoN (t.1.getD 0 .junk)), (fun j => (vS (((vRoF (t.1.getD 0 .junk)) j).getD 0 .junk))), (fun j => (vI (((vRoF (t.1.getD 0 .junk)) j).getD 1 .junk))), (fun j => (vI (((vRoF (t.1.getD 0 .junk)) j).getD 2 .junk))), (fun j => (vI (((vRoF (t.1.getD 0 .junk)) j).getD 3 .junk))), (fun j => (vI (((vRoF (t.1.getD 0 .junk)) j).getD 4 .junk))), (fun j => (vI (((vRoF (t.1.getD 0 .junk)) j).getD 5 .junk))))
theorem i_Vars : ∀ x y, A_Vars x = A_Vars y → x = y := fun x y h => (congrArg d_Vars h :)
def R_Vars : g_Vars → CRes := Sum.elim ((fun z => CRes.ret (nilS) [] : (Unit) → CRes)) ((fun z => CRes.ret (V.sl 0 6 0 (z.1)) [some (Chunk.row 41 6 (z.1) fun (j : Nat) => [st (z.2.1 j), i64 (z.2.2.1 j), i64 (z.2.2.2.1 j), i64 (z.2.2.2.2.1 j), i64 (z.2.2.2.2.2.1 j), i64 (z.2.2.2.2.2.2 j)])] : (Nat × (Nat → ByteArray) × (Nat → Int) × (Nat → Int) × (Nat → Int) × (Nat → Int) × (Nat → Int)) → CRes))
def x_Vars (z : g_Vars) (k : CRes → Option Ans) : Option Ans := Sum.elim (fun za => k (R_Vars (.inl za))) (fun zb => k (R_Vars (.inr zb))) z
theorem xe_Vars : ∀ z k, x_Vars z k = k (R_Vars z) := fun z k => by
  rcases z with z | z <;> rfl
abbrev Vars_l0_a : Type := (Int) ⊕ ((Nat → Int) × (Nat → Int) × (Nat → Int) × (Nat → Int) × (Nat → Int) × Int × (Nat → ByteArray) × Nat)
abbrev Vars_l0_g : Type := (Unit) ⊕ (Nat × (Nat → ByteArray) × (Nat → Int) × (Nat → Int) × (Nat → Int) × (Nat → Int) × (Nat → Int))
def Vars_l0_S0 (x : a_Vars) (y : Int) : St := { fr := [V.ro 6 (x.1) fun (j : Nat) => [st (x.2.1 j), i64 (x.2.2.1 j), i64 (x.2.2.2.1 j), i64 (x.2.2.2.2.1 j), i64 (x.2.2.2.2.2.1 j), i64 (x.2.2.2.2.2.2 j)], V.junk, V.junk, nilS, i64 y] ++ jk 67, H := hp [], nx := 0, rt := 0, me := 11 }
def Vars_l0_d0 (s : St) : Int := ((vI (s.fr.getD 4 .junk)))
def Vars_l0_S1 (x : a_Vars) (y : (Nat → Int) × (Nat → Int) × (Nat → Int) × (Nat → Int) × (Nat → Int) × Int × (Nat → ByteArray) × Nat) : St := { fr := [V.ro 6 (x.1) fun (j : Nat) => [st (x.2.1 j), i64 (x.2.2.1 j), i64 (x.2.2.2.1 j), i64 (x.2.2.2.2.1 j), i64 (x.2.2.2.2.2.1 j), i64 (x.2.2.2.2.2.2 j)], V.junk, V.junk, V.sl 0 6 0 (y.2.2.2.2.2.2.2), i64 (y.2.2.2.2.2.1)] ++ jk 67, H := hp [some (Chunk.row 41 6 (y.2.2.2.2.2.2.2) fun (j : Nat) => [st (y.2.2.2.2.2.2.1 j), i64 (y.1 j), i64 (y.2.1 j), i64 (y.2.2.1 j), i64 (y.2.2.2.1 j), i64 (y.2.2.2.2.1 j)])], nx := 1, rt := 0, me := 11 }
def Vars_l0_d1 (s : St) : (Nat → Int) × (Nat → Int) × (Nat → Int) × (Nat → Int) × (Nat → Int) × Int × (Nat → ByteArray) × Nat := ((fun j => (vI (((chF (s.H 0)) j).getD 1 .junk))), (fun j => (vI (((chF (s.H 0)) j).getD 2 .junk))), (fun j => (vI (((chF (s.H 0)) j).getD 3 .junk))), (fun j => (vI (((chF (s.H 0)) j).getD 4 .junk))), (fun j => (vI (((chF (s.H 0)) j).getD 5 .junk))), (vI (s.fr.getD 4 .junk)), (fun j => (vS (((chF (s.H 0)) j).getD 0 .junk))), (vSlN (s.fr.getD 3 .junk)))
def Vars_l0_S (x : a_Vars) : Vars_l0_a → St := (Sum.elim (Vars_l0_S0 x) (Vars_l0_S1 x))
def Vars_l0_d (s : St) : Vars_l0_a := (match s.nx == 0 with | true => (.inl (Vars_l0_d0 s)) | false => (.inr (Vars_l0_d1 s)))
theorem Vars_l0_i (x : a_Vars) : ∀ y y', Vars_l0_S x y = Vars_l0_S x y' → y = y' := fun y y' h => by rcases y with y | y <;> rcases y' with y | y <;> exact (congrArg Vars_l0_d h :)
def Vars_l0_T (x : a_Vars) : Vars_l0_g → Ex × St := (Sum.elim (fun z => (Ex.exit 0, { fr := [V.junk, V.junk, V.junk, nilS] ++ jk 68, H := hp [], nx := 0, rt := 0, me := 11 })) (fun z => (Ex.exit 0, { fr := [V.junk, V.junk, V.junk, V.sl 0 6 0 (z.1)] ++ jk 68, H := hp [some (Chunk.row 41 6 (z.1) fun (j : Nat) => [st (z.2.1 j), i64 (z.2.2.1 j), i64 (z.2.2.2.1 j), i64 (z.2.2.2.2.1 j), i64 (z.2.2.2.2.2.1 j), i64 (z.2.2.2.2.2.2 j)])], nx := 1, rt := 0, me := 11 })))
def Vars_l0_x (x : a_Vars) (z : Vars_l0_g) (k : KX) : Option Ans := Sum.elim (fun za => k (Vars_l0_T x (.inl za)).1 (Vars_l0_T x (.inl za)).2) (fun zb => k (Vars_l0_T x (.inr zb)).1 (Vars_l0_T x (.inr zb)).2) z
theorem Vars_l0_xe (x : a_Vars) : ∀ z k, Vars_l0_x x z k = k (Vars_l0_T x z).1 (Vars_l0_T x z).2 := fun z k => by
  rcases z with z | z <;> rfl
theorem Vars_l0_k0 (x : a_Vars) (z : Unit) : KCM [(0, 8)] 4 (Vars_l0_T x (.inl z)).1 (Vars_l0_T x (.inl z)).2 = some (.l (Vars_l0_T x (.inl z)).1 (Vars_l0_T x (.inl z)).2) := by kernel_rfl
theorem Vars_l0_k1 (x : a_Vars) (z : Nat × (Nat → ByteArray) × (Nat → Int) × (Nat → Int) × (Nat → Int) × (Nat → Int) × (Nat → Int)) : KCM [(0, 8)] 4 (Vars_l0_T x (.inr z)).1 (Vars_l0_T x (.inr z)).2 = some (.l (Vars_l0_T x (.inr z)).1 (Vars_l0_T x (.inr z)).2) := by kernel_rfl
def Vars_l0_t0 {β : Type} (c_Bound : a_Bound → Option g_Bound) (c_FindZ : a_FindZ → Option g_FindZ) (c_Find : a_Find → Option g_Find) (x : a_Vars) (y : Int) (nx : Vars_l0_a → Option β) (dn : Vars_l0_g → Option β) : Option β :=
 if decide (y < ((x.1 : Nat) : Int)) = true then
  if (0 : Int) ≤ y ∧ y < ((x.1 : Nat) : Int) then
   (c_Bound ((x.2.2.1 (Int.toNat y), (8 : Int)))).bind fun z246 =>
    if (0 : Int) ≤ y ∧ y < ((x.1 : Nat) : Int) then
     (c_Bound ((x.2.2.2.1 (Int.toNat y), (8 : Int)))).bind fun z249 =>
      if (0 : Int) ≤ y ∧ y < ((x.1 : Nat) : Int) then
       (c_Bound ((x.2.2.2.2.1 (Int.toNat y), (8 : Int)))).bind fun z252 =>
        if (0 : Int) ≤ y ∧ y < ((x.1 : Nat) : Int) then
         (c_Bound ((x.2.2.2.2.2.1 (Int.toNat y), (8 : Int)))).bind fun z255 =>
          if (0 : Int) ≤ y ∧ y < ((x.1 : Nat) : Int) then
           (c_Bound ((x.2.2.2.2.2.2 (Int.toNat y), (8 : Int)))).bind fun z258 =>
            if (0 : Int) ≤ y ∧ y < ((x.1 : Nat) : Int) then
             (c_FindZ (x.2.1 (Int.toNat y))).bind fun z260 =>
              if decide (z260 < (0 : Int)) = true then
               if (0 : Int) ≤ y ∧ y < ((x.1 : Nat) : Int) then
                nx (.inr ((fun j => z246, fun (j : Nat) => z249, fun (j : Nat) => z252, fun (j : Nat) => z255, fun (j : Nat) => z258, w (y + (1 : Int)), fun (j : Nat) => x.2.1 (Int.toNat y), 1)))
               else
                none
              else
               nx (.inl (w (y + (1 : Int))))
            else
             none
          else
           none
        else
         none
      else
       none
    else
     none
  else
   none
 else
  dn (.inl ())
theorem Vars_l0_n0 {β : Type} (c_Bound : a_Bound → Option g_Bound) (c_FindZ : a_FindZ → Option g_FindZ) (c_Find : a_Find → Option g_Find) (x : a_Vars) (y : Int) (nx : Vars_l0_a → Option β) (dn : Vars_l0_g → Option β) : Vars_l0_t0 c_Bound c_FindZ c_Find x y nx dn = (Vars_l0_t0 c_Bound c_FindZ c_Find x y (fun y => some (.inl y)) (fun z => some (.inr z))).bind fun r => Sum.elim nx dn r := by
  unfold Vars_l0_t0
  repeat' first | exact free_none | refine free_bind (fun z => ?_) | refine free_ite ?_ ?_ | refine free_sum (fun z => ?_) (fun z => ?_) | rfl
theorem Vars_l0_r0 (c_Bound : a_Bound → Option g_Bound) (c_FindZ : a_FindZ → Option g_FindZ) (c_Find : a_Find → Option g_Find) (x : a_Vars) (y : Int) (lo : LoopT) : loopK E5 (ftab 27 (fun _ _ => true) A_Bound x_Bound c_Bound (ftab 28 (fun a _ => fstNil a) A_FindZ x_FindZ c_FindZ (ftab 28 (fun _ _ => true) A_Find x_Find c_Find ca0))) lo 0 25 (bodyOf E5 11 0) (Vars_l0_S x (.inl y)) (KCM [(0, 8)] 4) = Vars_l0_t0 (fun x => viaF A_Bound c_Bound (A_Bound x)) (fun x => viaF A_FindZ c_FindZ (A_FindZ x)) (fun x => viaF A_Find c_Find (A_Find x)) x y (fun y => lo 0 25 (bodyOf E5 11 0) (Vars_l0_S x y) (KCM [(0, 8)] 4)) (fun z => some (.l (Vars_l0_T x z).1 (Vars_l0_T x z).2)) := by kernel_rfl
def Vars_l0_t1 {β : Type} (c_Bound : a_Bound → Option g_Bound) (c_FindZ : a_FindZ → Option g_FindZ) (c_Find : a_Find → Option g_Find) (x : a_Vars) (y : (Nat → Int) × (Nat → Int) × (Nat → Int) × (Nat → Int) × (Nat → Int) × Int × (Nat → ByteArray) × Nat) (nx : Vars_l0_a → Option β) (dn : Vars_l0_g → Option β) : Option β :=
 if decide (y.2.2.2.2.2.1 < ((x.1 : Nat) : Int)) = true then
  if decide (((y.2.2.2.2.2.2.2 : Nat) : Int) < (12 : Int)) = true then
   if (0 : Int) ≤ y.2.2.2.2.2.1 ∧ y.2.2.2.2.2.1 < ((x.1 : Nat) : Int) then
    (c_Bound ((x.2.2.1 (Int.toNat (y.2.2.2.2.2.1)), (8 : Int)))).bind fun z264 =>
     if (0 : Int) ≤ y.2.2.2.2.2.1 ∧ y.2.2.2.2.2.1 < ((x.1 : Nat) : Int) then
      (c_Bound ((x.2.2.2.1 (Int.toNat (y.2.2.2.2.2.1)), (8 : Int)))).bind fun z267 =>
       if (0 : Int) ≤ y.2.2.2.2.2.1 ∧ y.2.2.2.2.2.1 < ((x.1 : Nat) : Int) then
        (c_Bound ((x.2.2.2.2.1 (Int.toNat (y.2.2.2.2.2.1)), (8 : Int)))).bind fun z270 =>
         if (0 : Int) ≤ y.2.2.2.2.2.1 ∧ y.2.2.2.2.2.1 < ((x.1 : Nat) : Int) then
          (c_Bound ((x.2.2.2.2.2.1 (Int.toNat (y.2.2.2.2.2.1)), (8 : Int)))).bind fun z273 =>
           if (0 : Int) ≤ y.2.2.2.2.2.1 ∧ y.2.2.2.2.2.1 < ((x.1 : Nat) : Int) then
            (c_Bound ((x.2.2.2.2.2.2 (Int.toNat (y.2.2.2.2.2.1)), (8 : Int)))).bind fun z276 =>
             if (0 : Int) ≤ y.2.2.2.2.2.1 ∧ y.2.2.2.2.2.1 < ((x.1 : Nat) : Int) then
              if 0 + y.2.2.2.2.2.2.2 ≤ y.2.2.2.2.2.2.2 ∧ 6 = 6 then
               (c_Find ((y.2.2.2.2.2.2.2, fun (j : Nat) => y.2.2.2.2.2.2.1 (0 + j), fun (j : Nat) => y.1 (0 + j), fun (j : Nat) => y.2.1 (0 + j), fun (j : Nat) => y.2.2.1 (0 + j), fun (j : Nat) => y.2.2.2.1 (0 + j), fun (j : Nat) => y.2.2.2.2.1 (0 + j), x.2.1 (Int.toNat (y.2.2.2.2.2.1))))).bind fun z285 =>
                if decide (z285 < (0 : Int)) = true then
                 if (0 : Int) ≤ y.2.2.2.2.2.1 ∧ y.2.2.2.2.2.1 < ((x.1 : Nat) : Int) then
                  if (y.2.2.2.2.2.2.2 + 1) * 56 ≤ roomBound ∧ y.2.2.2.2.2.2.2 + 1 ≤ maxLen ∧ y.2.2.2.2.2.2.2 ≤ y.2.2.2.2.2.2.2 then
                   nx (.inr ((fun j => if j < y.2.2.2.2.2.2.2 then y.1 j else z264, fun (j : Nat) => if j < y.2.2.2.2.2.2.2 then y.2.1 j else z267, fun (j : Nat) => if j < y.2.2.2.2.2.2.2 then y.2.2.1 j else z270, fun (j : Nat) => if j < y.2.2.2.2.2.2.2 then y.2.2.2.1 j else z273, fun (j : Nat) => if j < y.2.2.2.2.2.2.2 then y.2.2.2.2.1 j else z276, w (y.2.2.2.2.2.1 + (1 : Int)), fun (j : Nat) => if j < y.2.2.2.2.2.2.2 then y.2.2.2.2.2.2.1 j else x.2.1 (Int.toNat (y.2.2.2.2.2.1)), y.2.2.2.2.2.2.2 + 1)))
                  else
                   none
                 else
                  none
                else
                 nx (.inr ((y.1, y.2.1, y.2.2.1, y.2.2.2.1, y.2.2.2.2.1, w (y.2.2.2.2.2.1 + (1 : Int)), y.2.2.2.2.2.2)))
              else
               none
             else
              none
           else
            none
         else
          none
       else
        none
     else
      none
   else
    none
  else
   dn (.inr ((y.2.2.2.2.2.2.2, y.2.2.2.2.2.2.1, y.1, y.2.1, y.2.2.1, y.2.2.2.1, y.2.2.2.2.1)))
 else
  dn (.inr ((y.2.2.2.2.2.2.2, y.2.2.2.2.2.2.1, y.1, y.2.1, y.2.2.1, y.2.2.2.1, y.2.2.2.2.1)))
theorem Vars_l0_n1 {β : Type} (c_Bound : a_Bound → Option g_Bound) (c_FindZ : a_FindZ → Option g_FindZ) (c_Find : a_Find → Option g_Find) (x : a_Vars) (y : (Nat → Int) × (Nat → Int) × (Nat → Int) × (Nat → Int) × (Nat → Int) × Int × (Nat → ByteArray) × Nat) (nx : Vars_l0_a → Option β) (dn : Vars_l0_g → Option β) : Vars_l0_t1 c_Bound c_FindZ c_Find x y nx dn = (Vars_l0_t1 c_Bound c_FindZ c_Find x y (fun y => some (.inl y)) (fun z => some (.inr z))).bind fun r => Sum.elim nx dn r := by
  unfold Vars_l0_t1
  repeat' first | exact free_none | refine free_bind (fun z => ?_) | refine free_ite ?_ ?_ | refine free_sum (fun z => ?_) (fun z => ?_) | rfl
theorem Vars_l0_r1 (c_Bound : a_Bound → Option g_Bound) (c_FindZ : a_FindZ → Option g_FindZ) (c_Find : a_Find → Option g_Find) (x : a_Vars) (y : (Nat → Int) × (Nat → Int) × (Nat → Int) × (Nat → Int) × (Nat → Int) × Int × (Nat → ByteArray) × Nat) (lo : LoopT) : loopK E5 (ftab 27 (fun _ _ => true) A_Bound x_Bound c_Bound (ftab 28 (fun a _ => fstNil a) A_FindZ x_FindZ c_FindZ (ftab 28 (fun _ _ => true) A_Find x_Find c_Find ca0))) lo 0 25 (bodyOf E5 11 0) (Vars_l0_S x (.inr y)) (KCM [(0, 8)] 4) = Vars_l0_t1 (fun x => viaF A_Bound c_Bound (A_Bound x)) (fun x => viaF A_FindZ c_FindZ (A_FindZ x)) (fun x => viaF A_Find c_Find (A_Find x)) x y (fun y => lo 0 25 (bodyOf E5 11 0) (Vars_l0_S x y) (KCM [(0, 8)] 4)) (fun z => some (.l (Vars_l0_T x z).1 (Vars_l0_T x z).2)) := by kernel_rfl
noncomputable def Vars_l0 (c_Bound : a_Bound → Option g_Bound) (c_FindZ : a_FindZ → Option g_FindZ) (c_Find : a_Find → Option g_Find) (q : Nat) (x : a_Vars) : Vars_l0_a → Option Vars_l0_g := lpG (Sum.elim (fun y => Vars_l0_t0 c_Bound c_FindZ c_Find x y (fun y => some (.inl y)) (fun z => some (.inr z))) (fun y => Vars_l0_t1 c_Bound c_FindZ c_Find x y (fun y => some (.inl y)) (fun z => some (.inr z)))) q
theorem Vars_l0_s (c_Bound : a_Bound → Option g_Bound) (h_Bound : ∀ x z, c_Bound x = some z → SC E5 27 (A_Bound x).1 (A_Bound x).2 (R_Bound z)) (c_FindZ : a_FindZ → Option g_FindZ) (h_FindZ : ∀ x z, c_FindZ x = some z → SC E5 28 (A_FindZ x).1 (A_FindZ x).2 (R_FindZ z)) (c_Find : a_Find → Option g_Find) (h_Find : ∀ x z, c_Find x = some z → SC E5 28 (A_Find x).1 (A_Find x).2 (R_Find z)) (q : Nat) (x : a_Vars) : ∀ y z, Vars_l0 c_Bound c_FindZ c_Find q x y = some z → SL E5 (bodyOf E5 11 0) (Vars_l0_S x y) (Vars_l0_T x z).1 (Vars_l0_T x z).2 :=
  SL.lp (LT := fun lo => lo) (T := Vars_l0_T x) (S := Vars_l0_S x) (ftab_cons h_Bound xe_Bound (ftab_cons h_FindZ xe_FindZ (ftab_cons h_Find xe_Find ca0_sound))) hX5 (fun lo h => h) (fun lo y => by
      rcases y with y | y
      · exact (Vars_l0_r0 c_Bound c_FindZ c_Find x y lo).trans (by rw [via_eq i_Bound c_Bound, via_eq i_FindZ c_FindZ, via_eq i_Find c_Find]; exact Vars_l0_n0 _ _ _ _ _ _ _)
      · exact (Vars_l0_r1 c_Bound c_FindZ c_Find x y lo).trans (by rw [via_eq i_Bound c_Bound, via_eq i_FindZ c_FindZ, via_eq i_Find c_Find]; exact Vars_l0_n1 _ _ _ _ _ _ _)) (fun z => by rcases z with z | z <;> first | exact Vars_l0_k0 x z | exact Vars_l0_k1 x z) q
def t_Vars {β : Type} (c_Bound : a_Bound → Option g_Bound) (c_FindZ : a_FindZ → Option g_FindZ) (c_Find : a_Find → Option g_Find) (l_Vars_l0 : Vars_l0_a → Option Vars_l0_g) (x : a_Vars) (dn : g_Vars → Option β) : Option β :=
 (l_Vars_l0 (.inl ((0 : Int)))).bind fun z227 =>
  Sum.elim (fun z227a =>
  dn (.inl ())) (fun z227b =>
  dn (.inr z227b)) z227
theorem n_Vars {β : Type} (c_Bound : a_Bound → Option g_Bound) (c_FindZ : a_FindZ → Option g_FindZ) (c_Find : a_Find → Option g_Find) (l_Vars_l0 : Vars_l0_a → Option Vars_l0_g) (x : a_Vars) (dn : g_Vars → Option β) : t_Vars c_Bound c_FindZ c_Find l_Vars_l0 x dn = (t_Vars c_Bound c_FindZ c_Find l_Vars_l0 x some).bind dn := by
  unfold t_Vars
  repeat' first | exact free_none | refine free_bind (fun z => ?_) | refine free_ite ?_ ?_ | refine free_sum (fun z => ?_) (fun z => ?_) | rfl
theorem r_Vars (c_Bound : a_Bound → Option g_Bound) (c_FindZ : a_FindZ → Option g_FindZ) (c_Find : a_Find → Option g_Find) (l_Vars_l0 : Vars_l0_a → Option Vars_l0_g) (x : a_Vars) : callK E5 (ftab 27 (fun _ _ => true) A_Bound x_Bound c_Bound (ftab 28 (fun a _ => fstNil a) A_FindZ x_FindZ c_FindZ (ftab 28 (fun _ _ => true) A_Find x_Find c_Find ca0))) (ltabF 0 (fun _ => true) (bodyOf E5 11 0) (Vars_l0_S x) (Vars_l0_x x) l_Vars_l0 lo0) 11 (A_Vars x).1 (A_Vars x).2 K = t_Vars (fun x => viaF A_Bound c_Bound (A_Bound x)) (fun x => viaF A_FindZ c_FindZ (A_FindZ x)) (fun x => viaF A_Find c_Find (A_Find x)) (fun y => viaF (fun y => (bodyOf E5 11 0, Vars_l0_S x y)) l_Vars_l0 (bodyOf E5 11 0, Vars_l0_S x y)) x (fun z => some (.c (R_Vars z))) := by kernel_rfl
theorem s_Vars (c_Bound : a_Bound → Option g_Bound) (h_Bound : ∀ x z, c_Bound x = some z → SC E5 27 (A_Bound x).1 (A_Bound x).2 (R_Bound z)) (c_FindZ : a_FindZ → Option g_FindZ) (h_FindZ : ∀ x z, c_FindZ x = some z → SC E5 28 (A_FindZ x).1 (A_FindZ x).2 (R_FindZ z)) (c_Find : a_Find → Option g_Find) (h_Find : ∀ x z, c_Find x = some z → SC E5 28 (A_Find x).1 (A_Find x).2 (R_Find z)) (q : Nat) (x : a_Vars) (z : g_Vars) (h : t_Vars c_Bound c_FindZ c_Find (Vars_l0 c_Bound c_FindZ c_Find q x) x some = some z) : SC E5 11 (A_Vars x).1 (A_Vars x).2 (R_Vars z) := by
  refine SC.of hW5 hX5 (ftab_cons h_Bound xe_Bound (ftab_cons h_FindZ xe_FindZ (ftab_cons h_Find xe_Find ca0_sound))) (ltabF_cons (Vars_l0_s c_Bound h_Bound c_FindZ h_FindZ c_Find h_Find q x) (Vars_l0_xe x) lo0_sound) ((r_Vars c_Bound c_FindZ c_Find (Vars_l0 c_Bound c_FindZ c_Find q x) x).trans ?_)
  rw [via_eq i_Bound c_Bound, via_eq i_FindZ c_FindZ, via_eq i_Find c_Find, via_eq (pair_inj (bodyOf E5 11 0) (Vars_l0_i x)) (Vars_l0 c_Bound c_FindZ c_Find q x), n_Vars, h]; rfl
noncomputable def Vars (q : Nat) (x : a_Vars) : Option g_Vars := t_Vars (Bound q) (FindZ q) (Find q) (Vars_l0 (Bound q) (FindZ q) (Find q) q x) x some
theorem sc_Vars (q : Nat) : ∀ (x : a_Vars) (z : g_Vars), Vars q x = some z → SC E5 11 (A_Vars x).1 (A_Vars x).2 (R_Vars z) := fun x z h => s_Vars (Bound q) (sc_Bound q) (FindZ q) (sc_FindZ q) (Find q) (sc_Find q) q x z h
/-! ### table (13) -/
abbrev a_table : Type := Nat × (Nat → ByteArray) × (Nat → Int) × (Nat → Int) × (Nat → Int) × (Nat → Int) × (Nat → Int)
abbrev g_table : Type := Nat × (ByteArray → Bool) × (ByteArray → Int) × (ByteArray → Int) × (ByteArray → Int) × (ByteArray → Int) × (ByteArray → Int)
def A_table : a_table → List V × List (Option Chunk) := (fun x => (fun (vn : Nat) (vs : Nat → ByteArray) (v0 : Nat → Int) (v1 : Nat → Int) (v2 : Nat → Int) (v3 : Nat → Int) (v4 : Nat → Int) => (([.ro 6 vn (fun j => [st (vs j), i64 (v0 j), i64 (v1 j), i64 (v2 j), i64 (v3 j), i64 (v4 j)])] : List V), ([] : List (Option Chunk)))) x.1 x.2.1 x.2.2.1 x.2.2.2.1 x.2.2.2.2.1 x.2.2.2.2.2.1 x.2.2.2.2.2.2)
def d_table (t : List V × List (Option Chunk)) : a_table := ((vRoN (t.1.getD 0 .junk)), (fun j => (vS (((vRoF (t.1.getD 0 .junk)) j).getD 0 .junk))), (fun j => (vI (((vRoF (t.1.getD 0 .junk)) j).getD 1 .junk))), (fun j => (vI (((vRoF (t.1.getD 0 .junk)) j).getD 2 .junk))), (fun j => (vI (((vRoF (t.1.getD 0 .junk)) j).getD 3 .junk))), (fun j => (vI (((vRoF (t.1.getD 0 .junk)) j).getD 4 .junk))), (fun j => (vI (((vRoF (t.1.getD 0 .junk)) j).getD 5 .junk))))
theorem i_table : ∀ x y, A_table x = A_table y → x = y := fun x y h => (congrArg d_table h :)
def R_table : g_table → CRes := (fun z => CRes.ret (V.mp 0) [some (Chunk.smap (z.1) (z.2.1) fun (j : ByteArray) => V.agg [i64 (z.2.2.1 j), i64 (z.2.2.2.1 j), i64 (z.2.2.2.2.1 j), i64 (z.2.2.2.2.2.1 j), i64 (z.2.2.2.2.2.2 j)])] : (Nat × (ByteArray → Bool) × (ByteArray → Int) × (ByteArray → Int) × (ByteArray → Int) × (ByteArray → Int) × (ByteArray → Int)) → CRes)
def x_table (z : g_table) (k : CRes → Option Ans) : Option Ans := k (R_table z)
theorem xe_table : ∀ z k, x_table z k = k (R_table z) := fun z k => rfl
abbrev table_l0_a : Type := Int × Nat × (ByteArray → Bool) × (ByteArray → Int) × (ByteArray → Int) × (ByteArray → Int) × (ByteArray → Int) × (ByteArray → Int)
abbrev table_l0_g : Type := Nat × (ByteArray → Bool) × (ByteArray → Int) × (ByteArray → Int) × (ByteArray → Int) × (ByteArray → Int) × (ByteArray → Int)
def table_l0_S (x : a_table) (y : table_l0_a) : St := { fr := [V.ro 6 (x.1) fun (j : Nat) => [st (x.2.1 j), i64 (x.2.2.1 j), i64 (x.2.2.2.1 j), i64 (x.2.2.2.2.1 j), i64 (x.2.2.2.2.2.1 j), i64 (x.2.2.2.2.2.2 j)], V.junk, V.junk, V.mp 0, i64 (y.1)] ++ jk 19, H := hp [some (Chunk.smap (y.2.1) (y.2.2.1) fun (j : ByteArray) => V.agg [i64 (y.2.2.2.1 j), i64 (y.2.2.2.2.1 j), i64 (y.2.2.2.2.2.1 j), i64 (y.2.2.2.2.2.2.1 j), i64 (y.2.2.2.2.2.2.2 j)])], nx := 1, rt := 0, me := 13 }
def table_l0_d (s : St) : table_l0_a := ((vI (s.fr.getD 4 .junk)), (smN (s.H 0)), (smH (s.H 0)), (fun j => (vI ((vAg ((smF (s.H 0)) j)).getD 0 .junk))), (fun j => (vI ((vAg ((smF (s.H 0)) j)).getD 1 .junk))), (fun j => (vI ((vAg ((smF (s.H 0)) j)).getD 2 .junk))), (fun j => (vI ((vAg ((smF (s.H 0)) j)).getD 3 .junk))), (fun j => (vI ((vAg ((smF (s.H 0)) j)).getD 4 .junk))))
theorem table_l0_i (x : a_table) : ∀ y y', table_l0_S x y = table_l0_S x y' → y = y' := fun y y' h => (congrArg table_l0_d h :)
def table_l0_T (x : a_table) : table_l0_g → Ex × St := (fun z => (Ex.exit 0, { fr := [V.junk, V.junk, V.junk, V.mp 0] ++ jk 20, H := hp [some (Chunk.smap (z.1) (z.2.1) fun (j : ByteArray) => V.agg [i64 (z.2.2.1 j), i64 (z.2.2.2.1 j), i64 (z.2.2.2.2.1 j), i64 (z.2.2.2.2.2.1 j), i64 (z.2.2.2.2.2.2 j)])], nx := 1, rt := 0, me := 13 }))
def table_l0_x (x : a_table) (z : table_l0_g) (k : KX) : Option Ans := k (table_l0_T x z).1 (table_l0_T x z).2
theorem table_l0_xe (x : a_table) : ∀ z k, table_l0_x x z k = k (table_l0_T x z).1 (table_l0_T x z).2 := fun z k => rfl
theorem table_l0_k0 (x : a_table) (z : Nat × (ByteArray → Bool) × (ByteArray → Int) × (ByteArray → Int) × (ByteArray → Int) × (ByteArray → Int) × (ByteArray → Int)) : KCM [(0, 8)] 4 (table_l0_T x z).1 (table_l0_T x z).2 = some (.l (table_l0_T x z).1 (table_l0_T x z).2) := by kernel_rfl
def table_l0_t {β : Type} (x : a_table) (y : table_l0_a) (nx : table_l0_a → Option β) (dn : table_l0_g → Option β) : Option β :=
 if decide (y.1 < ((x.1 : Nat) : Int)) = true then
  if (0 : Int) ≤ y.1 ∧ y.1 < ((x.1 : Nat) : Int) then
   if (0 : Int) ≤ y.1 ∧ y.1 < ((x.1 : Nat) : Int) then
    nx ((w (y.1 + (1 : Int)), if y.2.2.1 (x.2.1 (Int.toNat (y.1))) = true then y.2.1 else y.2.1 + 1, fun (q : ByteArray) => q == x.2.1 (Int.toNat (y.1)) || y.2.2.1 q, fun (j : ByteArray) => if (j == x.2.1 (Int.toNat (y.1))) = true then x.2.2.1 (Int.toNat (y.1)) else y.2.2.2.1 j, fun (j : ByteArray) => if (j == x.2.1 (Int.toNat (y.1))) = true then x.2.2.2.1 (Int.toNat (y.1)) else y.2.2.2.2.1 j, fun (j : ByteArray) => if (j == x.2.1 (Int.toNat (y.1))) = true then x.2.2.2.2.1 (Int.toNat (y.1)) else y.2.2.2.2.2.1 j, fun (j : ByteArray) => if (j == x.2.1 (Int.toNat (y.1))) = true then x.2.2.2.2.2.1 (Int.toNat (y.1)) else y.2.2.2.2.2.2.1 j, fun (j : ByteArray) => if (j == x.2.1 (Int.toNat (y.1))) = true then x.2.2.2.2.2.2 (Int.toNat (y.1)) else y.2.2.2.2.2.2.2 j))
   else
    none
  else
   none
 else
  dn (y.2)
theorem table_l0_n {β : Type} (x : a_table) (y : table_l0_a) (nx : table_l0_a → Option β) (dn : table_l0_g → Option β) : table_l0_t x y nx dn = (table_l0_t x y (fun y => some (.inl y)) (fun z => some (.inr z))).bind fun r => Sum.elim nx dn r := by
  unfold table_l0_t
  repeat' first | exact free_none | refine free_bind (fun z => ?_) | refine free_ite ?_ ?_ | refine free_sum (fun z => ?_) (fun z => ?_) | rfl
theorem table_l0_r (x : a_table) (y : table_l0_a) (lo : LoopT) : loopK E5 ca0 lo 0 25 (bodyOf E5 13 0) (table_l0_S x y) (KCM [(0, 8)] 4) = table_l0_t x y (fun y => lo 0 25 (bodyOf E5 13 0) (table_l0_S x y) (KCM [(0, 8)] 4)) (fun z => some (.l (table_l0_T x z).1 (table_l0_T x z).2)) := by kernel_rfl
noncomputable def table_l0 (q : Nat) (x : a_table) : table_l0_a → Option table_l0_g := lpG (fun y => table_l0_t x y (fun y => some (.inl y)) (fun z => some (.inr z))) q
theorem table_l0_s (q : Nat) (x : a_table) : ∀ y z, table_l0 q x y = some z → SL E5 (bodyOf E5 13 0) (table_l0_S x y) (table_l0_T x z).1 (table_l0_T x z).2 :=
  SL.lp (LT := fun lo => lo) (T := table_l0_T x) (S := table_l0_S x) ca0_sound hX5 (fun lo h => h) (fun lo y => (table_l0_r x y lo).trans (by exact table_l0_n  _ _ _ _)) (table_l0_k0 x) q
def t_table {β : Type} (l_table_l0 : table_l0_a → Option table_l0_g) (x : a_table) (dn : g_table → Option β) : Option β :=
 (l_table_l0 (((0 : Int), 0, fun (x : ByteArray) => false, fun (j : ByteArray) => (0 : Int), fun (j : ByteArray) => (0 : Int), fun (j : ByteArray) => (0 : Int), fun (j : ByteArray) => (0 : Int), fun (j : ByteArray) => (0 : Int)))).bind fun z31 =>
  dn z31
theorem n_table {β : Type} (l_table_l0 : table_l0_a → Option table_l0_g) (x : a_table) (dn : g_table → Option β) : t_table l_table_l0 x dn = (t_table l_table_l0 x some).bind dn := by
  unfold t_table
  repeat' first | exact free_none | refine free_bind (fun z => ?_) | refine free_ite ?_ ?_ | refine free_sum (fun z => ?_) (fun z => ?_) | rfl
theorem r_table (l_table_l0 : table_l0_a → Option table_l0_g) (x : a_table) : callK E5 ca0 (ltabF 0 (fun _ => true) (bodyOf E5 13 0) (table_l0_S x) (table_l0_x x) l_table_l0 lo0) 13 (A_table x).1 (A_table x).2 K = t_table (fun y => viaF (fun y => (bodyOf E5 13 0, table_l0_S x y)) l_table_l0 (bodyOf E5 13 0, table_l0_S x y)) x (fun z => some (.c (R_table z))) := by kernel_rfl
theorem s_table (q : Nat) (x : a_table) (z : g_table) (h : t_table (table_l0 q x) x some = some z) : SC E5 13 (A_table x).1 (A_table x).2 (R_table z) := by
  refine SC.of hW5 hX5 ca0_sound (ltabF_cons (table_l0_s q x) (table_l0_xe x) lo0_sound) ((r_table (table_l0 q x) x).trans ?_)
  rw [via_eq (pair_inj (bodyOf E5 13 0) (table_l0_i x)) (table_l0 q x), n_table, h]; rfl
noncomputable def table (q : Nat) (x : a_table) : Option g_table := t_table (table_l0 q x) x some
theorem sc_table (q : Nat) : ∀ (x : a_table) (z : g_table), table q x = some z → SC E5 13 (A_table x).1 (A_table x).2 (R_table z) := fun x z h => s_table q x z h
end Go.Proofs.YtniogljhkjbcgaaDoor
