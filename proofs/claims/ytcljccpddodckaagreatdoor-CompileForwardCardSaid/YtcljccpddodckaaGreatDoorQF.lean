/- Texts joined. -/
import Derived.Test.YtcljccpddodckaaGreatDoorQE
import Derived.Test.YtcljccpddodckaaGreatDoorQC
/- CompileForward, lifted. -/
namespace Go.Proofs.YtcljccpddodckaaGreatDoor
open Go Go.Am Go.Proofs
set_option linter.unusedSimpArgs false
set_option linter.unusedVariables false
set_option maxRecDepth 100000
noncomputable def E6 : Env := { P := Tryz.prog, glob := globF, ext := fun _ _ => none, way := way, lit := litF, code := fun f => (Tryz.prog.funcs[f]?).bind annF, sett := fun _ => true, rows := true, inv := [(1, intCell .i64)] }
theorem hW6 : WF E6 := WF.of E6 (fun _ => rfl) (by kernel_rfl)
theorem hX6 : SoundX E6 := SoundX.none fun _ _ => rfl
theorem sc6 {f : FuncId} {args : List V} {L : List (Option Chunk)} {cr : CRes} : SC E6 f args L cr ↔ SC E f args L cr :=
  ⟨fun h => ⟨h.1, fun β S w us h1 h2 h3 => h.2 β S w us h1 h2 ⟨h3.rd, h3.inv⟩⟩, fun h => ⟨h.1, fun β S w us h1 h2 h3 => h.2 β S w us h1 h2 ⟨h3.rd, h3.inv⟩⟩⟩
abbrev a_lives : Type := Unit
abbrev g_lives : Type := Bool
def A_lives : a_lives → List V × List (Option Chunk) := (fun _ => (([] : List V), ([] : List (Option Chunk))))
def d_lives (t : List V × List (Option Chunk)) : a_lives := ()
theorem i_lives : ∀ x y, A_lives x = A_lives y → x = y := fun x y h => (congrArg d_lives h :)
def R_lives : g_lives → CRes := (fun z => (fun (b : Bool) => .ret (bo b) []) z : (Bool) → CRes)
def x_lives (z : g_lives) (k : CRes → Option Ans) : Option Ans := k (R_lives z)
theorem xe_lives : ∀ z k, x_lives z k = k (R_lives z) := fun z k => rfl
noncomputable def lives (q : Nat) (x : a_lives) : Option g_lives := some true
theorem sc_lives (q : Nat) : ∀ (x : a_lives) (z : g_lives), lives q x = some z → SC E6 9 (A_lives x).1 (A_lives x).2 (R_lives z) := by
  intro x z h
  cases h
  exact sc6.2 lives_true
abbrev a_Verify : Type := ByteArray × Int × Int × Nat × (Nat → Int) × (Nat → Int)
abbrev g_Verify : Type := Int
def A_Verify : a_Verify → List V × List (Option Chunk) := (fun x => (fun (nm : ByteArray) (ps : Int) (vs : Int) (n : Nat) (op : Nat → Int) (ar : Nat → Int) => (([.agg [st nm, i64 ps, i64 vs, .ro 2 n (fun j => [i64 (op j), i64 (ar j)])]] : List V), ([] : List (Option Chunk)))) x.1 x.2.1 x.2.2.1 x.2.2.2.1 x.2.2.2.2.1 x.2.2.2.2.2)
def d_Verify (t : List V × List (Option Chunk)) : a_Verify := ((vS ((vAg (t.1.getD 0 .junk)).getD 0 .junk)), (vI ((vAg (t.1.getD 0 .junk)).getD 1 .junk)), (vI ((vAg (t.1.getD 0 .junk)).getD 2 .junk)), (vRoN ((vAg (t.1.getD 0 .junk)).getD 3 .junk)), (fun j => (vI ((vRoF ((vAg (t.1.getD 0 .junk)).getD 3 .junk) j).getD 0 .junk))), (fun j => (vI ((vRoF ((vAg (t.1.getD 0 .junk)).getD 3 .junk) j).getD 1 .junk))))
theorem i_Verify : ∀ x y, A_Verify x = A_Verify y → x = y := fun x y h => (congrArg d_Verify h :)
def R_Verify : g_Verify → CRes := (fun z => (fun (e : Int) => .ret (i64 e) []) z : (Int) → CRes)
def x_Verify (z : g_Verify) (k : CRes → Option Ans) : Option Ans := k (R_Verify z)
theorem xe_Verify : ∀ z k, x_Verify z k = k (R_Verify z) := fun z k => rfl
noncomputable def Verify (q : Nat) (x : a_Verify) : Option g_Verify := some (verV x.2.1 (mkC x.2.2.1 x.2.2.2.1 x.2.2.2.2.1 x.2.2.2.2.2))
theorem sc_Verify (q : Nat) : ∀ (x : a_Verify) (z : g_Verify), Verify q x = some z → SC E6 7 (A_Verify x).1 (A_Verify x).2 (R_Verify z) := by
  rintro ⟨nm, ps, vs, n, op, ar⟩ z h
  cases h
  exact sc6.2 (sc2 (verify_sc nm ps vs n op ar))
abbrev a_RVerify : Type := ByteArray × Int × Int × Nat × (Nat → Int) × (Nat → Int)
abbrev g_RVerify : Type := Int
def A_RVerify : a_RVerify → List V × List (Option Chunk) := (fun x => (fun (nm : ByteArray) (ps : Int) (vs : Int) (n : Nat) (op : Nat → Int) (ar : Nat → Int) => (([.agg [st nm, i64 ps, i64 vs, .ro 2 n (fun j => [i64 (op j), i64 (ar j)])]] : List V), ([] : List (Option Chunk)))) x.1 x.2.1 x.2.2.1 x.2.2.2.1 x.2.2.2.2.1 x.2.2.2.2.2)
def d_RVerify (t : List V × List (Option Chunk)) : a_RVerify := ((vS ((vAg (t.1.getD 0 .junk)).getD 0 .junk)), (vI ((vAg (t.1.getD 0 .junk)).getD 1 .junk)), (vI ((vAg (t.1.getD 0 .junk)).getD 2 .junk)), (vRoN ((vAg (t.1.getD 0 .junk)).getD 3 .junk)), (fun j => (vI ((vRoF ((vAg (t.1.getD 0 .junk)).getD 3 .junk) j).getD 0 .junk))), (fun j => (vI ((vRoF ((vAg (t.1.getD 0 .junk)).getD 3 .junk) j).getD 1 .junk))))
theorem i_RVerify : ∀ x y, A_RVerify x = A_RVerify y → x = y := fun x y h => (congrArg d_RVerify h :)
def R_RVerify : g_RVerify → CRes := (fun z => (fun (e : Int) => .ret (i64 e) []) z : (Int) → CRes)
def x_RVerify (z : g_RVerify) (k : CRes → Option Ans) : Option Ans := k (R_RVerify z)
theorem xe_RVerify : ∀ z k, x_RVerify z k = k (R_RVerify z) := fun z k => rfl
noncomputable def RVerify (q : Nat) (x : a_RVerify) : Option g_RVerify := some (verV x.2.1 (mkC x.2.2.1 x.2.2.2.1 x.2.2.2.2.1 x.2.2.2.2.2))
theorem sc_RVerify (q : Nat) : ∀ (x : a_RVerify) (z : g_RVerify), RVerify q x = some z → SC E6 8 (A_RVerify x).1 (A_RVerify x).2 (R_RVerify z) := by
  rintro ⟨nm, ps, vs, n, op, ar⟩ z h
  cases h
  exact sc6.2 (sc2 (refVerify_sc nm ps vs n op ar))
abbrev a_Regions : Type := Nat × (Nat → Int) × (Nat → Int)
abbrev g_Regions : Type := Nat × (Nat → Int) × (Nat → Int) × Bool
def A_Regions : a_Regions → List V × List (Option Chunk) := (fun x => (fun (n : Nat) (op : Nat → Int) (ar : Nat → Int) => (([.ro 2 n (fun j => [i64 (op j), i64 (ar j)])] : List V), ([] : List (Option Chunk)))) x.1 x.2.1 x.2.2)
def d_Regions (t : List V × List (Option Chunk)) : a_Regions := ((vRoN (t.1.getD 0 .junk)), (fun j => (vI ((vRoF (t.1.getD 0 .junk) j).getD 0 .junk))), (fun j => (vI ((vRoF (t.1.getD 0 .junk) j).getD 1 .junk))))
theorem i_Regions : ∀ x y, A_Regions x = A_Regions y → x = y := fun x y h => (congrArg d_Regions h :)
def R_Regions : g_Regions → CRes := (fun z => (fun (m : Nat) (gl : Nat → Int) (gw : Nat → Int) (b : Bool) => .ret (.tup [.ro 1 m (fun j => [i64 (gl j)]), .ro 1 m (fun j => [i64 (gw j)]), bo b]) []) z.1 z.2.1 z.2.2.1 z.2.2.2 : (Nat × (Nat → Int) × (Nat → Int) × Bool) → CRes)
def x_Regions (z : g_Regions) (k : CRes → Option Ans) : Option Ans := k (R_Regions z)
theorem xe_Regions : ∀ z k, x_Regions z k = k (R_Regions z) := fun z k => rfl
noncomputable def Regions (q : Nat) (x : a_Regions) : Option g_Regions :=
  if 1 ≤ x.1 ∧ x.1 ≤ 300 then (Cv.regR (mkC 0 x.1 x.2.1 x.2.2) x.1 0 rg0).map fun r => (x.1, r.L, r.W, decide (r.m = 0 ∧ r.wa < 0)) else none
theorem sc_Regions (q : Nat) : ∀ (x : a_Regions) (z : g_Regions), Regions q x = some z → SC E6 10 (A_Regions x).1 (A_Regions x).2 (R_Regions z) := by
  rintro ⟨n, op, ar⟩ z h
  unfold Regions at h
  split at h
  · rename_i hn
    have hs := sc6.2 (sc2 (regions_sc (n := n) (op := op) (arg := ar) 0 hn.2 hn.1))
    simp only [Option.map_eq_some_iff] at h
    obtain ⟨r, hr, rfl⟩ := h
    rw [hr] at hs
    exact hs
  · cases h
abbrev a_Fwd : Type := ByteArray × Int × Int × Nat × (Nat → Int) × (Nat → Int) × Nat × (Nat → Bool)
abbrev g_Fwd : Type := Bool
def A_Fwd : a_Fwd → List V × List (Option Chunk) := (fun x => (fun (nm : ByteArray) (ps : Int) (vs : Int) (n : Nat) (op : Nat → Int) (ar : Nat → Int) (cn : Nat) (ch : Nat → Bool) => (([.agg [st nm, i64 ps, i64 vs, .ro 2 n (fun j => [i64 (op j), i64 (ar j)])], .ro 1 cn (fun j => [bo (ch j)])] : List V), ([] : List (Option Chunk)))) x.1 x.2.1 x.2.2.1 x.2.2.2.1 x.2.2.2.2.1 x.2.2.2.2.2.1 x.2.2.2.2.2.2.1 x.2.2.2.2.2.2.2)
def R_Fwd : g_Fwd → CRes := (fun z => (fun (b : Bool) => .ret (bo b) []) z : (Bool) → CRes)
abbrev Fwd_l0_a : Type := Nat × (Nat → Int) × Int × (Nat → Int)
abbrev Fwd_l0_g : Type := Nat → Int
def Fwd_l0_S (x : a_Fwd) (y : Fwd_l0_a) : St := { fr := [V.junk, V.ro 1 (x.2.2.2.2.2.2.1) fun (j : Nat) => [bo (x.2.2.2.2.2.2.2 j)], V.ptr 0 0, V.junk, V.junk, V.ro 1 (y.1) fun (j : Nat) => [i64 (y.2.1 j)], V.junk, V.junk, V.sl 1 1 0 (Int.toNat ((x.2.2.2.1 : Nat) : Int)), i64 (y.2.2.1)] ++ jk 168, H := hp [some (Chunk.blk [st (x.1), i64 (x.2.1), i64 (x.2.2.1), V.ro 2 (x.2.2.2.1) fun (j : Nat) => [i64 (x.2.2.2.2.1 j), i64 (x.2.2.2.2.2.1 j)]]), some (Chunk.row 3 1 (Int.toNat ((x.2.2.2.1 : Nat) : Int)) fun (j : Nat) => [i64 (y.2.2.2 j)])], nx := 2, rt := 0, me := 4 }
def Fwd_l0_d (s : St) : Fwd_l0_a := ((vRoN (s.fr.getD 5 .junk)), (fun j => (vI (((vRoF (s.fr.getD 5 .junk)) j).getD 0 .junk))), (vI (s.fr.getD 9 .junk)), (fun j => (vI (((chF (s.H 1)) j).getD 0 .junk))))
theorem Fwd_l0_i (x : a_Fwd) : ∀ y y', Fwd_l0_S x y = Fwd_l0_S x y' → y = y' := fun y y' h => (congrArg Fwd_l0_d h :)
def Fwd_l0_T (x : a_Fwd) : Fwd_l0_g → Ex × St := (fun z => (Ex.exit 0, { fr := [V.junk, V.ro 1 (x.2.2.2.2.2.2.1) fun (j : Nat) => [bo (x.2.2.2.2.2.2.2 j)], V.ptr 0 0] ++ jk 5 ++ [V.sl 1 1 0 (Int.toNat ((x.2.2.2.1 : Nat) : Int))] ++ jk 169, H := hp [some (Chunk.blk [st (x.1), i64 (x.2.1), i64 (x.2.2.1), V.ro 2 (x.2.2.2.1) fun (j : Nat) => [i64 (x.2.2.2.2.1 j), i64 (x.2.2.2.2.2.1 j)]]), some (Chunk.row 3 1 (Int.toNat ((x.2.2.2.1 : Nat) : Int)) fun (j : Nat) => [i64 (z j)])], nx := 2, rt := 0, me := 4 }))
def Fwd_l0_x (x : a_Fwd) (z : Fwd_l0_g) (k : KX) : Option Ans := k (Fwd_l0_T x z).1 (Fwd_l0_T x z).2
theorem Fwd_l0_xe (x : a_Fwd) : ∀ z k, Fwd_l0_x x z k = k (Fwd_l0_T x z).1 (Fwd_l0_T x z).2 := fun z k => rfl
theorem Fwd_l0_k0 (x : a_Fwd) (z : Nat → Int) : KCM [(0, 262)] 16 (Fwd_l0_T x z).1 (Fwd_l0_T x z).2 = some (.l (Fwd_l0_T x z).1 (Fwd_l0_T x z).2) := by kernel_rfl
def Fwd_l0_t {β : Type} (c_Verify : a_Verify → Option g_Verify) (c_RVerify : a_RVerify → Option g_RVerify) (c_Regions : a_Regions → Option g_Regions) (c_lives : a_lives → Option g_lives) (x : a_Fwd) (y : Fwd_l0_a) (nx : Fwd_l0_a → Option β) (dn : Fwd_l0_g → Option β) : Option β :=
 if decide (y.2.2.1 < ((Int.toNat ((x.2.2.2.1 : Nat) : Int) : Nat) : Int)) = true then
  if (0 : Int) ≤ y.2.2.1 ∧ y.2.2.1 < ((Int.toNat ((x.2.2.2.1 : Nat) : Int) : Nat) : Int) then
   if 0 + Int.toNat (y.2.2.1) < Int.toNat ((x.2.2.2.1 : Nat) : Int) ∧ 1 = 1 then
    if (0 : Int) ≤ y.2.2.1 ∧ y.2.2.1 < ((y.1 : Nat) : Int) then
     if decide (y.2.1 (Int.toNat (y.2.2.1)) ≥ (0 : Int)) = true then
      if (0 : Int) ≤ y.2.2.1 ∧ y.2.2.1 < ((y.1 : Nat) : Int) then
       if (0 : Int) ≤ y.2.1 (Int.toNat (y.2.2.1)) ∧ y.2.1 (Int.toNat (y.2.2.1)) < ((Int.toNat ((x.2.2.2.1 : Nat) : Int) : Nat) : Int) then
        if 0 + Int.toNat (y.2.1 (Int.toNat (y.2.2.1))) < Int.toNat ((x.2.2.2.1 : Nat) : Int) ∧ 1 = 1 then
         if (0 : Int) ≤ y.2.2.1 ∧ y.2.2.1 < ((y.1 : Nat) : Int) then
          if (0 : Int) ≤ y.2.1 (Int.toNat (y.2.2.1)) ∧ y.2.1 (Int.toNat (y.2.2.1)) < ((x.2.2.2.1 : Nat) : Int) then
           if (0 : Int) ≤ y.2.2.1 ∧ y.2.2.1 < ((Int.toNat ((x.2.2.2.1 : Nat) : Int) : Nat) : Int) then
            if 0 + Int.toNat (y.2.2.1) < Int.toNat ((x.2.2.2.1 : Nat) : Int) ∧ 1 = 1 then
             nx ((y.1, y.2.1, w (y.2.2.1 + (1 : Int)), fun (j : Nat) => if j = 0 + Int.toNat (y.2.2.1) then if (1000 : Int) < w ((if 0 + Int.toNat (y.2.1 (Int.toNat (y.2.2.1))) = 0 + Int.toNat (y.2.2.1) then (1 : Int) else y.2.2.2 (0 + Int.toNat (y.2.1 (Int.toNat (y.2.2.1))))) * x.2.2.2.2.2.1 (Int.toNat (y.2.1 (Int.toNat (y.2.2.1))))) then (1000 : Int) else w ((if 0 + Int.toNat (y.2.1 (Int.toNat (y.2.2.1))) = 0 + Int.toNat (y.2.2.1) then (1 : Int) else y.2.2.2 (0 + Int.toNat (y.2.1 (Int.toNat (y.2.2.1))))) * x.2.2.2.2.2.1 (Int.toNat (y.2.1 (Int.toNat (y.2.2.1))))) else if j = 0 + Int.toNat (y.2.2.1) then (1 : Int) else y.2.2.2 j))
            else
             none
           else
            none
          else
           none
         else
          none
        else
         none
       else
        none
      else
       none
     else
      nx ((y.1, y.2.1, w (y.2.2.1 + (1 : Int)), fun (j : Nat) => if j = 0 + Int.toNat (y.2.2.1) then (1 : Int) else y.2.2.2 j))
    else
     none
   else
    none
  else
   none
 else
  dn (y.2.2.2)
theorem Fwd_l0_n {β : Type} (c_Verify : a_Verify → Option g_Verify) (c_RVerify : a_RVerify → Option g_RVerify) (c_Regions : a_Regions → Option g_Regions) (c_lives : a_lives → Option g_lives) (x : a_Fwd) (y : Fwd_l0_a) (nx : Fwd_l0_a → Option β) (dn : Fwd_l0_g → Option β) : Fwd_l0_t c_Verify c_RVerify c_Regions c_lives x y nx dn = (Fwd_l0_t c_Verify c_RVerify c_Regions c_lives x y (fun y => some (.inl y)) (fun z => some (.inr z))).bind fun r => Sum.elim nx dn r := by
  unfold Fwd_l0_t
  repeat' first | exact free_none | refine free_bind (fun z => ?_) | refine free_ite ?_ ?_ | refine free_sum (fun z => ?_) (fun z => ?_) | rfl
theorem Fwd_l0_r (c_Verify : a_Verify → Option g_Verify) (c_RVerify : a_RVerify → Option g_RVerify) (c_Regions : a_Regions → Option g_Regions) (c_lives : a_lives → Option g_lives) (x : a_Fwd) (y : Fwd_l0_a) (lo : LoopT) : loopK E6 (ftab 7 (fun _ _ => true) A_Verify x_Verify c_Verify (ftab 8 (fun _ _ => true) A_RVerify x_RVerify c_RVerify (ftab 10 (fun _ _ => true) A_Regions x_Regions c_Regions (ftab 9 (fun _ _ => true) A_lives x_lives c_lives ca0)))) lo 0 806 (bodyOf E6 4 0) (Fwd_l0_S x y) (KCM [(0, 262)] 16) = Fwd_l0_t (fun x => viaF A_Verify c_Verify (A_Verify x)) (fun x => viaF A_RVerify c_RVerify (A_RVerify x)) (fun x => viaF A_Regions c_Regions (A_Regions x)) (fun x => viaF A_lives c_lives (A_lives x)) x y (fun y => lo 0 806 (bodyOf E6 4 0) (Fwd_l0_S x y) (KCM [(0, 262)] 16)) (fun z => some (.l (Fwd_l0_T x z).1 (Fwd_l0_T x z).2)) := by kernel_rfl
noncomputable def Fwd_l0 (c_Verify : a_Verify → Option g_Verify) (c_RVerify : a_RVerify → Option g_RVerify) (c_Regions : a_Regions → Option g_Regions) (c_lives : a_lives → Option g_lives) (q : Nat) (x : a_Fwd) : Fwd_l0_a → Option Fwd_l0_g := lpG (fun y => Fwd_l0_t c_Verify c_RVerify c_Regions c_lives x y (fun y => some (.inl y)) (fun z => some (.inr z))) q
theorem Fwd_l0_s (c_Verify : a_Verify → Option g_Verify) (h_Verify : ∀ x z, c_Verify x = some z → SC E6 7 (A_Verify x).1 (A_Verify x).2 (R_Verify z)) (c_RVerify : a_RVerify → Option g_RVerify) (h_RVerify : ∀ x z, c_RVerify x = some z → SC E6 8 (A_RVerify x).1 (A_RVerify x).2 (R_RVerify z)) (c_Regions : a_Regions → Option g_Regions) (h_Regions : ∀ x z, c_Regions x = some z → SC E6 10 (A_Regions x).1 (A_Regions x).2 (R_Regions z)) (c_lives : a_lives → Option g_lives) (h_lives : ∀ x z, c_lives x = some z → SC E6 9 (A_lives x).1 (A_lives x).2 (R_lives z)) (q : Nat) (x : a_Fwd) : ∀ y z, Fwd_l0 c_Verify c_RVerify c_Regions c_lives q x y = some z → SL E6 (bodyOf E6 4 0) (Fwd_l0_S x y) (Fwd_l0_T x z).1 (Fwd_l0_T x z).2 :=
  SL.lp (LT := fun lo => lo) (T := Fwd_l0_T x) (S := Fwd_l0_S x) (ftab_cons h_Verify xe_Verify (ftab_cons h_RVerify xe_RVerify (ftab_cons h_Regions xe_Regions (ftab_cons h_lives xe_lives ca0_sound)))) hX6 (fun lo h => h) (fun lo y => (Fwd_l0_r c_Verify c_RVerify c_Regions c_lives x y lo).trans (by rw [via_eq i_Verify c_Verify, via_eq i_RVerify c_RVerify, via_eq i_Regions c_Regions, via_eq i_lives c_lives]; exact Fwd_l0_n _ _ _ _ _ _ _ _)) (Fwd_l0_k0 x) q
abbrev Fwd_l2_a : Type := (Nat → Int) × Int × Int × (Nat → Int) × (Nat → Int)
abbrev Fwd_l2_g : Type := (Unit) ⊕ (Unit)
def Fwd_l2_S (x : a_Fwd) (y : Fwd_l2_a) : St := { fr := [V.junk, V.ro 1 (x.2.2.2.2.2.2.1) fun (j : Nat) => [bo (x.2.2.2.2.2.2.2 j)], V.ptr 0 0] ++ jk 5 ++ [V.sl 1 1 0 (Int.toNat ((x.2.2.2.1 : Nat) : Int)), V.junk, V.sl 2 1 0 (Int.toNat ((x.2.2.2.1 : Nat) : Int)), V.sl 3 1 0 (Int.toNat ((x.2.2.2.1 : Nat) : Int)), i64 (y.2.1), i64 (y.2.2.1)] ++ jk 164, H := hp [some (Chunk.blk [st (x.1), i64 (x.2.1), i64 (x.2.2.1), V.ro 2 (x.2.2.2.1) fun (j : Nat) => [i64 (x.2.2.2.2.1 j), i64 (x.2.2.2.2.2.1 j)]]), some (Chunk.row 3 1 (Int.toNat ((x.2.2.2.1 : Nat) : Int)) fun (j : Nat) => [i64 (y.1 j)]), some (Chunk.row 3 1 (Int.toNat ((x.2.2.2.1 : Nat) : Int)) fun (j : Nat) => [i64 (y.2.2.2.1 j)]), some (Chunk.row 3 1 (Int.toNat ((x.2.2.2.1 : Nat) : Int)) fun (j : Nat) => [i64 (y.2.2.2.2 j)])], nx := 4, rt := 0, me := 4 }
def Fwd_l2_d (s : St) : Fwd_l2_a := ((fun j => (vI (((chF (s.H 1)) j).getD 0 .junk))), (vI (s.fr.getD 12 .junk)), (vI (s.fr.getD 13 .junk)), (fun j => (vI (((chF (s.H 2)) j).getD 0 .junk))), (fun j => (vI (((chF (s.H 3)) j).getD 0 .junk))))
theorem Fwd_l2_i (x : a_Fwd) : ∀ y y', Fwd_l2_S x y = Fwd_l2_S x y' → y = y' := fun y y' h => (congrArg Fwd_l2_d h :)
def Fwd_l2_T (x : a_Fwd) : Fwd_l2_g → Ex × St := (Sum.elim (fun z => (Ex.ret, { fr := jk 4 ++ [bo false] ++ jk 173, H := hp [], nx := 0, rt := 0, me := 4 })) (fun z => (Ex.exit 2, { fr := [V.junk] ++ jk 177, H := hp [], nx := 0, rt := 0, me := 4 })))
def Fwd_l2_x (x : a_Fwd) (z : Fwd_l2_g) (k : KX) : Option Ans := Sum.elim (fun za => k (Fwd_l2_T x (.inl za)).1 (Fwd_l2_T x (.inl za)).2) (fun zb => k (Fwd_l2_T x (.inr zb)).1 (Fwd_l2_T x (.inr zb)).2) z
theorem Fwd_l2_xe (x : a_Fwd) : ∀ z k, Fwd_l2_x x z k = k (Fwd_l2_T x z).1 (Fwd_l2_T x z).2 := fun z k => by
  rcases z with z | z <;> rfl
theorem Fwd_l2_k0 (x : a_Fwd) (z : Unit) : KCM [(2, 0)] 16 (Fwd_l2_T x (.inl z)).1 (Fwd_l2_T x (.inl z)).2 = some (.l (Fwd_l2_T x (.inl z)).1 (Fwd_l2_T x (.inl z)).2) := by kernel_rfl
theorem Fwd_l2_k1 (x : a_Fwd) (z : Unit) : KCM [(2, 0)] 16 (Fwd_l2_T x (.inr z)).1 (Fwd_l2_T x (.inr z)).2 = some (.l (Fwd_l2_T x (.inr z)).1 (Fwd_l2_T x (.inr z)).2) := by kernel_rfl
def Fwd_l2_t {β : Type} (c_Verify : a_Verify → Option g_Verify) (c_RVerify : a_RVerify → Option g_RVerify) (c_Regions : a_Regions → Option g_Regions) (c_lives : a_lives → Option g_lives) (x : a_Fwd) (y : Fwd_l2_a) (nx : Fwd_l2_a → Option β) (dn : Fwd_l2_g → Option β) : Option β :=
 if decide (y.2.2.1 < (2000 : Int)) = true then
  if decide (y.2.1 < ((x.2.2.2.1 : Nat) : Int)) = true then
   if (0 : Int) ≤ y.2.1 ∧ y.2.1 < ((x.2.2.2.1 : Nat) : Int) then
    if (0 : Int) ≤ y.2.1 ∧ y.2.1 < ((Int.toNat ((x.2.2.2.1 : Nat) : Int) : Nat) : Int) then
     if 0 + Int.toNat (y.2.1) < Int.toNat ((x.2.2.2.1 : Nat) : Int) ∧ 1 = 1 then
      if (0 : Int) ≤ y.2.1 ∧ y.2.1 < ((Int.toNat ((x.2.2.2.1 : Nat) : Int) : Nat) : Int) then
       if 0 + Int.toNat (y.2.1) < Int.toNat ((x.2.2.2.1 : Nat) : Int) ∧ 1 = 1 then
        if (0 : Int) ≤ y.2.1 ∧ y.2.1 < ((Int.toNat ((x.2.2.2.1 : Nat) : Int) : Nat) : Int) then
         if 0 + Int.toNat (y.2.1) < Int.toNat ((x.2.2.2.1 : Nat) : Int) ∧ 1 = 1 then
          if decide (y.1 (0 + Int.toNat (y.2.1)) < (1000 : Int)) = true then
           if (0 : Int) ≤ y.2.1 ∧ y.2.1 < ((Int.toNat ((x.2.2.2.1 : Nat) : Int) : Nat) : Int) then
            if 0 + Int.toNat (y.2.1) < Int.toNat ((x.2.2.2.1 : Nat) : Int) ∧ 1 = 1 then
             if (0 : Int) ≤ y.2.1 ∧ y.2.1 < ((Int.toNat ((x.2.2.2.1 : Nat) : Int) : Nat) : Int) then
              if 0 + Int.toNat (y.2.1) < Int.toNat ((x.2.2.2.1 : Nat) : Int) ∧ 1 = 1 then
               if decide ((if 0 + Int.toNat (y.2.1) = 0 + Int.toNat (y.2.1) then w (y.2.2.2.1 (0 + Int.toNat (y.2.1)) + (1 : Int)) else y.2.2.2.1 (0 + Int.toNat (y.2.1))) > y.1 (0 + Int.toNat (y.2.1))) = true then
                dn (.inl ())
               else
                if (x.2.2.2.2.1 (Int.toNat (y.2.1)) == (14 : Int)) = true then
                 if decide (x.2.2.2.2.2.1 (Int.toNat (y.2.1)) ≤ y.2.1) = true then
                  dn (.inl ())
                 else
                  if (x.2.2.2.2.1 (Int.toNat (y.2.1)) == (17 : Int)) = true then
                   if (0 : Int) ≤ w (x.2.2.2.2.2.1 (Int.toNat (y.2.1)) - (1 : Int)) ∧ w (x.2.2.2.2.2.1 (Int.toNat (y.2.1)) - (1 : Int)) < ((Int.toNat ((x.2.2.2.1 : Nat) : Int) : Nat) : Int) then
                    if 0 + Int.toNat (w (x.2.2.2.2.2.1 (Int.toNat (y.2.1)) - (1 : Int))) < Int.toNat ((x.2.2.2.1 : Nat) : Int) ∧ 1 = 1 then
                     if (0 : Int) ≤ w (x.2.2.2.2.2.1 (Int.toNat (y.2.1)) - (1 : Int)) ∧ w (x.2.2.2.2.2.1 (Int.toNat (y.2.1)) - (1 : Int)) < ((Int.toNat ((x.2.2.2.1 : Nat) : Int) : Nat) : Int) then
                      if 0 + Int.toNat (w (x.2.2.2.2.2.1 (Int.toNat (y.2.1)) - (1 : Int))) < Int.toNat ((x.2.2.2.1 : Nat) : Int) ∧ 1 = 1 then
                       if (0 : Int) ≤ w (x.2.2.2.2.2.1 (Int.toNat (y.2.1)) - (1 : Int)) ∧ w (x.2.2.2.2.2.1 (Int.toNat (y.2.1)) - (1 : Int)) < ((Int.toNat ((x.2.2.2.1 : Nat) : Int) : Nat) : Int) then
                        if 0 + Int.toNat (w (x.2.2.2.2.2.1 (Int.toNat (y.2.1)) - (1 : Int))) < Int.toNat ((x.2.2.2.1 : Nat) : Int) ∧ 1 = 1 then
                         if (0 : Int) ≤ w (x.2.2.2.2.2.1 (Int.toNat (y.2.1)) - (1 : Int)) ∧ w (x.2.2.2.2.2.1 (Int.toNat (y.2.1)) - (1 : Int)) < ((x.2.2.2.1 : Nat) : Int) then
                          if decide ((if 0 + Int.toNat (w (x.2.2.2.2.2.1 (Int.toNat (y.2.1)) - (1 : Int))) = 0 + Int.toNat (w (x.2.2.2.2.2.1 (Int.toNat (y.2.1)) - (1 : Int))) then w (y.2.2.2.2 (0 + Int.toNat (w (x.2.2.2.2.2.1 (Int.toNat (y.2.1)) - (1 : Int)))) + (1 : Int)) else y.2.2.2.2 (0 + Int.toNat (w (x.2.2.2.2.2.1 (Int.toNat (y.2.1)) - (1 : Int))))) < x.2.2.2.2.2.1 (Int.toNat (w (x.2.2.2.2.2.1 (Int.toNat (y.2.1)) - (1 : Int))))) = true then
                           nx ((y.1, x.2.2.2.2.2.1 (Int.toNat (y.2.1)), w (y.2.2.1 + (1 : Int)), fun (j : Nat) => if j = 0 + Int.toNat (y.2.1) then w (y.2.2.2.1 (0 + Int.toNat (y.2.1)) + (1 : Int)) else y.2.2.2.1 j, fun (j : Nat) => if j = 0 + Int.toNat (w (x.2.2.2.2.2.1 (Int.toNat (y.2.1)) - (1 : Int))) then w (y.2.2.2.2 (0 + Int.toNat (w (x.2.2.2.2.2.1 (Int.toNat (y.2.1)) - (1 : Int)))) + (1 : Int)) else y.2.2.2.2 j))
                          else
                           if (0 : Int) ≤ w (x.2.2.2.2.2.1 (Int.toNat (y.2.1)) - (1 : Int)) ∧ w (x.2.2.2.2.2.1 (Int.toNat (y.2.1)) - (1 : Int)) < ((Int.toNat ((x.2.2.2.1 : Nat) : Int) : Nat) : Int) then
                            if 0 + Int.toNat (w (x.2.2.2.2.2.1 (Int.toNat (y.2.1)) - (1 : Int))) < Int.toNat ((x.2.2.2.1 : Nat) : Int) ∧ 1 = 1 then
                             nx ((y.1, x.2.2.2.2.2.1 (Int.toNat (y.2.1)), w (y.2.2.1 + (1 : Int)), fun (j : Nat) => if j = 0 + Int.toNat (y.2.1) then w (y.2.2.2.1 (0 + Int.toNat (y.2.1)) + (1 : Int)) else y.2.2.2.1 j, fun (j : Nat) => if j = 0 + Int.toNat (w (x.2.2.2.2.2.1 (Int.toNat (y.2.1)) - (1 : Int))) then (0 : Int) else if j = 0 + Int.toNat (w (x.2.2.2.2.2.1 (Int.toNat (y.2.1)) - (1 : Int))) then w (y.2.2.2.2 (0 + Int.toNat (w (x.2.2.2.2.2.1 (Int.toNat (y.2.1)) - (1 : Int)))) + (1 : Int)) else y.2.2.2.2 j))
                            else
                             none
                           else
                            none
                         else
                          none
                        else
                         none
                       else
                        none
                      else
                       none
                     else
                      none
                    else
                     none
                   else
                    none
                  else
                   nx ((y.1, x.2.2.2.2.2.1 (Int.toNat (y.2.1)), w (y.2.2.1 + (1 : Int)), fun (j : Nat) => if j = 0 + Int.toNat (y.2.1) then w (y.2.2.2.1 (0 + Int.toNat (y.2.1)) + (1 : Int)) else y.2.2.2.1 j, y.2.2.2.2))
                else
                 if (x.2.2.2.2.1 (Int.toNat (y.2.1)) == (15 : Int)) = true then
                  if decide (y.2.2.1 < ((x.2.2.2.2.2.2.1 : Nat) : Int)) = true then
                   if (0 : Int) ≤ y.2.2.1 ∧ y.2.2.1 < ((x.2.2.2.2.2.2.1 : Nat) : Int) then
                    if x.2.2.2.2.2.2.2 (Int.toNat (y.2.2.1)) = true then
                     if decide (x.2.2.2.2.2.1 (Int.toNat (y.2.1)) ≤ y.2.1) = true then
                      dn (.inl ())
                     else
                      if (x.2.2.2.2.1 (Int.toNat (y.2.1)) == (17 : Int)) = true then
                       if (0 : Int) ≤ w (x.2.2.2.2.2.1 (Int.toNat (y.2.1)) - (1 : Int)) ∧ w (x.2.2.2.2.2.1 (Int.toNat (y.2.1)) - (1 : Int)) < ((Int.toNat ((x.2.2.2.1 : Nat) : Int) : Nat) : Int) then
                        if 0 + Int.toNat (w (x.2.2.2.2.2.1 (Int.toNat (y.2.1)) - (1 : Int))) < Int.toNat ((x.2.2.2.1 : Nat) : Int) ∧ 1 = 1 then
                         if (0 : Int) ≤ w (x.2.2.2.2.2.1 (Int.toNat (y.2.1)) - (1 : Int)) ∧ w (x.2.2.2.2.2.1 (Int.toNat (y.2.1)) - (1 : Int)) < ((Int.toNat ((x.2.2.2.1 : Nat) : Int) : Nat) : Int) then
                          if 0 + Int.toNat (w (x.2.2.2.2.2.1 (Int.toNat (y.2.1)) - (1 : Int))) < Int.toNat ((x.2.2.2.1 : Nat) : Int) ∧ 1 = 1 then
                           if (0 : Int) ≤ w (x.2.2.2.2.2.1 (Int.toNat (y.2.1)) - (1 : Int)) ∧ w (x.2.2.2.2.2.1 (Int.toNat (y.2.1)) - (1 : Int)) < ((Int.toNat ((x.2.2.2.1 : Nat) : Int) : Nat) : Int) then
                            if 0 + Int.toNat (w (x.2.2.2.2.2.1 (Int.toNat (y.2.1)) - (1 : Int))) < Int.toNat ((x.2.2.2.1 : Nat) : Int) ∧ 1 = 1 then
                             if (0 : Int) ≤ w (x.2.2.2.2.2.1 (Int.toNat (y.2.1)) - (1 : Int)) ∧ w (x.2.2.2.2.2.1 (Int.toNat (y.2.1)) - (1 : Int)) < ((x.2.2.2.1 : Nat) : Int) then
                              if decide ((if 0 + Int.toNat (w (x.2.2.2.2.2.1 (Int.toNat (y.2.1)) - (1 : Int))) = 0 + Int.toNat (w (x.2.2.2.2.2.1 (Int.toNat (y.2.1)) - (1 : Int))) then w (y.2.2.2.2 (0 + Int.toNat (w (x.2.2.2.2.2.1 (Int.toNat (y.2.1)) - (1 : Int)))) + (1 : Int)) else y.2.2.2.2 (0 + Int.toNat (w (x.2.2.2.2.2.1 (Int.toNat (y.2.1)) - (1 : Int))))) < x.2.2.2.2.2.1 (Int.toNat (w (x.2.2.2.2.2.1 (Int.toNat (y.2.1)) - (1 : Int))))) = true then
                               nx ((y.1, x.2.2.2.2.2.1 (Int.toNat (y.2.1)), w (y.2.2.1 + (1 : Int)), fun (j : Nat) => if j = 0 + Int.toNat (y.2.1) then w (y.2.2.2.1 (0 + Int.toNat (y.2.1)) + (1 : Int)) else y.2.2.2.1 j, fun (j : Nat) => if j = 0 + Int.toNat (w (x.2.2.2.2.2.1 (Int.toNat (y.2.1)) - (1 : Int))) then w (y.2.2.2.2 (0 + Int.toNat (w (x.2.2.2.2.2.1 (Int.toNat (y.2.1)) - (1 : Int)))) + (1 : Int)) else y.2.2.2.2 j))
                              else
                               if (0 : Int) ≤ w (x.2.2.2.2.2.1 (Int.toNat (y.2.1)) - (1 : Int)) ∧ w (x.2.2.2.2.2.1 (Int.toNat (y.2.1)) - (1 : Int)) < ((Int.toNat ((x.2.2.2.1 : Nat) : Int) : Nat) : Int) then
                                if 0 + Int.toNat (w (x.2.2.2.2.2.1 (Int.toNat (y.2.1)) - (1 : Int))) < Int.toNat ((x.2.2.2.1 : Nat) : Int) ∧ 1 = 1 then
                                 nx ((y.1, x.2.2.2.2.2.1 (Int.toNat (y.2.1)), w (y.2.2.1 + (1 : Int)), fun (j : Nat) => if j = 0 + Int.toNat (y.2.1) then w (y.2.2.2.1 (0 + Int.toNat (y.2.1)) + (1 : Int)) else y.2.2.2.1 j, fun (j : Nat) => if j = 0 + Int.toNat (w (x.2.2.2.2.2.1 (Int.toNat (y.2.1)) - (1 : Int))) then (0 : Int) else if j = 0 + Int.toNat (w (x.2.2.2.2.2.1 (Int.toNat (y.2.1)) - (1 : Int))) then w (y.2.2.2.2 (0 + Int.toNat (w (x.2.2.2.2.2.1 (Int.toNat (y.2.1)) - (1 : Int)))) + (1 : Int)) else y.2.2.2.2 j))
                                else
                                 none
                               else
                                none
                             else
                              none
                            else
                             none
                           else
                            none
                          else
                           none
                         else
                          none
                        else
                         none
                       else
                        none
                      else
                       nx ((y.1, x.2.2.2.2.2.1 (Int.toNat (y.2.1)), w (y.2.2.1 + (1 : Int)), fun (j : Nat) => if j = 0 + Int.toNat (y.2.1) then w (y.2.2.2.1 (0 + Int.toNat (y.2.1)) + (1 : Int)) else y.2.2.2.1 j, y.2.2.2.2))
                    else
                     if (x.2.2.2.2.1 (Int.toNat (y.2.1)) == (17 : Int)) = true then
                      if (0 : Int) ≤ w (x.2.2.2.2.2.1 (Int.toNat (y.2.1)) - (1 : Int)) ∧ w (x.2.2.2.2.2.1 (Int.toNat (y.2.1)) - (1 : Int)) < ((Int.toNat ((x.2.2.2.1 : Nat) : Int) : Nat) : Int) then
                       if 0 + Int.toNat (w (x.2.2.2.2.2.1 (Int.toNat (y.2.1)) - (1 : Int))) < Int.toNat ((x.2.2.2.1 : Nat) : Int) ∧ 1 = 1 then
                        if (0 : Int) ≤ w (x.2.2.2.2.2.1 (Int.toNat (y.2.1)) - (1 : Int)) ∧ w (x.2.2.2.2.2.1 (Int.toNat (y.2.1)) - (1 : Int)) < ((Int.toNat ((x.2.2.2.1 : Nat) : Int) : Nat) : Int) then
                         if 0 + Int.toNat (w (x.2.2.2.2.2.1 (Int.toNat (y.2.1)) - (1 : Int))) < Int.toNat ((x.2.2.2.1 : Nat) : Int) ∧ 1 = 1 then
                          if (0 : Int) ≤ w (x.2.2.2.2.2.1 (Int.toNat (y.2.1)) - (1 : Int)) ∧ w (x.2.2.2.2.2.1 (Int.toNat (y.2.1)) - (1 : Int)) < ((Int.toNat ((x.2.2.2.1 : Nat) : Int) : Nat) : Int) then
                           if 0 + Int.toNat (w (x.2.2.2.2.2.1 (Int.toNat (y.2.1)) - (1 : Int))) < Int.toNat ((x.2.2.2.1 : Nat) : Int) ∧ 1 = 1 then
                            if (0 : Int) ≤ w (x.2.2.2.2.2.1 (Int.toNat (y.2.1)) - (1 : Int)) ∧ w (x.2.2.2.2.2.1 (Int.toNat (y.2.1)) - (1 : Int)) < ((x.2.2.2.1 : Nat) : Int) then
                             if decide ((if 0 + Int.toNat (w (x.2.2.2.2.2.1 (Int.toNat (y.2.1)) - (1 : Int))) = 0 + Int.toNat (w (x.2.2.2.2.2.1 (Int.toNat (y.2.1)) - (1 : Int))) then w (y.2.2.2.2 (0 + Int.toNat (w (x.2.2.2.2.2.1 (Int.toNat (y.2.1)) - (1 : Int)))) + (1 : Int)) else y.2.2.2.2 (0 + Int.toNat (w (x.2.2.2.2.2.1 (Int.toNat (y.2.1)) - (1 : Int))))) < x.2.2.2.2.2.1 (Int.toNat (w (x.2.2.2.2.2.1 (Int.toNat (y.2.1)) - (1 : Int))))) = true then
                              nx ((y.1, x.2.2.2.2.2.1 (Int.toNat (y.2.1)), w (y.2.2.1 + (1 : Int)), fun (j : Nat) => if j = 0 + Int.toNat (y.2.1) then w (y.2.2.2.1 (0 + Int.toNat (y.2.1)) + (1 : Int)) else y.2.2.2.1 j, fun (j : Nat) => if j = 0 + Int.toNat (w (x.2.2.2.2.2.1 (Int.toNat (y.2.1)) - (1 : Int))) then w (y.2.2.2.2 (0 + Int.toNat (w (x.2.2.2.2.2.1 (Int.toNat (y.2.1)) - (1 : Int)))) + (1 : Int)) else y.2.2.2.2 j))
                             else
                              if (0 : Int) ≤ w (x.2.2.2.2.2.1 (Int.toNat (y.2.1)) - (1 : Int)) ∧ w (x.2.2.2.2.2.1 (Int.toNat (y.2.1)) - (1 : Int)) < ((Int.toNat ((x.2.2.2.1 : Nat) : Int) : Nat) : Int) then
                               if 0 + Int.toNat (w (x.2.2.2.2.2.1 (Int.toNat (y.2.1)) - (1 : Int))) < Int.toNat ((x.2.2.2.1 : Nat) : Int) ∧ 1 = 1 then
                                nx ((y.1, w (y.2.1 + (1 : Int)), w (y.2.2.1 + (1 : Int)), fun (j : Nat) => if j = 0 + Int.toNat (y.2.1) then w (y.2.2.2.1 (0 + Int.toNat (y.2.1)) + (1 : Int)) else y.2.2.2.1 j, fun (j : Nat) => if j = 0 + Int.toNat (w (x.2.2.2.2.2.1 (Int.toNat (y.2.1)) - (1 : Int))) then (0 : Int) else if j = 0 + Int.toNat (w (x.2.2.2.2.2.1 (Int.toNat (y.2.1)) - (1 : Int))) then w (y.2.2.2.2 (0 + Int.toNat (w (x.2.2.2.2.2.1 (Int.toNat (y.2.1)) - (1 : Int)))) + (1 : Int)) else y.2.2.2.2 j))
                               else
                                none
                              else
                               none
                            else
                             none
                           else
                            none
                          else
                           none
                         else
                          none
                        else
                         none
                       else
                        none
                      else
                       none
                     else
                      nx ((y.1, w (y.2.1 + (1 : Int)), w (y.2.2.1 + (1 : Int)), fun (j : Nat) => if j = 0 + Int.toNat (y.2.1) then w (y.2.2.2.1 (0 + Int.toNat (y.2.1)) + (1 : Int)) else y.2.2.2.1 j, y.2.2.2.2))
                   else
                    none
                  else
                   if (x.2.2.2.2.1 (Int.toNat (y.2.1)) == (17 : Int)) = true then
                    if (0 : Int) ≤ w (x.2.2.2.2.2.1 (Int.toNat (y.2.1)) - (1 : Int)) ∧ w (x.2.2.2.2.2.1 (Int.toNat (y.2.1)) - (1 : Int)) < ((Int.toNat ((x.2.2.2.1 : Nat) : Int) : Nat) : Int) then
                     if 0 + Int.toNat (w (x.2.2.2.2.2.1 (Int.toNat (y.2.1)) - (1 : Int))) < Int.toNat ((x.2.2.2.1 : Nat) : Int) ∧ 1 = 1 then
                      if (0 : Int) ≤ w (x.2.2.2.2.2.1 (Int.toNat (y.2.1)) - (1 : Int)) ∧ w (x.2.2.2.2.2.1 (Int.toNat (y.2.1)) - (1 : Int)) < ((Int.toNat ((x.2.2.2.1 : Nat) : Int) : Nat) : Int) then
                       if 0 + Int.toNat (w (x.2.2.2.2.2.1 (Int.toNat (y.2.1)) - (1 : Int))) < Int.toNat ((x.2.2.2.1 : Nat) : Int) ∧ 1 = 1 then
                        if (0 : Int) ≤ w (x.2.2.2.2.2.1 (Int.toNat (y.2.1)) - (1 : Int)) ∧ w (x.2.2.2.2.2.1 (Int.toNat (y.2.1)) - (1 : Int)) < ((Int.toNat ((x.2.2.2.1 : Nat) : Int) : Nat) : Int) then
                         if 0 + Int.toNat (w (x.2.2.2.2.2.1 (Int.toNat (y.2.1)) - (1 : Int))) < Int.toNat ((x.2.2.2.1 : Nat) : Int) ∧ 1 = 1 then
                          if (0 : Int) ≤ w (x.2.2.2.2.2.1 (Int.toNat (y.2.1)) - (1 : Int)) ∧ w (x.2.2.2.2.2.1 (Int.toNat (y.2.1)) - (1 : Int)) < ((x.2.2.2.1 : Nat) : Int) then
                           if decide ((if 0 + Int.toNat (w (x.2.2.2.2.2.1 (Int.toNat (y.2.1)) - (1 : Int))) = 0 + Int.toNat (w (x.2.2.2.2.2.1 (Int.toNat (y.2.1)) - (1 : Int))) then w (y.2.2.2.2 (0 + Int.toNat (w (x.2.2.2.2.2.1 (Int.toNat (y.2.1)) - (1 : Int)))) + (1 : Int)) else y.2.2.2.2 (0 + Int.toNat (w (x.2.2.2.2.2.1 (Int.toNat (y.2.1)) - (1 : Int))))) < x.2.2.2.2.2.1 (Int.toNat (w (x.2.2.2.2.2.1 (Int.toNat (y.2.1)) - (1 : Int))))) = true then
                            nx ((y.1, x.2.2.2.2.2.1 (Int.toNat (y.2.1)), w (y.2.2.1 + (1 : Int)), fun (j : Nat) => if j = 0 + Int.toNat (y.2.1) then w (y.2.2.2.1 (0 + Int.toNat (y.2.1)) + (1 : Int)) else y.2.2.2.1 j, fun (j : Nat) => if j = 0 + Int.toNat (w (x.2.2.2.2.2.1 (Int.toNat (y.2.1)) - (1 : Int))) then w (y.2.2.2.2 (0 + Int.toNat (w (x.2.2.2.2.2.1 (Int.toNat (y.2.1)) - (1 : Int)))) + (1 : Int)) else y.2.2.2.2 j))
                           else
                            if (0 : Int) ≤ w (x.2.2.2.2.2.1 (Int.toNat (y.2.1)) - (1 : Int)) ∧ w (x.2.2.2.2.2.1 (Int.toNat (y.2.1)) - (1 : Int)) < ((Int.toNat ((x.2.2.2.1 : Nat) : Int) : Nat) : Int) then
                             if 0 + Int.toNat (w (x.2.2.2.2.2.1 (Int.toNat (y.2.1)) - (1 : Int))) < Int.toNat ((x.2.2.2.1 : Nat) : Int) ∧ 1 = 1 then
                              nx ((y.1, w (y.2.1 + (1 : Int)), w (y.2.2.1 + (1 : Int)), fun (j : Nat) => if j = 0 + Int.toNat (y.2.1) then w (y.2.2.2.1 (0 + Int.toNat (y.2.1)) + (1 : Int)) else y.2.2.2.1 j, fun (j : Nat) => if j = 0 + Int.toNat (w (x.2.2.2.2.2.1 (Int.toNat (y.2.1)) - (1 : Int))) then (0 : Int) else if j = 0 + Int.toNat (w (x.2.2.2.2.2.1 (Int.toNat (y.2.1)) - (1 : Int))) then w (y.2.2.2.2 (0 + Int.toNat (w (x.2.2.2.2.2.1 (Int.toNat (y.2.1)) - (1 : Int)))) + (1 : Int)) else y.2.2.2.2 j))
                             else
                              none
                            else
                             none
                          else
                           none
                         else
                          none
                        else
                         none
                       else
                        none
                      else
                       none
                     else
                      none
                    else
                     none
                   else
                    nx ((y.1, w (y.2.1 + (1 : Int)), w (y.2.2.1 + (1 : Int)), fun (j : Nat) => if j = 0 + Int.toNat (y.2.1) then w (y.2.2.2.1 (0 + Int.toNat (y.2.1)) + (1 : Int)) else y.2.2.2.1 j, y.2.2.2.2))
                 else
                  if (x.2.2.2.2.1 (Int.toNat (y.2.1)) == (17 : Int)) = true then
                   if (0 : Int) ≤ w (x.2.2.2.2.2.1 (Int.toNat (y.2.1)) - (1 : Int)) ∧ w (x.2.2.2.2.2.1 (Int.toNat (y.2.1)) - (1 : Int)) < ((Int.toNat ((x.2.2.2.1 : Nat) : Int) : Nat) : Int) then
                    if 0 + Int.toNat (w (x.2.2.2.2.2.1 (Int.toNat (y.2.1)) - (1 : Int))) < Int.toNat ((x.2.2.2.1 : Nat) : Int) ∧ 1 = 1 then
                     if (0 : Int) ≤ w (x.2.2.2.2.2.1 (Int.toNat (y.2.1)) - (1 : Int)) ∧ w (x.2.2.2.2.2.1 (Int.toNat (y.2.1)) - (1 : Int)) < ((Int.toNat ((x.2.2.2.1 : Nat) : Int) : Nat) : Int) then
                      if 0 + Int.toNat (w (x.2.2.2.2.2.1 (Int.toNat (y.2.1)) - (1 : Int))) < Int.toNat ((x.2.2.2.1 : Nat) : Int) ∧ 1 = 1 then
                       if (0 : Int) ≤ w (x.2.2.2.2.2.1 (Int.toNat (y.2.1)) - (1 : Int)) ∧ w (x.2.2.2.2.2.1 (Int.toNat (y.2.1)) - (1 : Int)) < ((Int.toNat ((x.2.2.2.1 : Nat) : Int) : Nat) : Int) then
                        if 0 + Int.toNat (w (x.2.2.2.2.2.1 (Int.toNat (y.2.1)) - (1 : Int))) < Int.toNat ((x.2.2.2.1 : Nat) : Int) ∧ 1 = 1 then
                         if (0 : Int) ≤ w (x.2.2.2.2.2.1 (Int.toNat (y.2.1)) - (1 : Int)) ∧ w (x.2.2.2.2.2.1 (Int.toNat (y.2.1)) - (1 : Int)) < ((x.2.2.2.1 : Nat) : Int) then
                          if decide ((if 0 + Int.toNat (w (x.2.2.2.2.2.1 (Int.toNat (y.2.1)) - (1 : Int))) = 0 + Int.toNat (w (x.2.2.2.2.2.1 (Int.toNat (y.2.1)) - (1 : Int))) then w (y.2.2.2.2 (0 + Int.toNat (w (x.2.2.2.2.2.1 (Int.toNat (y.2.1)) - (1 : Int)))) + (1 : Int)) else y.2.2.2.2 (0 + Int.toNat (w (x.2.2.2.2.2.1 (Int.toNat (y.2.1)) - (1 : Int))))) < x.2.2.2.2.2.1 (Int.toNat (w (x.2.2.2.2.2.1 (Int.toNat (y.2.1)) - (1 : Int))))) = true then
                           nx ((y.1, x.2.2.2.2.2.1 (Int.toNat (y.2.1)), w (y.2.2.1 + (1 : Int)), fun (j : Nat) => if j = 0 + Int.toNat (y.2.1) then w (y.2.2.2.1 (0 + Int.toNat (y.2.1)) + (1 : Int)) else y.2.2.2.1 j, fun (j : Nat) => if j = 0 + Int.toNat (w (x.2.2.2.2.2.1 (Int.toNat (y.2.1)) - (1 : Int))) then w (y.2.2.2.2 (0 + Int.toNat (w (x.2.2.2.2.2.1 (Int.toNat (y.2.1)) - (1 : Int)))) + (1 : Int)) else y.2.2.2.2 j))
                          else
                           if (0 : Int) ≤ w (x.2.2.2.2.2.1 (Int.toNat (y.2.1)) - (1 : Int)) ∧ w (x.2.2.2.2.2.1 (Int.toNat (y.2.1)) - (1 : Int)) < ((Int.toNat ((x.2.2.2.1 : Nat) : Int) : Nat) : Int) then
                            if 0 + Int.toNat (w (x.2.2.2.2.2.1 (Int.toNat (y.2.1)) - (1 : Int))) < Int.toNat ((x.2.2.2.1 : Nat) : Int) ∧ 1 = 1 then
                             nx ((y.1, w (y.2.1 + (1 : Int)), w (y.2.2.1 + (1 : Int)), fun (j : Nat) => if j = 0 + Int.toNat (y.2.1) then w (y.2.2.2.1 (0 + Int.toNat (y.2.1)) + (1 : Int)) else y.2.2.2.1 j, fun (j : Nat) => if j = 0 + Int.toNat (w (x.2.2.2.2.2.1 (Int.toNat (y.2.1)) - (1 : Int))) then (0 : Int) else if j = 0 + Int.toNat (w (x.2.2.2.2.2.1 (Int.toNat (y.2.1)) - (1 : Int))) then w (y.2.2.2.2 (0 + Int.toNat (w (x.2.2.2.2.2.1 (Int.toNat (y.2.1)) - (1 : Int)))) + (1 : Int)) else y.2.2.2.2 j))
                            else
                             none
                           else
                            none
                         else
                          none
                        else
                         none
                       else
                        none
                      else
                       none
                     else
                      none
                    else
                     none
                   else
                    none
                  else
                   nx ((y.1, w (y.2.1 + (1 : Int)), w (y.2.2.1 + (1 : Int)), fun (j : Nat) => if j = 0 + Int.toNat (y.2.1) then w (y.2.2.2.1 (0 + Int.toNat (y.2.1)) + (1 : Int)) else y.2.2.2.1 j, y.2.2.2.2))
              else
               none
             else
              none
            else
             none
           else
            none
          else
           if (x.2.2.2.2.1 (Int.toNat (y.2.1)) == (14 : Int)) = true then
            if decide (x.2.2.2.2.2.1 (Int.toNat (y.2.1)) ≤ y.2.1) = true then
             dn (.inl ())
            else
             if (x.2.2.2.2.1 (Int.toNat (y.2.1)) == (17 : Int)) = true then
              if (0 : Int) ≤ w (x.2.2.2.2.2.1 (Int.toNat (y.2.1)) - (1 : Int)) ∧ w (x.2.2.2.2.2.1 (Int.toNat (y.2.1)) - (1 : Int)) < ((Int.toNat ((x.2.2.2.1 : Nat) : Int) : Nat) : Int) then
               if 0 + Int.toNat (w (x.2.2.2.2.2.1 (Int.toNat (y.2.1)) - (1 : Int))) < Int.toNat ((x.2.2.2.1 : Nat) : Int) ∧ 1 = 1 then
                if (0 : Int) ≤ w (x.2.2.2.2.2.1 (Int.toNat (y.2.1)) - (1 : Int)) ∧ w (x.2.2.2.2.2.1 (Int.toNat (y.2.1)) - (1 : Int)) < ((Int.toNat ((x.2.2.2.1 : Nat) : Int) : Nat) : Int) then
                 if 0 + Int.toNat (w (x.2.2.2.2.2.1 (Int.toNat (y.2.1)) - (1 : Int))) < Int.toNat ((x.2.2.2.1 : Nat) : Int) ∧ 1 = 1 then
                  if (0 : Int) ≤ w (x.2.2.2.2.2.1 (Int.toNat (y.2.1)) - (1 : Int)) ∧ w (x.2.2.2.2.2.1 (Int.toNat (y.2.1)) - (1 : Int)) < ((Int.toNat ((x.2.2.2.1 : Nat) : Int) : Nat) : Int) then
                   if 0 + Int.toNat (w (x.2.2.2.2.2.1 (Int.toNat (y.2.1)) - (1 : Int))) < Int.toNat ((x.2.2.2.1 : Nat) : Int) ∧ 1 = 1 then
                    if (0 : Int) ≤ w (x.2.2.2.2.2.1 (Int.toNat (y.2.1)) - (1 : Int)) ∧ w (x.2.2.2.2.2.1 (Int.toNat (y.2.1)) - (1 : Int)) < ((x.2.2.2.1 : Nat) : Int) then
                     if decide ((if 0 + Int.toNat (w (x.2.2.2.2.2.1 (Int.toNat (y.2.1)) - (1 : Int))) = 0 + Int.toNat (w (x.2.2.2.2.2.1 (Int.toNat (y.2.1)) - (1 : Int))) then w (y.2.2.2.2 (0 + Int.toNat (w (x.2.2.2.2.2.1 (Int.toNat (y.2.1)) - (1 : Int)))) + (1 : Int)) else y.2.2.2.2 (0 + Int.toNat (w (x.2.2.2.2.2.1 (Int.toNat (y.2.1)) - (1 : Int))))) < x.2.2.2.2.2.1 (Int.toNat (w (x.2.2.2.2.2.1 (Int.toNat (y.2.1)) - (1 : Int))))) = true then
                      nx ((y.1, x.2.2.2.2.2.1 (Int.toNat (y.2.1)), w (y.2.2.1 + (1 : Int)), fun (j : Nat) => if j = 0 + Int.toNat (y.2.1) then w (y.2.2.2.1 (0 + Int.toNat (y.2.1)) + (1 : Int)) else y.2.2.2.1 j, fun (j : Nat) => if j = 0 + Int.toNat (w (x.2.2.2.2.2.1 (Int.toNat (y.2.1)) - (1 : Int))) then w (y.2.2.2.2 (0 + Int.toNat (w (x.2.2.2.2.2.1 (Int.toNat (y.2.1)) - (1 : Int)))) + (1 : Int)) else y.2.2.2.2 j))
                     else
                      if (0 : Int) ≤ w (x.2.2.2.2.2.1 (Int.toNat (y.2.1)) - (1 : Int)) ∧ w (x.2.2.2.2.2.1 (Int.toNat (y.2.1)) - (1 : Int)) < ((Int.toNat ((x.2.2.2.1 : Nat) : Int) : Nat) : Int) then
                       if 0 + Int.toNat (w (x.2.2.2.2.2.1 (Int.toNat (y.2.1)) - (1 : Int))) < Int.toNat ((x.2.2.2.1 : Nat) : Int) ∧ 1 = 1 then
                        nx ((y.1, x.2.2.2.2.2.1 (Int.toNat (y.2.1)), w (y.2.2.1 + (1 : Int)), fun (j : Nat) => if j = 0 + Int.toNat (y.2.1) then w (y.2.2.2.1 (0 + Int.toNat (y.2.1)) + (1 : Int)) else y.2.2.2.1 j, fun (j : Nat) => if j = 0 + Int.toNat (w (x.2.2.2.2.2.1 (Int.toNat (y.2.1)) - (1 : Int))) then (0 : Int) else if j = 0 + Int.toNat (w (x.2.2.2.2.2.1 (Int.toNat (y.2.1)) - (1 : Int))) then w (y.2.2.2.2 (0 + Int.toNat (w (x.2.2.2.2.2.1 (Int.toNat (y.2.1)) - (1 : Int)))) + (1 : Int)) else y.2.2.2.2 j))
                       else
                        none
                      else
                       none
                    else
                     none
                   else
                    none
                  else
                   none
                 else
                  none
                else
                 none
               else
                none
              else
               none
             else
              nx ((y.1, x.2.2.2.2.2.1 (Int.toNat (y.2.1)), w (y.2.2.1 + (1 : Int)), fun (j : Nat) => if j = 0 + Int.toNat (y.2.1) then w (y.2.2.2.1 (0 + Int.toNat (y.2.1)) + (1 : Int)) else y.2.2.2.1 j, y.2.2.2.2))
           else
            if (x.2.2.2.2.1 (Int.toNat (y.2.1)) == (15 : Int)) = true then
             if decide (y.2.2.1 < ((x.2.2.2.2.2.2.1 : Nat) : Int)) = true then
              if (0 : Int) ≤ y.2.2.1 ∧ y.2.2.1 < ((x.2.2.2.2.2.2.1 : Nat) : Int) then
               if x.2.2.2.2.2.2.2 (Int.toNat (y.2.2.1)) = true then
                if decide (x.2.2.2.2.2.1 (Int.toNat (y.2.1)) ≤ y.2.1) = true then
                 dn (.inl ())
                else
                 if (x.2.2.2.2.1 (Int.toNat (y.2.1)) == (17 : Int)) = true then
                  if (0 : Int) ≤ w (x.2.2.2.2.2.1 (Int.toNat (y.2.1)) - (1 : Int)) ∧ w (x.2.2.2.2.2.1 (Int.toNat (y.2.1)) - (1 : Int)) < ((Int.toNat ((x.2.2.2.1 : Nat) : Int) : Nat) : Int) then
                   if 0 + Int.toNat (w (x.2.2.2.2.2.1 (Int.toNat (y.2.1)) - (1 : Int))) < Int.toNat ((x.2.2.2.1 : Nat) : Int) ∧ 1 = 1 then
                    if (0 : Int) ≤ w (x.2.2.2.2.2.1 (Int.toNat (y.2.1)) - (1 : Int)) ∧ w (x.2.2.2.2.2.1 (Int.toNat (y.2.1)) - (1 : Int)) < ((Int.toNat ((x.2.2.2.1 : Nat) : Int) : Nat) : Int) then
                     if 0 + Int.toNat (w (x.2.2.2.2.2.1 (Int.toNat (y.2.1)) - (1 : Int))) < Int.toNat ((x.2.2.2.1 : Nat) : Int) ∧ 1 = 1 then
                      if (0 : Int) ≤ w (x.2.2.2.2.2.1 (Int.toNat (y.2.1)) - (1 : Int)) ∧ w (x.2.2.2.2.2.1 (Int.toNat (y.2.1)) - (1 : Int)) < ((Int.toNat ((x.2.2.2.1 : Nat) : Int) : Nat) : Int) then
                       if 0 + Int.toNat (w (x.2.2.2.2.2.1 (Int.toNat (y.2.1)) - (1 : Int))) < Int.toNat ((x.2.2.2.1 : Nat) : Int) ∧ 1 = 1 then
                        if (0 : Int) ≤ w (x.2.2.2.2.2.1 (Int.toNat (y.2.1)) - (1 : Int)) ∧ w (x.2.2.2.2.2.1 (Int.toNat (y.2.1)) - (1 : Int)) < ((x.2.2.2.1 : Nat) : Int) then
                         if decide ((if 0 + Int.toNat (w (x.2.2.2.2.2.1 (Int.toNat (y.2.1)) - (1 : Int))) = 0 + Int.toNat (w (x.2.2.2.2.2.1 (Int.toNat (y.2.1)) - (1 : Int))) then w (y.2.2.2.2 (0 + Int.toNat (w (x.2.2.2.2.2.1 (Int.toNat (y.2.1)) - (1 : Int)))) + (1 : Int)) else y.2.2.2.2 (0 + Int.toNat (w (x.2.2.2.2.2.1 (Int.toNat (y.2.1)) - (1 : Int))))) < x.2.2.2.2.2.1 (Int.toNat (w (x.2.2.2.2.2.1 (Int.toNat (y.2.1)) - (1 : Int))))) = true then
                          nx ((y.1, x.2.2.2.2.2.1 (Int.toNat (y.2.1)), w (y.2.2.1 + (1 : Int)), fun (j : Nat) => if j = 0 + Int.toNat (y.2.1) then w (y.2.2.2.1 (0 + Int.toNat (y.2.1)) + (1 : Int)) else y.2.2.2.1 j, fun (j : Nat) => if j = 0 + Int.toNat (w (x.2.2.2.2.2.1 (Int.toNat (y.2.1)) - (1 : Int))) then w (y.2.2.2.2 (0 + Int.toNat (w (x.2.2.2.2.2.1 (Int.toNat (y.2.1)) - (1 : Int)))) + (1 : Int)) else y.2.2.2.2 j))
                         else
                          if (0 : Int) ≤ w (x.2.2.2.2.2.1 (Int.toNat (y.2.1)) - (1 : Int)) ∧ w (x.2.2.2.2.2.1 (Int.toNat (y.2.1)) - (1 : Int)) < ((Int.toNat ((x.2.2.2.1 : Nat) : Int) : Nat) : Int) then
                           if 0 + Int.toNat (w (x.2.2.2.2.2.1 (Int.toNat (y.2.1)) - (1 : Int))) < Int.toNat ((x.2.2.2.1 : Nat) : Int) ∧ 1 = 1 then
                            nx ((y.1, x.2.2.2.2.2.1 (Int.toNat (y.2.1)), w (y.2.2.1 + (1 : Int)), fun (j : Nat) => if j = 0 + Int.toNat (y.2.1) then w (y.2.2.2.1 (0 + Int.toNat (y.2.1)) + (1 : Int)) else y.2.2.2.1 j, fun (j : Nat) => if j = 0 + Int.toNat (w (x.2.2.2.2.2.1 (Int.toNat (y.2.1)) - (1 : Int))) then (0 : Int) else if j = 0 + Int.toNat (w (x.2.2.2.2.2.1 (Int.toNat (y.2.1)) - (1 : Int))) then w (y.2.2.2.2 (0 + Int.toNat (w (x.2.2.2.2.2.1 (Int.toNat (y.2.1)) - (1 : Int)))) + (1 : Int)) else y.2.2.2.2 j))
                           else
                            none
                          else
                           none
                        else
                         none
                       else
                        none
                      else
                       none
                     else
                      none
                    else
                     none
                   else
                    none
                  else
                   none
                 else
                  nx ((y.1, x.2.2.2.2.2.1 (Int.toNat (y.2.1)), w (y.2.2.1 + (1 : Int)), fun (j : Nat) => if j = 0 + Int.toNat (y.2.1) then w (y.2.2.2.1 (0 + Int.toNat (y.2.1)) + (1 : Int)) else y.2.2.2.1 j, y.2.2.2.2))
               else
                if (x.2.2.2.2.1 (Int.toNat (y.2.1)) == (17 : Int)) = true then
                 if (0 : Int) ≤ w (x.2.2.2.2.2.1 (Int.toNat (y.2.1)) - (1 : Int)) ∧ w (x.2.2.2.2.2.1 (Int.toNat (y.2.1)) - (1 : Int)) < ((Int.toNat ((x.2.2.2.1 : Nat) : Int) : Nat) : Int) then
                  if 0 + Int.toNat (w (x.2.2.2.2.2.1 (Int.toNat (y.2.1)) - (1 : Int))) < Int.toNat ((x.2.2.2.1 : Nat) : Int) ∧ 1 = 1 then
                   if (0 : Int) ≤ w (x.2.2.2.2.2.1 (Int.toNat (y.2.1)) - (1 : Int)) ∧ w (x.2.2.2.2.2.1 (Int.toNat (y.2.1)) - (1 : Int)) < ((Int.toNat ((x.2.2.2.1 : Nat) : Int) : Nat) : Int) then
                    if 0 + Int.toNat (w (x.2.2.2.2.2.1 (Int.toNat (y.2.1)) - (1 : Int))) < Int.toNat ((x.2.2.2.1 : Nat) : Int) ∧ 1 = 1 then
                     if (0 : Int) ≤ w (x.2.2.2.2.2.1 (Int.toNat (y.2.1)) - (1 : Int)) ∧ w (x.2.2.2.2.2.1 (Int.toNat (y.2.1)) - (1 : Int)) < ((Int.toNat ((x.2.2.2.1 : Nat) : Int) : Nat) : Int) then
                      if 0 + Int.toNat (w (x.2.2.2.2.2.1 (Int.toNat (y.2.1)) - (1 : Int))) < Int.toNat ((x.2.2.2.1 : Nat) : Int) ∧ 1 = 1 then
                       if (0 : Int) ≤ w (x.2.2.2.2.2.1 (Int.toNat (y.2.1)) - (1 : Int)) ∧ w (x.2.2.2.2.2.1 (Int.toNat (y.2.1)) - (1 : Int)) < ((x.2.2.2.1 : Nat) : Int) then
                        if decide ((if 0 + Int.toNat (w (x.2.2.2.2.2.1 (Int.toNat (y.2.1)) - (1 : Int))) = 0 + Int.toNat (w (x.2.2.2.2.2.1 (Int.toNat (y.2.1)) - (1 : Int))) then w (y.2.2.2.2 (0 + Int.toNat (w (x.2.2.2.2.2.1 (Int.toNat (y.2.1)) - (1 : Int)))) + (1 : Int)) else y.2.2.2.2 (0 + Int.toNat (w (x.2.2.2.2.2.1 (Int.toNat (y.2.1)) - (1 : Int))))) < x.2.2.2.2.2.1 (Int.toNat (w (x.2.2.2.2.2.1 (Int.toNat (y.2.1)) - (1 : Int))))) = true then
                         nx ((y.1, x.2.2.2.2.2.1 (Int.toNat (y.2.1)), w (y.2.2.1 + (1 : Int)), fun (j : Nat) => if j = 0 + Int.toNat (y.2.1) then w (y.2.2.2.1 (0 + Int.toNat (y.2.1)) + (1 : Int)) else y.2.2.2.1 j, fun (j : Nat) => if j = 0 + Int.toNat (w (x.2.2.2.2.2.1 (Int.toNat (y.2.1)) - (1 : Int))) then w (y.2.2.2.2 (0 + Int.toNat (w (x.2.2.2.2.2.1 (Int.toNat (y.2.1)) - (1 : Int)))) + (1 : Int)) else y.2.2.2.2 j))
                        else
                         if (0 : Int) ≤ w (x.2.2.2.2.2.1 (Int.toNat (y.2.1)) - (1 : Int)) ∧ w (x.2.2.2.2.2.1 (Int.toNat (y.2.1)) - (1 : Int)) < ((Int.toNat ((x.2.2.2.1 : Nat) : Int) : Nat) : Int) then
                          if 0 + Int.toNat (w (x.2.2.2.2.2.1 (Int.toNat (y.2.1)) - (1 : Int))) < Int.toNat ((x.2.2.2.1 : Nat) : Int) ∧ 1 = 1 then
                           nx ((y.1, w (y.2.1 + (1 : Int)), w (y.2.2.1 + (1 : Int)), fun (j : Nat) => if j = 0 + Int.toNat (y.2.1) then w (y.2.2.2.1 (0 + Int.toNat (y.2.1)) + (1 : Int)) else y.2.2.2.1 j, fun (j : Nat) => if j = 0 + Int.toNat (w (x.2.2.2.2.2.1 (Int.toNat (y.2.1)) - (1 : Int))) then (0 : Int) else if j = 0 + Int.toNat (w (x.2.2.2.2.2.1 (Int.toNat (y.2.1)) - (1 : Int))) then w (y.2.2.2.2 (0 + Int.toNat (w (x.2.2.2.2.2.1 (Int.toNat (y.2.1)) - (1 : Int)))) + (1 : Int)) else y.2.2.2.2 j))
                          else
                           none
                         else
                          none
                       else
                        none
                      else
                       none
                     else
                      none
                    else
                     none
                   else
                    none
                  else
                   none
                 else
                  none
                else
                 nx ((y.1, w (y.2.1 + (1 : Int)), w (y.2.2.1 + (1 : Int)), fun (j : Nat) => if j = 0 + Int.toNat (y.2.1) then w (y.2.2.2.1 (0 + Int.toNat (y.2.1)) + (1 : Int)) else y.2.2.2.1 j, y.2.2.2.2))
              else
               none
             else
              if (x.2.2.2.2.1 (Int.toNat (y.2.1)) == (17 : Int)) = true then
               if (0 : Int) ≤ w (x.2.2.2.2.2.1 (Int.toNat (y.2.1)) - (1 : Int)) ∧ w (x.2.2.2.2.2.1 (Int.toNat (y.2.1)) - (1 : Int)) < ((Int.toNat ((x.2.2.2.1 : Nat) : Int) : Nat) : Int) then
                if 0 + Int.toNat (w (x.2.2.2.2.2.1 (Int.toNat (y.2.1)) - (1 : Int))) < Int.toNat ((x.2.2.2.1 : Nat) : Int) ∧ 1 = 1 then
                 if (0 : Int) ≤ w (x.2.2.2.2.2.1 (Int.toNat (y.2.1)) - (1 : Int)) ∧ w (x.2.2.2.2.2.1 (Int.toNat (y.2.1)) - (1 : Int)) < ((Int.toNat ((x.2.2.2.1 : Nat) : Int) : Nat) : Int) then
                  if 0 + Int.toNat (w (x.2.2.2.2.2.1 (Int.toNat (y.2.1)) - (1 : Int))) < Int.toNat ((x.2.2.2.1 : Nat) : Int) ∧ 1 = 1 then
                   if (0 : Int) ≤ w (x.2.2.2.2.2.1 (Int.toNat (y.2.1)) - (1 : Int)) ∧ w (x.2.2.2.2.2.1 (Int.toNat (y.2.1)) - (1 : Int)) < ((Int.toNat ((x.2.2.2.1 : Nat) : Int) : Nat) : Int) then
                    if 0 + Int.toNat (w (x.2.2.2.2.2.1 (Int.toNat (y.2.1)) - (1 : Int))) < Int.toNat ((x.2.2.2.1 : Nat) : Int) ∧ 1 = 1 then
                     if (0 : Int) ≤ w (x.2.2.2.2.2.1 (Int.toNat (y.2.1)) - (1 : Int)) ∧ w (x.2.2.2.2.2.1 (Int.toNat (y.2.1)) - (1 : Int)) < ((x.2.2.2.1 : Nat) : Int) then
                      if decide ((if 0 + Int.toNat (w (x.2.2.2.2.2.1 (Int.toNat (y.2.1)) - (1 : Int))) = 0 + Int.toNat (w (x.2.2.2.2.2.1 (Int.toNat (y.2.1)) - (1 : Int))) then w (y.2.2.2.2 (0 + Int.toNat (w (x.2.2.2.2.2.1 (Int.toNat (y.2.1)) - (1 : Int)))) + (1 : Int)) else y.2.2.2.2 (0 + Int.toNat (w (x.2.2.2.2.2.1 (Int.toNat (y.2.1)) - (1 : Int))))) < x.2.2.2.2.2.1 (Int.toNat (w (x.2.2.2.2.2.1 (Int.toNat (y.2.1)) - (1 : Int))))) = true then
                       nx ((y.1, x.2.2.2.2.2.1 (Int.toNat (y.2.1)), w (y.2.2.1 + (1 : Int)), fun (j : Nat) => if j = 0 + Int.toNat (y.2.1) then w (y.2.2.2.1 (0 + Int.toNat (y.2.1)) + (1 : Int)) else y.2.2.2.1 j, fun (j : Nat) => if j = 0 + Int.toNat (w (x.2.2.2.2.2.1 (Int.toNat (y.2.1)) - (1 : Int))) then w (y.2.2.2.2 (0 + Int.toNat (w (x.2.2.2.2.2.1 (Int.toNat (y.2.1)) - (1 : Int)))) + (1 : Int)) else y.2.2.2.2 j))
                      else
                       if (0 : Int) ≤ w (x.2.2.2.2.2.1 (Int.toNat (y.2.1)) - (1 : Int)) ∧ w (x.2.2.2.2.2.1 (Int.toNat (y.2.1)) - (1 : Int)) < ((Int.toNat ((x.2.2.2.1 : Nat) : Int) : Nat) : Int) then
                        if 0 + Int.toNat (w (x.2.2.2.2.2.1 (Int.toNat (y.2.1)) - (1 : Int))) < Int.toNat ((x.2.2.2.1 : Nat) : Int) ∧ 1 = 1 then
                         nx ((y.1, w (y.2.1 + (1 : Int)), w (y.2.2.1 + (1 : Int)), fun (j : Nat) => if j = 0 + Int.toNat (y.2.1) then w (y.2.2.2.1 (0 + Int.toNat (y.2.1)) + (1 : Int)) else y.2.2.2.1 j, fun (j : Nat) => if j = 0 + Int.toNat (w (x.2.2.2.2.2.1 (Int.toNat (y.2.1)) - (1 : Int))) then (0 : Int) else if j = 0 + Int.toNat (w (x.2.2.2.2.2.1 (Int.toNat (y.2.1)) - (1 : Int))) then w (y.2.2.2.2 (0 + Int.toNat (w (x.2.2.2.2.2.1 (Int.toNat (y.2.1)) - (1 : Int)))) + (1 : Int)) else y.2.2.2.2 j))
                        else
                         none
                       else
                        none
                     else
                      none
                    else
                     none
                   else
                    none
                  else
                   none
                 else
                  none
                else
                 none
               else
                none
              else
               nx ((y.1, w (y.2.1 + (1 : Int)), w (y.2.2.1 + (1 : Int)), fun (j : Nat) => if j = 0 + Int.toNat (y.2.1) then w (y.2.2.2.1 (0 + Int.toNat (y.2.1)) + (1 : Int)) else y.2.2.2.1 j, y.2.2.2.2))
            else
             if (x.2.2.2.2.1 (Int.toNat (y.2.1)) == (17 : Int)) = true then
              if (0 : Int) ≤ w (x.2.2.2.2.2.1 (Int.toNat (y.2.1)) - (1 : Int)) ∧ w (x.2.2.2.2.2.1 (Int.toNat (y.2.1)) - (1 : Int)) < ((Int.toNat ((x.2.2.2.1 : Nat) : Int) : Nat) : Int) then
               if 0 + Int.toNat (w (x.2.2.2.2.2.1 (Int.toNat (y.2.1)) - (1 : Int))) < Int.toNat ((x.2.2.2.1 : Nat) : Int) ∧ 1 = 1 then
                if (0 : Int) ≤ w (x.2.2.2.2.2.1 (Int.toNat (y.2.1)) - (1 : Int)) ∧ w (x.2.2.2.2.2.1 (Int.toNat (y.2.1)) - (1 : Int)) < ((Int.toNat ((x.2.2.2.1 : Nat) : Int) : Nat) : Int) then
                 if 0 + Int.toNat (w (x.2.2.2.2.2.1 (Int.toNat (y.2.1)) - (1 : Int))) < Int.toNat ((x.2.2.2.1 : Nat) : Int) ∧ 1 = 1 then
                  if (0 : Int) ≤ w (x.2.2.2.2.2.1 (Int.toNat (y.2.1)) - (1 : Int)) ∧ w (x.2.2.2.2.2.1 (Int.toNat (y.2.1)) - (1 : Int)) < ((Int.toNat ((x.2.2.2.1 : Nat) : Int) : Nat) : Int) then
                   if 0 + Int.toNat (w (x.2.2.2.2.2.1 (Int.toNat (y.2.1)) - (1 : Int))) < Int.toNat ((x.2.2.2.1 : Nat) : Int) ∧ 1 = 1 then
                    if (0 : Int) ≤ w (x.2.2.2.2.2.1 (Int.toNat (y.2.1)) - (1 : Int)) ∧ w (x.2.2.2.2.2.1 (Int.toNat (y.2.1)) - (1 : Int)) < ((x.2.2.2.1 : Nat) : Int) then
                     if decide ((if 0 + Int.toNat (w (x.2.2.2.2.2.1 (Int.toNat (y.2.1)) - (1 : Int))) = 0 + Int.toNat (w (x.2.2.2.2.2.1 (Int.toNat (y.2.1)) - (1 : Int))) then w (y.2.2.2.2 (0 + Int.toNat (w (x.2.2.2.2.2.1 (Int.toNat (y.2.1)) - (1 : Int)))) + (1 : Int)) else y.2.2.2.2 (0 + Int.toNat (w (x.2.2.2.2.2.1 (Int.toNat (y.2.1)) - (1 : Int))))) < x.2.2.2.2.2.1 (Int.toNat (w (x.2.2.2.2.2.1 (Int.toNat (y.2.1)) - (1 : Int))))) = true then
                      nx ((y.1, x.2.2.2.2.2.1 (Int.toNat (y.2.1)), w (y.2.2.1 + (1 : Int)), fun (j : Nat) => if j = 0 + Int.toNat (y.2.1) then w (y.2.2.2.1 (0 + Int.toNat (y.2.1)) + (1 : Int)) else y.2.2.2.1 j, fun (j : Nat) => if j = 0 + Int.toNat (w (x.2.2.2.2.2.1 (Int.toNat (y.2.1)) - (1 : Int))) then w (y.2.2.2.2 (0 + Int.toNat (w (x.2.2.2.2.2.1 (Int.toNat (y.2.1)) - (1 : Int)))) + (1 : Int)) else y.2.2.2.2 j))
                     else
                      if (0 : Int) ≤ w (x.2.2.2.2.2.1 (Int.toNat (y.2.1)) - (1 : Int)) ∧ w (x.2.2.2.2.2.1 (Int.toNat (y.2.1)) - (1 : Int)) < ((Int.toNat ((x.2.2.2.1 : Nat) : Int) : Nat) : Int) then
                       if 0 + Int.toNat (w (x.2.2.2.2.2.1 (Int.toNat (y.2.1)) - (1 : Int))) < Int.toNat ((x.2.2.2.1 : Nat) : Int) ∧ 1 = 1 then
                        nx ((y.1, w (y.2.1 + (1 : Int)), w (y.2.2.1 + (1 : Int)), fun (j : Nat) => if j = 0 + Int.toNat (y.2.1) then w (y.2.2.2.1 (0 + Int.toNat (y.2.1)) + (1 : Int)) else y.2.2.2.1 j, fun (j : Nat) => if j = 0 + Int.toNat (w (x.2.2.2.2.2.1 (Int.toNat (y.2.1)) - (1 : Int))) then (0 : Int) else if j = 0 + Int.toNat (w (x.2.2.2.2.2.1 (Int.toNat (y.2.1)) - (1 : Int))) then w (y.2.2.2.2 (0 + Int.toNat (w (x.2.2.2.2.2.1 (Int.toNat (y.2.1)) - (1 : Int)))) + (1 : Int)) else y.2.2.2.2 j))
                       else
                        none
                      else
                       none
                    else
                     none
                   else
                    none
                  else
                   none
                 else
                  none
                else
                 none
               else
                none
              else
               none
             else
              nx ((y.1, w (y.2.1 + (1 : Int)), w (y.2.2.1 + (1 : Int)), fun (j : Nat) => if j = 0 + Int.toNat (y.2.1) then w (y.2.2.2.1 (0 + Int.toNat (y.2.1)) + (1 : Int)) else y.2.2.2.1 j, y.2.2.2.2))
         else
          none
        else
         none
       else
        none
      else
       none
     else
      none
    else
     none
   else
    none
  else
   dn (.inr ())
 else
  dn (.inr ())
theorem Fwd_l2_n {β : Type} (c_Verify : a_Verify → Option g_Verify) (c_RVerify : a_RVerify → Option g_RVerify) (c_Regions : a_Regions → Option g_Regions) (c_lives : a_lives → Option g_lives) (x : a_Fwd) (y : Fwd_l2_a) (nx : Fwd_l2_a → Option β) (dn : Fwd_l2_g → Option β) : Fwd_l2_t c_Verify c_RVerify c_Regions c_lives x y nx dn = (Fwd_l2_t c_Verify c_RVerify c_Regions c_lives x y (fun y => some (.inl y)) (fun z => some (.inr z))).bind fun r => Sum.elim nx dn r := by
  unfold Fwd_l2_t
  repeat' first | exact free_none | refine free_bind (fun z => ?_) | refine free_ite ?_ ?_ | refine free_sum (fun z => ?_) (fun z => ?_) | rfl
theorem Fwd_l2_r (c_Verify : a_Verify → Option g_Verify) (c_RVerify : a_RVerify → Option g_RVerify) (c_Regions : a_Regions → Option g_Regions) (c_lives : a_lives → Option g_lives) (x : a_Fwd) (y : Fwd_l2_a) (lo : LoopT) : loopK E6 (ftab 7 (fun _ _ => true) A_Verify x_Verify c_Verify (ftab 8 (fun _ _ => true) A_RVerify x_RVerify c_RVerify (ftab 10 (fun _ _ => true) A_Regions x_Regions c_Regions (ftab 9 (fun _ _ => true) A_lives x_lives c_lives ca0)))) lo 2 15622 (bodyOf E6 4 2) (Fwd_l2_S x y) (KCM [(2, 0)] 16) = Fwd_l2_t (fun x => viaF A_Verify c_Verify (A_Verify x)) (fun x => viaF A_RVerify c_RVerify (A_RVerify x)) (fun x => viaF A_Regions c_Regions (A_Regions x)) (fun x => viaF A_lives c_lives (A_lives x)) x y (fun y => lo 2 15622 (bodyOf E6 4 2) (Fwd_l2_S x y) (KCM [(2, 0)] 16)) (fun z => some (.l (Fwd_l2_T x z).1 (Fwd_l2_T x z).2)) := by kernel_rfl
noncomputable def Fwd_l2 (c_Verify : a_Verify → Option g_Verify) (c_RVerify : a_RVerify → Option g_RVerify) (c_Regions : a_Regions → Option g_Regions) (c_lives : a_lives → Option g_lives) (q : Nat) (x : a_Fwd) : Fwd_l2_a → Option Fwd_l2_g := lpG (fun y => Fwd_l2_t c_Verify c_RVerify c_Regions c_lives x y (fun y => some (.inl y)) (fun z => some (.inr z))) q
theorem Fwd_l2_s (c_Verify : a_Verify → Option g_Verify) (h_Verify : ∀ x z, c_Verify x = some z → SC E6 7 (A_Verify x).1 (A_Verify x).2 (R_Verify z)) (c_RVerify : a_RVerify → Option g_RVerify) (h_RVerify : ∀ x z, c_RVerify x = some z → SC E6 8 (A_RVerify x).1 (A_RVerify x).2 (R_RVerify z)) (c_Regions : a_Regions → Option g_Regions) (h_Regions : ∀ x z, c_Regions x = some z → SC E6 10 (A_Regions x).1 (A_Regions x).2 (R_Regions z)) (c_lives : a_lives → Option g_lives) (h_lives : ∀ x z, c_lives x = some z → SC E6 9 (A_lives x).1 (A_lives x).2 (R_lives z)) (q : Nat) (x : a_Fwd) : ∀ y z, Fwd_l2 c_Verify c_RVerify c_Regions c_lives q x y = some z → SL E6 (bodyOf E6 4 2) (Fwd_l2_S x y) (Fwd_l2_T x z).1 (Fwd_l2_T x z).2 :=
  SL.lp (LT := fun lo => lo) (T := Fwd_l2_T x) (S := Fwd_l2_S x) (ftab_cons h_Verify xe_Verify (ftab_cons h_RVerify xe_RVerify (ftab_cons h_Regions xe_Regions (ftab_cons h_lives xe_lives ca0_sound)))) hX6 (fun lo h => h) (fun lo y => (Fwd_l2_r c_Verify c_RVerify c_Regions c_lives x y lo).trans (by rw [via_eq i_Verify c_Verify, via_eq i_RVerify c_RVerify, via_eq i_Regions c_Regions, via_eq i_lives c_lives]; exact Fwd_l2_n _ _ _ _ _ _ _ _)) (fun z => by rcases z with z | z <;> first | exact Fwd_l2_k0 x z | exact Fwd_l2_k1 x z) q
def t_Fwd {β : Type} (c_Verify : a_Verify → Option g_Verify) (c_RVerify : a_RVerify → Option g_RVerify) (c_Regions : a_Regions → Option g_Regions) (c_lives : a_lives → Option g_lives) (l_Fwd_l0 : Fwd_l0_a → Option Fwd_l0_g) (l_Fwd_l2 : Fwd_l2_a → Option Fwd_l2_g) (x : a_Fwd) (dn : g_Fwd → Option β) : Option β :=
 (c_Verify ((x.1, x.2.1, x.2.2.1, x.2.2.2.1, x.2.2.2.2.1, x.2.2.2.2.2.1))).bind fun z6 =>
  if (z6 != (0 : Int)) = true then
   (c_lives ()).bind fun z7 =>
    dn z7
  else
   (c_RVerify ((x.1, x.2.1, x.2.2.1, x.2.2.2.1, x.2.2.2.2.1, x.2.2.2.2.2.1))).bind fun z14 =>
    if (z14 != (0 : Int)) = true then
     dn false
    else
     (c_Regions ((x.2.2.2.1, x.2.2.2.2.1, x.2.2.2.2.2.1))).bind fun z18 =>
      if ((x.2.2.2.1 : Nat) : Int) = ((x.2.2.2.1 : Nat) : Int) ∧ (0 : Int) ≤ ((x.2.2.2.1 : Nat) : Int) ∧ 0 < 1 ∧ 1 = 1 ∧ Int.toNat ((x.2.2.2.1 : Nat) : Int) * 8 ≤ 281474976710656 ∧ Int.toNat ((x.2.2.2.1 : Nat) : Int) ≤ maxLen ∧ true = true then
       (l_Fwd_l0 ((z18.1, z18.2.1, (0 : Int), fun (j : Nat) => (0 : Int)))).bind fun z39 =>
        if ((x.2.2.2.1 : Nat) : Int) = ((x.2.2.2.1 : Nat) : Int) ∧ (0 : Int) ≤ ((x.2.2.2.1 : Nat) : Int) ∧ 0 < 1 ∧ 1 = 1 ∧ Int.toNat ((x.2.2.2.1 : Nat) : Int) * 8 ≤ 281474976710656 ∧ Int.toNat ((x.2.2.2.1 : Nat) : Int) ≤ maxLen ∧ true = true then
         if ((x.2.2.2.1 : Nat) : Int) = ((x.2.2.2.1 : Nat) : Int) ∧ (0 : Int) ≤ ((x.2.2.2.1 : Nat) : Int) ∧ 0 < 1 ∧ 1 = 1 ∧ Int.toNat ((x.2.2.2.1 : Nat) : Int) * 8 ≤ 281474976710656 ∧ Int.toNat ((x.2.2.2.1 : Nat) : Int) ≤ maxLen ∧ true = true then
          (l_Fwd_l2 ((z39, (0 : Int), (0 : Int), fun (j : Nat) => (0 : Int), fun (j : Nat) => (0 : Int)))).bind fun z229 =>
           Sum.elim (fun z229a =>
           dn false) (fun z229b =>
           (c_lives ()).bind fun z231 =>
            dn z231) z229
         else
          none
        else
         none
      else
       none
theorem n_Fwd {β : Type} (c_Verify : a_Verify → Option g_Verify) (c_RVerify : a_RVerify → Option g_RVerify) (c_Regions : a_Regions → Option g_Regions) (c_lives : a_lives → Option g_lives) (l_Fwd_l0 : Fwd_l0_a → Option Fwd_l0_g) (l_Fwd_l2 : Fwd_l2_a → Option Fwd_l2_g) (x : a_Fwd) (dn : g_Fwd → Option β) : t_Fwd c_Verify c_RVerify c_Regions c_lives l_Fwd_l0 l_Fwd_l2 x dn = (t_Fwd c_Verify c_RVerify c_Regions c_lives l_Fwd_l0 l_Fwd_l2 x some).bind dn := by
  unfold t_Fwd
  repeat' first | exact free_none | refine free_bind (fun z => ?_) | refine free_ite ?_ ?_ | refine free_sum (fun z => ?_) (fun z => ?_) | rfl
theorem r_Fwd (c_Verify : a_Verify → Option g_Verify) (c_RVerify : a_RVerify → Option g_RVerify) (c_Regions : a_Regions → Option g_Regions) (c_lives : a_lives → Option g_lives) (l_Fwd_l0 : Fwd_l0_a → Option Fwd_l0_g) (l_Fwd_l2 : Fwd_l2_a → Option Fwd_l2_g) (x : a_Fwd) : callK E6 (ftab 7 (fun _ _ => true) A_Verify x_Verify c_Verify (ftab 8 (fun _ _ => true) A_RVerify x_RVerify c_RVerify (ftab 10 (fun _ _ => true) A_Regions x_Regions c_Regions (ftab 9 (fun _ _ => true) A_lives x_lives c_lives ca0)))) (ltabF 0 (fun _ => true) (bodyOf E6 4 0) (Fwd_l0_S x) (Fwd_l0_x x) l_Fwd_l0 (ltabF 2 (fun _ => true) (bodyOf E6 4 2) (Fwd_l2_S x) (Fwd_l2_x x) l_Fwd_l2 lo0)) 4 (A_Fwd x).1 (A_Fwd x).2 K = t_Fwd (fun x => viaF A_Verify c_Verify (A_Verify x)) (fun x => viaF A_RVerify c_RVerify (A_RVerify x)) (fun x => viaF A_Regions c_Regions (A_Regions x)) (fun x => viaF A_lives c_lives (A_lives x)) (fun y => viaF (fun y => (bodyOf E6 4 0, Fwd_l0_S x y)) l_Fwd_l0 (bodyOf E6 4 0, Fwd_l0_S x y)) (fun y => viaF (fun y => (bodyOf E6 4 2, Fwd_l2_S x y)) l_Fwd_l2 (bodyOf E6 4 2, Fwd_l2_S x y)) x (fun z => some (.c (R_Fwd z))) := by kernel_rfl
theorem s_Fwd (c_Verify : a_Verify → Option g_Verify) (h_Verify : ∀ x z, c_Verify x = some z → SC E6 7 (A_Verify x).1 (A_Verify x).2 (R_Verify z)) (c_RVerify : a_RVerify → Option g_RVerify) (h_RVerify : ∀ x z, c_RVerify x = some z → SC E6 8 (A_RVerify x).1 (A_RVerify x).2 (R_RVerify z)) (c_Regions : a_Regions → Option g_Regions) (h_Regions : ∀ x z, c_Regions x = some z → SC E6 10 (A_Regions x).1 (A_Regions x).2 (R_Regions z)) (c_lives : a_lives → Option g_lives) (h_lives : ∀ x z, c_lives x = some z → SC E6 9 (A_lives x).1 (A_lives x).2 (R_lives z)) (q : Nat) (x : a_Fwd) (z : g_Fwd) (h : t_Fwd c_Verify c_RVerify c_Regions c_lives (Fwd_l0 c_Verify c_RVerify c_Regions c_lives q x) (Fwd_l2 c_Verify c_RVerify c_Regions c_lives q x) x some = some z) : SC E6 4 (A_Fwd x).1 (A_Fwd x).2 (R_Fwd z) := by
  refine SC.of hW6 hX6 (ftab_cons h_Verify xe_Verify (ftab_cons h_RVerify xe_RVerify (ftab_cons h_Regions xe_Regions (ftab_cons h_lives xe_lives ca0_sound)))) (ltabF_cons (Fwd_l0_s c_Verify h_Verify c_RVerify h_RVerify c_Regions h_Regions c_lives h_lives q x) (Fwd_l0_xe x) (ltabF_cons (Fwd_l2_s c_Verify h_Verify c_RVerify h_RVerify c_Regions h_Regions c_lives h_lives q x) (Fwd_l2_xe x) lo0_sound)) ((r_Fwd c_Verify c_RVerify c_Regions c_lives (Fwd_l0 c_Verify c_RVerify c_Regions c_lives q x) (Fwd_l2 c_Verify c_RVerify c_Regions c_lives q x) x).trans ?_)
  rw [via_eq i_Verify c_Verify, via_eq i_RVerify c_RVerify, via_eq i_Regions c_Regions, via_eq i_lives c_lives, via_eq (pair_inj (bodyOf E6 4 0) (Fwd_l0_i x)) (Fwd_l0 c_Verify c_RVerify c_Regions c_lives q x), via_eq (pair_inj (bodyOf E6 4 2) (Fwd_l2_i x)) (Fwd_l2 c_Verify c_RVerify c_Regions c_lives q x), n_Fwd, h]; rfl
noncomputable def Fwd (q : Nat) (x : a_Fwd) : Option g_Fwd := t_Fwd (Verify q) (RVerify q) (Regions q) (lives q) (Fwd_l0 (Verify q) (RVerify q) (Regions q) (lives q) q x) (Fwd_l2 (Verify q) (RVerify q) (Regions q) (lives q) q x) x some
theorem sc_Fwd (q : Nat) : ∀ (x : a_Fwd) (z : g_Fwd), Fwd q x = some z → SC E6 4 (A_Fwd x).1 (A_Fwd x).2 (R_Fwd z) := fun x z h => s_Fwd (Verify q) (sc_Verify q) (RVerify q) (sc_RVerify q) (Regions q) (sc_Regions q) (lives q) (sc_lives q) q x z h
end Go.Proofs.YtcljccpddodckaaGreatDoor
/- Levels of places; how often a run comes by (plain). -/
namespace Go.Proofs.YtcljccpddodckaaGreatDoor
open Go Go.Am Go.Proofs
set_option linter.unusedSimpArgs false
set_option linter.unusedVariables false
set_option maxRecDepth 100000
def Runs {α : Type} (o : Option α) (P : α → Prop) : Prop := ∃ z, o = some z ∧ P z
theorem Runs.bind {α β : Type} {o : Option α} {f : α → Option β} {P : α → Prop} {Q : β → Prop} (h : Runs o P) (g : ∀ z, P z → Runs (f z) Q) : Runs (o.bind f) Q := by
  obtain ⟨z, rfl, hz⟩ := h
  exact g z hz
theorem Runs.some {α : Type} {z : α} {P : α → Prop} (h : P z) : Runs (some z) P := ⟨z, rfl, h⟩
theorem Runs.mono {α : Type} {o : Option α} {P Q : α → Prop} (h : Runs o P) (g : ∀ z, P z → Q z) : Runs o Q := by
  obtain ⟨z, h1, h2⟩ := h
  exact ⟨z, h1, g z h2⟩
theorem Runs.if_pos {α : Type} {c : Prop} [Decidable c] {a b : Option α} {P : α → Prop} (hc : c) (h : Runs a P) : Runs (ite c a b) P := by rw [_root_.if_pos hc]; exact h
theorem Runs.if_neg {α : Type} {c : Prop} [Decidable c] {a b : Option α} {P : α → Prop} (hc : ¬ c) (h : Runs b P) : Runs (ite c a b) P := by rw [_root_.if_neg hc]; exact h
theorem Runs.ite {α : Type} {c : Prop} [Decidable c] {a b : Option α} {P : α → Prop} (h1 : c → Runs a P) (h2 : ¬ c → Runs b P) : Runs (_root_.ite c a b) P := by
  by_cases h : c
  · exact Runs.if_pos h (h1 h)
  · exact Runs.if_neg h (h2 h)
theorem lp_step {α γ : Type} {st : α → Option (α ⊕ γ)} {q : Nat} {y : α} {P : γ → Prop} (h : Runs (st y) (fun r => Sum.elim (fun y' => Runs (lpG st q y') P) P r)) : Runs (lpG st (q + 1) y) P := by
  obtain ⟨r, h1, h2⟩ := h
  rw [lpG_succ, h1]
  cases r with
  | inl y' => exact h2
  | inr z => exact ⟨z, rfl, h2⟩
theorem w_succ {i : Nat} (h : i < 9223372036854775807) : w ((i : Int) + 1) = ((i + 1 : Nat) : Int) := by rw [w_in (by unfold inR; omega)]; omega
open Go.Proofs.Cv (Cd upd rng rngL rngH stopOk Pl plcP pureP jmp jmps VP zero)
def lvL (N : Nat) (q : Pl) (j : Nat) : Int := if j < N then q.oL j else q.lo
def lvW (N : Nat) (q : Pl) (j : Nat) : Int := if j < N then q.oW j else q.wa
/-- How the levels of a place and the next one hang together. -/
structure Loc (c : Cd) (l v : Nat → Int) (i : Nat) : Prop where
  lt : -1 ≤ l i ∧ l i < i
  pure : v i ≠ -1 → c.op i = 20 ∨ pureP (c.op i) = true
  c16 : c.op i = 16 → l (i + 1) = i ∧ v (i + 1) = v i
  c19 : c.op i = 19 → l (i + 1) = l i ∧ v (i + 1) = i
  c17 : c.op i = 17 → l i ≠ -1 ∧ c.arg i = l i + 1 ∧ l (i + 1) = l (l i).toNat ∧ v (i + 1) = v (l i).toNat
  c20 : c.op i = 20 → v i ≠ -1 ∧ c.arg i = v i + 1 ∧ l (i + 1) = l i ∧ v (i + 1) = -1
  oth : c.op i ≠ 16 → c.op i ≠ 19 → c.op i ≠ 17 → c.op i ≠ 20 → l (i + 1) = l i ∧ v (i + 1) = v i
theorem plc_loc (c : Cd) (N : Nat) : ∀ (r i : Nat) (q q' : Pl), i + r = N → (-1 ≤ q.lo ∧ q.lo < i) → (∀ j, j < i → -1 ≤ q.oL j ∧ q.oL j < j) → plcP c r i q = some q' →
    (∀ j, j < i → q'.oL j = q.oL j ∧ q'.oW j = q.oW j) ∧ lvL N q' i = q.lo ∧ lvW N q' i = q.wa ∧ ∀ j, i ≤ j → j < N → Loc c (lvL N q') (lvW N q') j := by
  intro r
  induction r with
  | zero =>
    intro i q q' hi hl hj h
    cases h
    have : ¬ i < N := by omega
    exact ⟨fun j _ => ⟨rfl, rfl⟩, if_neg this, if_neg this, fun j h1 h2 => by omega⟩
  | succ r ih =>
    intro i q q' hi hl hj h
    have hiN : i < N := by omega
    -- what all next states give
    have fin : ∀ lo wa, (-1 ≤ lo ∧ lo < ((i + 1 : Nat) : Int)) → plcP c r (i + 1) ⟨upd q.oL i q.lo, upd q.oW i q.wa, lo, wa⟩ = some q' →
        (∀ j, j < i → q'.oL j = q.oL j ∧ q'.oW j = q.oW j) ∧ lvL N q' i = q.lo ∧ lvW N q' i = q.wa ∧ lvL N q' (i + 1) = lo ∧ lvW N q' (i + 1) = wa ∧ ∀ j, i + 1 ≤ j → j < N → Loc c (lvL N q') (lvW N q') j := by
      intro lo wa hlo h
      obtain ⟨k1, k2, k3, k4⟩ := ih (i + 1) _ q' (by omega) hlo (fun j hj' => by
        by_cases hji : j = i
        · subst hji
          show -1 ≤ upd q.oL j q.lo j ∧ upd q.oL j q.lo j < j
          rw [Cv.upd_same]; exact hl
        · show -1 ≤ upd q.oL i q.lo j ∧ upd q.oL i q.lo j < j
          rw [Cv.upd_ne hji]; exact hj j (by omega)) h
      have ki := k1 i (by omega)
      refine ⟨fun j hj' => ?_, ?_, ?_, k2, k3, k4⟩
      · have := k1 j (by omega)
        simp only at this
        rw [Cv.upd_ne (by omega), Cv.upd_ne (by omega)] at this
        exact this
      · unfold lvL; rw [if_pos hiN, ki.1]; exact Cv.upd_same _ _ _
      · unfold lvW; rw [if_pos hiN, ki.2]; exact Cv.upd_same _ _ _
    rw [plcP] at h
    split at h
    · cases h
    rename_i hp
    have hpure : q.wa ≠ -1 → c.op i = 20 ∨ pureP (c.op i) = true := fun hw => by
      by_cases h20 : c.op i = 20
      · exact .inl h20
      · right
        cases hb : pureP (c.op i) with
        | true => rfl
        | false => exact absurd ⟨hw, h20, hb⟩ hp
    have done : ∀ lo wa, (-1 ≤ lo ∧ lo < ((i + 1 : Nat) : Int)) → plcP c r (i + 1) ⟨upd q.oL i q.lo, upd q.oW i q.wa, lo, wa⟩ = some q' →
        ((lvL N q' i = q.lo ∧ lvW N q' i = q.wa ∧ lvL N q' (i + 1) = lo ∧ lvW N q' (i + 1) = wa ∧ ∀ j, j < i → lvL N q' j = q.oL j ∧ lvW N q' j = q.oW j) → Loc c (lvL N q') (lvW N q') i) →
        (∀ j, j < i → q'.oL j = q.oL j ∧ q'.oW j = q.oW j) ∧ lvL N q' i = q.lo ∧ lvW N q' i = q.wa ∧ ∀ j, i ≤ j → j < N → Loc c (lvL N q') (lvW N q') j := by
      intro lo wa hlo h g
      obtain ⟨k1, k2, k3, k4, k5, k6⟩ := fin lo wa hlo h
      refine ⟨k1, k2, k3, fun j j1 j2 => ?_⟩
      by_cases hji : j = i
      · subst hji
        refine g ⟨k2, k3, k4, k5, fun t ht => ?_⟩
        unfold lvL lvW
        rw [if_pos (by omega), if_pos (by omega)]
        exact k1 t ht
      · exact k6 j (by omega) j2
    split at h
    · rename_i h16
      refine done _ _ (by omega) h fun ⟨e1, e2, e3, e4, e5⟩ => ⟨by rw [e1]; exact hl, by rw [e2]; exact hpure, fun _ => ⟨e3, by rw [e4, e2]⟩, fun g => absurd g (by rw [h16]; decide), fun g => absurd g (by rw [h16]; decide), fun g => absurd g (by rw [h16]; decide), fun g => absurd h16 g⟩
    rename_i h16
    split at h
    · rename_i h19
      refine done _ _ (by omega) h fun ⟨e1, e2, e3, e4, e5⟩ => ⟨by rw [e1]; exact hl, by rw [e2]; exact hpure, fun g => absurd g h16, fun _ => ⟨by rw [e3, e1], e4⟩, fun g => absurd g (by rw [h19]; decide), fun g => absurd g (by rw [h19]; decide), fun _ g => absurd h19 g⟩
    rename_i h19
    split at h
    · rename_i h17
      split at h
      · cases h
      rename_i hb
      have hb1 : q.lo ≠ -1 := fun e => hb (.inl e)
      have hb2 : c.arg i = q.lo + 1 := Classical.byContradiction fun e => hb (.inr e)
      have ht : q.lo.toNat < i := by omega
      have hr := hj q.lo.toNat ht
      rw [Cv.upd_ne (by omega), Cv.upd_ne (by omega)] at h
      refine done _ _ (by omega) h fun ⟨e1, e2, e3, e4, e5⟩ => ⟨by rw [e1]; exact hl, by rw [e2]; exact hpure, fun g => absurd g h16, fun g => absurd g h19, fun _ => ⟨by rw [e1]; exact hb1, by rw [e1]; exact hb2, by rw [e3, e1, (e5 _ ht).1], by rw [e4, e1, (e5 _ ht).2]⟩, fun g => absurd g (by rw [h17]; decide), fun _ _ g => absurd h17 g⟩
    rename_i h17
    split at h
    · rename_i h20
      split at h
      · cases h
      rename_i hb
      have hb1 : q.wa ≠ -1 := fun e => hb (.inl e)
      have hb2 : c.arg i = q.wa + 1 := Classical.byContradiction fun e => hb (.inr e)
      refine done _ _ (by omega) h fun ⟨e1, e2, e3, e4, e5⟩ => ⟨by rw [e1]; exact hl, by rw [e2]; exact hpure, fun g => absurd g h16, fun g => absurd g h19, fun g => absurd g h17, fun _ => ⟨by rw [e2]; exact hb1, by rw [e2]; exact hb2, by rw [e3, e1], e4⟩, fun _ _ _ g => absurd h20 g⟩
    rename_i h20
    refine done _ _ (by omega) h fun ⟨e1, e2, e3, e4, e5⟩ => ⟨by rw [e1]; exact hl, by rw [e2]; exact hpure, fun g => absurd g h16, fun g => absurd g h19, fun g => absurd g h17, fun g => absurd g h20, fun _ _ _ _ => ⟨by rw [e3, e1], by rw [e4, e2]⟩⟩
/-- The levels of valid code. -/
structure Lvs (n : Nat) (op arg : Nat → Int) (l v : Nat → Int) : Prop where
  l0 : l 0 = -1
  v0 : v 0 = -1
  ln : l n = -1
  vn : v n = -1
  loc : ∀ j, j < n → Loc (mkC 0 n op arg) l v j
  jm : ∀ j, j < n → (op j = 14 ∨ op j = 15) → l (arg j).toNat = l j ∧ v (arg j).toNat = v j
section
variable {n : Nat} {op arg : Nat → Int} {l v : Nat → Int}
theorem Lvs.loop (hv : Lvs n op arg l v) : ∀ (m i : Nat), i < m → i ≤ n → l i ≠ -1 → ∃ r : Nat, l i = r ∧ r < i ∧ r < n ∧ op r = 16 := by
  intro m
  induction m with
  | zero => intro i h; omega
  | succ m ih =>
    intro i him hin hl
    cases i with
    | zero => exact absurd hv.l0 hl
    | succ i =>
      have lc := hv.loc i (by omega)
      have same : l (i + 1) = l i → ∃ r : Nat, l (i + 1) = r ∧ r < i + 1 ∧ r < n ∧ op r = 16 := fun e => by
        rw [e] at hl ⊢
        obtain ⟨r, h1, h2, h3, h4⟩ := ih i (by omega) (by omega) hl
        exact ⟨r, h1, by omega, h3, h4⟩
      by_cases h16 : op i = 16
      · exact ⟨i, (lc.c16 h16).1, by omega, by omega, h16⟩
      by_cases h19 : op i = 19
      · exact same (lc.c19 h19).1
      by_cases h17 : op i = 17
      · obtain ⟨g1, g2, g3, g4⟩ := lc.c17 h17
        have := lc.lt
        obtain ⟨r, h1, h2, h3, h4⟩ := ih (l i).toNat (by omega) (by omega) (by rw [← g3]; exact hl)
        exact ⟨r, by rw [g3, h1], by omega, h3, h4⟩
      by_cases h20 : op i = 20
      · exact same (lc.c20 h20).2.2.1
      exact same (lc.oth h16 h19 h17 h20).1
inductive ActL (l : Nat → Int) : Nat → Nat → Prop
  | here {i r : Nat} : l i = r → ActL l i r
  | up {i k r : Nat} : l i = k → ActL l k r → ActL l i r
theorem ActL.eq {i j r : Nat} (h : ActL l i r) (e : l j = l i) : ActL l j r := by
  cases h with
  | here h => exact .here (e.trans h)
  | up h g => exact .up (e.trans h) g
theorem Lvs.lt (hv : Lvs n op arg l v) {i : Nat} (hi : i ≤ n) : -1 ≤ l i ∧ l i < i := by
  by_cases h : i < n
  · exact (hv.loc i h).lt
  · have : i = n := by omega
    rw [this, hv.ln]; omega
theorem ActL.lt (hv : Lvs n op arg l v) {i r : Nat} (h : ActL l i r) : i ≤ n → (r : Int) ≤ l i ∧ r < i := by
  induction h with
  | here h => intro hi; have := hv.lt hi; omega
  | up h g ih =>
    intro hi
    have := hv.lt hi
    have := ih (by omega)
    omega
theorem not_act0 (hv : Lvs n op arg l v) {r : Nat} : ¬ ActL l 0 r := fun h => by have := h.lt hv (Nat.zero_le _); omega
/-- Where a loop is held, all from it on are in it. -/
theorem act_in (hv : Lvs n op arg l v) : ∀ (i : Nat), i ≤ n → ∀ r, ActL l i r → ∀ j, r < j → j ≤ i → (r : Int) ≤ l j := by
  intro i
  induction i with
  | zero => intro _ r h; exact absurd h (not_act0 hv)
  | succ i ih =>
    intro hi r h j h1 h2
    by_cases hj : j = i + 1
    · subst hj; exact (h.lt hv hi).1
    have lc := hv.loc i (by omega)
    have key : ∀ {r' : Nat}, r' = r → ActL l i r' → (r : Int) ≤ l j := fun e h' => by subst e; exact ih (by omega) _ h' j h1 (by omega)
    by_cases h16 : op i = 16
    · have e := (lc.c16 h16).1
      cases h with
      | here h => exfalso; omega
      | up h g =>
        have : (i : Int) = _ := e.symm.trans h
        have : i = _ := Int.ofNat_inj.1 this
        subst this
        exact key rfl g
    by_cases h17 : op i = 17
    · obtain ⟨g1, g2, g3, g4⟩ := lc.c17 h17
      have := lc.lt
      refine key rfl (.up (k := (l i).toNat) (by omega) (h.eq g3.symm))
    refine key rfl (h.eq ?_)
    by_cases h19 : op i = 19
    · exact (lc.c19 h19).1.symm
    by_cases h20 : op i = 20
    · exact (lc.c20 h20).2.2.1.symm
    exact (lc.oth h16 h19 h17 h20).1.symm
/-- The last of a loop. -/
theorem last_of (hv : Lvs n op arg l v) {e r i : Nat} (he : e < n) (h17 : op e = 17) (hr : l e = r) (hi : i ≤ n) (h : l i = r) : i ≤ e := by
  have h := h
  apply Classical.byContradiction
  intro hn
  obtain ⟨g1, g2, g3, g4⟩ := (hv.loc e he).c17 h17
  have hlt := (hv.lt (Nat.le_of_lt he))
  have h1 := act_in hv i hi r (.here h) (e + 1) (by omega) (by omega)
  have h2 := hv.lt (i := r) (by omega)
  rw [g3, hr, Int.toNat_natCast] at h1
  omega
theorem in_loop (hv : Lvs n op arg l v) {e r i : Nat} (he : e < n) (hr : l e = r) (h1 : r < i) (h2 : i ≤ e) : (r : Int) ≤ l i := act_in hv e (Nat.le_of_lt he) r (.here hr) i h1 h2
def af (p i : Nat) : Int := if p ≤ i then 1 else 0
theorem af_le {p q i : Nat} (h : p < q) : af q i ≤ af p i := by unfold af; split <;> split <;> omega
theorem af_self (p : Nat) : af p p = 1 := by unfold af; rw [if_pos (Nat.le_refl _)]
theorem af_gt {p i : Nat} (h : i < p) : af p i = 0 := by unfold af; rw [if_neg (by omega)]
theorem af_01 (p i : Nat) : 0 ≤ af p i ∧ af p i ≤ 1 := by unfold af; split <;> omega
structure FI (n : Nat) (arg l : Nat → Int) (p : Nat) (cnt rho : Nat → Int) : Prop where
  out : ∀ i r : Nat, i < n → l i = r → ¬ ActL l p r → cnt i ≤ arg r * cnt r
  inn : ∀ i r : Nat, i < n → l i = r → ActL l p r → cnt i + (arg r - 1 - rho r) + af p i ≤ arg r * cnt r
  top : ∀ i : Nat, i < n → l i = -1 → cnt i + af p i ≤ 1
  rz : ∀ r : Nat, ¬ ActL l p r → rho r = 0
  rr : ∀ r : Nat, ActL l p r → 0 ≤ rho r ∧ rho r < arg r
def inc (f : Nat → Int) (p : Nat) : Nat → Int := fun j => if j = p then f p + 1 else f j
theorem inc_same (f : Nat → Int) (p : Nat) : inc f p p = f p + 1 := by unfold inc; rw [if_pos rfl]
theorem inc_ne {f : Nat → Int} {p j : Nat} (h : j ≠ p) : inc f p j = f j := by unfold inc; rw [if_neg h]
theorem inc_ge (f : Nat → Int) (p j : Nat) : f j ≤ inc f p j := by unfold inc; split <;> rename_i h <;> first | (rw [h]; omega) | omega
theorem mul_inc {a : Int} (ha : 0 ≤ a) (f : Nat → Int) (p j : Nat) : a * f j ≤ a * inc f p j := Int.mul_le_mul_of_nonneg_left (inc_ge f p j) ha
theorem FI.start (hv : Lvs n op arg l v) : FI n arg l 0 (fun _ => 0) (fun _ => 0) :=
  ⟨fun i r _ _ _ => by simp, fun i r _ _ h => absurd h (not_act0 hv), fun i _ _ => by have := (af_01 0 i).2; simpa using this, fun _ _ => rfl, fun r h => absurd h (not_act0 hv)⟩
section
variable {cnt rho : Nat → Int} {p : Nat} (hv : Lvs n op arg l v) (hg : ∀ r, r < n → op r = 16 → 1 ≤ arg r) (hi : FI n arg l p cnt rho) (hp : p < n)
include hv hg in
theorem arg_pos {i r : Nat} (hin : i < n) (e : l i = r) : 1 ≤ arg r ∧ r < i ∧ op r = 16 := by
  obtain ⟨r', h1, h2, h3, h4⟩ := hv.loop (i + 1) i (by omega) (by omega) (by omega)
  have : r = r' := by omega
  subst this
  exact ⟨hg r h3 h4, h2, h4⟩
include hv hg hi hp in
theorem FI.go {q : Nat} (hq : p < q) (e : l q = l p) : FI n arg l q (inc cnt p) rho := by
  have a1 : ∀ {r}, ActL l q r → ActL l p r := fun h => h.eq e.symm
  have a2 : ∀ {r}, ActL l p r → ActL l q r := fun h => h.eq e
  refine ⟨fun i r hin hl ha => ?_, fun i r hin hl ha => ?_, fun i hin hl => ?_, fun r ha => hi.rz r fun h => ha (a2 h), fun r ha => hi.rr r (a1 ha)⟩
  · have ⟨g1, g2, _⟩ := arg_pos hv hg hin hl
    have h1 := hi.out i r hin hl fun h => ha (a2 h)
    have h2 := mul_inc (a := arg r) (by omega) cnt p r
    have : i ≠ p := fun e' => ha (a2 (by subst e'; exact .here hl))
    rw [inc_ne this]; omega
  · have ⟨g1, g2, _⟩ := arg_pos hv hg hin hl
    have h1 := hi.inn i r hin hl (a1 ha)
    have h2 := mul_inc (a := arg r) (by omega) cnt p r
    by_cases hip : i = p
    · subst hip
      rw [inc_same, af_gt hq]; rw [af_self] at h1; omega
    · rw [inc_ne hip]; have := af_le (i := i) hq; omega
  · have h1 := hi.top i hin hl
    by_cases hip : i = p
    · subst hip
      rw [inc_same, af_gt hq]; rw [af_self] at h1; omega
    · rw [inc_ne hip]; have := af_le (i := i) hq; omega
include hv hg hi hp in
theorem FI.enter (h16 : op p = 16) : FI n arg l (p + 1) (inc cnt p) rho := by
  have e : l (p + 1) = p := ((hv.loc p hp).c16 h16).1
  have hnp : ¬ ActL l p p := fun h => by have := (h.lt hv (Nat.le_of_lt hp)).2; omega
  have a1 : ∀ {r}, ActL l (p + 1) r → r = p ∨ ActL l p r := fun h => by
    cases h with
    | here h => left; omega
    | up h g => right; have : p = _ := Int.ofNat_inj.1 (e.symm.trans h); subst this; exact g
  have a2 : ∀ {r}, ActL l p r → ActL l (p + 1) r := fun h => .up e h
  have a3 : ActL l (p + 1) p := .here e
  have hq : p < p + 1 := Nat.lt_succ_self p
  refine ⟨fun i r hin hl ha => ?_, fun i r hin hl ha => ?_, fun i hin hl => ?_, fun r ha => hi.rz r fun h => ha (a2 h), fun r ha => ?_⟩
  · have ⟨g1, g2, _⟩ := arg_pos hv hg hin hl
    have h1 := hi.out i r hin hl fun h => ha (a2 h)
    have h2 := mul_inc (a := arg r) (by omega) cnt p r
    have : i ≠ p := fun e' => ha (a2 (by subst e'; exact .here hl))
    rw [inc_ne this]; omega
  · have ⟨g1, g2, _⟩ := arg_pos hv hg hin hl
    rcases a1 ha with rfl | ha'
    · have h1 := hi.out i r hin hl hnp
      have h3 := hi.rz r hnp
      rw [inc_ne (by omega), inc_same, h3, Int.mul_add]
      have := af_01 (r + 1) i
      omega
    · have h1 := hi.inn i r hin hl ha'
      have h2 := mul_inc (a := arg r) (by omega) cnt p r
      by_cases hip : i = p
      · subst hip
        rw [inc_same, af_gt hq]; rw [af_self] at h1; omega
      · rw [inc_ne hip]; have := af_le (i := i) hq; omega
  · have h1 := hi.top i hin hl
    by_cases hip : i = p
    · subst hip
      rw [inc_same, af_gt hq]; rw [af_self] at h1; omega
    · rw [inc_ne hip]; have := af_le (i := i) hq; omega
  · rcases a1 ha with rfl | ha'
    · rw [hi.rz r hnp]; have := hg r hp h16; omega
    · exact hi.rr r ha'
include hv hg hi hp in
theorem FI.back (h17 : op p = 17) {r0 : Nat} (e0 : l p = r0) (hr : rho r0 + 1 < arg r0) : FI n arg l (r0 + 1) (inc cnt p) (inc rho r0) := by
  have ⟨_, hrp, h16⟩ := arg_pos hv hg hp e0
  have e : l (r0 + 1) = r0 := ((hv.loc r0 (by omega)).c16 h16).1
  have e' : l (r0 + 1) = l p := e.trans e0.symm
  have a1 : ∀ {r}, ActL l (r0 + 1) r → ActL l p r := fun h => h.eq e'.symm
  have a2 : ∀ {r}, ActL l p r → ActL l (r0 + 1) r := fun h => h.eq e'
  have a0 : ActL l p r0 := .here e0
  -- what is not of this loop itself stands before it or behind it
  have out : ∀ i, i < n → l i < r0 → af (r0 + 1) i = af p i := fun i hin hl => by
    unfold af
    by_cases h1 : r0 < i
    · by_cases h2 : i ≤ p
      · have := in_loop hv hp e0 h1 h2; omega
      · rw [if_pos (by omega), if_pos (by omega)]
    · rw [if_neg (by omega), if_neg (by omega)]
  have hne : r0 ≠ p := by omega
  refine ⟨fun i r hin hl ha => ?_, fun i r hin hl ha => ?_, fun i hin hl => ?_, fun r ha => ?_, fun r ha => ?_⟩
  · have ⟨g1, g2, _⟩ := arg_pos hv hg hin hl
    have h1 := hi.out i r hin hl fun h => ha (a2 h)
    have h2 := mul_inc (a := arg r) (by omega) cnt p r
    have : i ≠ p := fun e' => ha (a2 (by subst e'; exact .here hl))
    rw [inc_ne this]; omega
  · have ⟨g1, g2, _⟩ := arg_pos hv hg hin hl
    have h1 := hi.inn i r hin hl (a1 ha)
    have h2 := mul_inc (a := arg r) (by omega) cnt p r
    by_cases hr0 : r = r0
    · subst hr0
      rw [inc_same]
      have hl' := last_of hv hp h17 e0 (Nat.le_of_lt hin) hl
      have := af_01 (r + 1) i
      by_cases hip : i = p
      · subst hip
        rw [inc_same]; rw [af_self] at h1; omega
      · rw [inc_ne hip]; rw [af_gt (by omega)] at h1; omega
    · rw [inc_ne hr0]
      have hlt := ((a1 ha).lt hv (Nat.le_of_lt hp)).1
      have hip : i ≠ p := fun e' => by subst e'; omega
      rw [inc_ne hip, out i hin (by omega)]; omega
  · have h1 := hi.top i hin hl
    have hip : i ≠ p := fun e' => by subst e'; omega
    rw [inc_ne hip, out i hin (by omega)]; omega
  · have : r ≠ r0 := fun e' => ha (a2 (by subst e'; exact a0))
    rw [inc_ne this]; exact hi.rz r fun h => ha (a2 h)
  · have h1 := hi.rr r (a1 ha)
    by_cases hr0 : r = r0
    · subst hr0; rw [inc_same]; omega
    · rw [inc_ne hr0]; exact h1
include hv hg hi hp in
theorem FI.leave (h17 : op p = 17) {r0 : Nat} (e0 : l p = r0) (hr : ¬ rho r0 + 1 < arg r0) : FI n arg l (p + 1) (inc cnt p) (fun j => if j = r0 then 0 else rho j) := by
  have ⟨_, hrp, h16⟩ := arg_pos hv hg hp e0
  obtain ⟨_, g2, g3, _⟩ := (hv.loc p hp).c17 h17
  have e : l (p + 1) = l r0 := by rw [g3, e0, Int.toNat_natCast]
  have hlt := hv.lt (i := r0) (by omega)
  have a0 : ActL l p r0 := .here e0
  have a1 : ∀ {r}, ActL l (p + 1) r → ActL l p r ∧ r ≠ r0 := fun h => by
    have h' := h.eq (j := r0) e.symm
    have := (h'.lt hv (by omega)).2
    exact ⟨.up e0 h', by omega⟩
  have a2 : ∀ {r}, ActL l p r → r ≠ r0 → ActL l (p + 1) r := fun h hn => by
    cases h with
    | here h => exact absurd (Int.ofNat_inj.1 (h.symm.trans e0)) hn
    | up h g => have : r0 = _ := Int.ofNat_inj.1 (e0.symm.trans h); subst this; exact g.eq e
  have hq : p < p + 1 := Nat.lt_succ_self p
  have hrr := hi.rr r0 a0
  refine ⟨fun i r hin hl ha => ?_, fun i r hin hl ha => ?_, fun i hin hl => ?_, fun r ha => ?_, fun r ha => ?_⟩
  · have ⟨g1, g2, _⟩ := arg_pos hv hg hin hl
    have h2 := mul_inc (a := arg r) (by omega) cnt p r
    by_cases hr0 : r = r0
    · subst hr0
      have h1 := hi.inn i r hin hl a0
      by_cases hip : i = p
      · subst hip
        rw [inc_same]; rw [af_self] at h1; omega
      · rw [inc_ne hip]; have := af_01 p i; omega
    · have h1 := hi.out i r hin hl fun h => ha (a2 h hr0)
      have : i ≠ p := fun e' => by subst e'; exact hr0 (Int.ofNat_inj.1 (hl.symm.trans e0))
      rw [inc_ne this]; omega
  · have ⟨g1, g2, _⟩ := arg_pos hv hg hin hl
    obtain ⟨b1, b2⟩ := a1 ha
    have h1 := hi.inn i r hin hl b1
    have h2 := mul_inc (a := arg r) (by omega) cnt p r
    have hip : i ≠ p := fun e' => by subst e'; exact b2 (Int.ofNat_inj.1 (hl.symm.trans e0))
    rw [inc_ne hip]
    show cnt i + (arg r - 1 - (if r = r0 then 0 else rho r)) + af (p + 1) i ≤ _
    rw [if_neg b2]
    have := af_le (i := i) hq; omega
  · have h1 := hi.top i hin hl
    have hip : i ≠ p := fun e' => by subst e'; omega
    rw [inc_ne hip]; have := af_le (i := i) hq; omega
  · show (if r = r0 then 0 else rho r) = 0
    by_cases hr0 : r = r0
    · rw [if_pos hr0]
    · rw [if_neg hr0]; exact hi.rz r fun h => ha (a2 h hr0)
  · show 0 ≤ (if r = r0 then 0 else rho r) ∧ (if r = r0 then 0 else rho r) < arg r
    obtain ⟨b1, b2⟩ := a1 ha
    rw [if_neg b2]; exact hi.rr r b1
/-- The product of the loops that hold a place, at most 1000. -/
def Most (n : Nat) (arg l M : Nat → Int) : Prop := ∀ i, i < n → (l i = -1 → M i = 1) ∧ (∀ r : Nat, l i = r → M i = min (M r * arg r) 1000)
include hv hg hi in
theorem FI.cnt_le {M : Nat → Int} (hM : Most n arg l M) (h1 : ∀ i, i < n → 1 ≤ M i) : ∀ i, i < n → M i < 1000 → cnt i ≤ M i := by
  intro i
  induction i using Nat.strongRecOn with
  | _ i ih =>
    intro hin hm
    by_cases hl : l i = -1
    · have := hi.top i hin hl; have := af_01 p i; rw [(hM i hin).1 hl]; omega
    have hb := hv.lt (Nat.le_of_lt hin)
    obtain ⟨r, hr⟩ : ∃ r : Nat, l i = r := ⟨(l i).toNat, by omega⟩
    have ⟨g1, g2, _⟩ := arg_pos hv hg hin hr
    have e := (hM i hin).2 r hr
    have hMr := h1 r (by omega)
    have k1 : M r ≤ M r * arg r := by
      have := Int.mul_le_mul_of_nonneg_left g1 (show (0 : Int) ≤ M r by omega)
      omega
    have e2 : M i = M r * arg r := by omega
    have k2 := ih r g2 (by omega) (by omega)
    have k3 : arg r * cnt r ≤ arg r * M r := Int.mul_le_mul_of_nonneg_left k2 (by omega)
    rw [Int.mul_comm (arg r) (M r)] at k3
    by_cases ha : ActL l p r
    · have := hi.inn i r hin hr ha; have := hi.rr r ha; have := af_01 p i; omega
    · have := hi.out i r hin hr ha; omega
include hv hg hi hp in
theorem FI.bound {M : Nat → Int} (hM : Most n arg l M) (h1 : ∀ i, i < n → 1 ≤ M i) (hm : M p < 1000) : cnt p + 1 ≤ M p := by
  by_cases hl : l p = -1
  · have := hi.top p hp hl; rw [af_self] at this; rw [(hM p hp).1 hl]; omega
  have hb := hv.lt (Nat.le_of_lt hp)
  obtain ⟨r, hr⟩ : ∃ r : Nat, l p = r := ⟨(l p).toNat, by omega⟩
  have ⟨g1, g2, _⟩ := arg_pos hv hg hp hr
  have e := (hM p hp).2 r hr
  have hMr := h1 r (by omega)
  have k1 : M r ≤ M r * arg r := by
    have := Int.mul_le_mul_of_nonneg_left g1 (show (0 : Int) ≤ M r by omega)
    omega
  have e2 : M p = M r * arg r := by omega
  have k2 := hi.cnt_le hv hg hM h1 r (by omega) (by omega)
  have k3 : arg r * cnt r ≤ arg r * M r := Int.mul_le_mul_of_nonneg_left k2 (by omega)
  rw [Int.mul_comm (arg r) (M r)] at k3
  have k4 := hi.inn p r hp hr (.here hr)
  have k5 := hi.rr r (.here hr)
  rw [af_self] at k4
  omega
end
end
end Go.Proofs.YtcljccpddodckaaGreatDoor
/- CompileForward: the loops, the law. -/
namespace Go.Proofs.YtcljccpddodckaaGreatDoor
open Go Go.Am Go.Proofs
set_option linter.unusedSimpArgs false
set_option linter.unusedVariables false
set_option maxRecDepth 100000
open Go.Proofs.Cv (Cd Pl Rg Rg.pl plcP regR VP VR zero)
theorem lp_step3 {α γ : Type} {st : α → Option (α ⊕ γ)} {q : Nat} {y : α} {P : γ → Prop} (h : ∀ Q : α → Prop, (∀ y', Runs (lpG st q y') P → Q y') → Runs (st y) (Sum.elim Q P)) : Runs (lpG st (q + 1) y) P := by
  refine lp_step ((h (fun y' => Runs (lpG st q y') P) fun _ g => g).mono fun z hz => ?_)
  cases z <;> exact hz
theorem regR_vars (op ar : Nat → Int) (n n' : Nat) (vs vs' : Int) : ∀ (r i : Nat) (q : Rg), regR ⟨op, ar, n, vs⟩ r i q = regR ⟨op, ar, n', vs'⟩ r i q
  | 0, i, q => rfl
  | r + 1, i, q => by simp only [regR, regR_vars op ar n n' vs vs' r]
/-- What is known of valid code. -/
structure Ok (n : Nat) (op ar l v : Nat → Int) : Prop where
  lv : Lvs n op ar l v
  n1 : 1 ≤ n
  n3 : n ≤ 300
  jmp : ∀ p, p < n → (op p = 14 ∨ op p = 15) → (p : Int) + 1 ≤ ar p ∧ ar p ≤ (n : Int) - 1
  rep : ∀ r, r < n → op r = 16 → 1 ≤ ar r ∧ ar r ≤ 100
theorem ok_of {n : Nat} {op ar : Nat → Int} {ps vs : Int} (h : verV ps (mkC vs n op ar) = 0) : ∃ (q : Rg) (v : Nat → Int), regR (mkC 0 n op ar) n 0 rg0 = some q ∧ Ok n op ar (lvL n q.pl) v := by
  have h1 : ¬ ((mkC vs n op ar).n > 300 ∨ (mkC vs n op ar).vars > 12) := fun g => by rw [verV_2 g] at h; cases h
  have h2 : ¬ (ps < 0 ∨ ps > (mkC vs n op ar).vars ∨ (mkC vs n op ar).n = 0 ∨ ¬ VP (mkC vs n op ar)) := fun g => by rw [verV_13 h1 g] at h; cases h
  have hvp : VP (mkC vs n op ar) := Classical.byContradiction fun g => h2 (.inr (.inr (.inr g)))
  have hn0 : n ≠ 0 := fun g => h2 (.inr (.inr (.inl g)))
  have hn3 : ¬ n > 300 := fun g => h1 (.inl g)
  have hvr := (Cv.VP_VR _).1 hvp
  have hok : ∀ i, i < (mkC vs n op ar).n → Cv.okOp ((mkC vs n op ar).op i) := fun i hi => Cv.opnd_ok (hvr.1 i hi).2
  obtain ⟨q', p2, ⟨p3, p4⟩, p5⟩ := hvp.2.1
  have e : plcP (mkC vs n op ar) n 0 ⟨zero, zero, -1, -1⟩ = (regR (mkC vs n op ar) n 0 rg0).map Rg.pl := Cv.plc_reg (mkC vs n op ar) hok n 0 rg0 (Nat.zero_add n) Cv.Stk0
  have p2' : plcP (mkC vs n op ar) n 0 ⟨zero, zero, -1, -1⟩ = some q' := p2
  rw [p2'] at e
  obtain ⟨q, hq, rfl⟩ := Option.map_eq_some_iff.1 e.symm
  obtain ⟨k1, k2, k3, k4⟩ := plc_loc (mkC vs n op ar) n n 0 _ q.pl (by omega) ⟨Int.le_refl _, by decide⟩ (fun j hj => by omega) p2'
  have hj : ∀ p, p < n → (op p = 14 ∨ op p = 15) → (p : Int) + 1 ≤ ar p ∧ ar p ≤ (n : Int) - 1 := fun p hp ho => Cv.rng_jump (c := mkC vs n op ar) ho (hvp.1 p hp).1
  refine ⟨q, lvW n q.pl, (regR_vars op ar n n 0 vs n 0 rg0).trans hq, ⟨k2, k3, ?_, ?_, fun j hj => ?_, fun j hjn ho => ?_⟩, by omega, by omega, hj, fun r hr h16 => ?_⟩
  · unfold lvL; rw [if_neg (by omega)]; exact p3
  · unfold lvW; rw [if_neg (by omega)]; exact p4
  · have g := k4 j (Nat.zero_le _) hj
    exact ⟨g.lt, g.pure, g.c16, g.c19, g.c17, g.c20, g.oth⟩
  · have := p5 j hjn ho
    have hr := hj j hjn ho
    unfold lvL lvW
    rw [if_pos (by omega), if_pos (by omega), if_pos (by omega), if_pos (by omega)]
    exact this
  · have hg := (hvp.1 r hr).1
    unfold Cv.rng Cv.rngL Cv.rngH at hg
    have h16' : (mkC vs n op ar).op r = 16 := h16
    rw [h16'] at hg
    have hg' : 1 ≤ ar r ∧ ar r ≤ 100 := by simpa [mkC] using hg
    exact hg'
section
variable {n : Nat} {op ar l v : Nat → Int} (hok : Ok n op ar l v)
include hok in
theorem Ok.next (p : Nat) (hp : p < n) (h16 : op p ≠ 16) (h17 : op p ≠ 17) : l (p + 1) = l p := by
  have lc := hok.lv.loc p hp
  by_cases h19 : op p = 19
  · exact (lc.c19 h19).1
  by_cases h20 : op p = 20
  · exact (lc.c20 h20).2.2.1
  exact (lc.oth h16 h19 h17 h20).1
variable {cV : a_Verify → Option g_Verify} {cR : a_RVerify → Option g_RVerify} {cG : a_Regions → Option g_Regions} {cL : a_lives → Option g_lives} {nm : ByteArray} {ps vs : Int} {cn : Nat} {ch : Nat → Bool}
def MostP (l ar M : Nat → Int) (j : Nat) : Prop := (l j = -1 → M j = 1) ∧ (∀ r : Nat, l j = r → M j = min (M r * ar r) 1000) ∧ 1 ≤ M j ∧ M j ≤ 1000
include hok in
theorem most_loop {gl : Nat → Int} (hgl : ∀ j, j < n → gl j = l j) : ∀ (r q i : Nat) (M : Nat → Int), i + r = n → r < q → (∀ j, j < i → MostP l ar M j) →
    Runs (Fwd_l0 cV cR cG cL q (nm, ps, vs, n, op, ar, cn, ch) (n, gl, (i : Int), M)) (fun z => ∀ j, j < n → MostP l ar z j) := by
  have hn3 := hok.n3
  intro r
  induction r with
  | zero =>
    intro q i M hi hq hM
    obtain ⟨q, rfl⟩ : ∃ k, q = k + 1 := ⟨q - 1, by omega⟩
    refine lp_step3 fun Q hQ => ?_
    unfold Fwd_l0_t
    dsimp only
    refine Runs.if_neg (by simp only [decide_eq_true_eq]; omega) (Runs.some fun j hj => hM j (by omega))
  | succ r ih =>
    intro q i M hi hq hM
    obtain ⟨q, rfl⟩ : ∃ k, q = k + 1 := ⟨q - 1, by omega⟩
    refine lp_step3 fun Q hQ => ?_
    unfold Fwd_l0_t
    dsimp only
    have hin : i < n := by omega
    have eg := hgl i hin
    have hlt := hok.lv.lt (Nat.le_of_lt hin)
    refine Runs.if_pos (by simp only [decide_eq_true_eq]; omega) (Runs.if_pos (by omega) (Runs.if_pos (by omega) (Runs.if_pos (by omega) ?_)))
    simp only [Int.toNat_natCast, Nat.zero_add, eg, and_true]
    rw [w_succ (by omega)]
    refine Runs.ite (fun g => ?_) fun g => ?_
    · have g : l i ≥ 0 := by simpa using g
      obtain ⟨r0, hr0⟩ : ∃ r : Nat, l i = r := ⟨(l i).toNat, by omega⟩
      obtain ⟨a1, a2, a3⟩ := arg_pos hok.lv (fun r h1 h2 => (hok.rep r h1 h2).1) hin hr0
      have a4 := (hok.rep r0 (by omega) a3).2
      obtain ⟨m1, m2, m3, m4⟩ := hM r0 a2
      simp only [hr0, Int.toNat_natCast, and_true]
      have b1 : 1 ≤ M r0 * ar r0 := by
        have := Int.mul_le_mul_of_nonneg_left a1 (show (0 : Int) ≤ M r0 by omega)
        omega
      have b2 : M r0 * ar r0 ≤ 100000 := by
        have h1 := Int.mul_le_mul_of_nonneg_left a4 (show (0 : Int) ≤ M r0 by omega)
        omega
      refine Runs.if_pos (by omega) ?_
      refine (Runs.if_pos (by omega) (Runs.if_pos (by omega) (Runs.if_pos (by omega) (Runs.if_pos (by omega) (Runs.if_pos (by omega) (Runs.if_pos (by omega) ?_))))))
      rw [if_neg (by omega : ¬ r0 = i), w_in (n := M r0 * ar r0) (by unfold inR; omega)]
      refine Runs.some ?_
      refine hQ _ (ih q (i + 1) _ (by omega) (by omega) fun j hj => ?_)
      by_cases hji : j = i
      · subst hji
        refine ⟨fun e => by omega, fun r' hr' => ?_, ?_, ?_⟩
        · have : r' = r0 := by omega
          subst this
          simp only [if_true, if_neg (by omega : ¬ r' = j)]
          split <;> omega
        · simp only [if_true]; split <;> omega
        · simp only [if_true]; split <;> omega
      · obtain ⟨c1, c2, c3, c4⟩ := hM j (by omega)
        refine ⟨fun e => by simp only [if_neg hji]; exact c1 e, fun r' hr' => ?_, by simp only [if_neg hji]; exact c3, by simp only [if_neg hji]; exact c4⟩
        have := hok.lv.lt (i := j) (by omega)
        simp only [if_neg hji, if_neg (by omega : ¬ r' = i)]
        exact c2 r' hr'
    · have g : ¬ l i ≥ 0 := by simpa using g
      refine Runs.some ?_
      refine hQ _ (ih q (i + 1) _ (by omega) (by omega) fun j hj => ?_)
      by_cases hji : j = i
      · subst hji
        refine ⟨fun e => by simp only [if_true], fun r' hr' => by omega, by simp only [if_true]; omega, by simp only [if_true]; omega⟩
      · obtain ⟨c1, c2, c3, c4⟩ := hM j (by omega)
        refine ⟨fun e => by simp only [if_neg hji]; exact c1 e, fun r' hr' => ?_, by simp only [if_neg hji]; exact c3, by simp only [if_neg hji]; exact c4⟩
        have := hok.lv.lt (i := j) (by omega)
        simp only [if_neg hji, if_neg (by omega : ¬ r' = i)]
        exact c2 r' hr'
set_option maxHeartbeats 4000000 in
include hok in
theorem fwd_loop {M : Nat → Int} (hM : ∀ j, j < n → MostP l ar M j) : ∀ (r q p s : Nat) (cnt rho : Nat → Int), s + r = 2000 → r < q → p ≤ n → (p < n → FI n ar l p cnt rho) → (∀ i, 0 ≤ cnt i ∧ cnt i ≤ s) →
    Runs (Fwd_l2 cV cR cG cL q (nm, ps, vs, n, op, ar, cn, ch) (M, (p : Int), (s : Int), cnt, rho)) (fun z => z = .inr ()) := by
  have hn3 := hok.n3
  have hg : ∀ r, r < n → op r = 16 → 1 ≤ ar r := fun r h1 h2 => (hok.rep r h1 h2).1
  intro r
  induction r with
  | zero =>
    intro q p s cnt rho hs hq hp hi hc
    obtain ⟨q, rfl⟩ : ∃ k, q = k + 1 := ⟨q - 1, by omega⟩
    refine lp_step3 fun Q hQ => ?_
    unfold Fwd_l2_t
    dsimp only
    exact Runs.if_neg (by simp only [decide_eq_true_eq]; omega) (Runs.some rfl)
  | succ r ih =>
    intro q p s cnt rho hs hq hp hi hc
    obtain ⟨q, rfl⟩ : ∃ k, q = k + 1 := ⟨q - 1, by omega⟩
    refine lp_step3 fun Q hQ => ?_
    by_cases hpn : p = n
    · unfold Fwd_l2_t
      dsimp only
      exact Runs.if_pos (by simp only [decide_eq_true_eq]; omega) (Runs.if_neg (by simp only [decide_eq_true_eq]; omega) (Runs.some rfl))
    have hp : p < n := by omega
    have hi := hi hp
    have hcp := hc p
    have hinc : ∀ i, 0 ≤ inc cnt p i ∧ inc cnt p i ≤ ((s + 1 : Nat) : Int) := fun i => by
      have := hc i
      unfold inc; split <;> omega
    have e1 : w (cnt p + 1) = cnt p + 1 := w_in (by unfold inR; omega)
    have e2 : w ((p : Int) + 1) = ((p + 1 : Nat) : Int) := w_succ (by omega)
    have e3 : w ((s : Int) + 1) = ((s + 1 : Nat) : Int) := w_succ (by omega)
    have ebd : M p < 1000 → ¬ cnt p + 1 > M p := fun hm => by
      have := hi.bound hok.lv hg hp (M := M) (fun i hin => ⟨(hM i hin).1, (hM i hin).2.1⟩) (fun i hin => (hM i hin).2.2.1) hm
      omega
    -- where it goes on
    have go : ∀ t : Nat, p < t → t ≤ n → l t = l p → Q (M, (t : Int), ((s + 1 : Nat) : Int), inc cnt p, rho) := fun t h1 h2 h3 =>
      hQ _ (ih q t (s + 1) _ _ (by omega) (by omega) h2 (fun _ => hi.go hok.lv hg hp h1 h3) hinc)
    have jmp : op p = 14 ∨ op p = 15 → ∃ t : Nat, ar p = t ∧ p < t ∧ t ≤ n ∧ l t = l p := fun ho => by
      have h1 := hok.jmp p hp ho
      refine ⟨(ar p).toNat, by omega, by omega, by omega, (hok.lv.jm p hp ho).1⟩
    have jgo : op p = 14 ∨ op p = 15 → Q (M, ar p, ((s + 1 : Nat) : Int), inc cnt p, rho) := fun ho => by
      obtain ⟨t, h1, h2, h3, h4⟩ := jmp ho
      rw [h1]; exact go t h2 h3 h4
    by_cases h17 : op p = 17
    · obtain ⟨g1, g2, _, _⟩ := (hok.lv.loc p hp).c17 h17
      have hlt := hok.lv.lt (Nat.le_of_lt hp)
      obtain ⟨r0, e0⟩ : ∃ r : Nat, l p = r := ⟨(l p).toNat, by omega⟩
      obtain ⟨a1, a2, a3⟩ := arg_pos hok.lv hg hp e0
      have a4 := (hok.rep r0 (by omega) a3).2
      have har : ar p = ((r0 + 1 : Nat) : Int) := by
        have g2 : ar p = l p + 1 := g2
        omega
      have hr := hi.rr r0 (.here e0)
      have e4 : w (ar p - 1) = (r0 : Int) := by rw [har, w_in (by unfold inR; omega)]; omega
      have e5 : w (rho r0 + 1) = rho r0 + 1 := w_in (by unfold inR; omega)
      have bk : rho r0 + 1 < ar r0 → Q (M, ar p, ((s + 1 : Nat) : Int), inc cnt p, inc rho r0) := fun h => by
        rw [har]
        exact hQ _ (ih q (r0 + 1) (s + 1) _ _ (by omega) (by omega) (by omega) (fun _ => hi.back hok.lv hg hp h17 e0 h) hinc)
      have lvr : ¬ rho r0 + 1 < ar r0 → Q (M, ((p + 1 : Nat) : Int), ((s + 1 : Nat) : Int), inc cnt p, fun j => if j = r0 then 0 else rho j) := fun h =>
        hQ _ (ih q (p + 1) (s + 1) _ _ (by omega) (by omega) (by omega) (fun _ => hi.leave hok.lv hg hp h17 e0 h) hinc)
      have ef : (fun (j : Nat) => if j = r0 then (0 : Int) else if j = r0 then rho r0 + 1 else rho j) = fun j => if j = r0 then 0 else rho j := funext fun j => by
        by_cases h : j = r0 <;> simp [h]
      unfold Fwd_l2_t
      dsimp only
      simp only [Int.toNat_natCast, Nat.zero_add, and_true, e1, e2, e3, e4, e5, if_true, ef]
      by_cases hr0 : rho r0 + 1 < ar r0
      · have bk := bk hr0
        by_cases hm : M p < 1000
        · have ebd := ebd hm
          repeat' first | exact Runs.some bk | refine Runs.if_pos (by first | omega | (simp only [decide_eq_true_eq, beq_iff_eq]; omega)) ?_ | refine Runs.if_neg (by first | omega | (simp only [decide_eq_true_eq, beq_iff_eq]; omega)) ?_
        · repeat' first | exact Runs.some bk | refine Runs.if_pos (by first | omega | (simp only [decide_eq_true_eq, beq_iff_eq]; omega)) ?_ | refine Runs.if_neg (by first | omega | (simp only [decide_eq_true_eq, beq_iff_eq]; omega)) ?_
      · have lvr := lvr hr0
        by_cases hm : M p < 1000
        · have ebd := ebd hm
          repeat' first | exact Runs.some lvr | refine Runs.if_pos (by first | omega | (simp only [decide_eq_true_eq, beq_iff_eq]; omega)) ?_ | refine Runs.if_neg (by first | omega | (simp only [decide_eq_true_eq, beq_iff_eq]; omega)) ?_
        · repeat' first | exact Runs.some lvr | refine Runs.if_pos (by first | omega | (simp only [decide_eq_true_eq, beq_iff_eq]; omega)) ?_ | refine Runs.if_neg (by first | omega | (simp only [decide_eq_true_eq, beq_iff_eq]; omega)) ?_
    unfold Fwd_l2_t
    dsimp only
    simp only [Int.toNat_natCast, Nat.zero_add, and_true, e1, e2, e3, if_true]
    by_cases h14 : op p = 14
    · have jgo := jgo (.inl h14)
      obtain ⟨t, h1, h2, _⟩ := jmp (.inl h14)
      by_cases hm : M p < 1000
      · have ebd := ebd hm
        repeat' first | exact Runs.some jgo | refine Runs.if_pos (by first | omega | (simp only [decide_eq_true_eq, beq_iff_eq]; omega)) ?_ | refine Runs.if_neg (by first | omega | (simp only [decide_eq_true_eq, beq_iff_eq]; omega)) ?_
      · repeat' first | exact Runs.some jgo | refine Runs.if_pos (by first | omega | (simp only [decide_eq_true_eq, beq_iff_eq]; omega)) ?_ | refine Runs.if_neg (by first | omega | (simp only [decide_eq_true_eq, beq_iff_eq]; omega)) ?_
    have nx : Q (M, ((p + 1 : Nat) : Int), ((s + 1 : Nat) : Int), inc cnt p, rho) := by
      by_cases h16 : op p = 16
      · exact hQ _ (ih q (p + 1) (s + 1) _ _ (by omega) (by omega) (by omega) (fun _ => hi.enter hok.lv hg hp h16) hinc)
      · exact go (p + 1) (by omega) (by omega) (hok.next p hp h16 h17)
    by_cases h15 : op p = 15
    · have jgo := jgo (.inr h15)
      obtain ⟨t, h1, h2, _⟩ := jmp (.inr h15)
      by_cases hm : M p < 1000
      · have ebd := ebd hm
        by_cases hch : ch s = true
        · by_cases hcn : s < cn
          · repeat' first | exact Runs.some jgo | refine Runs.if_pos (by first | omega | exact hch | (simp only [decide_eq_true_eq, beq_iff_eq]; omega)) ?_ | refine Runs.if_neg (by first | omega | (simp only [decide_eq_true_eq, beq_iff_eq]; omega)) ?_
          · repeat' first | exact Runs.some nx | refine Runs.if_pos (by first | omega | (simp only [decide_eq_true_eq, beq_iff_eq]; omega)) ?_ | refine Runs.if_neg (by first | omega | (simp only [decide_eq_true_eq, beq_iff_eq]; omega)) ?_
        · by_cases hcn : s < cn
          · repeat' first | exact Runs.some nx | refine Runs.if_pos (by first | omega | (simp only [decide_eq_true_eq, beq_iff_eq]; omega)) ?_ | refine Runs.if_neg (by first | omega | exact hch | (simp only [decide_eq_true_eq, beq_iff_eq]; omega)) ?_
          · repeat' first | exact Runs.some nx | refine Runs.if_pos (by first | omega | (simp only [decide_eq_true_eq, beq_iff_eq]; omega)) ?_ | refine Runs.if_neg (by first | omega | (simp only [decide_eq_true_eq, beq_iff_eq]; omega)) ?_
      · by_cases hch : ch s = true
        · by_cases hcn : s < cn
          · repeat' first | exact Runs.some jgo | refine Runs.if_pos (by first | omega | exact hch | (simp only [decide_eq_true_eq, beq_iff_eq]; omega)) ?_ | refine Runs.if_neg (by first | omega | (simp only [decide_eq_true_eq, beq_iff_eq]; omega)) ?_
          · repeat' first | exact Runs.some nx | refine Runs.if_pos (by first | omega | (simp only [decide_eq_true_eq, beq_iff_eq]; omega)) ?_ | refine Runs.if_neg (by first | omega | (simp only [decide_eq_true_eq, beq_iff_eq]; omega)) ?_
        · by_cases hcn : s < cn
          · repeat' first | exact Runs.some nx | refine Runs.if_pos (by first | omega | (simp only [decide_eq_true_eq, beq_iff_eq]; omega)) ?_ | refine Runs.if_neg (by first | omega | exact hch | (simp only [decide_eq_true_eq, beq_iff_eq]; omega)) ?_
          · repeat' first | exact Runs.some nx | refine Runs.if_pos (by first | omega | (simp only [decide_eq_true_eq, beq_iff_eq]; omega)) ?_ | refine Runs.if_neg (by first | omega | (simp only [decide_eq_true_eq, beq_iff_eq]; omega)) ?_
    by_cases hm : M p < 1000
    · have ebd := ebd hm
      repeat' first | exact Runs.some nx | refine Runs.if_pos (by first | omega | (simp only [decide_eq_true_eq, beq_iff_eq]; omega)) ?_ | refine Runs.if_neg (by first | omega | (simp only [decide_eq_true_eq, beq_iff_eq]; omega)) ?_
    · repeat' first | exact Runs.some nx | refine Runs.if_pos (by first | omega | (simp only [decide_eq_true_eq, beq_iff_eq]; omega)) ?_ | refine Runs.if_neg (by first | omega | (simp only [decide_eq_true_eq, beq_iff_eq]; omega)) ?_
end
theorem law_true (nm : ByteArray) (ps vs : Int) (n : Nat) (op ar : Nat → Int) (cn : Nat) (ch : Nat → Bool) : Runs (Fwd 3000 (nm, ps, vs, n, op, ar, cn, ch)) (fun z => z = true) := by
  unfold Fwd t_Fwd
  dsimp only
  refine Runs.bind (P := fun z => z = verV ps (mkC vs n op ar)) ⟨_, rfl, rfl⟩ fun z hz => ?_
  subst hz
  have liv : ∀ {β : Type} {k : g_lives → Option β} {P : β → Prop}, Runs (k true) P → Runs ((lives 3000 ()).bind k) P := fun h => h
  refine Runs.ite (fun _ => liv (Runs.some rfl)) fun g => ?_
  have g : verV ps (mkC vs n op ar) = 0 := by simpa using g
  refine Runs.bind (P := fun z => z = verV ps (mkC vs n op ar)) ⟨_, rfl, rfl⟩ fun z hz => ?_
  subst hz
  refine Runs.if_neg (by rw [g]; simp) ?_
  obtain ⟨q, v, hq, hok⟩ := ok_of g
  have h1 := hok.n1
  have h3 := hok.n3
  have hml : Go.maxLen = 9223372036854775807 := by decide
  refine Runs.bind (P := fun z => z = (n, q.L, q.W, decide (q.m = 0 ∧ q.wa < 0))) ⟨_, ?_, rfl⟩ fun z hz => ?_
  · unfold Regions
    dsimp only
    rw [if_pos ⟨h1, h3⟩, hq]
    rfl
  subst hz
  dsimp only
  have hc : ((n : Nat) : Int) = ((n : Nat) : Int) ∧ (0 : Int) ≤ ((n : Nat) : Int) ∧ 0 < 1 ∧ 1 = 1 ∧ Int.toNat ((n : Nat) : Int) * 8 ≤ 281474976710656 ∧ Int.toNat ((n : Nat) : Int) ≤ maxLen ∧ true = true := ⟨rfl, by omega, by decide, rfl, by omega, by omega, rfl⟩
  refine Runs.if_pos hc ?_
  refine Runs.bind (most_loop hok (gl := q.L) (fun j hj => by unfold lvL; rw [if_pos hj]; rfl) n 3000 0 _ (by omega) (by omega) fun j hj => by omega) fun M hM => ?_
  refine Runs.if_pos hc (Runs.if_pos hc ?_)
  refine Runs.bind (fwd_loop hok hM 2000 3000 0 0 _ _ (by omega) (by omega) (by omega) (fun _ => FI.start hok.lv) fun i => by simp) fun z hz => ?_
  subst hz
  exact liv (Runs.some rfl)
theorem in_bools {v : V} (h : WTV E.P 29 v) : ∃ (n : Nat) (y : Nat → Bool), Le v (.ro 1 n (fun j => [bo (y j)])) ∧ n ≤ Go.maxLen := by
  obtain ⟨n, f, rfl, hn, d, h⟩ := h.slice (e := 4) (c := 1) (by kernel_rfl) (by kernel_rfl) (by kernel_rfl) (by omega)
  have key : ∀ j, ∃ x : Bool, j < n → f j = [bo x] := fun j => by
    by_cases hj : j < n
    · obtain ⟨b, e⟩ := (h j hj).bool (by kernel_rfl)
      exact ⟨b, fun _ => e⟩
    · exact ⟨false, fun h => absurd h hj⟩
  obtain ⟨g, hg⟩ := Classical.axiomOfChoice key
  exact ⟨n, g, Le.ro_eq fun j hj => ⟨hg j hj, rfl⟩, hn⟩
theorem compileForward (v0 v1 : V) (h0 : WTV E.P 24 v0) (h1 : WTV E.P 29 v1) : ∃ l', LeL [v0, v1] l' ∧ SC E 4 l' [] (.ret (bo true) []) := by
  obtain ⟨nm, ps, vs, n, op, ar, g, hn, _⟩ := in_code h0
  obtain ⟨cn, ch, g1, _⟩ := in_bools h1
  refine ⟨_, LeL.cons g (LeL.cons g1 LeL.nil), ?_⟩
  obtain ⟨z, hz, rfl⟩ := law_true nm ps vs n op ar cn ch
  exact sc6.1 (sc_Fwd 3000 _ true hz)
end Go.Proofs.YtcljccpddodckaaGreatDoor
