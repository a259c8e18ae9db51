/- form (52) and Parse (22) of the reference compute the same. -/
import Derived.Test.YtnjpgkaignfcaaaDoorVd
namespace Go.Proofs.YtnjpgkaignfcaaaDoor
open Go Go.Am
set_option linter.unusedSimpArgs false
set_option linter.unusedVariables false
/-! ### The first space -/
theorem cutA_spec (c : UInt8) : ∀ l, (cutA c l).1 = l.take (cutA c l).1.length ∧ ((cutA c l).2.2 = true → (cutA c l).1.length < l.length ∧ (cutA c l).2.1 = l.drop ((cutA c l).1.length + 1)) ∧ ((cutA c l).2.2 = false → (cutA c l).1.length = l.length)
  | [] => by simp [cutA]
  | x :: l => by
    have ih := cutA_spec c l
    unfold cutA
    by_cases hx : x = c
    · simp [hx]
    · simp only [if_neg hx, List.length_cons]
      refine ⟨?_, fun h => ?_, fun h => ?_⟩
      · rw [List.take_succ_cons, ← ih.1]
      · obtain ⟨h1, h2⟩ := ih.2.1 h
        exact ⟨by omega, by rw [List.drop_succ_cons]; exact h2⟩
      · rw [ih.2.2 h]
theorem cA_len (c : UInt8) (s : ByteArray) : (cA c s).size = (cutA c s.data.toList).1.length := by
  rw [Lib.size_eq]; simp [cA]
theorem cA_ext (c : UInt8) (s : ByteArray) : s.extract 0 (cA c s).size = cA c s := by
  have h := (cutA_spec c s.data.toList).1
  rw [← cA_len] at h
  have e : s.extract 0 (cA c s).size = ⟨((s.data.toList.drop 0).take ((cA c s).size - 0)).toArray⟩ := (mk_ext s 0 _).symm
  rw [e, List.drop_zero, Nat.sub_zero, ← h]
  rfl
theorem cB_ext {c : UInt8} {s : ByteArray} (hF : cF c s = true) : (cA c s).size < s.size ∧ s.extract ((cA c s).size + 1) s.size = cB c s := by
  obtain ⟨h1, h2⟩ := (cutA_spec c s.data.toList).2.1 hF
  rw [← cA_len] at h1 h2
  refine ⟨by rw [Lib.size_eq s]; exact h1, ?_⟩
  rw [← mk_ext]
  unfold cB
  rw [h2, List.take_of_length_le]
  rw [List.length_drop, Lib.size_eq s]
  exact Nat.le_refl _
theorem cA_all {c : UInt8} {s : ByteArray} (hF : cF c s = false) : (cA c s).size = s.size := by
  have := (cutA_spec c s.data.toList).2.2 hF
  rw [cA_len, this, Lib.size_eq s]
theorem kH (s : ByteArray) (k : Nat) : KC 33 (.exit 0) (SH s k) = some (.l (.exit 0) (SH s k)) := by kernel_rfl
set_option maxRecDepth 100000 in
theorem loop52 (s : ByteArray) (hs : s.size ≤ 1000) : ∀ (r k : Nat), s.size - k = r → k ≤ s.size → SL E1 (bodyOf E1 52 0) (SH s k) (.exit 0) (SH s (k + (cutA 32 (s.data.toList.drop k)).1.length)) := by
  intro r
  induction r with
  | zero =>
    intro k hr hk
    have : k = s.size := by omega
    subst this
    rw [at_end (p := s) (k := s.size) (by omega)]
    exact SL.by (m := 33) sCQ hX1 ltab2_nil ((r52 s _ _).trans (by rw [if_neg (by simp)]; rfl))
  | succ r ih =>
    intro k hr hk
    have hk' : k < s.size := by omega
    obtain ⟨x, e1, e2⟩ := at_k hk'
    have hkd : decide ((k : Int) < (s.size : Int)) = true := by simpa using hk'
    have hbb : (0 : Int) ≤ (k : Int) ∧ (k : Int) < (s.size : Int) := by omega
    have ew : w ((k : Int) + 1) = ((k + 1 : Nat) : Int) := by rw [w_in (by unfold inR; omega)]; omega
    rw [e1, cutA]
    by_cases hx : x = 32
    · rw [if_pos hx]
      refine SL.by (m := 33) sCQ hX1 ltab2_nil ((r52 s k _).trans ?_)
      rw [e2, if_pos hkd, if_pos hbb, if_neg (by rw [hx]; decide)]
      rfl
    · rw [if_neg hx]
      have key := ih (k + 1) (by omega) (by omega)
      have hne : (((x.toNat : Nat) : Int) != (32 : Int)) = true := by
        rw [bne_iff_ne]
        intro h
        exact hx (UInt8.toNat_inj.1 (show x.toNat = (32 : UInt8).toNat from by have : (32 : UInt8).toNat = 32 := rfl; omega))
      have e3 : k + (x :: (cutA 32 (s.data.toList.drop (k + 1))).1).length = k + 1 + (cutA 32 (s.data.toList.drop (k + 1))).1.length := by simp; omega
      rw [e3]
      refine SL.by (m := 33) sCQ hX1 (one 0 (e' := .ret) (T' := THr) key) ((r52 s k _).trans ?_)
      rw [e2, if_pos hkd, if_pos hbb, if_pos hne, ew]
      exact (ltab2_hit (LeSt.refl _)).trans ((cl_pos trivial).trans (kH _ _))
/-! ### The factors -/
abbrev uR (t : ByteArray) (j : Nat) : ByteArray := gU (pt 42 t j)
abbrev eR (t : ByteArray) (j : Nat) : Int := gE (pt 42 t j)
abbrev gR (t : ByteArray) (j : Nat) : Bool := gG (pt 42 t j)
theorem kHs (n : Int) (m : Nat) (u : Nat → ByteArray) (e : Nat → Int) (g : Nat → Bool) : KC2 576 28 (.exit 2) (THs n m u e g) = some (.l (.exit 2) (THs n m u e g)) := by kernel_rfl
theorem kHr : KC2 576 28 .ret THr = some (.l .ret THr) := by kernel_rfl
set_option maxRecDepth 100000 in
theorem loop52b (n : Int) (t : ByteArray) (ht : t.size ≤ 900) : ∀ (r k : Nat), ptN 42 t - k = r → k ≤ ptN 42 t →
    (allF gO t k → SL E1 (bodyOf E1 52 2) (SHs n t k k (uR t) (eR t) (gR t)) (.exit 2) (THs n (ptN 42 t) (uR t) (eR t) (gR t))) ∧ (¬ allF gO t k → SL E1 (bodyOf E1 52 2) (SHs n t k k (uR t) (eR t) (gR t)) .ret THr) := by
  intro r
  induction r with
  | zero =>
    intro k hr hk
    have : k = ptN 42 t := by omega
    subst this
    refine ⟨fun _ => ?_, fun h => absurd (fun j h1 h2 => absurd h2 (by omega)) h⟩
    exact SL.by2 (m := 576) (r := 28) sCQ hX1 ltab2_nil ((r52b n t _ _ _ _ _ _).trans (by rw [if_neg (by simp)]; rfl))
  | succ r ih =>
    intro k hr hk
    have hk' : k < ptN 42 t := by omega
    have hN := ptN_le 42 t
    have hz := pt_size 42 t k
    have hkd : decide ((k : Int) < (ptN 42 t : Int)) = true := by simpa using hk'
    have hbb : (0 : Int) ≤ (k : Int) ∧ (k : Int) < (ptN 42 t : Int) := by omega
    have ew : w ((k : Int) + 1) = ((k + 1 : Nat) : Int) := by rw [w_in (by unfold inR; omega)]; omega
    have eq : QFac [V.sc (Value.string (pt 42 t (Int.toNat (k : Int))))] ∧ ([] : List (Option Chunk)) = [] := ⟨⟨_, rfl, by rw [Int.toNat_natCast]; omega⟩, rfl⟩
    cases hO : gO (pt 42 t k) with
    | false =>
      refine ⟨fun h => absurd (h k (Nat.le_refl _) hk') (by rw [hO]; decide), fun _ => ?_⟩
      refine SL.by2 (m := 576) (r := 28) sCQ hX1 ltab2_nil ((r52b n t _ _ _ _ _ _).trans ?_)
      rw [if_pos hkd, if_pos hbb, cl_pos eq, Int.toNat_natCast, hO]; rfl
    | true =>
      have key := ih (k + 1) (by omega) (by omega)
      have hiff := allF_next hO
      rw [hiff] at key
      have hsnd := ltab2_cons (x := ⟨2, bodyOf E1 52 2, SHs n t (k + 1) (k + 1) (uR t) (eR t) (gR t), allF gO t k, .exit 2, THs n (ptN 42 t) (uR t) (eR t) (gR t), .ret, THr⟩) key ltab2_nil
      have h0 : loopK E1 CQ (ltab2 [⟨2, bodyOf E1 52 2, SHs n t (k + 1) (k + 1) (uR t) (eR t) (gR t), allF gO t k, .exit 2, THs n (ptN 42 t) (uR t) (eR t) (gR t), .ret, THr⟩]) 2 1856 (bodyOf E1 52 2) (SHs n t k k (uR t) (eR t) (gR t)) (KC2 576 28) = cl (allF gO t k) (some (.l (.exit 2) (THs n (ptN 42 t) (uR t) (eR t) (gR t)))) (some (.l .ret THr)) := by
        refine (r52b n t _ _ _ _ _ _).trans ?_
        rw [if_pos hkd, if_pos hbb, cl_pos eq, Int.toNat_natCast, hO, if_neg (by decide), if_pos (roomF (by omega)), ew]
        refine (ltab2_hit ?_).trans ?_
        · exact LeSt.mk' (LeL.refl _) ⟨ChLe.row fun q hq => row_next _ _ _ k q hq _ rfl, trivial⟩
        · rw [kHs, kHr]
      exact ⟨fun h => SL.by2 sCQ hX1 hsnd (h0.trans (cl_pos h)), fun h => SL.by2 sCQ hX1 hsnd (h0.trans (cl_neg h))⟩
set_option maxRecDepth 100000 in
theorem loop52a (n : Int) (t : ByteArray) (ht : t.size ≤ 900) :
    (allF gO t 0 → SL E1 (bodyOf E1 52 2) (SHn n t) (.exit 2) (THs n (ptN 42 t) (uR t) (eR t) (gR t))) ∧ (¬ allF gO t 0 → SL E1 (bodyOf E1 52 2) (SHn n t) .ret THr) := by
  have hk' := ptN_pos 42 t
  have hN := ptN_le 42 t
  have hz := pt_size 42 t 0
  have hkd : decide ((0 : Int) < (ptN 42 t : Int)) = true := by simpa using hk'
  have hbb : (0 : Int) ≤ (0 : Int) ∧ (0 : Int) < (ptN 42 t : Int) := by omega
  have ew : w ((0 : Int) + 1) = ((1 : Nat) : Int) := by decide
  have eq : QFac [V.sc (Value.string (pt 42 t 0))] ∧ ([] : List (Option Chunk)) = [] := ⟨⟨_, rfl, by omega⟩, rfl⟩
  cases hO : gO (pt 42 t 0) with
  | false =>
    refine ⟨fun h => absurd (h 0 (Nat.le_refl _) hk') (by rw [hO]; decide), fun _ => ?_⟩
    refine SL.by2 (m := 576) (r := 28) sCQ hX1 ltab2_nil ((r52a n t _).trans ?_)
    rw [if_pos hkd, if_pos hbb, cl_pos eq, hO]; rfl
  | true =>
    have key := loop52b n t ht _ 1 rfl (by omega)
    have hiff : allF gO t 1 ↔ allF gO t 0 := allF_next hO
    rw [hiff] at key
    have hsnd := ltab2_cons (x := ⟨2, bodyOf E1 52 2, SHs n t 1 1 (uR t) (eR t) (gR t), allF gO t 0, .exit 2, THs n (ptN 42 t) (uR t) (eR t) (gR t), .ret, THr⟩) key ltab2_nil
    have h0 : loopK E1 CQ (ltab2 [⟨2, bodyOf E1 52 2, SHs n t 1 1 (uR t) (eR t) (gR t), allF gO t 0, .exit 2, THs n (ptN 42 t) (uR t) (eR t) (gR t), .ret, THr⟩]) 2 1856 (bodyOf E1 52 2) (SHn n t) (KC2 576 28) = cl (allF gO t 0) (some (.l (.exit 2) (THs n (ptN 42 t) (uR t) (eR t) (gR t)))) (some (.l .ret THr)) := by
      refine (r52a n t _).trans ?_
      rw [if_pos hkd, if_pos hbb, cl_pos eq, hO, if_neg (by decide), ew]
      refine (ltab2_hit ?_).trans ?_
      · exact LeSt.mk' (LeL.refl _) ⟨ChLe.row fun q hq => (by obtain rfl : q = 0 := (by omega); rfl), trivial⟩
      · rw [kHs, kHr]
    exact ⟨fun h => SL.by2 sCQ hX1 hsnd (h0.trans (cl_pos h)), fun h => SL.by2 sCQ hX1 hsnd (h0.trans (cl_neg h))⟩
open Classical in
noncomputable def formV (s : ByteArray) : V :=
  if nB (cA 32 s) = false then formN (nV (cA 32 s)) false
  else if cF 32 s = true then
    (if allF gO (cB 32 s) 0 then formS (nV (cA 32 s)) (ptN 42 (cB 32 s)) (uR (cB 32 s)) (eR (cB 32 s)) (gR (cB 32 s)) else formN 0 false)
  else formN (nV (cA 32 s)) true
set_option maxRecDepth 100000 in
theorem form_sc {s : ByteArray} (hs : s.size ≤ 800) : SC E1 52 [st s] [] (.ret (formV s) []) := by
  have zA := cA_size 32 s
  have zB := cB_size 32 s
  have l1 := loop52 s (by omega) _ 0 rfl (by omega)
  rw [List.drop_zero, Nat.zero_add, ← cA_len] at l1
  have l2 := loop52a (nV (cA 32 s)) (cB 32 s) (by omega)
  have hb0 : (0 : Int) ≤ (0 : Int) ∧ (0 : Int) ≤ ((cA 32 s).size : Int) ∧ ((cA 32 s).size : Int) ≤ ((s.size : Nat) : Int) := by omega
  have q1 : QNum [V.sc (Value.string (cA 32 s))] ∧ ([] : List (Option Chunk)) = [] := ⟨⟨_, rfl, by omega⟩, rfl⟩
  have q0 : QSplR [V.sc (Value.string (cB 32 s)), V.sc (Value.int IntKind.u8 (42 : Int))] ∧ ([] : List (Option Chunk)) = [] := ⟨⟨_, 42, rfl, by omega⟩, rfl⟩
  have hx : s.extract 0 (Int.toNat ((cA 32 s).size : Int)) = cA 32 s := by rw [Int.toNat_natCast]; exact cA_ext 32 s
  have hx' : s.extract (Int.toNat (0 : Int)) (Int.toNat ((cA 32 s).size : Int)) = cA 32 s := hx
  unfold formV
  cases hn : nB (cA 32 s) with
  | false =>
    refine SC.of hW1 hX1 sCQ (one 0 (e' := .ret) (T' := THr) l1) ((f52_e s _ _ _).trans ?_)
    rw [cl_pos ⟨rfl, LeSt.refl _⟩, cl_pos trivial, if_pos hb0, hx, hx', cl_pos q1, hn]; rfl
  | true =>
    rw [if_neg (by decide)]
    cases hF : cF 32 s with
    | false =>
      have hz := cA_all hF
      rw [if_neg (by decide)]
      refine SC.of hW1 hX1 sCQ (one 0 (e' := .ret) (T' := THr) l1) ((f52_e s _ _ _).trans ?_)
      rw [cl_pos ⟨rfl, LeSt.refl _⟩, cl_pos trivial, if_pos hb0, hx, hx', cl_pos q1, hn, if_neg (by decide), if_pos (by rw [hz]; simp)]; rfl
    | true =>
      obtain ⟨hz, hB⟩ := cB_ext hF
      have ew : w (((cA 32 s).size : Int) + 1) = (((cA 32 s).size + 1 : Nat) : Int) := by rw [w_in (by unfold inR; omega)]; omega
      have hB' : s.extract (Int.toNat (((cA 32 s).size + 1 : Nat) : Int)) (Int.toNat ((s.size : Nat) : Int)) = cB 32 s := by rw [Int.toNat_natCast, Int.toNat_natCast]; exact hB
      rw [if_pos rfl]
      have h : callK E1 CQ (ltab2 [⟨0, bodyOf E1 52 0, SH s 0, True, .exit 0, SH s (cA 32 s).size, .ret, THr⟩, ⟨2, bodyOf E1 52 2, SHn (nV (cA 32 s)) (cB 32 s), allF gO (cB 32 s) 0, .exit 2, THs (nV (cA 32 s)) (ptN 42 (cB 32 s)) (uR (cB 32 s)) (eR (cB 32 s)) (gR (cB 32 s)), .ret, THr⟩]) 52 [st s] [] K = cl (allF gO (cB 32 s) 0) (some (Ans.c (CRes.ret (V.tup [i64 (nV (cA 32 s)), V.sl 0 3 0 (ptN 42 (cB 32 s)), bo true]) [some (Chunk.row 73 3 (ptN 42 (cB 32 s)) (frow (uR (cB 32 s)) (eR (cB 32 s)) (gR (cB 32 s))))]))) (some (Ans.c (CRes.ret (formN 0 false) []))) := by
        refine (f52 s _ _ _ _ _ _ _ _ _ _).trans ?_
        rw [cl_pos ⟨rfl, LeSt.refl _⟩, cl_pos trivial, if_pos hb0, hx, cl_pos q1, hn, if_neg (by decide), if_neg (by simp; omega), ew, if_pos (by omega), hB', cl_pos q0, cl_pos ⟨rfl, LeSt.refl _⟩]
        rfl
      have hsnd := two (x := ⟨0, bodyOf E1 52 0, SH s 0, True, .exit 0, SH s (cA 32 s).size, .ret, THr⟩) (y := ⟨2, bodyOf E1 52 2, SHn (nV (cA 32 s)) (cB 32 s), allF gO (cB 32 s) 0, .exit 2, THs (nV (cA 32 s)) (ptN 42 (cB 32 s)) (uR (cB 32 s)) (eR (cB 32 s)) (gR (cB 32 s)), .ret, THr⟩) ⟨fun _ => l1, fun h => absurd trivial h⟩ l2
      by_cases hA : allF gO (cB 32 s) 0
      · rw [if_pos hA]
        have h1 := SC.of hW1 hX1 sCQ hsnd (h.trans (cl_pos hA))
        have hbw : V.bw (hp [some (Chunk.row 73 3 (ptN 42 (cB 32 s)) (frow (uR (cB 32 s)) (eR (cB 32 s)) (gR (cB 32 s))))]) (V.tup [i64 (nV (cA 32 s)), V.sl 0 3 0 (ptN 42 (cB 32 s)), bo true]) = .tup [i64 (nV (cA 32 s)), .ro 3 (ptN 42 (cB 32 s)) (fun j => frow (uR (cB 32 s)) (eR (cB 32 s)) (gR (cB 32 s)) (0 + j)), bo true] := by
          have := bw_row (T := 73) (z := 3) (n := ptN 42 (cB 32 s)) (f := frow (uR (cB 32 s)) (eR (cB 32 s)) (gR (cB 32 s)))
          have h3 : V.bw1 (hp [some (Chunk.row 73 3 (ptN 42 (cB 32 s)) (frow (uR (cB 32 s)) (eR (cB 32 s)) (gR (cB 32 s))))]) (V.sl 0 3 0 (ptN 42 (cB 32 s))) = .ro 3 (ptN 42 (cB 32 s)) (fun j => frow (uR (cB 32 s)) (eR (cB 32 s)) (gR (cB 32 s)) (0 + j)) := this
          simp only [V.bw, List.map_cons, List.map_nil, V.bw2, h3]
          rfl
        refine (SC.give h1 (by rw [hbw]; rfl)).le ?_
        rw [hbw]
        refine Le.tup (LeL.cons (Le.refl _) (LeL.cons ?_ (LeL.refl _)))
        exact Le.ro_eq fun j hj => ⟨by rw [Nat.zero_add], rfl⟩
      · rw [if_neg hA]
        exact SC.of hW1 hX1 sCQ hsnd (h.trans (cl_neg hA))
end Go.Proofs.YtnjpgkaignfcaaaDoor
