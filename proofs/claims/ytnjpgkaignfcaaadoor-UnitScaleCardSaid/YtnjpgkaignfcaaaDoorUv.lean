/- Factors (48, 67) and Split (66). -/
import Derived.Test.YtnjpgkaignfcaaaDoorUs
namespace Go.Proofs.YtnjpgkaignfcaaaDoor
open Go Go.Am
set_option linter.unusedSimpArgs false
set_option linter.unusedVariables false
/-! ### parseFactor -/
theorem kG (a b : ByteArray) (g : Bool) : KC2 116 12 (.exit 0) (TG a b g) = some (.l (.exit 0) (TG a b g)) := by kernel_rfl
theorem kGr : KC2 116 12 .ret TGr = some (.l .ret TGr) := by kernel_rfl
theorem or_all : ∀ n : Fin 256, ((decide (orI .u8 ((n.val : Nat) : Int) 32 < 97)) || decide (orI .u8 ((n.val : Nat) : Int) 32 > 122)) = !((decide (65 ≤ n.val) && decide (n.val ≤ 90)) || (decide (97 ≤ n.val) && decide (n.val ≤ 122))) := by decide +kernel
theorem or_L (c : UInt8) : ((decide (orI .u8 ((c.toNat : Nat) : Int) 32 < 97)) || decide (orI .u8 ((c.toNat : Nat) : Int) 32 > 122)) = !isL c := or_all ⟨c.toNat, c.toNat_lt⟩
set_option maxRecDepth 100000 in
theorem loop48 (a b : ByteArray) (g : Bool) (hp : a.size ≤ 1000) : ∀ (n k : Nat), a.size - k = n →
    ((a.data.toList.drop k).all isL = true → SL E1 (bodyOf E1 48 0) (SG a b g k) (.exit 0) (TG a b g)) ∧ (¬ (a.data.toList.drop k).all isL = true → SL E1 (bodyOf E1 48 0) (SG a b g k) .ret TGr) := by
  intro n
  induction n with
  | zero =>
    intro k hn
    have hk' : ¬ k < a.size := by omega
    rw [at_end hk']
    refine ⟨fun _ => ?_, fun h => absurd rfl h⟩
    exact SL.by2 (m := 116) (r := 12) sT0 hX1 ltab2_nil ((r48 a b g k _).trans (by rw [if_neg (by simpa using hk')]; rfl))
  | succ n ih =>
    intro k hn
    have hk' : k < a.size := by omega
    obtain ⟨c, e1, e2⟩ := at_k hk'
    have hk : decide ((k : Int) < (a.size : Int)) = true := by simpa using hk'
    have hb : (0 : Int) ≤ (k : Int) ∧ (k : Int) < (a.size : Int) := by omega
    have ew : w ((k : Int) + 1) = ((k + 1 : Nat) : Int) := by rw [w_in (by unfold inR; omega)]; omega
    have hor := or_L c
    rw [e1, List.all_cons]
    cases hL : isL c with
    | false =>
      rw [hL, Bool.not_false, Bool.or_eq_true] at hor
      refine ⟨fun h => by simp at h, fun _ => ?_⟩
      refine SL.by2 (m := 116) (r := 12) sT0 hX1 ltab2_nil ((r48 a b g k _).trans ?_)
      rw [e2, if_pos hk, if_pos hb]
      rcases Bool.eq_false_or_eq_true (decide (orI IntKind.u8 ((c.toNat : Nat) : Int) 32 < 97)) with h1 | h1
      · rw [if_pos h1]; rfl
      · rw [if_neg (by rw [h1]; decide), if_pos (hor.resolve_left (by rw [h1]; decide))]; rfl
    | true =>
      rw [hL, Bool.not_true, Bool.or_eq_false_iff] at hor
      rw [Bool.true_and]
      have key := ih (k + 1) (by omega)
      have hsnd : SoundL E1 (ltab2 [⟨0, bodyOf E1 48 0, SG a b g (k + 1), (a.data.toList.drop (k + 1)).all isL = true, .exit 0, TG a b g, .ret, TGr⟩]) := ltab2_cons key ltab2_nil
      have h0 : loopK E1 T0 (ltab2 [⟨0, bodyOf E1 48 0, SG a b g (k + 1), (a.data.toList.drop (k + 1)).all isL = true, .exit 0, TG a b g, .ret, TGr⟩]) 0 786548 (bodyOf E1 48 0) (SG a b g k) (KC2 116 12) = cl ((a.data.toList.drop (k + 1)).all isL = true) (some (.l (.exit 0) (TG a b g))) (some (.l .ret TGr)) := by
        refine (r48 a b g k _).trans ?_
        rw [e2, if_pos hk, if_pos hb, ew, if_neg (by rw [hor.1]; decide), if_neg (by rw [hor.2]; decide)]
        refine (ltab2_hit (LeSt.refl _)).trans ?_
        rw [kG, kGr]
      exact ⟨fun h => SL.by2 sT0 hX1 hsnd (h0.trans (cl_pos h)), fun h => SL.by2 sT0 hX1 hsnd (h0.trans (cl_neg h))⟩
def allL (s : ByteArray) : Bool := s.data.toList.all isL
def ne (s : ByteArray) : Bool := !(ByteArray.toList s == ByteArray.toList ⟨#[]⟩)
def fU (s : ByteArray) : ByteArray := if allL (cA 94 s) then cA 94 s else ⟨#[]⟩
def fE (s : ByteArray) : Int := if allL (cA 94 s) then (if cF 94 s then nV (cB 94 s) else 1) else 0
def fG (s : ByteArray) : Bool := if allL (cA 94 s) then cF 94 s else false
def fO (s : ByteArray) : Bool := if allL (cA 94 s) then (if cF 94 s then (if nB (cB 94 s) then ne (cA 94 s) else false) else ne (cA 94 s)) else false
def vFac : List V → V
  | [.sc (.string s)] => .tup [.agg [st (fU s), i64 (fE s), bo (fG s)], bo (fO s)]
  | _ => .junk
set_option maxRecDepth 100000 in
theorem fac_sc {s : ByteArray} (hs : s.size ≤ 1000) : SC E1 48 [st s] [] (.ret (vFac [st s]) []) := by
  have hA := cA_size 94 s
  have hB := cB_size 94 s
  have key := loop48 (cA 94 s) (cB 94 s) (cF 94 s) (by omega) _ 0 rfl
  rw [List.drop_zero] at key
  refine SC.of hW1 hX1 sCG (ltab2_cons (x := ⟨0, bodyOf E1 48 0, SG (cA 94 s) (cB 94 s) (cF 94 s) 0, (cA 94 s).data.toList.all isL = true, .exit 0, TG (cA 94 s) (cB 94 s) (cF 94 s), .ret, TGr⟩) key ltab2_nil) ((f48 s (cA 94 s) (cB 94 s) (cF 94 s) _ _).trans ?_)
  rw [cl_pos ⟨⟨s, 94, rfl, hs⟩, rfl⟩, cl_pos ⟨rfl, LeSt.refl _⟩]
  simp only [vFac, fU, fE, fG, fO, allL]
  by_cases h : (cA 94 s).data.toList.all isL = true
  · rw [cl_pos h]
    simp only [h, if_true]
    cases hg : cF 94 s with
    | false => simp [ne]
    | true =>
      rw [if_neg (by decide), cl_pos ⟨⟨_, rfl, by omega⟩, trivial⟩]
      simp only [if_true]
      by_cases hn : nB (cB 94 s) = true
      · rw [if_pos hn]; simp [hn, ne]
      · rw [if_neg hn]; simp [hn]
  · rw [cl_neg h]
    simp [h]
end Go.Proofs.YtnjpgkaignfcaaaDoor
