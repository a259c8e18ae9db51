/- Parse of the reference (22) computes what the program's does. -/
import Derived.Test.YtnjpgkaignfcaaaDoorVe
namespace Go.Proofs.YtnjpgkaignfcaaaDoor
open Go Go.Am
set_option linter.unusedSimpArgs false
set_option linter.unusedVariables false
theorem nS_eq (W : Int) : (if (-2147483648 : Int) > (if (2147483648 : Int) < W then (2147483648 : Int) else W) then (-2147483648 : Int) else (if (2147483648 : Int) < W then (2147483648 : Int) else W)) = (if (if (2147483648 : Int) < W then (2147483648 : Int) else W) > (-2147483648 : Int) then (if (2147483648 : Int) < W then (2147483648 : Int) else W) else (-2147483648 : Int)) := by
  split <;> split <;> split <;> omega
theorem kZ (n a b c d h : Int) : KC2 132 12 (.exit 0) (TZ n a b c d h) = some (.l (.exit 0) (TZ n a b c d h)) := by kernel_rfl
theorem kZr (r : Int) : KC2 132 12 .ret (TZr r) = some (.l .ret (TZr r)) := by kernel_rfl
def endsZ (q : Int ⊕ Acc) (S : St) : Prop := match q with
  | .inl r => SL E1 (bodyOf E1 22 0) S .ret (TZr r)
  | .inr q => SL E1 (bodyOf E1 22 0) S (.exit 0) (TZ q.n q.a q.b q.c q.d q.h)
abbrev SZq (q : Acc) (k m : Nat) (u : Nat → ByteArray) (e : Nat → Int) (g : Nat → Bool) : St := SZs q.n q.a q.b q.c q.d q.h k m u e g
/-- A table for loops: no call of form in them. -/
noncomputable abbrev CZ : CallT := CR (fun _ => False) (.sc (.bool true))
theorem sCZ : SoundC E1 CZ := sCR fun _ h => False.elim h
set_option maxRecDepth 100000 in
theorem loop22 (u : Nat → ByteArray) (e : Nat → Int) (g : Nat → Bool) (m : Nat) (hm : m ≤ 1000) : ∀ (r k : Nat) (q : Acc), m - k = r → k ≤ m → endsZ (run2 u e g r k q) (SZq q k m u e g) := by
  intro r
  induction r with
  | zero =>
    intro k q hr hk
    have : k = m := by omega
    subst this
    exact SL.by2 (m := 132) (r := 12) sCZ hX1 ltab2_nil ((r22b _ _ _ _ _ _ _ _ _ _ _ _ _ _).trans (by rw [if_neg (by simp)]; rfl))
  | succ r ih =>
    intro k q hr hk
    have hk' : k < m := by omega
    have hkd : decide ((k : Int) < (m : Int)) = true := by simpa using hk'
    have hbb : (0 : Int) ≤ (k : Int) ∧ (k : Int) < (m : Int) := by omega
    have ek : Int.toNat (k : Int) = k := Int.toNat_natCast k
    have ew : w ((k : Int) + 1) = ((k + 1 : Nat) : Int) := by rw [w_in (by unfold inR; omega)]; omega
    have key := ih (k + 1) (q.step (lkI (u k)) (e k)) (by omega) (by omega)
    have tree := fun lo => r22b q.n q.a q.b q.c q.d q.h k m u e g (.sc (.bool true)) (fun _ => False) lo
    simp only [if_pos hkd, if_pos hbb, ek, ew, nS_eq] at tree
    have ret : ∀ er, facE (u k) (e k) (g k) = some er → (∀ lo, loopK E1 CZ lo 0 420 (bodyOf E1 22 0) (SZq q k m u e g) (KC2 132 12) = some (.l .ret (TZr er))) → endsZ (run2 u e g (r + 1) k q) (SZq q k m u e g) := by
      intro er he h
      rw [run2, he]
      exact SL.by2 sCZ hX1 ltab2_nil (h _)
    cases hB : lkB (lkI (u k)) with
    | false =>
      refine ret 10 (facE_10 hB) fun lo => (tree lo).trans ?_
      rw [hB]; rfl
    | true =>
      by_cases hF : g k = true ∧ lkF (lkI (u k)) ≠ 1
      · refine ret 10 (by unfold facE; rw [if_neg (by rw [hB]; decide), if_pos hF]) fun lo => (tree lo).trans ?_
        rw [hB, if_neg (by decide), if_pos hF.1, if_pos (by simp [hF.2])]; rfl
      · by_cases hE : e k = 0 ∨ e k < -8 ∨ 8 < e k
        · refine ret 5 (by unfold facE; rw [if_neg (by rw [hB]; decide), if_neg hF, if_pos hE]) fun lo => (tree lo).trans ?_
          rw [hB, if_neg (by decide)]
          have go : ∀ X : Option Ans, (if (e k == (0 : Int)) = true then some (Ans.l Ex.ret (TZr 5)) else if decide (e k < -8) = true then some (Ans.l Ex.ret (TZr 5)) else if decide (e k > (8 : Int)) = true then some (Ans.l Ex.ret (TZr 5)) else X) = some (Ans.l Ex.ret (TZr 5)) := by
            intro X
            by_cases h0 : e k = 0
            · rw [if_pos (by simp [h0])]
            · rw [if_neg (by simp [h0])]
              by_cases h1 : e k < -8
              · rw [if_pos (by simp; omega)]
              · rw [if_neg (by simp; omega), if_pos (by simp; omega)]
          by_cases hg : g k = true
          · rw [if_pos hg, if_neg (by simp; exact Classical.not_not.1 fun h => hF ⟨hg, h⟩)]
            exact go _
          · rw [if_neg hg]
            exact go _
        · have he : facE (u k) (e k) (g k) = none := by unfold facE; rw [if_neg (by rw [hB]; decide), if_neg hF, if_neg hE]
          have fin : ∀ lo, loopK E1 CZ lo 0 420 (bodyOf E1 22 0) (SZq q k m u e g) (KC2 132 12) = lo 0 420 (bodyOf E1 22 0) (SZq (q.step (lkI (u k)) (e k)) (k + 1) m u e g) (KC2 132 12) := by
            intro lo
            refine (tree lo).trans ?_
            rw [hB, if_neg (by decide)]
            by_cases hg : g k = true
            · rw [if_pos hg, if_neg (by simp; exact Classical.not_not.1 fun h => hF ⟨hg, h⟩), if_neg (by simp; omega), if_neg (by simp; omega), if_neg (by simp; omega)]
              rfl
            · rw [if_neg hg, if_neg (by simp; omega), if_neg (by simp; omega), if_neg (by simp; omega)]
              rfl
          rw [run2, he]
          show endsZ (run2 u e g r (k + 1) (q.step (lkI (u k)) (e k))) _
          revert key
          cases run2 u e g r (k + 1) (q.step (lkI (u k)) (e k)) with
          | inl er =>
            intro key
            refine SL.by2 sCZ hX1 (oneF 0 (e := .exit 0) (T := TZ 0 0 0 0 0 0) key) ((fin _).trans ?_)
            exact (ltab2_hit (LeSt.refl _)).trans ((cl_neg id).trans (kZr _))
          | inr q' =>
            intro key
            refine SL.by2 sCZ hX1 (one 0 (e' := .ret) (T' := TZr 0) key) ((fin _).trans ?_)
            exact (ltab2_hit (LeSt.refl _)).trans ((cl_pos trivial).trans (kZ _ _ _ _ _ _))
theorem SL.z {n : Int} : SL E1 (bodyOf E1 22 0) (SZn n) (.exit 0) (TZ n 0 0 0 0 0) := SL.by2 (m := 132) (r := 12) sCZ hX1 ltab2_nil (r22a n _ _ _)
/-- What both compute from factors that are the same. -/
theorem run2_congr {u u' : Nat → ByteArray} {e e' : Nat → Int} {g g' : Nat → Bool} : ∀ (r k : Nat) (q : Acc), (∀ j, k ≤ j → j < k + r → u j = u' j ∧ e j = e' j ∧ g j = g' j) → run2 u e g r k q = run2 u' e' g' r k q
  | 0, _, _, _ => rfl
  | r + 1, k, q, h => by
    obtain ⟨h1, h2, h3⟩ := h k (Nat.le_refl _) (by omega)
    rw [run2, run2, h1, h2, h3]
    split
    · rfl
    · exact run2_congr r (k + 1) _ fun j h4 h5 => h j (by omega) (by omega)
theorem allF_same (t : ByteArray) : allF gO t 0 ↔ allF fO t 0 := by
  unfold allF
  constructor
  · intro h j h1 h2
    rw [← (fac_same (pt 42 t j)).1]; exact h j h1 h2
  · intro h j h1 h2
    rw [(fac_same (pt 42 t j)).1]; exact h j h1 h2
theorem run2_same {t : ByteArray} (h : allF fO t 0) (q : Acc) : run2 (uR t) (eR t) (gR t) (ptN 42 t) 0 q = run2 (uP t) (eP t) (gP t) (ptN 42 t) 0 q :=
  run2_congr _ _ _ fun j h1 h2 => (fac_same (pt 42 t j)).2 (h j h1 (by omega))
set_option maxRecDepth 100000 in
theorem parse22 (s : ByteArray) : SC E1 22 [st s] [] (.ret (pV s) []) := by
  by_cases h100 : 100 < s.size
  · refine SC.of hW1 hX1 (sCR (Q := fun _ => False) (F := formN 0 true) fun _ h => False.elim h) (soundL_none E1) ((f22_e s 0 true _).trans ?_)
    rw [if_pos (by simp; omega)]
    unfold pV
    rw [if_pos h100]; rfl
  have zB := cB_size 32 s
  have hN := ptN_le 42 (cB 32 s)
  have h1 : ¬ decide (((s.size : Nat) : Int) > 100) = true := by simp; omega
  have hf := form_sc (s := s) (by omega)
  have q4 : ∀ F : V, SC E1 52 [st s] [] (.ret F []) → ∀ args, args = [st s] → SC E1 52 args [] (.ret F []) := fun F h args he => he ▸ h
  unfold pV
  rw [if_neg h100]
  unfold formV at hf
  cases hn : nB (cA 32 s) with
  | false =>
    rw [hn, if_pos rfl] at hf
    refine SC.of hW1 hX1 (sCR (Q := fun args => args = [st s]) (F := formN (nV (cA 32 s)) false) (q4 _ hf)) (soundL_none E1) ((f22_e s _ _ _).trans ?_)
    rw [if_neg h1, cl_pos ⟨rfl, rfl⟩]; rfl
  | true =>
    rw [hn, if_neg (by decide)] at hf
    rw [if_neg (by decide)]
    cases hF : cF 32 s with
    | false =>
      rw [hF, if_neg (by decide)] at hf
      rw [if_neg (by decide)]
      refine SC.of hW1 hX1 (sCR (Q := fun args => args = [st s]) (F := formN (nV (cA 32 s)) true) (q4 _ hf)) (one 0 (e' := .ret) (T' := TZr 0) (SL.z (n := nV (cA 32 s)))) ((f22n _ _ _ _ _ _ _ _ _ _ _ _ _).trans ?_)
      rw [if_neg h1, cl_pos ⟨rfl, rfl⟩, if_neg (by decide), cl_pos ⟨rfl, LeSt.refl _⟩, cl_pos trivial]
      rfl
    | true =>
      rw [hF, if_pos rfl] at hf
      rw [if_pos rfl]
      by_cases hA : allF fO (cB 32 s) 0
      · rw [if_pos ((allF_same _).2 hA)] at hf
        rw [if_pos hA, ← run2_same hA]
        have l := loop22 (uR (cB 32 s)) (eR (cB 32 s)) (gR (cB 32 s)) (ptN 42 (cB 32 s)) (by omega) _ 0 ⟨nV (cA 32 s), 0, 0, 0, 0, 0⟩ rfl (by omega)
        rw [Nat.sub_zero] at l
        revert l
        cases run2 (uR (cB 32 s)) (eR (cB 32 s)) (gR (cB 32 s)) (ptN 42 (cB 32 s)) 0 ⟨nV (cA 32 s), 0, 0, 0, 0, 0⟩ with
        | inl r =>
          intro l
          refine SC.of hW1 hX1 (sCR (Q := fun args => args = [st s]) (q4 _ hf)) (oneF 0 (e := .exit 0) (T := TZ 0 0 0 0 0 0) l) ((f22s _ _ _ _ _ _ _ _ _ _ _ _ _ _ _ _).trans ?_)
          rw [if_neg h1, cl_pos ⟨rfl, rfl⟩, cl_pos ⟨rfl, LeSt.refl _⟩, cl_neg (fun h => h)]
          rfl
        | inr q =>
          intro l
          refine SC.of hW1 hX1 (sCR (Q := fun args => args = [st s]) (q4 _ hf)) (one 0 (e' := .ret) (T' := TZr 0) l) ((f22s _ _ _ _ _ _ _ _ _ _ _ _ _ _ _ _).trans ?_)
          rw [if_neg h1, cl_pos ⟨rfl, rfl⟩, cl_pos ⟨rfl, LeSt.refl _⟩, cl_pos trivial]
          rfl
      · rw [if_neg (fun h => hA ((allF_same _).1 h))] at hf
        rw [if_neg hA]
        refine SC.of hW1 hX1 (sCR (Q := fun args => args = [st s]) (F := formN 0 false) (q4 _ hf)) (soundL_none E1) ((f22_e s _ _ _).trans ?_)
        rw [if_neg h1, cl_pos ⟨rfl, rfl⟩]; rfl
end Go.Proofs.YtnjpgkaignfcaaaDoor
