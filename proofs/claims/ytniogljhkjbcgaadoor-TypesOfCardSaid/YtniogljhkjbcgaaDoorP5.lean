/- TypesOf (plain), and trees that come in. -/
import Derived.Test.YtniogljhkjbcgaaDoorP4
import Derived.Test.YtniogljhkjbcgaaDoorAmW
namespace Go.Proofs.YtniogljhkjbcgaaDoor
open Go Go.Am Go.Proofs
set_option linter.unusedSimpArgs false
set_option linter.unusedVariables false
set_option maxRecDepth 100000
theorem lawOf_true {nk nn : Int} {ns : ByteArray} {m : Nat} {f : Nat → List V} {vn : Nat} {vs : Nat → ByteArray} {v0 v1 v2 v3 v4 : Nat → Int} {name : ByteArray} (hf : OpenA m f)
    (hv : ∀ j, j < vn → inR (v0 j) ∧ inR (v1 j) ∧ inR (v2 j) ∧ inR (v3 j) ∧ inR (v4 j)) : lawOf 400 (nk, nn, ns, m, f, vn, vs, v0, v1, v2, v3, v4, name) = some true := by
  unfold lawOf t_lawOf
  dsimp only
  obtain ⟨(z : Int), h1, h2, h3, h4⟩ := nodes_runs 301 300 (by omega) (by omega) 400 (by omega) nk nn ns m f hf
  rw [show ((300 : Nat) : Int) = 300 from rfl] at h1
  simp only [h1, Option.bind_some, lives]
  by_cases g1 : z > 300
  · simp [g1]
  by_cases g2 : (vn : Int) > 40
  · simp [g1, g2]
  obtain ⟨v, k1, k2⟩ := vars_runs (x := (vn, vs, v0, v1, v2, v3, v4)) ⟨by show vn ≤ 40; omega, hv⟩ (q := 400) (by omega)
  obtain ⟨t, k3, k4⟩ := table_runs k2 (q := 400) (by omega)
  obtain ⟨y, k5, k6, k7⟩ := of_both k2 k4 300 400 400 nk nn ns m f (h4 (by omega)) hf (by omega) (by omega)
  obtain ⟨u, k8, k9, k10⟩ := tele_both 400 400 name
  simp only [k1, k3, k5, k6, k8, k9, Option.bind_some]
  simp [g1, g2]
/-! ### What comes in -/
theorem wt_struct {P : Program} {d : Nat} {t : TypeId} {vs : List V} {l : List TypeId} (h : WT P (d + 1) t vs) (ht : structP P t = some l) : Cat (l.map (WT P d)) vs := by
  unfold structP at ht
  unfold WT at h
  split at ht
  · rename_i hu; rw [hu] at h; cases ht; rw [List.map_map]; exact h
  · rename_i hu; rw [hu] at h; cases ht; exact h
  · cases ht
theorem wt_slice {P : Program} {d : Nat} {t e : TypeId} {vs : List V} {c : Nat} (h : WT P (d + 1) t vs) (ht : elemP P t = some e) (hc : P.cellsOf e = c) (h0 : 0 < c) : ∃ n f, vs = [.ro c n f] ∧ n ≤ Go.maxLen ∧ ∀ j, j < n → WT P d e (f j) := by
  unfold elemP at ht
  unfold WT at h
  split at ht
  · rename_i hu; rw [hu] at h; cases ht; subst hc; exact h h0
  · cases ht
/-- A node that came in, so far down. -/
def NodeOk : Nat → List V → Prop
  | 0, _ => False
  | d + 1, l => ∃ (k n : Int) (s : ByteArray) (m : Nat) (f : Nat → List V), l = [i64 k, i64 n, st s, .ro 4 m f] ∧ inR k ∧ inR n ∧ s.size ≤ Go.maxLen ∧ m ≤ Go.maxLen ∧ OpenA m f ∧ ∀ j, j < m → NodeOk d (f j)
def leafV : List V := [i64 0, i64 0, st ByteArray.empty, .ro 4 0 (fun _ => [])]
theorem NodeOk.open {d : Nat} {l : List V} (h : NodeOk d l) : ∃ (k n : Int) (s : ByteArray) (m : Nat) (f : Nat → List V), l = [i64 k, i64 n, st s, .ro 4 m f] ∧ OpenA m f := by
  cases d with
  | zero => cases h
  | succ d => obtain ⟨k, n, s, m, f, h1, _, _, _, _, h2, _⟩ := h; exact ⟨k, n, s, m, f, h1, h2⟩
theorem NodeOk.pure {d : Nat} {l : List V} (h : NodeOk d l) : pureL l = true := by
  obtain ⟨k, n, s, m, f, rfl, _⟩ := h.open
  rfl
theorem nodeOk_succ : ∀ {d : Nat} {l : List V}, NodeOk d l → NodeOk (d + 1) l
  | 0, _, h => by cases h
  | d + 1, l, h => by
    obtain ⟨k, n, s, m, f, e, h1, h2, h3, h4, h5, h6⟩ := h
    exact ⟨k, n, s, m, f, e, h1, h2, h3, h4, h5, fun j hj => nodeOk_succ (h6 j hj)⟩
theorem openA_of {m : Nat} {f : Nat → List V} (h1 : ∀ j, j < m → ∃ (k n : Int) (s : ByteArray) (m' : Nat) (f' : Nat → List V), f j = [i64 k, i64 n, st s, .ro 4 m' f'] ∧ OpenA m' f') (h2 : ∀ j, ¬ j < m → f j = leafV) : OpenA m f := by
  refine OpenA.of (fun j => ?_) fun j hj => ?_
  · by_cases h : j < m
    · obtain ⟨k, n, s, m', f', e, _⟩ := h1 j h
      unfold opK opN opS opM opF
      rw [e]; rfl
    · unfold opK opN opS opM opF
      rw [h2 j h]; rfl
  · obtain ⟨k, n, s, m', f', e, ho⟩ := h1 j hj
    unfold opM opF
    rw [e]; exact ho
theorem cat1 {p : List V → Prop} {ps : List (List V → Prop)} {vs : List V} (h : Cat (p :: ps) vs) : ∃ a b, vs = a ++ b ∧ p a ∧ Cat ps b := h
theorem node_in : ∀ (d : Nat) (l : List V), WT E.P d 24 l → ∃ l', LeL l l' ∧ NodeOk d l' := by
  intro d
  induction d using Nat.strongRecOn with
  | ind d ih =>
    intro l h
    obtain ⟨d, rfl⟩ : ∃ k, d = k + 1 := by cases d with
      | zero => cases h
      | succ k => exact ⟨k, rfl⟩
    obtain ⟨a, b, rfl, ha, b1, b2, rfl, hb, c1, c2, rfl, hc, e1, e2, rfl, he, rfl⟩ := wt_struct h (l := [3, 3, 9, 22]) (by kernel_rfl)
    obtain ⟨k, rfl, hk⟩ := ha.i64 (by kernel_rfl)
    obtain ⟨n, rfl, hn⟩ := hb.i64 (by kernel_rfl)
    obtain ⟨s, rfl, hs⟩ := hc.str (by kernel_rfl)
    obtain ⟨d', rfl⟩ : ∃ k, d = k + 1 := by cases d with
      | zero => cases he
      | succ k => exact ⟨k, rfl⟩
    obtain ⟨m, f, rfl, hm, hf⟩ := wt_slice he (e := 24) (c := 4) (by kernel_rfl) (by kernel_rfl) (by omega)
    have key : ∀ j, ∃ l', j < m → LeL (f j) l' ∧ NodeOk d' l' := fun j => by
      by_cases hj : j < m
      · obtain ⟨l', g⟩ := ih d' (by omega) (f j) (hf j hj)
        exact ⟨l', fun _ => g⟩
      · exact ⟨[], fun h => absurd h hj⟩
    let g : Nat → List V := fun j => if j < m then Classical.choose (key j) else leafV
    have hg : ∀ j, j < m → LeL (f j) (g j) ∧ NodeOk d' (g j) := fun j hj => by
      simp only [g, if_pos hj]; exact Classical.choose_spec (key j) hj
    have hg2 : ∀ j, ¬ j < m → g j = leafV := fun j hj => by simp only [g, if_neg hj]
    have ho : OpenA m g := openA_of (fun j hj => (hg j hj).2.open) hg2
    refine ⟨[i64 k, i64 n, st s, .ro 4 m g], LeL.cons (Le.refl _) (LeL.cons (Le.refl _) (LeL.cons (Le.refl _) (LeL.cons (Le.ro fun j hj => ⟨(hg j hj).1, (hg j hj).2.pure⟩) LeL.nil))), k, n, s, m, g, rfl, hk, hn, hs, hm, ho, fun j hj => ?_⟩
    exact nodeOk_succ (hg j hj).2
theorem nodeV_in {v : V} (h : WTV E.P 24 v) : ∃ (d : Nat) (l : List V), Le v (.agg l) ∧ NodeOk d l := by
  obtain ⟨d, vs, rfl, g⟩ := h.struct (l := [3, 3, 9, 22]) (by kernel_rfl)
  obtain ⟨l, h1, h2⟩ := node_in d vs g
  exact ⟨d, l, Le.agg h1, h2⟩
theorem dim_in {d : Nat} {l : List V} (h : WT E.P d 30 l) : ∃ a b c e f, l = [i64 a, i64 b, i64 c, i64 e, i64 f] ∧ inR a ∧ inR b ∧ inR c ∧ inR e ∧ inR f := by
  obtain ⟨d, _, a0, rfl, ha, _, b0, rfl, hb, _, c0, rfl, hc, _, e0, rfl, he, _, f0, rfl, hf, rfl⟩ := h.struct (l := [3, 3, 3, 3, 3]) (by kernel_rfl)
  obtain ⟨a, rfl, ga⟩ := ha.i64 (by kernel_rfl)
  obtain ⟨b, rfl, gb⟩ := hb.i64 (by kernel_rfl)
  obtain ⟨c, rfl, gc⟩ := hc.i64 (by kernel_rfl)
  obtain ⟨e, rfl, ge⟩ := he.i64 (by kernel_rfl)
  obtain ⟨f, rfl, gf⟩ := hf.i64 (by kernel_rfl)
  exact ⟨a, b, c, e, f, rfl, ga, gb, gc, ge, gf⟩
theorem var_in {d : Nat} {l : List V} (h : WT E.P d 41 l) : ∃ s a b c e f, l = [st s, i64 a, i64 b, i64 c, i64 e, i64 f] ∧ s.size ≤ Go.maxLen ∧ inR a ∧ inR b ∧ inR c ∧ inR e ∧ inR f := by
  obtain ⟨d, _, a0, rfl, ha, _, b0, rfl, hb, rfl⟩ := h.struct (l := [9, 30]) (by kernel_rfl)
  obtain ⟨s, rfl, hs⟩ := ha.str (by kernel_rfl)
  obtain ⟨a, b, c, e, f, rfl, g⟩ := dim_in hb
  exact ⟨s, a, b, c, e, f, rfl, hs, g⟩
theorem vars_in {v : V} (h : WTV E.P 25 v) : ∃ (n : Nat) (vs : Nat → ByteArray) (v0 v1 v2 v3 v4 : Nat → Int), Le v (.ro 6 n (fun j => [st (vs j), i64 (v0 j), i64 (v1 j), i64 (v2 j), i64 (v3 j), i64 (v4 j)])) ∧ n ≤ Go.maxLen ∧ ∀ j, j < n → (vs j).size ≤ Go.maxLen ∧ inR (v0 j) ∧ inR (v1 j) ∧ inR (v2 j) ∧ inR (v3 j) ∧ inR (v4 j) := by
  obtain ⟨n, f, rfl, hn, d, hf⟩ := h.slice (e := 41) (c := 6) (by kernel_rfl) (by kernel_rfl) (by kernel_rfl) (by omega)
  have key : ∀ j, ∃ (x : ByteArray × Int × Int × Int × Int × Int), j < n → f j = [st x.1, i64 x.2.1, i64 x.2.2.1, i64 x.2.2.2.1, i64 x.2.2.2.2.1, i64 x.2.2.2.2.2] ∧ x.1.size ≤ Go.maxLen ∧ inR x.2.1 ∧ inR x.2.2.1 ∧ inR x.2.2.2.1 ∧ inR x.2.2.2.2.1 ∧ inR x.2.2.2.2.2 := fun j => by
    by_cases hj : j < n
    · obtain ⟨s, a, b, c, e, f', h1, h2⟩ := var_in (hf j hj)
      exact ⟨(s, a, b, c, e, f'), fun _ => ⟨h1, h2⟩⟩
    · exact ⟨(ByteArray.empty, 0, 0, 0, 0, 0), fun h => absurd h hj⟩
  obtain ⟨g, hg⟩ := Classical.axiomOfChoice key
  exact ⟨n, fun j => (g j).1, fun j => (g j).2.1, fun j => (g j).2.2.1, fun j => (g j).2.2.2.1, fun j => (g j).2.2.2.2.1, fun j => (g j).2.2.2.2.2, Le.ro_eq fun j hj => ⟨(hg j hj).1, rfl⟩, hn, fun j hj => (hg j hj).2⟩
theorem toE {f : FuncId} {args : List V} {L : List (Option Chunk)} {cr : CRes} (h : SC E5 f args L cr) : SC E f args L cr := sc5.1 h
theorem typesOf (v0 v1 v2 : V) (h0 : WTV E.P 24 v0) (h1 : WTV E.P 25 v1) (h2 : WTV E.P 9 v2) : ∃ l', LeL [v0, v1, v2] l' ∧ SC E 3 l' [] (.ret (bo true) []) := by
  obtain ⟨d, l, g0, k0⟩ := nodeV_in h0
  obtain ⟨k, n, s, m, f, rfl, hf⟩ := k0.open
  obtain ⟨vn, vs, a0, a1, a2, a3, a4, g1, k1, k2⟩ := vars_in h1
  obtain ⟨name, rfl, _⟩ := h2.str (by kernel_rfl) (by kernel_rfl)
  refine ⟨_, LeL.cons g0 (LeL.cons g1 (LeL.cons (Le.refl _) LeL.nil)), ?_⟩
  exact toE (sc_lawOf 400 (k, n, s, m, f, vn, vs, a0, a1, a2, a3, a4, name) true (lawOf_true hf fun j hj => (k2 j hj).2))
end Go.Proofs.YtniogljhkjbcgaaDoor
