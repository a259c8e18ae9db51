/- What comes in: costs, certificates, numbers; CostAdds for what comes in. -/
import Derived.Test.YthegipdgillngaaBb
namespace Go.Proofs.Ythegipdgillngaa
open Go Go.Am
theorem wt3 {d : Nat} {vs : List V} (h : WT E.P d 3 vs) : ∃ a, vs = [i64 a] ∧ inR a := h.i64 (by kernel_rfl)
theorem wt45 {d : Nat} {vs : List V} (h : WT E.P d 45 vs) : ∃ a b c d e f, vs = [i64 a, i64 b, i64 c, i64 d, i64 e, i64 f] ∧ inR a ∧ inR b ∧ inR c ∧ inR d ∧ inR e ∧ inR f := by
  obtain ⟨d, _, _, rfl, h1, _, _, rfl, h2, _, _, rfl, h3, _, _, rfl, h4, _, _, rfl, h5, _, _, rfl, h6, rfl⟩ := h.struct (l := [3, 3, 3, 3, 3, 3]) (by kernel_rfl)
  obtain ⟨a, rfl, ra⟩ := wt3 h1
  obtain ⟨b, rfl, rb⟩ := wt3 h2
  obtain ⟨c, rfl, rc⟩ := wt3 h3
  obtain ⟨d, rfl, rd⟩ := wt3 h4
  obtain ⟨e, rfl, re⟩ := wt3 h5
  obtain ⟨f, rfl, rf⟩ := wt3 h6
  exact ⟨a, b, c, d, e, f, rfl, ra, rb, rc, rd, re, rf⟩
theorem v45 {v : V} (h : WTV E.P 45 v) : ∃ a b c d e f, v = i6 a b c d e f ∧ inR a ∧ inR b ∧ inR c ∧ inR d ∧ inR e ∧ inR f := by
  obtain ⟨d, vs, rfl, g⟩ := h.struct (l := [3, 3, 3, 3, 3, 3]) (by kernel_rfl)
  obtain ⟨a, b, c, d, e, f, rfl, r⟩ := wt45 g
  exact ⟨a, b, c, d, e, f, rfl, r⟩
theorem v31 {v : V} (h : WTV E.P 31 v) : ∃ n xa xb xc xd xe xf, Le v (r6 n xa xb xc xd xe xf) ∧ n ≤ Go.maxLen ∧ ∀ j, j < n → inR (xa j) ∧ inR (xb j) ∧ inR (xc j) ∧ inR (xd j) ∧ inR (xe j) ∧ inR (xf j) := by
  obtain ⟨n, f, rfl, hn, d, h⟩ := h.slice (e := 45) (c := 6) (by kernel_rfl) (by kernel_rfl) (by kernel_rfl) (by omega)
  refine ⟨n, fun j => nthI (f j) 0, fun j => nthI (f j) 1, fun j => nthI (f j) 2, fun j => nthI (f j) 3, fun j => nthI (f j) 4, fun j => nthI (f j) 5, Le.ro_eq fun j hj => ?_, hn, fun j hj => ?_⟩
  · obtain ⟨a, b, c, d, e, f', hf, r⟩ := wt45 (h j hj)
    exact ⟨by simp only [hf]; rfl, rfl⟩
  · obtain ⟨a, b, c, d, e, f', hf, r⟩ := wt45 (h j hj)
    simp only [hf]; exact r
theorem law11w (v0 v1 v2 : V) (h0 : WTV E.P 31 v0) (h1 : WTV E.P 45 v1) (h2 : WTV E.P 45 v2) : ∃ l', LeL [v0, v1, v2] l' ∧ SC E 11 l' [] (.ret (bo true) []) := by
  obtain ⟨n, xa, xb, xc, xd, xe, xf, hle, _, _⟩ := v31 h0
  obtain ⟨a, b, c, d, e, f, rfl, ra, rb, rc, rd, re, rf⟩ := v45 h1
  obtain ⟨a', b', c', d', e', f', rfl, ra', rb', rc', rd', re', rf'⟩ := v45 h2
  exact ⟨_, LeL.cons hle (LeL.refl _), law11 n xa xb xc xd xe xf ra rb rc rd re rf ra' rb' rc' rd' re' rf'⟩
end Go.Proofs.Ythegipdgillngaa
