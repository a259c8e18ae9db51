/- Variables of the packages, as the row lists them. -/
import Derived.Test.YtniogljhkjbcgaaDoorAmX
import Derived.Shelf.Vars
namespace Go.Am
open Go Go.RowKit
set_option linter.unusedSimpArgs false
set_option linter.unusedVariables false

theorem laidVars_mem {P : Program} {W : World} : ∀ {laid : List (String × DataW Unit)} {ps : List MemPlace}, DataW.LaidVars P W laid ps → ∀ n D, (n, D) ∈ laid →
    ∃ g t cs fuel p, P.globalNamed n = some g ∧ (P.globals[g]?).map (·.type) = some t ∧ W.var? P n = some cs ∧ DataW.trod (fun _ => ()) P W 0 (fun _ => true) false fuel t cs.toList = some (D, p)
  | [], ps, h, n, D, hm => by cases hm
  | (n', D') :: r, ps, h, n, D, hm => by
    obtain ⟨g, t, cs, fuel, p, q, h1, h2, h3, h4, h5, _⟩ := h
    rcases List.mem_cons.1 hm with e | e
    · cases e; exact ⟨g, t, cs, fuel, p, h1, h2, h3, h4⟩
    · exact laidVars_mem h5 n D e

theorem var_cells {P : Program} {W : World} {n : String} {g : Nat} {cs : Array Value} (hg : P.globalNamed n = some g) (h : W.var? P n = some cs) (h0 : 0 < cs.size) : g < W.heap.size := by
  have h1 := World.var?_cell hg h 0
  rw [Array.getElem?_eq_getElem h0] at h1
  rcases Nat.lt_or_ge g W.heap.size with k | k
  · exact k
  · simp [World.cell?, Array.getElem?_eq_none k] at h1

/-- What is known of a listed variable. -/
structure GlobAt (P : Program) (laid : List (String × DataW Unit)) (g : Nat) (cs : List V) : Prop where
  ex : ∃ n D t d, (n, D) ∈ laid ∧ P.globalNamed n = some g ∧ (P.globals[g]?).map (·.type) = some t ∧ t < P.types.size ∧ dvD P d t D = some cs ∧ cs ≠ []

theorem glob_rd {P : Program} (hp : packB P = true) {laid : List (String × DataW Unit)} {W : World} (h : laidMet P laid W) {g : Nat} {cs : List V} (hg : GlobAt P laid g cs) :
    den (fun _ => none) (· < W.heap.size) W (fun _ => False) (.rp cs) (.pointer (some ⟨g, 0, none⟩)) := by
  obtain ⟨n, D, t, d, hm, h1, h2, h3, h4, h5⟩ := hg.ex
  obtain ⟨ps, hl, _⟩ := h
  obtain ⟨g', t', us, fuel, p, k1, k2, k3, k4⟩ := laidVars_mem hl n D hm
  obtain rfl := Option.some.inj (h1.symm.trans k1)
  obtain rfl := Option.some.inj (h2.symm.trans k2)
  have gd := cells_of_datum hp fuel d t us.toList D p cs h3 k4 h4
  have hlen : 0 < us.size := by
    have := gd.den
    rcases Nat.eq_zero_or_pos us.size with e | e
    · exfalso
      have : us.toList = [] := by simpa using e
      rw [this] at gd
      cases cs with
      | nil => exact h5 rfl
      | cons c cs =>
        have := gd.den
        simp [denL] at this
    · exact e
  simp only [Am.den]
  refine ⟨_, us.toList, rfl, var_cells h1 k3 hlen, gd.den, gd.pure, gd.one, fun i x hx => ?_⟩
  rw [add_lit, Nat.zero_add, World.var?_cell h1 k3 i]
  simpa using hx

/-- The variables of an environment are as a row lists them; a variable of the library's own holds some number. -/
theorem Glob.of_laid {E : Env} {laid : List (String × DataW Unit)} {W : World} (hp : packB E.P = true) (h : laidMet E.P laid W)
    (hg : ∀ g cs, E.glob g = some cs → GlobAt E.P laid g cs) (hi : ∀ p ∈ E.inv, p.1 < W.heap.size ∧ ∃ x, W.heap[p.1]? = some x ∧ p.2 x) : Glob E (· < W.heap.size) W :=
  ⟨fun g cs hc => glob_rd hp h (hg g cs hc), hi⟩
theorem cell_lt {W : World} {g : Nat} {x : Value} (h : W.cell? ⟨g, 0, none⟩ = some x) : g < W.heap.size := by
  rcases Nat.lt_or_ge g W.heap.size with k | k
  · exact k
  · simp [World.cell?, Array.getElem?_eq_none k] at h

/-- A block that holds some number first. -/
def intCell (k : IntKind) : Obj → Prop := fun o => ∃ c t fr m, o = .cells c t fr ∧ c[0]? = some (.int k m)
/-- A block that holds just these. -/
def allCells (cs : Array Value) : Obj → Prop := fun o => ∃ t fr, o = .cells cs t fr
theorem intCell_of {W : World} {g : Nat} {k : IntKind} (h : ∃ m, W.cell? ⟨g, 0, none⟩ = some (.int k m)) : g < W.heap.size ∧ ∃ x, W.heap[g]? = some x ∧ intCell k x := by
  obtain ⟨m, h⟩ := h
  refine ⟨cell_lt h, ?_⟩
  unfold World.cell? at h
  split at h
  · rename_i c t fr hh
    simp only [Option.isSome_none, Bool.false_eq_true, if_false] at h
    exact ⟨_, hh, c, t, fr, m, rfl, h⟩
  · cases h
theorem intCell_cell {W : World} {g : Nat} {k : IntKind} {x : Obj} (h : W.heap[g]? = some x) (hi : intCell k x) : ∃ m, W.cell? ⟨g, 0, none⟩ = some (.int k m) := by
  obtain ⟨c, t, fr, m, rfl, hc⟩ := hi
  exact ⟨m, by simp only [World.cell?, h]; simpa using hc⟩
theorem allCells_of {P : Program} {W : World} {n : String} {g : Nat} {cs : Array Value} (hg : P.globalNamed n = some g) (h : W.var? P n = some cs) : g < W.heap.size ∧ ∃ x, W.heap[g]? = some x ∧ allCells cs x := by
  simp only [World.var?, hg, Option.bind_some] at h
  split at h
  · rename_i c t fr hh
    cases h
    exact ⟨(Array.getElem?_eq_some_iff.1 hh).1, _, hh, t, fr, rfl⟩
  · cases h
theorem allCells_var {P : Program} {W : World} {n : String} {g : Nat} {cs : Array Value} {x : Obj} (hg : P.globalNamed n = some g) (h : W.heap[g]? = some x) (hi : allCells cs x) : W.var? P n = some cs := by
  obtain ⟨t, fr, rfl⟩ := hi
  simp only [World.var?, hg, Option.bind_some, h]
/-- A contract that hands back what names no memory of its own. -/
theorem SC.ext {E : Env} (hX : SoundX E) {f : FuncId} {args : List V} {v : V} (h : E.ext f args = some v) : SC E f args [] (.ret v []) := by
  obtain ⟨h1, h2, h3⟩ := hX f args v h
  refine ⟨h1, fun β S w us hd hm hG => (h3 β S _ w us hd hG hm.st).mono ?_⟩
  rintro e w' ⟨u, S', rfl, hb, hv, hs1, hs2⟩
  have hβ : ∀ i, β i = none := fun i => hm.dead i (by simp [hp])
  refine ⟨u, β, S', rfl, ?_, ?_, ?_, fun _ _ _ h => h⟩
  · refine (hm.below hb).wider' hs1 (fun b hs => ?_) (fun i b m hi => by rw [hβ i] at hi; cases hi)
    rcases hs2 b hs with h | ⟨_, h⟩
    · exact Nat.lt_of_lt_of_le (hm.st b h) hb.size
    · exact h
  · exact den_pure (fun _ h => h) (fun _ _ => rfl) _ _ h2 hv
  · refine ⟨hb.os, hb.tape, hb.output, hb.size, fun b h _ => hb.block b h, hs1, fun b hs => ?_, fun i b m h => .inr ⟨i, m, h⟩⟩
    rcases hs2 b hs with h | ⟨h, _⟩
    · exact .inl h
    · exact .inr (.inl h)
end Go.Am
