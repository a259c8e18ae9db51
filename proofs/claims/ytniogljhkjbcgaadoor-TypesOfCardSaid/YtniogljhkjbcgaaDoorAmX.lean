/- Variables of the packages: what a datum lays, as abstract cells. -/
import Derived.Test.YtniogljhkjbcgaaDoorAmW
import Derived.FnData
import Derived.MakeChecks
import Derived.OpenShut
namespace Go.Am
open Go Go.RowKit
set_option linter.unusedSimpArgs false
set_option linter.unusedVariables false

section
variable {H : Type}
def catM (r : TypeId → DataW H → Option (List V)) : List TypeId → List (DataW H) → Option (List V)
  | [], [] => some []
  | t :: ts, d :: ds => match r t d, catM r ts ds with | some a, some b => some (a ++ b) | _, _ => none
  | _, _ => none
def mapO (r : DataW H → Option (List V)) : List (DataW H) → Option (List (List V))
  | [] => some []
  | d :: ds => match r d, mapO r ds with | some a, some b => some (a :: b) | _, _ => none
/-- The cells that a datum of type t lays. -/
def dvD (P : Program) : Nat → TypeId → DataW H → Option (List V)
  | 0, _, _ => none
  | d + 1, t, x => match P.underlying t, x with
    | some .bool, .lit (.bool b) => some [.sc (.bool b)]
    | some (.int _), .lit (.int k n) => some [.sc (.int k n)]
    | some .string, .lit (.string l) => some [.sc (.string ⟨l.toArray⟩)]
    | some (.slice e), .slice ds _ => if 0 < P.cellsOf e then match mapO (dvD P d e) ds with | some l => some [.ro (P.cellsOf e) ds.length (fun j => l.getD j [])] | none => none else none
    | some (.struct fs), .agg ds => catM (dvD P d) (fs.toList.map (·.type)) ds
    | some (.array n e), .agg ds => catM (dvD P d) (List.replicate n e) ds
    | _, _ => none
theorem mapO_len {r : DataW H → Option (List V)} : ∀ {ds : List (DataW H)} {l : List (List V)}, mapO r ds = some l → l.length = ds.length ∧ ∀ j d, ds[j]? = some d → r d = some (l.getD j [])
  | [], l, h => by simp only [mapO, Option.some.injEq] at h; subst h; simp
  | d :: ds, l, h => by
    simp only [mapO] at h
    split at h
    · rename_i a b ha hb
      simp only [Option.some.injEq] at h
      subst h
      obtain ⟨h1, h2⟩ := mapO_len hb
      refine ⟨by simp [h1], fun j d' hj => ?_⟩
      cases j with
      | zero => simp only [List.getElem?_cons_zero, Option.some.injEq] at hj; subst hj; simpa using ha
      | succ j => simpa using h2 j d' (by simpa using hj)
    · cases h

theorem cells_of_datum {enc : TypeId × Value → H} {P : Program} {w : World} {sp : Nat → Bool} {held : Bool} (hp : packB P = true) :
    ∀ (f d : Nat) (t : TypeId) (cs : List Value) (x : DataW H) (ps : List MemPlace) (vs : List V), t < P.types.size → DataW.trod enc P w 0 sp held f t cs = some (x, ps) → dvD P d t x = some vs → Gd (· < w.heap.size) w vs cs := by
  intro f
  induction f with
  | zero => intro d t cs x ps vs _ h; simp [DataW.trod] at h
  | succ f ih =>
    intro d t cs x ps vs ht h hv
    cases d with
    | zero => simp [dvD] at hv
    | succ d =>
    have fields : ∀ (fs : List Field) (o m : Nat) (cs : List Value) (ys : List (DataW H × List MemPlace)) (vs : List V), packL P fs o = some m → cs.length = m →
        ys.length = fs.length → (∀ (i : Nat) (g : Field), fs[i]? = some g → DataW.trod enc P w 0 sp held f g.type ((cs.drop g.offset).take (P.cellsOf g.type)) = ys[i]?) → catM (dvD P d) (fs.map (·.type)) (ys.map (·.1)) = some vs →
        Gd (· < w.heap.size) w vs (cs.drop o) := by
      intro fs
      induction fs with
      | nil =>
        intro o m cs ys vs hp hl hyl hm hc
        have : ys = [] := List.length_eq_zero_iff.1 (by simpa using hyl)
        subst this
        simp only [List.map_nil, catM, Option.some.injEq] at hc
        subst hc
        simp only [packL, Option.some.injEq] at hp
        subst hp
        rw [List.drop_of_length_le (by omega)]
        exact Gd.nil
      | cons g fs ihf =>
        intro o m cs ys vs hp hl hyl hm hc
        simp only [packL] at hp
        split at hp
        · rename_i ho
          obtain ⟨ho, hft⟩ := ho
          cases ys with
          | nil => simp at hyl
          | cons y zs =>
            have hy := hm 0 g rfl
            simp only [List.getElem?_cons_zero] at hy
            simp only [List.map_cons, catM] at hc
            split at hc
            · rename_i a b ha hb
              simp only [Option.some.injEq] at hc
              subst hc
              obtain ⟨y1, y2⟩ := y
              have g1 := ih d _ _ y1 y2 a hft hy ha
              have g2 := ihf _ _ _ _ _ hp hl (by simpa using hyl) (fun i g hi => by simpa using hm (i + 1) g (by simpa using hi)) hb
              rw [ho] at g1
              have := g1.app g2
              rwa [← List.drop_drop, List.take_append_drop] at this
            · cases hc
        · cases hp
    have items : ∀ (n : Nat) (e : TypeId) (cs : List Value) (ys : List (DataW H × List MemPlace)) (vs : List V), e < P.types.size → cs.length = n * P.cellsOf e → ys.length = n →
        (∀ i y, ys[i]? = some y → DataW.trod enc P w 0 sp held f e ((cs.drop (i * P.cellsOf e)).take (P.cellsOf e)) = some y) → catM (dvD P d) (List.replicate n e) (ys.map (·.1)) = some vs →
        Gd (· < w.heap.size) w vs cs := by
      intro n
      induction n with
      | zero =>
        intro e cs ys vs _ hl hy _ hc
        have : cs = [] := List.length_eq_zero_iff.1 (by omega)
        subst this
        have : ys = [] := List.length_eq_zero_iff.1 (by omega)
        subst this
        simp only [List.replicate_zero, List.map_nil, catM, Option.some.injEq] at hc
        subst hc
        exact Gd.nil
      | succ n ihn =>
        intro e cs ys vs het hl hyl hys hc
        cases ys with
        | nil => simp at hyl
        | cons y ys =>
          simp only [List.replicate_succ, List.map_cons, catM] at hc
          split at hc
          · rename_i a b ha hb
            simp only [Option.some.injEq] at hc
            subst hc
            have h0 := hys 0 y rfl
            simp only [Nat.zero_mul, List.drop_zero] at h0
            obtain ⟨y1, y2⟩ := y
            have g1 := ih d _ _ y1 y2 a het h0 ha
            have g2 := ihn e (cs.drop (P.cellsOf e)) ys b het (by rw [List.length_drop, hl, Nat.add_mul]; omega) (by simpa using hyl) (fun i y hi => by
              have := hys (i + 1) y (by simpa using hi)
              rw [List.drop_drop, show P.cellsOf e + i * P.cellsOf e = (i + 1) * P.cellsOf e by rw [Nat.add_mul]; omega]
              exact this) hb
            have := g1.app g2
            rwa [List.take_append_drop] at this
          · cases hc
    have hpk : ∀ x, P.underlying t = some x → (match (some x : Option TypeDesc) with
        | some (.struct fs) => packL P fs.toList 0 == some (P.cellsOf t)
        | some (.array n e) => P.cellsOf t == n * P.cellsOf e && decide (e < P.types.size)
        | some (.slice e) => decide (e < P.types.size)
        | _ => true) = true := by
      intro x hx
      have := List.all_eq_true.1 hp t (by simp only [List.mem_range]; exact ht)
      rwa [hx] at this
    unfold dvD at hv
    split at hv
    · rename_i b hu
      unfold DataW.trod at h
      rw [hu] at h
      split at h <;> simp_all
      · subst hv; obtain ⟨⟨rfl, rfl⟩, rfl⟩ := h; exact Gd.one1 rfl
    · rename_i k0 k n hu
      unfold DataW.trod at h
      rw [hu] at h
      simp only [Option.some.injEq] at hv
      subst hv
      split at h <;> first | (rename_i hq; cases hq; done) | skip
      all_goals first
        | (split at h
           · simp only [Option.some.injEq, Prod.mk.injEq, DataW.lit.injEq, Lit.int.injEq] at h
             obtain ⟨⟨rfl, rfl⟩, rfl⟩ := h
             rename_i hk; obtain ⟨rfl, _⟩ := hk
             exact Gd.one1 rfl
           · cases h)
        | (simp at h; done)
        | skip
    · rename_i l hu
      unfold DataW.trod at h
      rw [hu] at h
      simp only [Option.some.injEq] at hv
      subst hv
      split at h <;> first | (rename_i hq; cases hq; done) | skip
      all_goals first
        | (split at h
           · simp only [Option.some.injEq, Prod.mk.injEq, DataW.lit.injEq, Lit.string.injEq] at h
             obtain ⟨rfl, rfl⟩ := h
             exact Gd.one1 rfl
           · cases h)
        | (simp at h; done)
        | skip
    · rename_i e ds rest hu
      split at hv
      · rename_i he
        split at hv
        · rename_i l hl
          simp only [Option.some.injEq] at hv
          subst hv
          rcases DataW.trod_slice hu h with ⟨_, hx⟩ | ⟨a, len, cap, elems, rest', n, q1, hcs, hx, q2, q3, q4, hlen, hel, q5⟩
          · simp at hx
          · simp only [Prod.mk.injEq, DataW.slice.injEq] at hx
            obtain ⟨⟨rfl, rfl⟩, _⟩ := hx
            obtain ⟨hl1, hl2⟩ := mapO_len hl
            have hlen' : (elems.map (·.1)).length = len := by simpa using hlen
            have key : ∀ j, j < len → ∃ us : List Value, Gd (· < w.heap.size) w (l.getD j []) us ∧ us.length = P.cellsOf e ∧ a.block < w.heap.size ∧ ∀ i x, us[i]? = some x → w.cell? (a.add (j * P.cellsOf e + i)) = some x := by
              intro j hj
              have hy := hel j hj
              cases hcs' : w.cells? 0 (a.add (j * P.cellsOf e)) (P.cellsOf e) with
              | none =>
                rw [hcs'] at hy
                simp only [Option.bind_none] at hy
                have : j < elems.length := by omega
                rw [List.getElem?_eq_getElem this] at hy
                cases hy
              | some us =>
                rw [hcs'] at hy
                have hjl : j < elems.length := by omega
                rw [List.getElem?_eq_getElem hjl] at hy
                simp only [Option.bind_some] at hy
                have hd := hl2 j (elems[j].1) (by rw [List.getElem?_map, List.getElem?_eq_getElem hjl]; rfl)
                have g1 := ih d e us elems[j].1 elems[j].2 _ (by simpa using hpk _ hu) (by have : n = f := by omega
                                                                                           subst this; exact hy) hd
                obtain ⟨_, r1, r2⟩ := World.cells?_some hcs'
                have hb := World.cells?_block hcs' he
                rw [add_block] at hb
                refine ⟨us, g1, r1, hb, fun i x hx => ?_⟩
                have hi : i < P.cellsOf e := by
                  rcases Nat.lt_or_ge i us.length with g | g
                  · omega
                  · rw [List.getElem?_eq_none g] at hx; cases hx
                rw [← add_add, r2 i hi, hx]
            let us : Nat → List Value := fun j => if hj : j < len then Classical.choose (key j hj) else []
            have hus : ∀ j, j < len → Gd (· < w.heap.size) w (l.getD j []) (us j) ∧ (us j).length = P.cellsOf e ∧ a.block < w.heap.size ∧ ∀ i x, (us j)[i]? = some x → w.cell? (a.add (j * P.cellsOf e + i)) = some x := by
              intro j hj
              have := Classical.choose_spec (key j hj)
              simp only [us, hj, dif_pos]
              exact this
            subst hcs
            rw [hlen']
            refine ⟨?_, rfl, rfl⟩
            simp only [denL, Am.den]
            refine ⟨_, _, rfl, ⟨Nat.le_trans q3 q4, some a, cap, a, us, rfl, q3, fun h0 => ⟨rfl, (hus 0 h0).2.2.1⟩, fun j hj => ?_⟩, rfl⟩
            obtain ⟨g1, g2, g3, g4⟩ := hus j hj
            exact ⟨g1.den, g1.pure, g2, g1.one, g4⟩
        · cases hv
      · cases hv
    · rename_i fs ds hu
      obtain ⟨xs, n, hn, hx, hcl, hxl, hall⟩ := DataW.trod_struct hu h
      obtain rfl : n = f := by omega
      simp only [Prod.mk.injEq, DataW.agg.injEq] at hx
      obtain ⟨rfl, _⟩ := hx
      have hk := hpk _ hu
      simp only [beq_iff_eq] at hk
      have := fields fs.toList 0 _ cs xs vs hk hcl (by simpa using hxl) (fun i g hi => hall i g (by simpa using hi)) hv
      simpa using this
    · rename_i n e ds hu
      obtain ⟨xs, m, hn, hx, hcl, hxl, hall⟩ := DataW.trod_array hu h
      obtain rfl : m = f := by omega
      simp only [Prod.mk.injEq, DataW.agg.injEq] at hx
      obtain ⟨rfl, _⟩ := hx
      have hk := hpk _ hu
      simp only [Bool.and_eq_true, beq_iff_eq, decide_eq_true_eq] at hk
      exact items n e cs xs vs hk.2 (by rw [hcl, hk.1]) hxl (fun i y hi => by
        have hi' : i < n := by rw [← hxl]; exact (List.getElem?_eq_some_iff.1 hi).1
        rw [hall i hi', hi]) hv
    · cases hv
end
end Go.Am
