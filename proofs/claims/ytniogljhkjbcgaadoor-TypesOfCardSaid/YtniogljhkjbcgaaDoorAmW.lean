/- What comes in, by its type: an argument's reading gives an abstract value that fits. -/
import Derived.Test.YtniogljhkjbcgaaDoorAmU
import Derived.DataReads
import Derived.ChangeOld
namespace Go.Am
open Go Go.RowKit
set_option linter.unusedSimpArgs false
set_option linter.unusedVariables false

/-- One after the other. -/
def Cat : List (List V → Prop) → List V → Prop
  | [], vs => vs = []
  | p :: ps, vs => ∃ a b, vs = a ++ b ∧ p a ∧ Cat ps b
/-- These cells are of type t. -/
def WT (P : Program) : Nat → TypeId → List V → Prop
  | 0, _, _ => False
  | d + 1, t, vs => match P.underlying t with
    | some .bool => ∃ b, vs = [.sc (.bool b)]
    | some (.int k) => ∃ n, vs = [.sc (.int k n)] ∧ (Lit.int k n).wf = true
    | some .string => ∃ s, vs = [.sc (.string s)] ∧ s.size ≤ Go.maxLen
    | some (.slice e) => 0 < P.cellsOf e → ∃ n f, vs = [.ro (P.cellsOf e) n f] ∧ n ≤ Go.maxLen ∧ ∀ j, j < n → WT P d e (f j)
    | some (.struct fs) => Cat (fs.toList.map fun f => WT P d f.type) vs
    | some (.array n e) => Cat ((List.replicate n e).map fun e => WT P d e) vs
    | _ => True
/-- A value of type t, as a parameter. -/
def WTV (P : Program) (t : TypeId) (v : V) : Prop :=
  ∃ d, match P.underlying t with
    | some (.struct _) => ∃ vs, v = .agg vs ∧ WT P d t vs
    | some (.array _ _) => ∃ vs, v = .agg vs ∧ WT P d t vs
    | _ => WT P d t [v]
/-- The parts lie one after the other. -/
def packL (P : Program) : List Field → Nat → Option Nat
  | [], o => some o
  | f :: fs, o => if f.offset = o ∧ f.type < P.types.size then packL P fs (o + P.cellsOf f.type) else none
def packB (P : Program) : Bool := (List.range P.types.size).all fun t => match P.underlying t with
  | some (.struct fs) => packL P fs.toList 0 == some (P.cellsOf t)
  | some (.array n e) => P.cellsOf t == n * P.cellsOf e && decide (e < P.types.size)
  | some (.slice e) => decide (e < P.types.size)
  | _ => true
abbrev DB : Bt := fun _ => none
abbrev DD : Pr := fun _ => False

/-- What the pieces of a list of cells give, joined. -/
theorem mapM_mem {α β : Type} {f : α → Option β} : ∀ {l : List α} {ys : List β}, l.mapM f = some ys → ∀ x ∈ l, ∃ y, f x = some y
  | [], _, _, x, hx => by cases hx
  | a :: l, ys, h, x, hx => by
    rw [List.mapM_cons] at h
    cases ha : f a with
    | none => rw [ha] at h; simp at h
    | some y =>
      rw [ha] at h
      cases hl : l.mapM f with
      | none => rw [hl] at h; simp at h
      | some zs =>
        rcases List.mem_cons.1 hx with e | e
        · subst e; exact ⟨y, ha⟩
        · exact mapM_mem hl x e

structure Gd (S : Pr) (w : World) (vs : List V) (us : List Value) : Prop where
  den : denL DB S w DD vs us
  pure : pureL vs = true
  one : us.all Value.oneCell' = true
theorem denL_app {β : Bt} {S D : Pr} {w : World} : ∀ {as bs : List V} {us vs : List Value}, denL β S w D as us → denL β S w D bs vs → denL β S w D (as ++ bs) (us ++ vs)
  | [], bs, us, vs, h, g => by simp only [denL] at h; subst h; exact g
  | a :: as, bs, us, vs, h, g => by
    simp only [denL] at h
    obtain ⟨x, xs, rfl, h1, h2⟩ := h
    simp only [List.cons_append, denL]
    exact ⟨x, _, rfl, h1, denL_app h2 g⟩
theorem pureL_app : ∀ {as bs : List V}, pureL as = true → pureL bs = true → pureL (as ++ bs) = true
  | [], bs, _, g => g
  | a :: as, bs, h, g => by
    simp only [pureL, Bool.and_eq_true, List.cons_append] at h ⊢
    exact ⟨h.1, pureL_app h.2 g⟩
theorem Gd.app {S : Pr} {w : World} {as bs : List V} {us vs : List Value} (h : Gd S w as us) (g : Gd S w bs vs) : Gd S w (as ++ bs) (us ++ vs) :=
  ⟨denL_app h.den g.den, pureL_app h.pure g.pure, by rw [List.all_append, h.one, g.one]; rfl⟩
theorem Gd.nil {S : Pr} {w : World} : Gd S w [] [] := ⟨by simp [denL], rfl, rfl⟩
theorem Gd.one1 {S : Pr} {w : World} {u : Value} (h : u.oneCell' = true) : Gd S w [.sc u] [u] := ⟨by simp [denL, Am.den], rfl, by simp [h]⟩

theorem cat_pieces {S : Pr} {w : World} {cs : List Value} {n : Nat} {p : List V → Prop} (hn : n ≤ cs.length) (h : ∃ vs, Gd S w vs (cs.take n) ∧ p vs) {ps : List (List V → Prop)} (g : ∃ vs, Gd S w vs (cs.drop n) ∧ Cat ps vs) :
    ∃ vs, Gd S w vs cs ∧ Cat (p :: ps) vs := by
  obtain ⟨a, ha, pa⟩ := h
  obtain ⟨b, hb, pb⟩ := g
  exact ⟨a ++ b, by have := ha.app hb; rwa [List.take_append_drop] at this, a, b, rfl, pa, pb⟩

theorem open_cells {H : Type} {enc : TypeId × Value → H} {P : Program} {w : World} {sp : Nat → Bool} {held : Bool} (hp : packB P = true) :
    ∀ (d : Nat) (t : TypeId) (cs : List Value) (x : DataW H × List MemPlace), t < P.types.size → DataW.trod enc P w 0 sp held d t cs = some x → ∃ vs, Gd (· < w.heap.size) w vs cs ∧ WT P d t vs := by
  intro d
  induction d with
  | zero => intro t cs x _ h; simp [DataW.trod] at h
  | succ d ih =>
    intro t cs x ht h
    have fields : ∀ (fs : List Field) (o m : Nat) (cs : List Value) (ys : List (DataW H × List MemPlace)), packL P fs o = some m → cs.length = m →
        fs.mapM (fun f => DataW.trod enc P w 0 sp held d f.type ((cs.drop f.offset).take (P.cellsOf f.type))) = some ys →
        ∃ vs, Gd (· < w.heap.size) w vs (cs.drop o) ∧ Cat (fs.map fun f => WT P d f.type) vs := by
      intro fs
      induction fs with
      | nil =>
        intro o m cs ys hp hl _
        simp only [packL, Option.some.injEq] at hp
        subst hp
        refine ⟨[], ?_, rfl⟩
        rw [List.drop_of_length_le (by omega)]
        exact Gd.nil
      | cons f fs ihf =>
        intro o m cs ys hp hl hm
        simp only [packL] at hp
        split at hp
        · rename_i ho
          obtain ⟨ho, hft⟩ := ho
          obtain ⟨y, hy⟩ := mapM_mem hm f (.head _)
          rw [List.mapM_cons, hy] at hm
          have hle : o + P.cellsOf f.type ≤ m := by
            have : ∀ (l : List Field) (o m : Nat), packL P l o = some m → o ≤ m := by
              intro l
              induction l with
              | nil => intro o m h; simp only [packL, Option.some.injEq] at h; omega
              | cons g l ih => intro o m h; simp only [packL] at h; split at h; have := ih _ _ h; omega; cases h
            exact this _ _ _ hp
          refine cat_pieces (n := P.cellsOf f.type) (by simp only [List.length_drop]; omega) ?_ ?_
          · rw [ho] at hy
            exact ih _ _ _ hft hy
          · cases hl' : fs.mapM (fun f => DataW.trod enc P w 0 sp held d f.type ((cs.drop f.offset).take (P.cellsOf f.type))) with
            | none => rw [hl'] at hm; simp at hm
            | some zs =>
              rw [List.drop_drop]
              exact ihf _ _ _ _ hp hl hl'
        · cases hp
    have items : ∀ (n : Nat) (e : TypeId) (cs : List Value), e < P.types.size → cs.length = n * P.cellsOf e →
        (∀ i, i < n → ∃ y, DataW.trod enc P w 0 sp held d e ((cs.drop (i * P.cellsOf e)).take (P.cellsOf e)) = some y) →
        ∃ vs, Gd (· < w.heap.size) w vs cs ∧ Cat ((List.replicate n e).map fun e => WT P d e) vs := by
      intro n
      induction n with
      | zero =>
        intro e cs _ hl _
        have : cs = [] := List.length_eq_zero_iff.1 (by omega)
        subst this
        exact ⟨[], Gd.nil, rfl⟩
      | succ n ihn =>
        intro e cs het hl h
        simp only [List.replicate_succ, List.map_cons]
        refine cat_pieces (n := P.cellsOf e) (by rw [hl, Nat.add_mul]; omega) ?_ ?_
        · obtain ⟨y, hy⟩ := h 0 (by omega)
          simp only [Nat.zero_mul, List.drop_zero] at hy
          exact ih _ _ _ het hy
        · refine ihn e _ het (by rw [List.length_drop, hl, Nat.add_mul]; omega) fun i hi => ?_
          obtain ⟨y, hy⟩ := h (i + 1) (by omega)
          refine ⟨y, ?_⟩
          rw [List.drop_drop, show P.cellsOf e + i * P.cellsOf e = (i + 1) * P.cellsOf e by rw [Nat.add_mul]; omega]
          exact hy
    have hpk : ∀ x, P.underlying t = some x → (match (some x : Option TypeDesc) with
        | some (.struct fs) => packL P fs.toList 0 == some (P.cellsOf t)
        | some (.array n e) => P.cellsOf t == n * P.cellsOf e && decide (e < P.types.size)
        | some (.slice e) => decide (e < P.types.size)
        | _ => true) = true := by
      intro x hx
      have := List.all_eq_true.1 hp t (by simp only [List.mem_range]; exact ht)
      rwa [hx] at this
    unfold DataW.trod at h
    unfold WT
    split at h
    · rename_i b hu; rw [hu]; exact ⟨_, Gd.one1 rfl, _, rfl⟩
    · rename_i k k' n hu
      rw [hu]
      split at h
      · rename_i hc; obtain ⟨rfl, hw⟩ := hc; exact ⟨_, Gd.one1 rfl, _, rfl, hw⟩
      · cases h
    · rename_i hu; rw [hu]; exact ⟨_, Gd.one1 rfl, trivial⟩
    · rename_i s hu
      rw [hu]
      split at h
      · rename_i hc; exact ⟨_, Gd.one1 rfl, _, rfl, hc⟩
      · cases h
    · rename_i hu; rw [hu]; exact ⟨_, Gd.one1 rfl, trivial⟩
    · rename_i hu; rw [hu]; exact ⟨_, Gd.one1 rfl, trivial⟩
    · rename_i e hu
      rw [hu]
      by_cases he : 0 < P.cellsOf e
      · refine ⟨[.ro (P.cellsOf e) 0 (fun _ => [])], ⟨?_, rfl, rfl⟩, fun _ => ⟨0, _, rfl, Nat.zero_le _, fun j hj => absurd hj (Nat.not_lt_zero _)⟩⟩
        simp only [denL, Am.den]
        exact ⟨_, _, rfl, ⟨Nat.zero_le _, none, 0, ⟨0, 0, none⟩, fun _ => [], rfl, Nat.le_refl _, fun h => absurd h (Nat.lt_irrefl _), fun j hj => absurd hj (Nat.not_lt_zero _)⟩, rfl⟩
      · exact ⟨_, Gd.one1 rfl, fun h => absurd h he⟩
    · rename_i e a len cap hu
      rw [hu]
      by_cases he : 0 < P.cellsOf e
      · simp only at h
        split at h
        · rename_i hc
          obtain ⟨_, h1, h2⟩ := hc
          cases hm : (List.range len).mapM (fun i => (w.cells? 0 (a.add (i * P.cellsOf e)) (P.cellsOf e)).bind (DataW.trod enc P w 0 sp held d e)) with
          | none => rw [hm] at h; simp at h
          | some zs =>
            have key : ∀ j, j < len → ∃ (vs : List V) (us : List Value), Gd (· < w.heap.size) w vs us ∧ WT P d e vs ∧ us.length = P.cellsOf e ∧ a.block < w.heap.size ∧ ∀ i x, us[i]? = some x → w.cell? (a.add (j * P.cellsOf e + i)) = some x := by
              intro j hj
              obtain ⟨y, hy⟩ := mapM_mem hm j (by simpa using hj)
              cases hcs : w.cells? 0 (a.add (j * P.cellsOf e)) (P.cellsOf e) with
              | none => rw [hcs] at hy; simp at hy
              | some us =>
                rw [hcs] at hy
                obtain ⟨vs, g1, g2⟩ := ih _ _ _ (by simpa using hpk _ hu) hy
                obtain ⟨_, q1, q2⟩ := World.cells?_some hcs
                have hb := World.cells?_block hcs he
                rw [add_block] at hb
                refine ⟨vs, us, g1, g2, q1, hb, fun i x hx => ?_⟩
                have hi : i < P.cellsOf e := by
                  rcases Nat.lt_or_ge i us.length with g | g
                  · omega
                  · rw [List.getElem?_eq_none g] at hx; cases hx
                rw [← add_add, q2 i hi, hx]
            let f : Nat → List V := fun j => if hj : j < len then Classical.choose (key j hj) else []
            let us : Nat → List Value := fun j => if hj : j < len then Classical.choose (Classical.choose_spec (key j hj)) else []
            have hf : ∀ j, j < len → Gd (· < w.heap.size) w (f j) (us j) ∧ WT P d e (f j) ∧ (us j).length = P.cellsOf e ∧ a.block < w.heap.size ∧ ∀ i x, (us j)[i]? = some x → w.cell? (a.add (j * P.cellsOf e + i)) = some x := by
              intro j hj
              have := Classical.choose_spec (Classical.choose_spec (key j hj))
              simp only [f, us, hj, dif_pos]
              exact this
            refine ⟨[.ro (P.cellsOf e) len f], ⟨?_, rfl, rfl⟩, fun _ => ⟨len, f, rfl, Nat.le_trans h1 h2, fun j hj => (hf j hj).2.1⟩⟩
            simp only [denL, Am.den]
            refine ⟨_, _, rfl, ⟨Nat.le_trans h1 h2, some a, cap, a, us, rfl, h1, fun h0 => ⟨rfl, (hf 0 h0).2.2.2.1⟩, fun j hj => ?_⟩, rfl⟩
            obtain ⟨g1, g2, g3, g4, g5⟩ := hf j hj
            exact ⟨g1.den, g1.pure, g3, g1.one, g5⟩
        · cases h
      · exact ⟨_, Gd.one1 rfl, fun h => absurd h he⟩
    · rename_i cs _x c2 fs hu
      rw [hu]
      split at h
      · rename_i hc
        have hk := hpk _ hu
        simp only [beq_iff_eq] at hk
        cases hm : fs.toList.mapM (fun f => DataW.trod enc P w 0 sp held d f.type ((cs.drop f.offset).take (P.cellsOf f.type))) with
        | none => rw [hm] at h; simp at h
        | some ys => have := fields _ _ _ _ _ hk hc hm; simpa using this
      · cases h
    · rename_i cs _x c2 n e hu
      rw [hu]
      split at h
      · rename_i hc
        have hk := hpk _ hu
        simp only [Bool.and_eq_true, beq_iff_eq, decide_eq_true_eq] at hk
        cases hm : (List.range n).mapM (fun i => DataW.trod enc P w 0 sp held d e ((cs.drop (i * P.cellsOf e)).take (P.cellsOf e))) with
        | none => rw [hm] at h; simp at h
        | some ys => exact items _ _ _ hk.2 (by rw [hc, hk.1]) fun i hi => mapM_mem hm i (by simpa using hi)
      · cases h
    all_goals first
      | (cases h; done)
      | (rename_i hu; rw [hu]; exact ⟨_, Gd.one1 rfl, trivial⟩)
      | skip

theorem okWide_agg {P : Program} {W : World} {base : Nat} {t : TypeId} {v : Value} (h : Value.okWide P W .any base t v) :
    (∃ fs, P.underlying t = some (.struct fs) ∧ ∃ cs, v = .agg cs) ∨ (∃ n e, P.underlying t = some (.array n e) ∧ ∃ cs, v = .agg cs) ∨
    ((∀ fs, P.underlying t ≠ some (.struct fs)) ∧ (∀ n e, P.underlying t ≠ some (.array n e)) ∧ v.cells.toList = [v]) := by
  unfold Value.okWide at h
  split at h
  · rename_i fs hu
    obtain ⟨cs, rfl, _⟩ := h
    exact .inl ⟨fs, hu, cs, rfl⟩
  · rename_i n e hu
    obtain ⟨cs, rfl, _⟩ := h
    exact .inr (.inl ⟨n, e, hu, cs, rfl⟩)
  · rename_i h1 h2
    refine .inr (.inr ⟨h1, h2, ?_⟩)
    cases v with
    | agg cs =>
      exfalso
      unfold Cell.okWide at h
      split at h <;> first | (rename_i hv; cases hv; done) | (unfold Cell.ok at h; split at h <;> first | (rename_i hv; cases hv; done) | exact h | skip) | skip
      all_goals simp_all
    | _ => rfl

theorem open_param {H : Type} {enc : TypeId × Value → H} {P : Program} {w : World} {sp : Nat → Bool} {held : Bool} (hp : packB P = true) {t : TypeId} (ht : t < P.types.size) {v : Value} {base : Nat} (hok : Value.okWide P w .any base t v)
    {x : DataW H} {ps : List MemPlace} (h : DataW.Trod enc P w 0 sp held t v x ps) : ∃ y : V, den DB (· < w.heap.size) w DD y v ∧ WTV P t y := by
  obtain ⟨d, hd⟩ := h
  obtain ⟨vs, g, hw⟩ := open_cells hp d t _ _ ht hd
  rcases okWide_agg hok with ⟨fs, hu, cs, rfl⟩ | ⟨n, e, hu, cs, rfl⟩ | ⟨h1, h2, hv⟩
  · refine ⟨.agg vs, ?_, d, ?_⟩
    · simp only [Am.den]
      exact ⟨cs.toList, rfl, g.den, g.one⟩
    · rw [hu]; exact ⟨vs, rfl, hw⟩
  · refine ⟨.agg vs, ?_, d, ?_⟩
    · simp only [Am.den]
      exact ⟨cs.toList, rfl, g.den, g.one⟩
    · rw [hu]; exact ⟨vs, rfl, hw⟩
  · rw [hv] at g
    have hl := g.den
    cases vs with
    | nil => simp [denL] at hl
    | cons y ys =>
      simp only [denL] at hl
      obtain ⟨a, b, e1, e2, e3⟩ := hl
      simp only [List.cons.injEq] at e1
      obtain ⟨rfl, rfl⟩ := e1
      cases ys with
      | cons z zs => simp [denL] at e3
      | nil =>
        refine ⟨y, e2, d, ?_⟩
        split
        · rename_i fs hu; exact absurd hu (h1 _)
        · rename_i n e hu; exact absurd hu (h2 _ _)
        · exact hw

/-- What v' says follows from what v says. -/
def Le (v v' : V) : Prop := ∀ β S w D u, den β S w D v u → den β S w D v' u
def LeL (a b : List V) : Prop := ∀ β S w D us, denL β S w D a us → denL β S w D b us
theorem Le.refl (v : V) : Le v v := fun _ _ _ _ _ h => h
theorem LeL.refl (v : List V) : LeL v v := fun _ _ _ _ _ h => h
theorem LeL.cons {v v' : V} {l l' : List V} (h : Le v v') (g : LeL l l') : LeL (v :: l) (v' :: l') := by
  intro β S w D us hd
  simp only [denL] at hd ⊢
  obtain ⟨x, xs, rfl, h1, h2⟩ := hd
  exact ⟨x, xs, rfl, h _ _ _ _ _ h1, g _ _ _ _ _ h2⟩
theorem Le.agg {a b : List V} (h : LeL a b) : Le (.agg a) (.agg b) := by
  intro β S w D u hd
  simp only [Am.den] at hd ⊢
  obtain ⟨us, h1, h2, h3⟩ := hd
  exact ⟨us, h1, h _ _ _ _ _ h2, h3⟩
theorem Le.ro {k n : Nat} {f g : Nat → List V} (h : ∀ j, j < n → LeL (f j) (g j) ∧ pureL (g j) = true) : Le (.ro k n f) (.ro k n g) := by
  intro β S w D u hd
  simp only [Am.den] at hd ⊢
  obtain ⟨h0, A, m, a, us, h1, h2, h3, h4⟩ := hd
  refine ⟨h0, A, m, a, us, h1, h2, h3, fun j hj => ?_⟩
  obtain ⟨g1, g2, g3, g4, g5⟩ := h4 j hj
  exact ⟨(h j hj).1 _ _ _ _ _ g1, (h j hj).2, g3, g4, g5⟩
theorem Le.ro_eq {k n : Nat} {f g : Nat → List V} (h : ∀ j, j < n → f j = g j ∧ pureL (g j) = true) : Le (.ro k n f) (.ro k n g) :=
  Le.ro fun j hj => ⟨by rw [(h j hj).1]; exact LeL.refl _, (h j hj).2⟩
def nthI (l : List V) (i : Nat) : Int := match l.getD i .junk with | .sc (.int _ n) => n | _ => 0
def nthB (l : List V) (i : Nat) : Bool := match l.getD i .junk with | .sc (.bool n) => n | _ => false
def nthS (l : List V) (i : Nat) : ByteArray := match l.getD i .junk with | .sc (.string n) => n | _ => ByteArray.empty
/-- Numbers of 64 bits. -/
def inR (a : Int) : Prop := -9223372036854775808 ≤ a ∧ a ≤ 9223372036854775807
theorem wf_i64 {n : Int} (h : (Lit.int .i64 n).wf = true) : inR n := by
  simp only [Lit.wf, Bool.and_eq_true, decide_eq_true_eq] at h
  have e1 : IntKind.min .i64 = -9223372036854775808 := by decide
  have e2 : IntKind.max .i64 = 9223372036854775807 := by decide
  rw [e1, e2] at h
  exact h
theorem SC.lawL {E : Env} {f : FuncId} {l : List V} (h : ∃ l', LeL l l' ∧ SC E f l' [] (.ret (.sc (.bool true)) [])) {w : World} (hG : Glob E (· < w.heap.size) w) {us : List Value} (hd : denL (fun _ => none) (· < w.heap.size) w (fun _ => False) l us) :
    Calls E.P f us.toArray w fun e w' => e = .returned (.bool true) ∧ Below w.heap.size w w' := by
  obtain ⟨l', h1, h2⟩ := h
  exact h2.law hG (h1 _ _ _ _ _ hd)

/-! ### What a type's cells are -/
def structP (P : Program) (t : TypeId) : Option (List TypeId) := match P.underlying t with | some (.struct fs) => some (fs.toList.map (·.type)) | some (.array n e) => some (List.replicate n e) | _ => none
def kindP (P : Program) (t : TypeId) : Option IntKind := match P.underlying t with | some (.int k) => some k | _ => none
def boolP (P : Program) (t : TypeId) : Bool := match P.underlying t with | some .bool => true | _ => false
theorem WT.int {P : Program} {d : Nat} {t : TypeId} {vs : List V} {k : IntKind} (h : WT P d t vs) (ht : kindP P t = some k) : ∃ n, vs = [.sc (.int k n)] ∧ (Lit.int k n).wf = true := by
  cases d with
  | zero => cases h
  | succ d =>
    unfold kindP at ht
    unfold WT at h
    split at ht
    · rename_i hu; rw [hu] at h; cases ht; exact h
    · cases ht
theorem WT.i64 {P : Program} {d : Nat} {t : TypeId} {vs : List V} (h : WT P d t vs) (ht : kindP P t = some .i64) : ∃ n, vs = [.sc (.int .i64 n)] ∧ inR n := by
  obtain ⟨n, h1, h2⟩ := h.int ht
  exact ⟨n, h1, wf_i64 h2⟩
theorem WT.bool {P : Program} {d : Nat} {t : TypeId} {vs : List V} (h : WT P d t vs) (ht : boolP P t = true) : ∃ b, vs = [.sc (.bool b)] := by
  cases d with
  | zero => cases h
  | succ d =>
    unfold boolP at ht
    unfold WT at h
    split at ht
    · rename_i hu; rw [hu] at h; exact h
    · cases ht
theorem WT.str {P : Program} {d : Nat} {t : TypeId} {vs : List V} (h : WT P d t vs) (ht : isStrP P t = true) : ∃ s, vs = [.sc (.string s)] ∧ s.size ≤ Go.maxLen := by
  cases d with
  | zero => cases h
  | succ d =>
    unfold isStrP at ht
    unfold WT at h
    split at ht
    · rename_i hu; rw [hu] at h; exact h
    · cases ht
theorem WT.slice {P : Program} {d : Nat} {t e : TypeId} {vs : List V} {c : Nat} (h : WT P d t vs) (ht : elemP P t = some e) (hc : P.cellsOf e = c) (h0 : 0 < c) : ∃ n f, vs = [.ro c n f] ∧ n ≤ Go.maxLen ∧ ∃ d', ∀ j, j < n → WT P d' e (f j) := by
  cases d with
  | zero => cases h
  | succ d =>
    unfold elemP at ht
    unfold WT at h
    split at ht
    · rename_i hu; rw [hu] at h; cases ht; subst hc
      obtain ⟨n, f, h1, h2, h3⟩ := h h0
      exact ⟨n, f, h1, h2, d, h3⟩
    · cases ht
theorem WT.struct {P : Program} {d : Nat} {t : TypeId} {vs : List V} {l : List TypeId} (h : WT P d t vs) (ht : structP P t = some l) : ∃ d', Cat (l.map (WT P d')) vs := by
  cases d with
  | zero => cases h
  | succ d =>
    unfold structP at ht
    unfold WT at h
    split at ht
    · rename_i hu; rw [hu] at h; cases ht; refine ⟨d, ?_⟩; rw [List.map_map]; exact h
    · rename_i hu; rw [hu] at h; cases ht; exact ⟨d, h⟩
    · cases ht
theorem WTV.struct {P : Program} {t : TypeId} {v : V} {l : List TypeId} (h : WTV P t v) (ht : structP P t = some l) : ∃ d vs, v = .agg vs ∧ WT P d t vs := by
  obtain ⟨d, h⟩ := h
  unfold structP at ht
  split at ht
  · rename_i hu; rw [hu] at h; obtain ⟨vs, h1, h2⟩ := h; exact ⟨d, vs, h1, h2⟩
  · rename_i hu; rw [hu] at h; obtain ⟨vs, h1, h2⟩ := h; exact ⟨d, vs, h1, h2⟩
  · cases ht
theorem WTV.one {P : Program} {t : TypeId} {v : V} (h : WTV P t v) (ht : structP P t = none) : ∃ d, WT P d t [v] := by
  obtain ⟨d, h⟩ := h
  unfold structP at ht
  refine ⟨d, ?_⟩
  split at ht
  · cases ht
  · cases ht
  · rename_i h1 h2
    split at h
    · rename_i hu; exact absurd hu (h1 _)
    · rename_i hu; exact absurd hu (h2 _ _)
    · exact h
theorem WTV.i64 {P : Program} {t : TypeId} {v : V} (h : WTV P t v) (h1 : structP P t = none) (h2 : kindP P t = some .i64) : ∃ n, v = .sc (.int .i64 n) ∧ inR n := by
  obtain ⟨d, g⟩ := h.one h1
  obtain ⟨n, e, r⟩ := g.i64 h2
  exact ⟨n, by simpa using e, r⟩
theorem WTV.int {P : Program} {t : TypeId} {v : V} {k : IntKind} (h : WTV P t v) (h1 : structP P t = none) (h2 : kindP P t = some k) : ∃ n, v = .sc (.int k n) ∧ (Lit.int k n).wf = true := by
  obtain ⟨d, g⟩ := h.one h1
  obtain ⟨n, e, r⟩ := g.int h2
  exact ⟨n, by simpa using e, r⟩
theorem WTV.str {P : Program} {t : TypeId} {v : V} (h : WTV P t v) (h1 : structP P t = none) (h2 : isStrP P t = true) : ∃ s, v = .sc (.string s) ∧ s.size ≤ Go.maxLen := by
  obtain ⟨d, g⟩ := h.one h1
  obtain ⟨n, e, r⟩ := g.str h2
  exact ⟨n, by simpa using e, r⟩
theorem WTV.slice {P : Program} {t e : TypeId} {v : V} {c : Nat} (h : WTV P t v) (h1 : structP P t = none) (ht : elemP P t = some e) (hc : P.cellsOf e = c) (h0 : 0 < c) : ∃ n f, v = .ro c n f ∧ n ≤ Go.maxLen ∧ ∃ d', ∀ j, j < n → WT P d' e (f j) := by
  obtain ⟨d, g⟩ := h.one h1
  obtain ⟨n, f, e, r⟩ := g.slice ht hc h0
  exact ⟨n, f, by simpa using e, r⟩
end Go.Am
