/- Slice literals, append, ranges over strings. -/
import Derived.Test.YtniogljhkjbcgaaDoorAmG
namespace Go.Am
open Go Go.RowKit
set_option linter.unusedSimpArgs false
set_option linter.unusedVariables false

theorem fzU_mem {l : List V} {i : Nat} : (i, (none : Option Chunk)) ∈ fzU l ↔ ∃ v ∈ l, (i, (none : Option Chunk)) ∈ gone1 v := by simp [fzU]
section
variable {P : Program} {β : Bt} {S D : Pr} {H : Hp} {w : World} {new : Nat} {o : Oper} {a : Act} {k : KR} {r : Ans}

theorem buildSlice_sound {pr : Bool} (hM : Mem β S D H w) (hn : ¬ D new) {ev : Operand → V} (hev : ∀ x, den β S w D (ev x) (a.eval x)) {t : TypeId} {n : Nat} {ps : Array (Nat × Operand)} (ho : o.op = .buildSlice t n ps)
    (h : effBuildSlice P pr t n ps.toList ev H new k = some r) : Good P β S D H new o a w k r := by
  unfold effBuildSlice at h
  split at h
  · rename_i e he
    split at h
    · rename_i c hc
      split at h
      · rename_i hcond
        obtain ⟨hok, hone, hc0, hnc, hps, hz⟩ := hcond
        simp only [fLL_eq] at h
        obtain ⟨z, hz⟩ := Option.isSome_iff_exists.1 hz
        obtain ⟨y, hy, rfl⟩ := zero_run (w := w) hz
        have hpl : ps.toList.length = n := by have := congrArg List.length hps; simpa using this
        -- the cells of the parts
        have hcells : ∀ p ∈ ps.toList, ∃ us : List Value, (a.eval p.2).cells = us.toArray ∧ denL β S w D (ev p.2).cells us ∧ us.all Value.oneCell' = true := fun p hp => cells_den (by rw [List.all_eq_true] at hone; exact hone p hp) (hev p.2)
        have hus : ∀ p : Nat × Operand, ∃ us : List Value, p ∈ ps.toList → (a.eval p.2).cells = us.toArray ∧ denL β S w D (ev p.2).cells us ∧ us.all Value.oneCell' = true := fun p => by
          by_cases hp : p ∈ ps.toList
          · obtain ⟨us, hu⟩ := hcells p hp; exact ⟨us, fun _ => hu⟩
          · exact ⟨[], fun h => absurd h hp⟩
        let g : Nat × Operand → List Value := fun p => (hus p).choose
        have hg : ∀ p ∈ ps.toList, (a.eval p.2).cells = (g p).toArray ∧ denL β S w D (ev p.2).cells (g p) ∧ (g p).all Value.oneCell' = true := fun p hp => (hus p).choose_spec hp
        -- given up
        obtain ⟨d1, d2, d3⟩ := hM.drop (fzU (ps.toList.flatMap fun p => (ev p.2).cells)) (fzU_none _)
        have hfz : ∀ p ∈ ps.toList, denL (dropB β ((fzU (ps.toList.flatMap fun p => (ev p.2).cells)).map (·.1))) (goneB β S ((fzU (ps.toList.flatMap fun p => (ev p.2).cells)).map (·.1))) w D (fzL H (ev p.2).cells) (g p) := fun p hp =>
          fzL_sound hM d3 (fun _ h => .inl h) (fun i b m hi hb => .inr ⟨i, m, List.mem_map.2 ⟨_, by
            rw [fzU_mem] at hi ⊢
            obtain ⟨v, hv, hg⟩ := hi
            exact ⟨v, List.mem_flatMap.2 ⟨p, hp, hv⟩, hg⟩, rfl⟩, hb⟩) (hg p hp).2.1
        have hgl : ∀ (j : Nat) (p : Nat × Operand), ps.toList[j]? = some p → (g p).length = c ∧ pureL (fzL H (ev p.2).cells) = true := fun j p hj => by
          have hjn : j < n := by rw [← hpl]; exact (List.getElem?_eq_some_iff.1 hj).1
          obtain ⟨q1, q2, _⟩ := allOk_spec hok j hjn
          simp only [partAt, hj] at q1 q2
          refine ⟨?_, q2⟩
          have := denL_len (hg p (List.mem_of_getElem? hj)).2.1
          rw [← this]
          simpa [fzL] using q1
        have hrun : (execOp a.eval o).run P w = .ok (.value (.slice (some ⟨w.heap.size, 0, none⟩) n n)) (w.alloc (.cells ((ps.toList.map g).flatten).toArray e)) := by
          have hm : (ps.map fun (i, x) => (i, a.eval x) : Array (Nat × Value)).toList = ps.toList.map fun p => (p.1, a.eval p.2) := by simp
          have hsz : ¬ (n * c > 2 ^ 24) := by omega
          have hfill : ∀ cs : Array Value, cs.size = n * c → Instr.fill (fun i => some (i * c, c)) cs (ps.toList.map fun p => (p.1, a.eval p.2)) = some ((ps.toList.map g).flatten).toArray := by
            intro cs hcs
            obtain ⟨cl⟩ := cs
            have := fill_parts c (ps.toList.map fun p => (p.1, a.eval p.2)) (ps.toList.map g) 0 [] cl (by simp) (fun vs hvs => by
              obtain ⟨p, hp, rfl⟩ := List.mem_map.1 hvs
              obtain ⟨j, hj⟩ := List.getElem?_of_mem hp
              exact (hgl j p hj).1) (by simp) (by simpa [hpl] using hcs) (fun i p hp => by
              rw [List.getElem?_map] at hp
              cases hq : ps.toList[i]? with
              | none => rw [hq] at hp; cases hp
              | some q =>
                rw [hq] at hp
                simp only [Option.map_some, Option.some.injEq] at hp
                subst hp
                refine ⟨?_, g q, by rw [List.getElem?_map, hq]; rfl, (hg q (List.mem_of_getElem? hq)).1⟩
                have hin : i < n := by rw [← hpl]; exact (List.getElem?_eq_some_iff.1 hq).1
                have := congrArg (fun l => l[i]?) hps
                simp only [List.getElem?_map, hq, Option.map_some] at this
                rw [List.getElem?_range hin] at this
                simp only [Option.some.injEq] at this
                simp only [Nat.zero_add]
                exact this)
            simpa using this
          by_cases hk0 : n * c = 0
          · simp only [execOp, ho, Instr.buildSlice, Sem.run_bind, run_underlying (elem_under he), Result.andThen_ok, run_sz hc, hk0, gt_iff_lt, Nat.not_lt_zero, if_false, if_true, Sem.run_pure]
            rw [hm, hfill _ (by simp [hk0])]
            simp only [newRow, newObj, Sem.run_bind, Sem.run, Result.andThen_ok, Sem.run_pure, World.alloc]
          · simp only [execOp, ho, Instr.buildSlice, Sem.run_bind, run_underlying (elem_under he), Result.andThen_ok, run_sz hc, hsz, hk0, if_false, hy, Sem.run_pure]
            rw [hm, hfill _ (by simp)]
            simp only [newRow, newObj, Sem.run_bind, Sem.run, Result.andThen_ok, Sem.run_pure, World.alloc]
        have hnm : n ≤ maxLen := by have := Nat.le_mul_of_pos_right n hc0; simp only [maxLen]; omega
        have hflat : ∀ vs ∈ ps.toList.map g, vs.length = c := fun vs hvs => by
          obtain ⟨p, hp, rfl⟩ := List.mem_map.1 hvs
          obtain ⟨j, hj⟩ := List.getElem?_of_mem hp
          exact (hgl j p hj).1
        have hrow : rowOK (dropB β ((fzU (ps.toList.flatMap fun p => (ev p.2).cells)).map (·.1))) (goneB β S ((fzU (ps.toList.flatMap fun p => (ev p.2).cells)).map (·.1))) w D c n (fun i => fzL H (partAt ev ps.toList i)) ((ps.toList.map g).flatten).toArray := by
          intro j hj
          have hjl : j < ps.toList.length := by omega
          have hq : ps.toList[j]? = some ps.toList[j] := List.getElem?_eq_getElem hjl
          have hmem := List.mem_of_getElem? hq
          refine ⟨g ps.toList[j], ?_, ?_, (hgl j _ hq).1, (hg _ hmem).2.2, fun i x hx => ?_⟩
          · simp only [partAt, hq]; exact hfz _ hmem
          · simp only [partAt, hq]; exact (hgl j _ hq).2
          · have hic : i < c := by rw [← (hgl j _ hq).1]; exact (List.getElem?_eq_some_iff.1 hx).1
            rw [List.getElem?_toArray, flatten_get hflat j (g ps.toList[j]) (by rw [List.getElem?_map, hq]; rfl) i hic]
            exact hx
        have hsel : ∀ j, j < n → selF pr ((List.range n).map fun i => fzL H (partAt ev ps.toList i)) j = fzL H (partAt ev ps.toList j) := by
          intro j hj
          rw [selF_eq (c := c) (by simpa using hj) (fun x hx => ?_)]
          · simp [List.getD, List.getElem?_range hj]
          · obtain ⟨i, hi, rfl⟩ := List.mem_map.1 hx
            exact (allOk_spec hok i (by simpa using hi)).1
        replace hrow : rowOK (dropB β ((fzU (ps.toList.flatMap fun p => (ev p.2).cells)).map (·.1))) (goneB β S ((fzU (ps.toList.flatMap fun p => (ev p.2).cells)).map (·.1))) w D c n (selF pr ((List.range n).map fun i => fzL H (partAt ev ps.toList i))) ((ps.toList.map g).flatten).toArray := fun j hj => by rw [hsel j hj]; exact hrow j hj
        obtain ⟨u, w', β', S', q1, q2, q3, q4, q5, q6⟩ := good_row (o := o) (a := a) (new := new) d1 hn (e := e) (m := n) (b := w.heap.size) hc0 (Nat.le_refl _) hnm (by rw [List.size_toArray, flatten_len hflat]; simp [hpl]) (alloc_below w _) (Nat.le_refl _) (by show w.heap.size < (w.heap.push _).size; simp) (heap_alloc_new w _) hrow hrun
        refine ⟨_, h, u, w', β', S', q1, ?_, q3, d2.trans q4, d3.trans (fun _ h => h) q5, fun i b m hi hni => ?_⟩
        rotate_left
        · have hnd : i ∉ (fzU (ps.toList.flatMap fun p => (ev p.2).cells)).map (·.1) := fun hm => hni (by rw [List.map_append]; exact List.mem_append_left _ hm)
          exact q6 i b m (by unfold dropB; rw [if_neg hnd]; exact hi) (fun hm => hni (by rw [List.map_append]; exact List.mem_append_right _ hm))
        rw [updL_append]
        exact q2
      · cases h
    · cases h
  · cases h

theorem range_sound (hM : Mem β S D H w) (hn : ¬ D new) {t : TypeId} {x : Operand} {s : ByteArray} (ho : o.op = .range t x) (hu : isStrP P t = true) (hx : den β S w D (.sc (.string s)) (a.eval x)) :
    GoodR P β S D H new o a w (.val (.ptr new 0) [(new, some (.iter s 0))]) := by
  simp only [den] at hx
  have hu' : P.underlying t = some .string := by
    unfold isStrP at hu
    split at hu
    · assumption
    · cases hu
  have hrun := run_range_string (P := P) w t s hu'
  obtain ⟨g1, g2, g3⟩ := hM.new (m := 0) (c := .iter s 0) (b := w.heap.size) (w' := w.alloc (.stringIter s 0)) hn (span_sub D new) (span_new D new) (alloc_below w _) (Nat.le_refl _) (by show w.heap.size < (w.heap.push _).size; simp) (by
    simp only [chunkRel]
    exact heap_alloc_new w _)
  refine ⟨_, _, _, _, .inl (by simp only [execOp, ho, hx, Sem.run_bind, hrun, Result.andThen_ok, Sem.run_pure]; rfl), g1, ?_, g2, g3, fun i b m hi _ => (alloc_below w _).block b (hM.own i b m hi).1⟩
  simp only [den]
  refine ⟨⟨span_new D new, rfl⟩, fun b m h => ?_⟩
  rw [upd_same] at h
  cases h
  rfl
theorem next_sound (hM : Mem β S D H w) {x : Operand} {v : V} (ho : o.op = .next x true) (hx : den β S w D v (a.eval x)) (h : effNext v H k = some r) : Good P β S D H new o a w k r := by
  unfold effNext at h
  split at h
  · rename_i i p
    split at h
    · rename_i s q hi
      split at h
      · rename_i hp
        subst hp
        obtain ⟨b, m, hb, hr⟩ := hM.live i _ hi
        simp only [chunkRel] at hr
        simp only [den] at hx
        have hu := hx.2 b m hb
        split at h
        · rename_i hq
          have hlt := (hM.own i b m hb).1
          have hrun : (Instr.next (.pointer (some ⟨b, 0, none⟩)) true o.type).run P w = .ok (.tuple #[.bool true, .int .i64 q, .int .i32 (Utf8.decode s q).1]) { w with heap := w.heap.setIfInBounds b (.stringIter s (q + (Utf8.decode s q).2)) } := by
            simp [Instr.next, getObj, setObj, Sem.run_bind, Sem.run, hr, hq, goInt]
          obtain ⟨q1, q2⟩ := hM.put (w' := { w with heap := w.heap.setIfInBounds b (.stringIter s (q + (Utf8.decode s q).2)) }) (c' := .iter s (q + (Utf8.decode s q).2)) hi hb ⟨rfl, rfl, rfl, by simp, fun j _ hj => by
            have : b ≠ j := fun e => hj (by rw [e])
            simp [this]⟩ (by simp only [chunkRel]; simp [hlt])
          refine ⟨_, h, .tuple #[.bool true, .int .i64 q, .int .i32 (Utf8.decode s q).1], _, β, S, .inl ?_, q1.mono (span_sub D new), ?_, q2, Hb.refl _ _, fun i' b' m' hi' hn' => by
            have : b ≠ b' := fun e => by subst e; exact hn' (by have := hM.inj i' i _ _ _ hi' hb; simp [this])
            simp [this]⟩
          · simp only [execOp, ho, hu, Sem.run_bind, hrun, Result.andThen_ok, Sem.run_pure]
          · simp only [den, denL]
            exact ⟨_, rfl, _, _, rfl, rfl, _, _, rfl, rfl, _, _, rfl, rfl, rfl⟩
        · rename_i hq
          have hrun : (Instr.next (.pointer (some ⟨b, 0, none⟩)) true o.type).run P w = .ok (.tuple #[.bool false]) w := by
            simp [Instr.next, getObj, Sem.run, hr, hq]
          refine ⟨_, h, good_same hM (u := .tuple #[.bool false]) ?_ ?_⟩
          · simp only [execOp, ho, hu, Sem.run_bind, hrun, Result.andThen_ok, Sem.run_pure]
          · simp only [den, denL]
            exact ⟨_, rfl, _, _, rfl, rfl, rfl⟩
      · cases h
    · cases h
  · cases h

/-- A row moved to another name, and perhaps to another place. -/
theorem Mem.move (hM : Mem β S D H w) {D' : Pr} {w' : World} {i b m g cap n : Nat} {c c' : Chunk} (hi : H i = some c) (hb : β i = some (b, m)) (hn : ¬ D n) (hD : ∀ i, D i → D' i) (hDn : D' n) (hg : w.grownBy w' (some b)) (hgb : g = b ∨ w.heap.size ≤ g) (hlt : g < w'.heap.size)
    (hc : chunkRel (upd (upd β i none) n (some (g, cap))) S w' D' g cap c') :
    Mem (upd (upd β i none) n (some (g, cap))) S D' (upd (upd H i none) n (some c')) w' ∧ Evo β S w (upd (upd β i none) n (some (g, cap))) S w' ∧ Hb β (upd (upd β i none) n (some (g, cap))) D := by
  have hne : i ≠ n := fun e => hn (e ▸ hM.dom i b m hb)
  have hHb : Hb β (upd (upd β i none) n (some (g, cap))) D := fun j hj => by
    have hjn : j ≠ n := fun e => hn (e ▸ hj)
    rw [upd_ne _ _ hjn]
    by_cases hji : j = i
    · subst hji; rw [upd_same]; exact .inr rfl
    · rw [upd_ne _ _ hji]; exact .inl rfl
  have hin : ∀ j b' m', j ≠ n → upd (upd β i none) n (some (g, cap)) j = some (b', m') → j ≠ i ∧ β j = some (b', m') := by
    intro j b' m' hjn h
    rw [upd_ne _ _ hjn] at h
    by_cases hji : j = i
    · subst hji; rw [upd_same] at h; cases h
    · rw [upd_ne _ _ hji] at h; exact ⟨hji, h⟩
  have hk : Kept S w w' := fun x hx => hg.block x (hM.st x hx) (fun e => by cases e; exact (hM.own i b m hb).2 hx)
  have hgS : ¬ S g := by
    rcases hgb with rfl | h
    · exact (hM.own i g m hb).2
    · exact fun hs => by have := hM.st g hs; omega
  refine ⟨⟨?_, ?_, ?_, ?_, ?_, fun x hx => Nat.lt_of_lt_of_le (hM.st x hx) hg.size⟩, ⟨hg.os, hg.tape, hg.output, hg.size, fun b' hb' hno => hg.block b' hb' (fun e => by cases e; exact hno i m hb), fun _ h => h, fun _ h => .inl h, ?_⟩, hHb⟩
  · intro j d hd
    by_cases hjn : j = n
    · subst hjn; rw [upd_same] at hd; cases hd; exact ⟨g, cap, upd_same _ _ _, hc⟩
    · rw [upd_ne _ _ hjn] at hd
      by_cases hji : j = i
      · subst hji; rw [upd_same] at hd; cases hd
      · rw [upd_ne _ _ hji] at hd
        obtain ⟨b', m', h1, h2⟩ := hM.live j d hd
        refine ⟨b', m', by rw [upd_ne _ _ hjn, upd_ne _ _ hji]; exact h1, chunkRel_later hHb (fun _ h => h) hD hk (hg.block b' (hM.own j b' m' h1).1 (fun e => by cases e; exact hji (hM.inj j i _ _ _ h1 hb))) h2⟩
  · intro j hj
    by_cases hjn : j = n
    · subst hjn; rw [upd_same] at hj; cases hj
    · rw [upd_ne _ _ hjn] at hj ⊢
      by_cases hji : j = i
      · subst hji; rw [upd_same]
      · rw [upd_ne _ _ hji] at hj ⊢; exact hM.dead j hj
  · intro j b' m' h
    by_cases hjn : j = n
    · rw [hjn]; exact hDn
    · exact hD j (hM.dom j b' m' (hin j b' m' hjn h).2)
  · intro j b' m' h
    by_cases hjn : j = n
    · subst hjn; rw [upd_same] at h; cases h; exact ⟨hlt, hgS⟩
    · have := hM.own j b' m' (hin j b' m' hjn h).2
      exact ⟨Nat.lt_of_lt_of_le this.1 hg.size, this.2⟩
  · intro j j' b' m' m'' h1 h2
    have key : ∀ x m0, x ≠ n → upd (upd β i none) n (some (g, cap)) x = some (g, m0) → False := fun x m0 hx h => by
      obtain ⟨g1, g2⟩ := hin x g m0 hx h
      rcases hgb with rfl | h
      · exact g1 (hM.inj x i _ _ _ g2 hb)
      · have := (hM.own x g m0 g2).1; omega
    by_cases hj : j = n <;> by_cases hj' : j' = n
    · rw [hj, hj']
    · subst hj; rw [upd_same] at h1; cases h1; exact (key j' _ hj' h2).elim
    · subst hj'; rw [upd_same] at h2; cases h2; exact (key j _ hj h1).elim
    · exact hM.inj j j' b' m' m'' (hin j _ _ hj h1).2 (hin j' _ _ hj' h2).2
  · intro j b' m' h
    by_cases hjn : j = n
    · subst hjn; rw [upd_same] at h; cases h
      rcases hgb with rfl | h
      · exact .inr ⟨i, m, hb⟩
      · exact .inl h
    · exact .inr ⟨j, m', (hin j b' m' hjn h).2⟩

theorem elems_den (hM : Mem β S D H w) {y : V} {u : Value} {c m : Nat} {g : Nat → List V} (h : elemsOf H y = some (c, m, g)) (hy : den β S w D y u) :
    ∃ (A : Option Addr) (cap : Nat) (ad : Addr) (us : Nat → List Value), u = .slice A m cap ∧ (0 < m → A = some ad) ∧ ∀ j, j < m → denL β S w D (g j) (us j) ∧ pureL (g j) = true ∧ (us j).length = c ∧ (us j).all Value.oneCell' = true ∧ ∀ i x, (us j)[i]? = some x → w.cell? (ad.add (j * c + i)) = some x := by
  unfold elemsOf at h
  split at h
  · rename_i i z o l
    split at h
    · rename_i e cc n f hi
      split at h
      · rename_i hle
        obtain ⟨hle, rfl⟩ := hle
        simp only [Option.some.injEq, Prod.mk.injEq] at h
        obtain ⟨rfl, rfl, rfl⟩ := h
        obtain ⟨b, M, hb, hr⟩ := hM.live i _ hi
        simp only [chunkRel] at hr
        obtain ⟨h1, h2, h3, cur, h4, h5, h6⟩ := hr
        simp only [den] at hy
        obtain ⟨g1, A, rfl, g2⟩ := hy.2 b M hb
        refine ⟨some A, M - o, A, fun j => if h : o + j < n then (h6 (o + j) h).choose else [], rfl, fun _ => rfl, fun j hj => ?_⟩
        have hjn : o + j < n := by omega
        simp only [hjn, dif_pos]
        obtain ⟨q1, q2, q3, q4, q5⟩ := (h6 (o + j) hjn).choose_spec
        refine ⟨q1, q2, q3, q4, fun i x hx => ?_⟩
        rw [g2 (by omega), add_lit, cell_of_row w b _ _ _ _ h4]
        rw [show o * z + (j * z + i) = (o + j) * z + i by rw [Nat.add_mul]; omega]
        exact q5 i x hx
      · cases h
    · cases h
  · simp only [Option.some.injEq, Prod.mk.injEq] at h
    obtain ⟨rfl, rfl, rfl⟩ := h
    simp only [den] at hy
    obtain ⟨h0, A, cap, a, us, rfl, h2, h3, h4⟩ := hy
    exact ⟨A, cap, a, us, rfl, fun hm => (h3 hm).1, h4⟩
  · simp only [Option.some.injEq, Prod.mk.injEq] at h
    obtain ⟨rfl, rfl, rfl⟩ := h
    simp only [den] at hy
    subst hy
    exact ⟨none, 0, ⟨0, 0, none⟩, fun _ => [], rfl, fun h => absurd h (by omega), fun j hj => absurd hj (by omega)⟩
  · cases h
theorem run_append_none {t ty e : TypeId} {z l cap cap' : Nat} {A A' : Option Addr} (he : P.underlying t = some (.slice e)) (hz : szP P e = some z) (hl : l ≤ cap) :
    (Builtin.append_ #[t, t] ty #[.slice A l cap, .slice A' 0 cap']).run P w = .ok (.slice A l cap) w := by
  cases A <;> cases A' <;>
    simp [Builtin.append_, Sem.run_bind, run_underlying he, run_sz hz, Builtin.lenOf, Builtin.firstCells, hl, loadCells, loadCellsFrom, storeCells]
end
end Go.Am
