/- Maps, interfaces. -/
import Derived.Test.YtniogljhkjbcgaaDoorAmI
namespace Go.Am
open Go Go.RowKit
set_option linter.unusedSimpArgs false
set_option linter.unusedVariables false

theorem ba_eq {a b : ByteArray} : (a == b) = true ↔ a = b := by
  show (a.data == b.data) = true ↔ _
  rw [beq_iff_eq]
  exact ⟨fun h => by cases a; cases b; simp_all, fun h => by rw [h]⟩
theorem ba_comm {a b : ByteArray} : (a == b) = (b == a) := by
  rw [Bool.eq_iff_iff, ba_eq, ba_eq]
  exact eq_comm
section
variable {P : Program} {β : Bt} {S D : Pr} {H : Hp} {w : World} {new : Nat} {o : Oper} {a : Act} {k : KR} {r : Ans}
theorem zeroV_spec {t : TypeId} {z : V} (h : zeroV P t = some z) : ∃ y, (∀ w, (zeroValue t).run P w = .ok y w) ∧ (∀ (β : Bt) (S D : Pr) (w : World), den β S w D z y) ∧ z.pure = true := by
  unfold zeroV at h
  split at h
  · rename_i i hi
    split at h
    · rename_i v hv
      have hz : z = ofVal1 v ∧ z.pure = true := by
        split at h
        · cases h
        · rename_i z' hne
          simp only [Option.some.injEq] at h
          subst h
          refine ⟨rfl, ?_⟩
          unfold ofVal1
          unfold ofVal1 at hne
          split
          · rename_i cs
            simp only at hne
            split
            · simp only [V.pure]
              rw [pureL_all]
              intro x hx
              obtain ⟨y, _, rfl⟩ := List.mem_map.1 hx
              rfl
            · rename_i hc; rw [if_neg hc] at hne; exact absurd rfl hne
          · rfl
      obtain ⟨rfl, hp⟩ := hz
      exact ⟨v, fun w => by simp [zeroValue, typeInfo, hi, hv], fun β S D w => den_ofVal1 v, hp⟩
    · cases h
  · cases h
def KT.d : KT → TypeDesc
  | .i => .int .i64
  | .s => .string
theorem mapP_spec {t e : TypeId} {kt : KT} (h : mapP P t = some (kt, e)) : ∃ kk, P.underlying t = some (.map kk e) ∧ P.underlying kk = some kt.d := by
  unfold mapP at h
  split at h
  · rename_i kk e' hu
    split at h
    · rename_i hk
      simp only [Option.some.injEq, Prod.mk.injEq] at h
      obtain ⟨rfl, rfl⟩ := h
      exact ⟨kk, hu, hk⟩
    · rename_i hk
      simp only [Option.some.injEq, Prod.mk.injEq] at h
      obtain ⟨rfl, rfl⟩ := h
      exact ⟨kk, hu, hk⟩
    · cases h
  · cases h
/-- A map made. -/
theorem mapNew_sound (hM : Mem β S D H w) (hn : ¬ D new) {t : TypeId} {c : Chunk} (ho : o.op = .makeMap t none) (hc : ∀ β' w' b, w'.heap[b]? = some (.map (#[] : Array MapEntry) 0) → chunkRel β' S w' (span D new) b 0 c) :
    GoodR P β S D H new o a w (.val (.mp new) [(new, some c)]) := by
  obtain ⟨g1, g2, g3⟩ := hM.new (m := 0) (c := c) (b := w.heap.size) (w' := w.alloc (.map #[] 0)) hn (span_sub D new) (span_new D new) (alloc_below w _) (Nat.le_refl _) (by show w.heap.size < (w.heap.push _).size; simp) (hc _ _ _ (heap_alloc_new w _))
  refine ⟨.map (some w.heap.size), _, _, _, .inl (by simp only [execOp, ho, Instr.makeMap, Option.map_none, newObj, Sem.run_bind, Sem.run, Result.andThen_ok, Sem.run_pure, World.alloc]), g1, ?_, g2, g3, fun i b m hi _ => (alloc_below w _).block b (hM.own i b m hi).1⟩
  simp only [den]
  refine ⟨⟨span_new D new, rfl⟩, fun b m h => ?_⟩
  rw [upd_same] at h
  cases h
  rfl
theorem makeMap_sound (hM : Mem β S D H w) (hn : ¬ D new) {t : TypeId} (ho : o.op = .makeMap t none) (h : effMakeMap P t new k = some r) : Good P β S D H new o a w k r := by
  unfold effMakeMap at h
  split at h
  · exact ⟨_, h, mapNew_sound hM hn ho fun β' w' b hb => by simp only [chunkRel]; exact ⟨[], 0, hb, rfl⟩⟩
  · split at h
    · exact ⟨_, h, mapNew_sound hM hn ho fun β' w' b hb => by simp only [chunkRel]; exact ⟨[], 0, hb, rfl, by simp, fun s => by simp [findS]⟩⟩
    · cases h
  · cases h
theorem found_sound {ok b : Bool} {v : V} {y : Value} (h : foundK ok b v k = some r) (hd : den β S w D v y) :
    ∃ x, k (.val x []) = some r ∧ den β S w D x (if ok = true then .tuple #[y, .bool b] else y) := by
  unfold foundK at h
  cases ok with
  | true =>
    refine ⟨_, h, ?_⟩
    rw [if_pos rfl]
    simp only [den, denL]
    exact ⟨[y, .bool b], rfl, y, _, rfl, hd, _, _, rfl, rfl, rfl⟩
  | false => exact ⟨_, h, by rw [if_neg (by decide)]; exact hd⟩
theorem findI {n : Int} : ∀ {l : List (Int × V)} {es : List MapEntry} {ok : Bool} {z : V} (i : Nat), mapOK β S w D l es → lookI ok z n k l = some r →
    ∃ q, Instr.findNow (.int .i64) (.int .i64 n) es i = some q ∧ ∃ b v, foundK ok b v k = some r ∧ (match q with | some p => b = true ∧ den β S w D v p.2 | none => b = false ∧ v = z)
  | [], es, ok, z, i, hm, h => by
    have : es = [] := hm
    subst this
    exact ⟨none, rfl, false, z, h, rfl, rfl⟩
  | (m, v) :: l, es, ok, z, i, hm, h => by
    obtain ⟨e, es', rfl, h2, h3, h4, h5⟩ := hm
    rw [lookI] at h
    simp only [Instr.findNow, h2, Instr.sameNow, if_pos rfl]
    by_cases hn : n = m
    · subst hn
      rw [if_pos rfl] at h
      simp only [beq_self_eq_true]
      exact ⟨_, rfl, true, v, h, rfl, h3⟩
    · rw [if_neg hn] at h
      have : (n == m) = false := by simpa using hn
      simp only [this]
      exact findI (i + 1) h5 h
theorem findNow_s {s : ByteArray} : ∀ {es : List MapEntry} (i : Nat), (∀ e ∈ es, ∃ q, e.key = .string q) → Instr.findNow .string (.string s) es i = some (findS s es i)
  | [], i, _ => rfl
  | e :: es, i, h => by
    obtain ⟨q, hq⟩ := h e (.head _)
    simp only [Instr.findNow, findS, hq, Instr.sameNow]
    cases hs : (s == q) with
    | true => simp
    | false => simp only [Bool.false_eq_true, if_false]; exact findNow_s (i + 1) fun e he => h e (.tail _ he)
/-- An entry that is found, put anew. -/
theorem findS_mod {s : ByteArray} {v' : Value} : ∀ {es : List MapEntry} {j i : Nat} {v : Value}, findS s es j = some (i, v) → j ≤ i ∧ (∃ e, es[i - j]? = some e ∧ e.key = .string s) ∧
    ∀ s', findS s' (es.modify (i - j) fun e => { e with key := .string s, val := v' }) j = if (s' == s) = true then some (i, v') else findS s' es j
  | [], j, i, v, h => by cases h
  | e :: es, j, i, v, h => by
    have rest : findS s es (j + 1) = some (i, v) → (∀ s', (∃ q, e.key = .string q ∧ (s' == q) = true) → ¬ (s' == s) = true) → j ≤ i ∧ (∃ e', (e :: es)[i - j]? = some e' ∧ e'.key = .string s) ∧
        ∀ s', findS s' ((e :: es).modify (i - j) fun e => { e with key := .string s, val := v' }) j = if (s' == s) = true then some (i, v') else findS s' (e :: es) j := by
      intro h hne
      obtain ⟨g1, ⟨e', g2, g3⟩, g4⟩ := findS_mod (v' := v') h
      have e1 : i - j = (i - (j + 1)) + 1 := by omega
      refine ⟨by omega, ⟨e', by rw [e1]; simpa using g2, g3⟩, fun s' => ?_⟩
      rw [e1, List.modify_succ_cons]
      unfold findS
      have hg := g4 s'
      have hn := hne s'
      cases hk : e.key with
      | string q =>
        simp only
        by_cases hs : (s' == q) = true
        · rw [if_pos hs, if_pos hs, if_neg (hn ⟨q, hk, hs⟩)]
        · rw [if_neg hs, if_neg hs]; exact hg
      | _ => simp only; exact hg
    unfold findS at h
    cases hk : e.key with
    | string q =>
      rw [hk] at h
      simp only at h
      by_cases hs : (s == q) = true
      · rw [if_pos hs] at h
        simp only [Option.some.injEq, Prod.mk.injEq] at h
        obtain ⟨rfl, rfl⟩ := h
        obtain rfl := ba_eq.1 hs
        refine ⟨Nat.le_refl _, ⟨e, by simp, hk⟩, fun s' => ?_⟩
        rw [Nat.sub_self, List.modify_zero_cons]
        unfold findS
        simp only [hk]
        by_cases h' : (s' == s) = true
        · rw [if_pos h', if_pos h']
        · rw [if_neg h', if_neg h', if_neg h']
      · rw [if_neg hs] at h
        refine rest h fun s' => ?_
        rintro ⟨q', hq', h'⟩ h2
        rw [hk] at hq'
        cases hq'
        obtain rfl := ba_eq.1 h2
        exact hs h'
    | _ =>
      rw [hk] at h
      refine rest h fun s' => ?_
      rintro ⟨q', hq', _⟩
      rw [hk] at hq'
      cases hq'
theorem findS_push {s : ByteArray} {v' : Value} {c : Nat} : ∀ {es : List MapEntry} {j : Nat}, findS s es j = none → ∀ s', findS s' (es ++ [{ key := .string s, val := v', born := c }]) j = if (s' == s) = true then some (j + es.length, v') else findS s' es j
  | [], j, h, s' => by simp [findS]
  | e :: es, j, h, s' => by
    have hne : ∀ q, e.key = .string q → ¬ (s == q) = true ∧ findS s es (j + 1) = none := fun q hq => by
      unfold findS at h
      rw [hq] at h
      simp only at h
      by_cases hs : (s == q) = true
      · rw [if_pos hs] at h; cases h
      · rw [if_neg hs] at h; exact ⟨hs, h⟩
    rw [List.cons_append]
    unfold findS
    cases hk : e.key with
    | string q =>
      obtain ⟨h1, h2⟩ := hne q hk
      simp only
      by_cases hs : (s' == q) = true
      · rw [if_pos hs, if_pos hs, if_neg (fun g => h1 (by rw [← ba_eq.1 g]; exact hs))]
      · rw [if_neg hs, if_neg hs, findS_push h2 s']
        simp only [List.length_cons, Nat.add_assoc, Nat.add_comm 1]
    | _ =>
      have h2 : findS s es (j + 1) = none := by
        unfold findS at h
        rw [hk] at h
        exact h
      simp only
      rw [findS_push h2 s']
      simp only [List.length_cons, Nat.add_assoc, Nat.add_comm 1]
theorem run_findKey {kk : TypeId} {d : TypeDesc} {key : Value} {es : List MapEntry} {q : Option (Nat × Value)} (hu : P.underlying kk = some d) (hq : Instr.findNow d key es 0 = some q) : (Instr.findKey kk key es).run P w = .ok q w := by
  simp [Instr.findKey, Sem.run_bind, run_underlying hu, hq]
theorem run_checkKey_i {b : Bool} {kk : TypeId} {ik : IntKind} {key : Value} {n : Nat} (hu : P.underlying kk = some (.int ik)) : (Instr.checkKey b (n + 1) kk key).run P w = .ok () w := by
  simp [Instr.checkKey, Sem.run_bind, run_underlying hu]
theorem run_checkKey_s {b : Bool} {kk : TypeId} {key : Value} {n : Nat} (hu : P.underlying kk = some .string) : (Instr.checkKey b (n + 1) kk key).run P w = .ok () w := by
  simp [Instr.checkKey, Sem.run_bind, run_underlying hu]
theorem getMap_run {b : Nat} {es : Array MapEntry} {clock : Nat} (hb : w.heap[b]? = some (.map es clock)) : (getObj b).run P w = .ok (.map es clock) w := by simp [getObj, Sem.run, hb]
def lookRes (ok : Bool) (z : Value) : Option (Nat × Value) → Value
  | some p => if ok = true then .tuple #[p.2, .bool true] else p.2
  | none => if ok = true then .tuple #[z, .bool false] else z
theorem lookup_run {t kk e : TypeId} {ok : Bool} {d : TypeDesc} {b : Nat} {es : List MapEntry} {clock : Nat} {key z : Value} {q : Option (Nat × Value)} (hu : P.underlying t = some (.map kk e)) (hk : P.underlying kk = some d) (hck : ∀ b', (Instr.checkKey b' 10000 kk key).run P w = .ok () w)
    (hb : w.heap[b]? = some (.map es.toArray clock)) (hq : Instr.findNow d key es 0 = some q) (hz : (zeroValue e).run P w = .ok z w) :
    (Instr.lookup t (.map (some b)) key ok).run P w = .ok (lookRes ok z q) w := by
  have hf := run_findKey (w := w) hk hq
  cases q with
  | none => simp [lookRes, Instr.lookup, Sem.run_bind, run_underlying hu, getMap_run hb, hck, hf, hz]
  | some p => simp [lookRes, Instr.lookup, Sem.run_bind, run_underlying hu, getMap_run hb, hck, hf]
theorem lookup_sound (hM : Mem β S D H w) {t : TypeId} {x y : Operand} {vx vy : V} {ok : Bool} (ho : o.op = .lookup t x y ok) (hx : den β S w D vx (a.eval x)) (hy : den β S w D vy (a.eval y)) (h : effLookup P t vx vy ok H k = some r) : Good P β S D H new o a w k r := by
  unfold effLookup at h
  split at h
  · rename_i kt e hmp
    obtain ⟨kk, hu, hk⟩ := mapP_spec hmp
    split at h
    · rename_i z hz
      obtain ⟨zy, hz1, hz2, hz3⟩ := zeroV_spec hz
      split at h
      · rename_i i
        simp only [den] at hx
        split at h
        · rename_i l hi
          obtain ⟨b, m, hb, hr⟩ := hM.live i _ hi
          have hub := hx.2 b m hb
          simp only [chunkRel] at hr
          obtain ⟨es, clock, h1, h2⟩ := hr
          split at h
          · rename_i n
            replace hk : P.underlying kk = some (.int .i64) := hk
            simp only [den] at hy
            obtain ⟨q, q1, bb, v, q2, q3⟩ := findI 0 h2 h
            have hrun := lookup_run (ok := ok) (w := w) (z := zy) hu hk (fun b' => run_checkKey_i hk) h1 q1 (hz1 w)
            cases q with
            | some p =>
              obtain ⟨rfl, hd⟩ := q3
              obtain ⟨xv, g1, g2⟩ := found_sound q2 hd
              exact ⟨_, g1, good_same hM (by simp only [execOp, ho, hub, hy, Sem.run_bind, hrun, Result.andThen_ok, Sem.run_pure]; rfl) g2⟩
            | none =>
              obtain ⟨rfl, rfl⟩ := q3
              obtain ⟨xv, g1, g2⟩ := found_sound q2 (hz2 β S D w)
              exact ⟨_, g1, good_same hM (by simp only [execOp, ho, hub, hy, Sem.run_bind, hrun, Result.andThen_ok, Sem.run_pure]; rfl) g2⟩
          · cases h
        · rename_i n g f hi
          obtain ⟨b, m, hb, hr⟩ := hM.live i _ hi
          have hub := hx.2 b m hb
          simp only [chunkRel] at hr
          obtain ⟨es, clock, h1, h2, h3, h4⟩ := hr
          split at h
          · rename_i s
            replace hk : P.underlying kk = some .string := hk
            simp only [den] at hy
            have hrun := lookup_run (ok := ok) (w := w) (z := zy) (d := .string) (key := .string s) hu hk (fun b' => run_checkKey_s hk) h1 (findNow_s (s := s) 0 h3) (hz1 w)
            have hs := h4 s
            rw [mergeW_eq] at h
            cases hq : findS s es 0 with
            | some p =>
              rw [hq] at hs hrun
              obtain ⟨e1, e2, _⟩ := hs
              rw [e1, if_pos rfl] at h
              obtain ⟨xv, g1, g2⟩ := found_sound h e2
              exact ⟨_, g1, good_same hM (by simp only [execOp, ho, hub, hy, Sem.run_bind, hrun, Result.andThen_ok, Sem.run_pure]; rfl) g2⟩
            | none =>
              rw [hq] at hs hrun
              simp only at hs
              rw [hs, if_neg (by decide)] at h
              obtain ⟨xv, g1, g2⟩ := found_sound h (hz2 β S D w)
              exact ⟨_, g1, good_same hM (by simp only [execOp, ho, hub, hy, Sem.run_bind, hrun, Result.andThen_ok, Sem.run_pure]; rfl) g2⟩
          · cases h
        · cases h
      · cases h
    · cases h
  · cases h
theorem put_at {b : Nat} {x : Obj} (h : b < w.heap.size) : ({ w with heap := w.heap.setIfInBounds b x } : World).heap[b]? = some x := by simp [h]
theorem mapSet_new {t kk e : TypeId} {d : TypeDesc} {b : Nat} {es : List MapEntry} {clock : Nat} {key v : Value} (hu : P.underlying t = some (.map kk e)) (hk : P.underlying kk = some d) (hck : (Instr.checkKey false 10000 kk key).run P w = .ok () w)
    (hb : w.heap[b]? = some (.map es.toArray clock)) (hq : Instr.findNow d key es 0 = some none) :
    (Instr.mapUpdate t (.map (some b)) key v).run P w = .ok () { w with heap := w.heap.setIfInBounds b (.map (es ++ [({ key := key, val := v, born := clock } : MapEntry)]).toArray (clock + 1)) } := by
  have hf := run_findKey (w := w) hk hq
  simp [Instr.mapUpdate, Sem.run_bind, run_underlying hu, getMap_run hb, hck, hf, setObj, Sem.run, hb]
theorem mapSet_old {t kk e : TypeId} {b : Nat} {es : List MapEntry} {clock i : Nat} {s : ByteArray} {v u : Value} {e0 : MapEntry} (hu : P.underlying t = some (.map kk e)) (hk : P.underlying kk = some .string)
    (hb : w.heap[b]? = some (.map es.toArray clock)) (hq : Instr.findNow .string (.string s) es 0 = some (some (i, u))) (he : es[i]? = some e0) (h0 : e0.key = .string s) :
    (Instr.mapUpdate t (.map (some b)) (.string s) v).run P w = .ok () { w with heap := w.heap.setIfInBounds b (.map (es.modify i fun (e : MapEntry) => { e with key := .string s, val := v }).toArray clock) } := by
  have hf := run_findKey (w := w) hk hq
  have hst : ∀ x : Value, (Instr.keyThatStays (.string s) x).run P w = if Instr.sameBits 10000 (.string s) x = true then .ok x w else (Instr.keyThatStays (.string s) x).run P w := by
    intro x
    split
    · rename_i h; simp [Instr.keyThatStays, h]
    · rfl
  have hsb : Instr.sameBits 10000 (.string s) (.string s) = true := by simp [Instr.sameBits, ba_eq]
  have h1 := hst (.string s)
  rw [if_pos hsb] at h1
  have hi : (es.toArray[i]?.map (·.key)).getD (.string s) = .string s := by simp [he, h0]
  simp [Instr.mapUpdate, Sem.run_bind, run_underlying hu, getMap_run hb, run_checkKey_s hk, hf, he, h0, h1, setObj, Sem.run, hb]
theorem mapOK_len : ∀ {l : List (Int × V)} {es : List MapEntry}, mapOK β S w D l es → l.length = es.length
  | [], es, h => by
    have : es = [] := h
    subst this; rfl
  | (m, x) :: l, es, h => by
    obtain ⟨e, es', rfl, _, _, _, h5⟩ := h
    simp [mapOK_len h5]
theorem mapOK_app : ∀ {l : List (Int × V)} {es : List MapEntry} {n : Int} {v : V} {u : Value} {c : Nat}, mapOK β S w D l es → den β S w D v u → v.pure = true → mapOK β S w D (l ++ [(n, v)]) (es ++ [{ key := .int .i64 n, val := u, born := c }])
  | [], es, n, v, u, c, h, hd, hp => by
    have : es = [] := h
    subst this
    exact ⟨_, _, rfl, rfl, hd, hp, rfl⟩
  | (m, x) :: l, es, n, v, u, c, h, hd, hp => by
    obtain ⟨e, es', rfl, h2, h3, h4, h5⟩ := h
    exact ⟨e, _, rfl, h2, h3, h4, mapOK_app h5 hd hp⟩
theorem findI_none {n : Int} : ∀ {l : List (Int × V)} {es : List MapEntry} (i : Nat), mapOK β S w D l es → (l.all fun p => p.1 != n) = true → Instr.findNow (.int .i64) (.int .i64 n) es i = some none
  | [], es, i, h, _ => by
    have : es = [] := h
    subst this
    rfl
  | (m, x) :: l, es, i, h, ha => by
    obtain ⟨e, es', rfl, h2, h3, h4, h5⟩ := h
    simp only [List.all_cons, Bool.and_eq_true, bne_iff_ne, ne_eq] at ha
    simp only [Instr.findNow, h2, Instr.sameNow, if_pos rfl]
    have : (n == m) = false := by simpa using fun e => ha.1 e.symm
    simp only [this]
    exact findI_none (i + 1) h5 (by simpa using ha.2)
/-- A block of one's own is written anew. -/
theorem wrote (hM : Mem β S D H w) {i b m : Nat} {c c' : Chunk} {x : Obj} {s : Sem Unit} (hs : execOp a.eval o = (do s; pure .skip : Sem Next)) (hi : H i = some c) (hb : β i = some (b, m)) (hrun : s.run P w = .ok () { w with heap := w.heap.setIfInBounds b x })
    (hc : chunkRel β S { w with heap := w.heap.setIfInBounds b x } D b m c') : GoodR P β S D H new o a w (.val (.sc undef) [(i, some c')]) := by
  have hlt := (hM.own i b m hb).1
  obtain ⟨q1, q2⟩ := hM.put (w' := { w with heap := w.heap.setIfInBounds b x }) (c' := c') hi hb ⟨rfl, rfl, rfl, by simp, fun j _ hj => by
    have : b ≠ j := fun e => hj (by rw [e])
    simp [this]⟩ hc
  refine ⟨undef, _, β, S, .inr ⟨by rw [hs, Sem.run_bind, hrun]; rfl, rfl⟩, q1.mono (span_sub D new), by simp [den], q2, Hb.refl _ _, fun i' b' m' hi' hn' => ?_⟩
  have : b ≠ b' := fun e => by subst e; exact hn' (by have := hM.inj i' i _ _ _ hi' hb; simp [this])
  simp [this]
theorem mapSet_sound (hM : Mem β S D H w) {t : TypeId} {x y v : Operand} {vx vy vv : V} (ho : o.op = .mapUpdate t x y v ∨ o.op = .insert t x y v) (hx : den β S w D vx (a.eval x)) (hy : den β S w D vy (a.eval y)) (hv : den β S w D vv (a.eval v)) (h : effMapSet P t vx vy vv H k = some r) : Good P β S D H new o a w k r := by
  have hexec : execOp a.eval o = (do Instr.mapUpdate t (a.eval x) (a.eval y) (a.eval v); pure .skip : Sem Next) := by rcases ho with ho | ho <;> simp only [execOp, ho]
  unfold effMapSet at h
  split at h
  · rename_i kt e hmp
    obtain ⟨kk, hu, hk⟩ := mapP_spec hmp
    split at h
    · rename_i hp
      split at h
      · rename_i i
        simp only [den] at hx
        split at h
        · rename_i l hi
          obtain ⟨b, m, hb, hr⟩ := hM.live i _ hi
          have hub := hx.2 b m hb
          simp only [chunkRel] at hr
          obtain ⟨es, clock, h1, h2⟩ := hr
          split at h
          · rename_i n
            replace hk : P.underlying kk = some (.int .i64) := hk
            simp only [den] at hy
            split at h
            · rename_i hall
              have hlt := (hM.own i b m hb).1
              have hrun := mapSet_new (v := a.eval v) hu hk (run_checkKey_i hk) h1 (findI_none (n := n) 0 h2 hall)
              refine ⟨_, h, wrote (x := .map (es ++ [({ key := .int .i64 n, val := a.eval v, born := clock } : MapEntry)]).toArray (clock + 1)) hM (s := Instr.mapUpdate t (a.eval x) (a.eval y) (a.eval v)) hexec hi hb (by rw [hub, hy]; exact hrun) ?_⟩
              have hkeep : Kept S w { w with heap := w.heap.setIfInBounds b (.map (es ++ [({ key := .int .i64 n, val := a.eval v, born := clock } : MapEntry)]).toArray (clock + 1)) } := fun q hq => by
                have : b ≠ q := fun e => (hM.own i b m hb).2 (e ▸ hq)
                simp [this]
              simp only [chunkRel]
              refine ⟨_, clock + 1, put_at hlt, mapOK_app (mapOK_later (fun _ h => h) hkeep h2) (den_pure (fun _ h => h) hkeep _ _ hp hv) hp⟩
            · cases h
          · cases h
        · rename_i n g f hi
          obtain ⟨b, m, hb, hr⟩ := hM.live i _ hi
          have hub := hx.2 b m hb
          simp only [chunkRel] at hr
          obtain ⟨es, clock, h1, h2, h3, h4⟩ := hr
          split at h
          · rename_i s
            replace hk : P.underlying kk = some .string := hk
            simp only [den] at hy
            have hlt := (hM.own i b m hb).1
            have hs := h4 s
            have hfn := findNow_s (s := s) 0 h3
            have hW : ∀ q, mergeW ((q == s) = true) vv (f q) = if (q == s) = true then vv else f q := fun q => mergeW_eq _ _ _
            cases hq : findS s es 0 with
            | none =>
              rw [hq] at hs hfn
              simp only at hs
              have hrun := mapSet_new (v := a.eval v) hu hk (run_checkKey_s hk) h1 hfn
              refine ⟨_, h, wrote (x := .map (es ++ [({ key := .string s, val := a.eval v, born := clock } : MapEntry)]).toArray (clock + 1)) hM (s := Instr.mapUpdate t (a.eval x) (a.eval y) (a.eval v)) hexec hi hb (by rw [hub, hy]; exact hrun) ?_⟩
              have hkeep : Kept S w { w with heap := w.heap.setIfInBounds b (.map (es ++ [({ key := .string s, val := a.eval v, born := clock } : MapEntry)]).toArray (clock + 1)) } := fun q hq => by
                have : b ≠ q := fun e => (hM.own i b m hb).2 (e ▸ hq)
                simp [this]
              simp only [chunkRel]
              refine ⟨_, clock + 1, put_at hlt, by rw [hs, if_neg (by decide)]; simp [h2], ?_, fun q => ?_⟩
              · intro e he
                rcases List.mem_append.1 he with he | he
                · exact h3 e he
                · simp only [List.mem_singleton] at he; subst he; exact ⟨s, rfl⟩
              · rw [findS_push hq q]
                simp only [hW]
                by_cases hqs : (q == s) = true
                · simp only [hqs, if_true, Bool.true_or, true_and]
                  exact ⟨den_pure (fun _ h => h) hkeep _ _ hp hv, hp⟩
                · have h4q := h4 q
                  have hqs' : (q == s) = false := by simpa using hqs
                  simp only [hqs', Bool.false_eq_true, if_false, Bool.false_or]
                  cases hf : findS q es 0 with
                  | none => rw [hf] at h4q; exact h4q
                  | some p => rw [hf] at h4q; exact ⟨h4q.1, den_pure (fun _ h => h) hkeep _ _ h4q.2.2 h4q.2.1, h4q.2.2⟩
            | some p =>
              obtain ⟨j, u⟩ := p
              rw [hq] at hs hfn
              obtain ⟨g1, ⟨e0, g2, g3⟩, g4⟩ := findS_mod (v' := a.eval v) hq
              rw [Nat.sub_zero] at g2 g4
              have hrun := mapSet_old (v := a.eval v) hu hk h1 hfn g2 g3
              refine ⟨_, h, wrote (x := .map (es.modify j fun (e : MapEntry) => { e with key := .string s, val := a.eval v }).toArray clock) hM (s := Instr.mapUpdate t (a.eval x) (a.eval y) (a.eval v)) hexec hi hb (by rw [hub, hy]; exact hrun) ?_⟩
              have hkeep : Kept S w { w with heap := w.heap.setIfInBounds b (.map (es.modify j fun (e : MapEntry) => { e with key := .string s, val := a.eval v }).toArray clock) } := fun q hq => by
                have : b ≠ q := fun e => (hM.own i b m hb).2 (e ▸ hq)
                simp [this]
              simp only [chunkRel]
              refine ⟨_, clock, put_at hlt, by rw [hs.1, if_pos rfl]; simp [h2], ?_, fun q => ?_⟩
              · intro e he
                obtain ⟨n', hn'⟩ := List.getElem?_of_mem he
                rw [List.getElem?_modify] at hn'
                cases hx' : es[n']? with
                | none => rw [hx'] at hn'; cases hn'
                | some e1 =>
                  rw [hx'] at hn'
                  obtain rfl := Option.some.inj hn'
                  show ∃ s', (if j = n' then _ else e1 : MapEntry).key = .string s'
                  split
                  · exact ⟨s, rfl⟩
                  · exact h3 e1 (List.mem_of_getElem? hx')
              · rw [g4 q]
                simp only [hW]
                by_cases hqs : (q == s) = true
                · simp only [hqs, if_true, Bool.true_or, true_and]
                  exact ⟨den_pure (fun _ h => h) hkeep _ _ hp hv, hp⟩
                · have h4q := h4 q
                  have hqs' : (q == s) = false := by simpa using hqs
                  simp only [hqs', Bool.false_eq_true, if_false, Bool.false_or]
                  cases hf : findS q es 0 with
                  | none => rw [hf] at h4q; exact h4q
                  | some p => rw [hf] at h4q; exact ⟨h4q.1, den_pure (fun _ h => h) hkeep _ _ h4q.2.2 h4q.2.1, h4q.2.2⟩
          · cases h
        · cases h
      · cases h
    · cases h
  · cases h
theorem isIface_no {t : TypeId} (h : isIface P t = some false) : ∃ d, P.underlying t = some d ∧ ∀ m, d ≠ .interface m := by
  unfold isIface at h
  split at h
  · cases h
  · rename_i d hd hu
    exact ⟨d, hu, fun m e => by subst e; exact hd _ rfl⟩
  · cases h
theorem makeIface_sound (hM : Mem β S D H w) {t : TypeId} {x : Operand} {v : V} (ho : o.op = .makeInterface t x) (hx : den β S w D v (a.eval x)) (h : effMakeIface P t v k = some r) : Good P β S D H new o a w k r := by
  unfold effMakeIface at h
  split at h
  · rename_i hi
    obtain ⟨d, hu, hd⟩ := isIface_no hi
    refine ⟨_, h, good_same hM (u := .iface t (a.eval x)) ?_ (by simp only [den]; exact ⟨_, rfl, hx⟩)⟩
    have : (Instr.makeInterface t (a.eval x)).run P w = .ok (.iface t (a.eval x)) w := by
      simp only [Instr.makeInterface, Sem.run_bind, run_underlying hu, Result.andThen_ok]
      rfl
    simp only [execOp, ho, Sem.run_bind, this, Result.andThen_ok, Sem.run_pure]
  · cases h
theorem assert_sound (hM : Mem β S D H w) {t u : TypeId} {x : Operand} {v : V} {ok : Bool} (ho : o.op = .typeAssert x u t ok) (hx : den β S w D v (a.eval x)) (h : effAssert P v t ok k = some r) : Good P β S D H new o a w k r := by
  unfold effAssert at h
  split at h
  · rename_i hi
    obtain ⟨d, hu, hd⟩ := isIface_no hi
    have fails : ∀ z, zeroV P t = some z → ok = true → ∀ (y : Value), (y = .nilIface ∨ ∃ t' q, y = .iface t' q ∧ ¬ t' = t) → a.eval x = y → foundK true false z k = some r → Good P β S D H new o a w k r := by
      intro z hz hok y hy hxy hf
      subst hok
      obtain ⟨zy, z1, z2, _⟩ := zeroV_spec hz
      obtain ⟨xv, g1, g2⟩ := found_sound hf (z2 β S D w)
      refine ⟨_, g1, good_same hM (u := .tuple #[zy, .bool false]) ?_ (by simpa using g2)⟩
      have : (Instr.typeAssert (a.eval x) u t true).run P w = .ok (.tuple #[zy, .bool false]) w := by
        rw [hxy]
        simp only [Instr.typeAssert, Sem.run_bind, run_underlying hu, Result.andThen_ok]
        rcases hy with rfl | ⟨t', q, rfl, hne⟩
        · cases d <;> first | (exact absurd rfl (hd _)) | simp [z1, Sem.run_bind]
        · cases d <;> first | (exact absurd rfl (hd _)) | simp [z1, Sem.run_bind, hne]
      simp only [execOp, ho, Sem.run_bind, this, Result.andThen_ok, Sem.run_pure]
    split at h
    · rename_i d' v'
      simp only [den] at hx
      obtain ⟨q, hq, hdq⟩ := hx
      split at h
      · rename_i he
        subst he
        obtain ⟨xv, g1, g2⟩ := found_sound h hdq
        refine ⟨_, g1, good_same hM ?_ g2⟩
        have : (Instr.typeAssert (a.eval x) u d' ok).run P w = .ok (if ok = true then .tuple #[q, .bool true] else q) w := by
          rw [hq]
          simp only [Instr.typeAssert, Sem.run_bind, run_underlying hu, Result.andThen_ok]
          cases d <;> first | (exact absurd rfl (hd _)) | (cases ok <;> simp)
        simp only [execOp, ho, Sem.run_bind, this, Result.andThen_ok, Sem.run_pure]
      · rename_i hne
        split at h
        · rename_i z hz; exact fails z hz rfl _ (.inr ⟨d', q, rfl, hne⟩) hq h
        · cases h
    · simp only [den] at hx
      split at h
      · rename_i z hz; exact fails z hz rfl _ (.inl rfl) hx h
      · cases h
    · cases h
  · cases h
theorem panic_sound {x : Operand} {v : V} (ho : o.op = .panic x) (hx : den β S w D v (a.eval x)) (h : effPanic v k = some r) : Good P β S D H new o a w k r := by
  unfold effPanic at h
  split at h
  · rename_i t v'
    split at h
    · rename_i hp
      have hx' := hx
      simp only [den] at hx'
      obtain ⟨q, hq, _⟩ := hx'
      refine ⟨_, h, rfl, .iface t q, ?_, hp, hq ▸ hx⟩
      simp [execOp, ho, hq, Instr.panic, goPanic, Sem.run_bind]
    · cases h
  · cases h
end
end Go.Am
