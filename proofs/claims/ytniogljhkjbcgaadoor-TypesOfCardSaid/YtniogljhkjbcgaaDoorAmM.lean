/- Calls with memory handed over. -/
import Derived.Test.YtniogljhkjbcgaaDoorAmL
namespace Go.Am
open Go Go.RowKit
set_option linter.unusedSimpArgs false
set_option linter.unusedVariables false

section
variable {E : Env} {β : Bt} {S D : Pr} {H : Hp} {w : World} {new : Nat} {k : KR} {r : Ans}

theorem ofOrder_some {order : List Nat} {j : Nat} {bm : Nat × Nat} (h : ofOrder β order j = some bm) : ∃ i, order[j]? = some i ∧ β i = some bm := by
  unfold ofOrder at h
  cases ho : order[j]? with
  | none => rw [ho] at h; cases h
  | some i => rw [ho] at h; exact ⟨i, rfl, h⟩
theorem Evo.ofOrder {order : List Nat} {β2 : Bt} {S2 : Pr} {w' : World} (h : Evo (ofOrder β order) S w β2 S2 w') : Evo β S w β2 S2 w' :=
  ⟨h.os, h.tape, h.output, h.size, fun b hb hn => h.keep b hb (fun i m e => let ⟨j, _, h2⟩ := ofOrder_some e; hn j m h2), h.sub,
    fun b hb => (h.newS b hb).imp id (Or.imp id fun ⟨i, m, e⟩ => let ⟨j, _, h2⟩ := ofOrder_some e; ⟨j, m, h2⟩),
    fun i b m hb => (h.newO i b m hb).imp id fun ⟨j, m', e⟩ => let ⟨j', _, h2⟩ := ofOrder_some e; ⟨j', m', h2⟩⟩
theorem Mem.wider {S' : Pr} (hM : Mem β S D H w) (hS : ∀ b, S b → S' b) (hst : ∀ b, S' b → b < w.heap.size) (ho : ∀ i b m, β i = some (b, m) → ¬ S' b) : Mem β S' D H w :=
  ⟨fun i c hc => let ⟨b, m, h1, h2⟩ := hM.live i c hc; ⟨b, m, h1, chunkRel_later (fun _ _ => .inl rfl) hS (fun _ h => h) (fun _ _ => rfl) rfl h2⟩, hM.dead, hM.dom, fun i b m h => ⟨(hM.own i b m h).1, ho i b m h⟩, hM.inj, hst⟩

/-- Names handed back. -/
def backB (β β2 : Bt) (order : List Nat) (r new n : Nat) : Bt := fun i =>
  match posOf order i with
  | some j => if j < r then β2 j else none
  | none => if new ≤ i ∧ i < new + (n - r) then β2 (r + (i - new)) else β i

theorem plain_back {f : FuncId} {args : List V} {order : List Nat} {r0 : Nat} {β2 : Bt} {S2 : Pr} {w' : World} {v : V} {u : Value} {L : List (Option Chunk)} (hM : Mem β S D H w) (hn : ∀ i, new ≤ i → i < new + wide → ¬ D i)
    (hnd : order.Nodup) (hD : ∀ i ∈ order, D i) (h1 : r0 ≤ L.length) (h2 : L.length ≤ r0 + wide) (h3 : r0 ≤ order.length)
    (hM2 : Mem β2 S2 (· < L.length) (hp L) w') (hd : den β2 S2 w' (· < L.length) v u) (hev : Evo (ofOrder β order) S w β2 S2 w') (hr : Roots r0 (ofOrder β order) β2) :
    Mem (backB β β2 order r0 new L.length) S2 (span D new) (updL H ((order.map fun i => (i, none)) ++ (L.zipIdx.map fun p => ((backTo order r0 new p.2).getD 0, p.1.map (Chunk.ren (backTo order r0 new)))))) w' ∧
    den (backB β β2 order r0 new L.length) S2 w' (span D new) (v.ren (backTo order r0 new)) u ∧ Evo β S w (backB β β2 order r0 new L.length) S2 w' ∧ Hb β (backB β β2 order r0 new L.length) D ∧ ∀ i b m, β i = some (b, m) → i ∉ order → w'.heap[b]? = w.heap[b]? := by
  -- where a name goes
  have hback : ∀ j, j < L.length → ∃ i, backTo order r0 new j = some i ∧ backB β β2 order r0 new L.length i = β2 j ∧ span D new i := by
    intro j hj
    unfold backTo
    by_cases hjr : j < r0
    · rw [if_pos hjr]
      have hjo : j < order.length := by omega
      refine ⟨order[j], List.getElem?_eq_getElem hjo, ?_, .inl (hD _ (List.getElem_mem hjo))⟩
      unfold backB
      rw [posOf_get hnd (List.getElem?_eq_getElem hjo)]
      exact if_pos hjr
    · rw [if_neg hjr]
      have hni : ¬ D (new + (j - r0)) := hn _ (by omega) (by omega)
      refine ⟨_, rfl, ?_, .inr ⟨by omega, by omega⟩⟩
      unfold backB
      cases hp : posOf order (new + (j - r0)) with
      | some q => exact absurd (hD _ (List.mem_of_getElem? (posOf_some hp))) hni
      | none =>
        simp only
        rw [if_pos ⟨by omega, by omega⟩]
        congr 1
        omega
  have hinj : ∀ a b, a < L.length → b < L.length → (backTo order r0 new a).getD 0 = (backTo order r0 new b).getD 0 → a = b := by
    intro a b ha hb he
    unfold backTo at he
    by_cases hab : a < r0 <;> by_cases hbb : b < r0
    · rw [if_pos hab, if_pos hbb, List.getElem?_eq_getElem (by omega), List.getElem?_eq_getElem (by omega)] at he
      exact (List.getElem_inj hnd).1 he
    · rw [if_pos hab, if_neg hbb, List.getElem?_eq_getElem (by omega)] at he
      simp only [Option.getD_some] at he
      have := hD _ (List.getElem_mem (show a < order.length by omega))
      rw [he] at this
      exact absurd this (hn _ (by omega) (by omega))
    · rw [if_neg hab, if_pos hbb, List.getElem?_eq_getElem (by omega)] at he
      simp only [Option.getD_some] at he
      have := hD _ (List.getElem_mem (show b < order.length by omega))
      rw [← he] at this
      exact absurd this (hn _ (by omega) (by omega))
    · rw [if_neg hab, if_neg hbb] at he
      simp only [Option.getD_some] at he
      omega
  have hren : Ren (backTo order r0 new) β2 (backB β β2 order r0 new L.length) (· < L.length) (span D new) := by
    intro j i hj hji
    obtain ⟨i', e1, e2, e3⟩ := hback j hj
    rw [e1] at hji
    cases hji
    exact ⟨e3, fun bm hb => by rw [e2] at hb; exact hb⟩
  -- the memory's entries
  have hH : ∀ i, (∃ j, j < L.length ∧ backTo order r0 new j = some i ∧ updL H ((order.map fun i => (i, none)) ++ (L.zipIdx.map fun p => ((backTo order r0 new p.2).getD 0, p.1.map (Chunk.ren (backTo order r0 new))))) i = (L.getD j none).map (Chunk.ren (backTo order r0 new))) ∨
      ((∀ j, j < L.length → backTo order r0 new j ≠ some i) ∧ updL H ((order.map fun i => (i, none)) ++ (L.zipIdx.map fun p => ((backTo order r0 new p.2).getD 0, p.1.map (Chunk.ren (backTo order r0 new))))) i = if i ∈ order then none else H i) := by
    intro i
    rw [updL_append]
    by_cases hex : ∃ j, j < L.length ∧ backTo order r0 new j = some i
    · obtain ⟨j, hj, hji⟩ := hex
      left
      refine ⟨j, hj, hji, ?_⟩
      have := updL_in (F := fun c => c.map (Chunk.ren (backTo order r0 new))) (g := fun j => (backTo order r0 new j).getD 0) L 0 (updL H (order.map fun i => (i, none))) j (Nat.zero_le _) (by omega) (fun a b _ ha _ hb he => hinj a b (by omega) (by omega) he)
      simp only [hji, Option.getD_some, Nat.sub_zero] at this
      exact this
    · right
      have hno : ∀ j, j < L.length → backTo order r0 new j ≠ some i := fun j hj he => hex ⟨j, hj, he⟩
      refine ⟨hno, ?_⟩
      rw [updL_out (F := fun c => c.map (Chunk.ren (backTo order r0 new))) (g := fun j => (backTo order r0 new j).getD 0) L 0 _ i (fun j _ hj he => by
        obtain ⟨i', e1, _, _⟩ := hback j (by omega)
        simp only [e1, Option.getD_some] at he
        subst he
        exact hno j (by omega) e1)]
      rw [updL_none _ (fun u hu => by obtain ⟨_, _, rfl⟩ := List.mem_map.1 hu; rfl)]
      simp
  have hB : ∀ i bm, backB β β2 order r0 new L.length i = some bm → (∃ j, j < L.length ∧ backTo order r0 new j = some i ∧ β2 j = some bm) ∨ (i ∉ order ∧ (∀ j, j < L.length → backTo order r0 new j ≠ some i) ∧ β i = some bm) := by
    intro i bm hb
    by_cases hex : ∃ j, j < L.length ∧ backTo order r0 new j = some i
    · obtain ⟨j, hj, hji⟩ := hex
      obtain ⟨i', e1, e2, _⟩ := hback j hj
      rw [e1] at hji
      cases hji
      exact .inl ⟨j, hj, e1, by rw [← e2]; exact hb⟩
    · right
      have hno : ∀ j, j < L.length → backTo order r0 new j ≠ some i := fun j hj he => hex ⟨j, hj, he⟩
      unfold backB at hb
      cases hp : posOf order i with
      | some j =>
        rw [hp] at hb
        simp only at hb
        split at hb
        · rename_i hj
          exact absurd (by unfold backTo; rw [if_pos hj]; exact posOf_some hp) (hno j (by omega))
        · cases hb
      | none =>
        rw [hp] at hb
        simp only at hb
        split at hb
        · rename_i hc
          exact absurd (by unfold backTo; rw [if_neg (by omega)]; congr 1; omega) (hno (r0 + (i - new)) (by omega))
        · exact ⟨posOf_none hp, hno, hb⟩
  have hHb : Hb β (backB β β2 order r0 new L.length) D := by
    intro i hi
    cases hb : backB β β2 order r0 new L.length i with
    | none => exact .inr rfl
    | some bm =>
      left
      rcases hB i bm hb with ⟨j, hj, hji, h2j⟩ | ⟨_, _, h⟩
      · unfold backTo at hji
        split at hji
        · rename_i hjr
          have := hr j bm hjr h2j
          unfold ofOrder at this
          rw [hji] at this
          exact this.symm
        · simp only [Option.some.injEq] at hji
          subst hji
          exact absurd hi (hn _ (by omega) (by omega))
      · exact h.symm
  -- blocks that were not handed over are untouched
  have hkeep : ∀ i b m, i ∉ order → β i = some (b, m) → w'.heap[b]? = w.heap[b]? ∧ ¬ S2 b ∧ ∀ j m', β2 j ≠ some (b, m') := by
    intro i b m hi hb
    have hno : ∀ j m', ofOrder β order j ≠ some (b, m') := fun j m' e => by
      obtain ⟨i', h1', h2'⟩ := ofOrder_some e
      have := hM.inj i i' b m m' hb h2'
      subst this
      exact hi (List.mem_of_getElem? h1')
    have hlt := (hM.own i b m hb).1
    refine ⟨hev.keep b hlt hno, fun hs => ?_, fun j m' e => ?_⟩
    · rcases hev.newS b hs with h | h | ⟨j, m', h⟩
      · exact (hM.own i b m hb).2 h
      · omega
      · exact hno j m' h
    · rcases hev.newO j b m' e with h | ⟨j', m'', h⟩
      · omega
      · exact hno j' m'' h
  have hk : Kept S w w' := fun b hb => hev.keep b (hM.st b hb) fun i m e => by
    obtain ⟨i', _, h2'⟩ := ofOrder_some e
    exact (hM.own i' b m h2').2 hb
  have hOO : ∀ b, (∀ i m, β i ≠ some (b, m)) → ∀ i m, ofOrder β order i ≠ some (b, m) := fun b h i m e => by
    obtain ⟨i', _, h2'⟩ := ofOrder_some e
    exact h i' m h2'
  refine ⟨⟨?_, ?_, ?_, ?_, ?_, hM2.st⟩, den_ren hren _ _ hd, ?_, hHb, fun i b m hi hio => (hkeep i b m hio hi).1⟩
  · intro i c hc
    rcases hH i with ⟨j, hj, hji, e⟩ | ⟨hno, e⟩
    · rw [e] at hc
      simp only [Option.map_eq_some_iff] at hc
      obtain ⟨c', h1', rfl⟩ := hc
      obtain ⟨b, m, h2', h3'⟩ := hM2.live j c' h1'
      obtain ⟨i', e1, e2, _⟩ := hback j hj
      rw [e1] at hji
      cases hji
      exact ⟨b, m, by rw [e2]; exact h2', chunk_ren hren h3'⟩
    · rw [e] at hc
      split at hc
      · cases hc
      · rename_i hio
        obtain ⟨b, m, h2', h3'⟩ := hM.live i c hc
        obtain ⟨g1, _, _⟩ := hkeep i b m hio h2'
        refine ⟨b, m, ?_, chunkRel_later hHb hev.sub (span_sub D new) hk g1 h3'⟩
        rcases hHb i (hM.dom i b m h2') with e' | e'
        · rw [e']; exact h2'
        · unfold backB at e' ⊢
          cases hp : posOf order i with
          | some j => exact absurd (List.mem_of_getElem? (posOf_some hp)) hio
          | none =>
            simp only
            split
            · rename_i hc'
              exact absurd (by unfold backTo; rw [if_neg (by omega)]; congr 1; omega) (hno (r0 + (i - new)) (by omega))
            · exact h2'
  · intro i hi
    cases hb : backB β β2 order r0 new L.length i with
    | none => rfl
    | some bm =>
      exfalso
      obtain ⟨b, m⟩ := bm
      rcases hB i _ hb with ⟨j, hj, hji, h2j⟩ | ⟨hio, hno, h⟩
      · rcases hH i with ⟨j', hj', hji', e⟩ | ⟨hno, _⟩
        · have : j' = j := hinj j' j hj' hj (by rw [hji, hji'])
          subst this
          rw [e] at hi
          simp only [Option.map_eq_none_iff] at hi
          have := hM2.dead j' hi
          rw [this] at h2j
          cases h2j
        · exact hno j hj hji
      · rcases hH i with ⟨j', hj', hji', e⟩ | ⟨_, e⟩
        · exact hno j' hj' hji'
        · rw [e, if_neg hio] at hi
          rw [hM.dead i hi] at h
          cases h
  · intro i b m hb
    rcases hB i _ hb with ⟨j, hj, hji, _⟩ | ⟨_, _, h⟩
    · obtain ⟨i', e1, _, e3⟩ := hback j hj
      rw [e1] at hji
      cases hji
      exact e3
    · exact .inl (hM.dom i b m h)
  · intro i b m hb
    rcases hB i _ hb with ⟨j, hj, hji, h2j⟩ | ⟨hio, _, h⟩
    · exact hM2.own j b m h2j
    · exact ⟨Nat.lt_of_lt_of_le (hM.own i b m h).1 hev.size, (hkeep i b m hio h).2.1⟩
  · intro i i' b m m' hb hb'
    rcases hB i _ hb with ⟨j, hj, hji, h2j⟩ | ⟨hio, _, h⟩ <;> rcases hB i' _ hb' with ⟨j', hj', hji', h2j'⟩ | ⟨hio', _, h'⟩
    · have := hM2.inj j j' b m m' h2j h2j'
      subst this
      rw [hji] at hji'
      cases hji'
      rfl
    · exact absurd h2j ((hkeep i' b m' hio' h').2.2 j m)
    · exact absurd h2j' ((hkeep i b m hio h).2.2 j' m')
    · exact hM.inj i i' b m m' h h'
  · refine ⟨hev.os, hev.tape, hev.output, hev.size, fun b hb hno => hev.keep b hb (hOO b hno), hev.sub, fun b hb => ?_, fun i b m hb => ?_⟩
    · rcases hev.newS b hb with h | h | ⟨j, m', h⟩
      · exact .inl h
      · exact .inr (.inl h)
      · obtain ⟨i', _, h2'⟩ := ofOrder_some h
        exact .inr (.inr ⟨i', m', h2'⟩)
    · rcases hB i _ hb with ⟨j, hj, hji, h2j⟩ | ⟨hio, _, h⟩
      · rcases hev.newO j b m h2j with h | ⟨j', m', h⟩
        · exact .inl h
        · obtain ⟨i', _, h2'⟩ := ofOrder_some h
          exact .inr ⟨i', m', h2'⟩
      · exact .inr ⟨i, m, h⟩

theorem plain_sound {ca : CallT} (hC : SoundC E ca) {give : Bool} {f : FuncId} {args : List V} (h : callPlain ca give f args H new k = some r) :
    ∃ res, k res = some r ∧ ∀ β S D w, Mem β S D H w → Glob E S w → (∀ i, new ≤ i → i < new + wide → ¬ D i) → CallR E β S D H new f args w res := by
  simp only [callPlain, fNL_eq, fL_eq, fCL_eq] at h
  obtain ⟨cr, hk, hcal, hsc⟩ := hC _ _ _ _ _ h
  obtain ⟨hnd, ex, hex⟩ := reach_spec H deep (chIds H (dd [] (idsL args))) (dd [] (idsL args)) (dd_nodup _ _ List.nodup_nil)
  have hmem := fun i hi => reach_mem H deep (chIds H (dd [] (idsL args))) (dd [] (idsL args)) i hi
  generalize ho : reach H deep (chIds H (dd [] (idsL args))) (dd [] (idsL args)) = order at *
  have hlen : (keep H order).length = order.length := by simp [keep]
  rw [hlen] at hsc
  have hDo : ∀ (β : Bt) (S D : Pr) (w : World), Mem β S D H w → ∀ cs, denL β S w D args cs → ∀ i ∈ order, D i := by
    intro β S D w hM cs hcs i hi
    rcases hmem i hi with h1 | h1
    · rcases dd_mem _ _ _ h1 with h2 | h2
      · cases h2
      · exact idsL_dom args cs hcs i h2
    · obtain ⟨c, hc⟩ := Option.isSome_iff_exists.1 h1
      obtain ⟨b, m, hb, _⟩ := hM.live i c hc
      exact hM.dom i b m hb
  have hcall := fun (β : Bt) (S D : Pr) (w : World) (hM : Mem β S D H w) (hG : Glob E S w) (cs : List Value) (hcs : denL β S w D args cs) => hsc (ofOrder β order) S w cs (denL_ren ren_order _ _ hcs) (hM.renum hnd) hG
  unfold callBack at hk
  split at hk
  · rename_i v L
    split at hk
    · split at hk
      · rename_i hol
        replace hk := bwK_some hk
        split at hk
        case isFalse => cases hk
        rename_i hp
        refine ⟨_, hk, fun β S D w hM hG hn => ⟨hcal, fun cs hcs => (hcall β S D w hM hG cs hcs).mono ?_⟩⟩
        rintro e w' ⟨u, β2, S2, rfl, g1, g2, g3, g4⟩
        have hord : order = [] := List.eq_nil_of_length_eq_zero hol
        have hoo : ofOrder β order = fun _ => none := by subst hord; rfl
        rw [hoo] at g3
        have hb := below_of_evo g3
        have hS3 : ∀ i b m, β i = some (b, m) → ¬ (S2 b ∨ ∃ j m', β2 j = some (b, m')) := by
          rintro i b m hbm (hs | ⟨j, m', hj⟩)
          · rcases g3.newS b hs with h | h | ⟨_, _, h⟩
            · exact (hM.own i b m hbm).2 h
            · have := (hM.own i b m hbm).1; omega
            · cases h
          · rcases g3.newO j b m' hj with h | ⟨_, _, h⟩
            · have := (hM.own i b m hbm).1; omega
            · cases h
        refine ⟨u, β, fun b => S2 b ∨ ∃ j m', β2 j = some (b, m'), rfl, ?_, ?_, ?_, Hb.refl _ _, fun i b m hi _ => hb.block b (hM.own i b m hi).1⟩
        · refine ((hM.below hb).wider (fun b h => .inl (g3.sub b h)) ?_ hS3).mono (span_sub D new)
          rintro b (hs | ⟨j, m', hj⟩)
          · exact g1.st b hs
          · exact (g1.own j b m' hj).1
        · have := bw_sound (S' := fun b => S2 b ∨ ∃ j m', β2 j = some (b, m')) (β' := fun _ => none) g1 (fun _ _ => .inr rfl) (fun _ h => .inl h) (fun i b m hb => .inr ⟨i, m, hb⟩) g2
          exact den_pure (fun _ h => h) (fun _ _ => rfl) _ _ hp this
        · refine ⟨hb.os, hb.tape, hb.output, hb.size, fun b h _ => hb.block b h, fun b h => .inl (g3.sub b h), ?_, fun i b m h => .inr ⟨i, m, h⟩⟩
          rintro b (hs | ⟨j, m', hj⟩)
          · rcases g3.newS b hs with h | h | ⟨_, _, h⟩
            · exact .inl h
            · exact .inr (.inl h)
            · cases h
          · rcases g3.newO j b m' hj with h | ⟨_, _, h⟩
            · exact .inr (.inl h)
            · cases h
      · cases hk
    · split at hk
      · rename_i hc
        obtain ⟨h1, h2, h3⟩ := hc
        refine ⟨_, hk, fun β S D w hM hG hn => ⟨hcal, fun cs hcs => (hcall β S D w hM hG cs hcs).mono ?_⟩⟩
        rintro e w' ⟨u, β2, S2, rfl, g1, g2, g3, g4⟩
        obtain ⟨q1, q2, q3, q4, q5⟩ := plain_back (f := f) (args := args) hM hn hnd (hDo β S D w hM cs hcs) h1 h2 h3 g1 g2 g3 g4
        exact ⟨u, _, S2, rfl, q1, q2, q3, q4, fun i b m hi hni => q5 i b m hi (fun hio => hni (by rw [List.map_append, List.map_map]; exact List.mem_append_left _ (List.mem_map.2 ⟨i, hio, rfl⟩)))⟩
      · cases hk
  · rename_i v
    split at hk
    · rename_i hp
      refine ⟨_, hk, fun β S D w hM hG hn => ⟨hcal, fun cs hcs => (hcall β S D w hM hG cs hcs).mono ?_⟩⟩
      rintro e w' ⟨u, β2, S2, rfl, g1, g2, g3, g4⟩
      have hev := g3.ofOrder
      have hout : ∀ i b m, β i = some (b, m) → i ∉ order → ∀ j m', ofOrder β order j ≠ some (b, m') := fun i b m hb hi j m' hj => by
        obtain ⟨i', h1, h2⟩ := ofOrder_some hj
        exact hi (by rw [hM.inj i i' _ _ _ hb h2]; exact List.mem_of_getElem? h1)
      have hdrop : ∀ i b m, dropB β order i = some (b, m) → i ∉ order ∧ β i = some (b, m) := fun i b m h => by
        unfold dropB at h
        split at h
        · cases h
        · rename_i hi; exact ⟨hi, h⟩
      have hHb : Hb β (dropB β order) D := fun i _ => by unfold dropB; split; exact .inr rfl; exact .inl rfl
      refine ⟨u, dropB β order, S2, rfl, g1, g2, ⟨hev.os, hev.tape, hev.output, hev.size, hev.keep, hev.sub, hev.newS, fun i b m h => .inr ⟨i, m, (hdrop i b m h).2⟩⟩, ?_, hHb⟩
      have hup : ∀ i, updL H (order.map fun i => (i, none)) i = if i ∈ order then none else H i := fun i => by
        rw [updL_none _ (by intro u hu; obtain ⟨_, _, rfl⟩ := List.mem_map.1 hu; rfl)]
        simp
      refine ⟨fun i c hc => ?_, fun i hi => ?_, fun i b m h => hM.dom i b m (hdrop i b m h).2, fun i b m h => ?_, fun i j b m m' h1 h2 => hM.inj i j b m m' (hdrop i b m h1).2 (hdrop j b m' h2).2, g4⟩
      · rw [hup] at hc
        split at hc
        · cases hc
        · rename_i hi
          obtain ⟨b, m, hb, hr⟩ := hM.live i c hc
          refine ⟨b, m, by unfold dropB; rw [if_neg hi]; exact hb, chunkRel_later hHb hev.sub (fun _ h => h) (hev.kept hM) (g3.keep b (hM.own i b m hb).1 fun j m' => hout i b m hb hi j m') hr⟩
      · rw [hup] at hi
        unfold dropB
        split
        · rfl
        · rename_i h; rw [if_neg h] at hi; exact hM.dead i hi
      · obtain ⟨h1, h2⟩ := hdrop i b m h
        obtain ⟨h3, h4⟩ := hM.own i b m h2
        refine ⟨Nat.lt_of_lt_of_le h3 hev.size, fun hs => ?_⟩
        rcases g3.newS b hs with h5 | h5 | ⟨j, m', h5⟩
        · exact h4 h5
        · omega
        · exact hout i b m h2 h1 j m' h5
    · cases hk
theorem bw1_part {β β' : Bt} {S S' D : Pr} {H : Hp} {w : World} (hM : Mem β S D H w) (hHb : Hb β β' D) (hS : ∀ b, S b → S' b) {v : V} {u : Value} (hown : ∀ i, (i, none) ∈ gone1 v → ∀ b m, β i = some (b, m) → S' b) (h : den β S w D v u) : den β' S' w D (v.bw1 H) u :=
  bw1_sound hM hHb hS (fun i z o l b m e hb => hown i (by subst e; simp [gone1]) b m hb) h
theorem bw2_part {β β' : Bt} {S S' D : Pr} {H : Hp} {w : World} (hM : Mem β S D H w) (hHb : Hb β β' D) (hS : ∀ b, S b → S' b) {v : V} {u : Value} (hown : ∀ i, (i, none) ∈ gone2 v → ∀ b m, β i = some (b, m) → S' b) (h : den β S w D v u) : den β' S' w D (v.bw2 H) u := by
  unfold V.bw2
  split
  · rename_i cs
    simp only [den] at h ⊢
    obtain ⟨us, h1, h2, h3⟩ := h
    refine ⟨us, h1, ?_, h3⟩
    clear h1 h3
    have hown' : ∀ c ∈ cs, ∀ i, (i, none) ∈ gone1 c → ∀ b m, β i = some (b, m) → S' b := fun c hc i hi => hown i (by simp only [gone2, List.mem_flatMap]; exact ⟨c, hc, hi⟩)
    clear hown
    induction cs generalizing us with
    | nil => simpa [denL] using h2
    | cons c cs ih =>
      simp only [denL, List.map_cons] at h2 ⊢
      obtain ⟨x, xs, h4, h5, h6⟩ := h2
      exact ⟨x, xs, h4, bw1_part hM hHb hS (hown' c (.head _)) h5, ih xs h6 fun c hc => hown' c (.tail _ hc)⟩
  · rename_i hne
    refine bw1_part hM hHb hS (fun i hi => hown i ?_) h
    unfold gone2
    split
    · rename_i cs; exact absurd rfl (hne cs)
    · exact hi
theorem bw_part {β β' : Bt} {S S' D : Pr} {H : Hp} {w : World} (hM : Mem β S D H w) (hHb : Hb β β' D) (hS : ∀ b, S b → S' b) {v : V} {u : Value} (hown : ∀ i, (i, none) ∈ goneV v → ∀ b m, β i = some (b, m) → S' b) (h : den β S w D v u) : den β' S' w D (v.bw H) u := by
  unfold V.bw
  split
  · rename_i cs
    simp only [den] at h ⊢
    obtain ⟨us, h1, h2⟩ := h
    refine ⟨us, h1, ?_⟩
    clear h1
    have hown' : ∀ c ∈ cs, ∀ i, (i, none) ∈ gone2 c → ∀ b m, β i = some (b, m) → S' b := fun c hc i hi => hown i (by simp only [goneV, List.mem_flatMap]; exact ⟨c, hc, hi⟩)
    clear hown
    induction cs generalizing us with
    | nil => simpa [denL] using h2
    | cons c cs ih =>
      simp only [denL, List.map_cons] at h2 ⊢
      obtain ⟨x, xs, h4, h5, h6⟩ := h2
      exact ⟨x, xs, h4, bw2_part hM hHb hS (hown' c (.head _)) h5, ih xs h6 fun c hc => hown' c (.tail _ hc)⟩
  · rename_i hne
    refine bw2_part hM hHb hS (fun i hi => hown i ?_) h
    unfold goneV
    split
    · rename_i cs; exact absurd rfl (hne cs)
    · exact hi
theorem gone1_none {v : V} : ∀ x ∈ gone1 v, x.2 = none := by
  intro x hx
  unfold gone1 at hx
  split at hx
  · simp only [List.mem_singleton] at hx; subst hx; rfl
  · cases hx
theorem gone2_none {v : V} : ∀ x ∈ gone2 v, x.2 = none := by
  intro x hx
  unfold gone2 at hx
  split at hx
  · obtain ⟨c, _, h⟩ := List.mem_flatMap.1 hx; exact gone1_none x h
  · exact gone1_none x hx
theorem goneV_none {v : V} : ∀ x ∈ goneV v, x.2 = none := by
  intro x hx
  unfold goneV at hx
  split at hx
  · obtain ⟨c, _, h⟩ := List.mem_flatMap.1 hx; exact gone2_none x h
  · exact gone2_none x hx
theorem giveM_sound {ca : CallT} (hC : SoundC E ca) {f : FuncId} {args : List V} (h : callPlain ca false f args H new (giveK H k) = some r) :
    ∃ res, k res = some r ∧ ∀ β S D w, Mem β S D H w → Glob E S w → (∀ i, new ≤ i → i < new + wide → ¬ D i) → CallR E β S D H new f args w res := by
  obtain ⟨res, h1, h2⟩ := plain_sound hC h
  cases res with
  | pan v us => exact ⟨_, h1, h2⟩
  | call g cs => exact ⟨_, h1, h2⟩
  | dfr g cs => exact ⟨_, h1, h2⟩
  | val v us =>
    simp only [giveK] at h1
    refine ⟨_, bwK_some h1, fun β S D w hM hG hn => ?_⟩
    obtain ⟨c1, c2⟩ := h2 β S D w hM hG hn
    refine ⟨c1, fun cs hcs => (c2 cs hcs).mono ?_⟩
    rintro e w' ⟨u, β', S', rfl, q1, q2, q3, q4, q5⟩
    obtain ⟨g1, g2, g3⟩ := q1.drop (goneV v) goneV_none
    refine ⟨u, _, _, rfl, by rw [updL_append]; exact g1, ?_, q3.trans g2, q4.trans (span_sub D new) g3, fun i b m hb hi => q5 i b m hb fun h => hi (by rw [List.map_append]; exact List.mem_append_left _ h)⟩
    exact bw_part q1 g3 (fun _ h => .inl h) (fun i hi b m hb => .inr ⟨i, m, List.mem_map.2 ⟨_, hi, rfl⟩, hb⟩) q2
theorem doCall_sound {ca : CallT} (hC : SoundC E ca) (hX : SoundX E) {me f : FuncId} {args : List V} (h : doCall E ca me f args H new k = some r) :
    ∃ res, k res = some r ∧ ∀ β S D w, Mem β S D H w → Glob E S w → (∀ i, new ≤ i → i < new + wide → ¬ D i) → CallR E β S D H new f args w res := by
  simp only [doCall, fL_eq] at h
  split at h
  · obtain ⟨res, h1, h2⟩ := lend_sound hC hX h
    exact ⟨res, h1, fun β S D w hM hG _ => h2 β S D w new hM hG⟩
  · split at h
    · rename_i v hv
      exact ⟨_, h, fun β S D w hM hG _ => ext_sound hX hM hG hv⟩
    · exact plain_sound hC h
  · split at h
    · rename_i v hv
      exact ⟨_, h, fun β S D w hM hG _ => ext_sound hX hM hG hv⟩
    · exact plain_sound hC h
  · split at h
    · rename_i v hv
      exact ⟨_, h, fun β S D w hM hG _ => ext_sound hX hM hG hv⟩
    · exact giveM_sound hC h
end
end Go.Am
