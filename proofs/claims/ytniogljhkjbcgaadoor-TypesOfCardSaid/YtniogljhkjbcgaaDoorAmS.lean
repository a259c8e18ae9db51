/- A region that draws its order, sound. -/
import Derived.Test.YtniogljhkjbcgaaDoorAmR
namespace Go.Am
open Go Go.RowKit
set_option linter.unusedSimpArgs false
set_option linter.unusedVariables false

structure RelN (E : Env) (β : Bt) (S D : Pr) (N : Nat) (s : St) (a : Act) (w : World) : Prop where
  fr : denL β S w D s.fr a.tmps.toList
  mem : Mem β S D s.H w
  df : Dfs E s.me a.defers
  lt : ∀ i, D i → i < N
  gl : Glob E S w
  rtD : ∀ i, i < s.rt → D i

/-- What the text's run says of each operation: it does so, and with those ahead of it it has an edge or meets them nowhere. -/
theorem run_at {E : Env} {ops : List Oper} {base : Nat} : ∀ {l : List Oper} {i : Nat} {done : List (Nat × Bool × Vw × List Nat)} {s s' : S2} {rs : List Rc} {bs : List Vw}, TextRun E ops base i l done s rs bs s' →
    rs.length = l.length ∧ bs.length = l.length ∧ s' = Ts s l rs l.length ∧ ∀ (j : Nat) (o : Oper) (r : Rc) (b : Vw), l[j]? = some o → rs[j]? = some r → bs[j]? = some b → Does E ops.toArray base b (base + (i + j) * wide) o (Ts s l rs j) r ∧
      ∃ done', pairsOk ops base o b (r.2.map (·.1)) done' = true ∧ (∀ x ∈ done, x ∈ done') ∧ ∀ (q : Nat) (oq : Oper) (rq : Rc) (bq : Vw), q < j → l[q]? = some oq → rs[q]? = some rq → bs[q]? = some bq → (i + q, readsOp oq.op, bq, rq.2.map (·.1)) ∈ done' := by
  intro l i done s s' rs bs h
  induction h with
  | nil => exact ⟨rfl, rfl, rfl, fun j o r b h => by simp at h⟩
  | @cons i o l done s s' r rs b bs hd hp hrun ih =>
    obtain ⟨h1, h1', h2, h3⟩ := ih
    refine ⟨by simp [h1], by simp [h1'], by rw [h2]; rfl, fun j o' r' b' hj hr hb => ?_⟩
    cases j with
    | zero =>
      simp only [List.getElem?_cons_zero, Option.some.injEq] at hj hr hb
      subst hj hr hb
      exact ⟨hd, done, hp, fun x hx => hx, fun q oq rq bq hq => by omega⟩
    | succ j =>
      obtain ⟨g1, done', g2, g3, g4⟩ := h3 j o' r' b' (by simpa using hj) (by simpa using hr) (by simpa using hb)
      rw [show i + 1 + j = i + (j + 1) by omega] at g1
      refine ⟨g1, done', g2, fun x hx => g3 x (.tail _ hx), fun q oq rq bq hq hoq hrq hbq => ?_⟩
      cases q with
      | zero =>
        simp only [List.getElem?_cons_zero, Option.some.injEq] at hoq hrq hbq
        subst hoq hrq hbq
        exact g3 _ (.head _)
      | succ q =>
        have := g4 q oq rq bq (by omega) (by simpa using hoq) (by simpa using hrq) (by simpa using hbq)
        rw [show i + 1 + q = i + (q + 1) by omega] at this
        exact this

section
variable {E : Env} {ops : List Oper} {befs : List Nat} {base : Nat}
theorem any_lex {bits : Nat → Vw} {eff : Nat → Rc} {T : Nat → S2}
    (hT : ∀ j o, ops[j]? = some o → T (j + 1) = app2 (T j) o (eff j))
    (hP : ∀ i j oi oj, i < j → ops[i]? = some oi → ops[j]? = some oj → far ops.toArray oj i → oi.apart ops.toArray oj = true → PairC ops.toArray base oi oj (bits i) (bits j) ((eff i).2.map (·.1)) ((eff j).2.map (·.1))) :
    ∀ (l : List Oper) (k : Nat) (listed : Array Bool), k + l.length = ops.length → (∀ j, l[j]? = ops[k + j]?) → (∀ j, listed.getD j true = false → k ≤ j) → Closed ops.toArray listed → Region.lexFrom .any ops.toArray l.length k listed = true →
      AnyA ops.toArray base bits eff T (T ops.length) l.length listed (T k)
  | [], k, listed, hlen, hl, _, _, hB => by
    refine ⟨by simpa [Region.lexFrom] using hB, ?_⟩
    rw [show k = ops.length by simpa using hlen]
  | o :: l, k, listed, hlen, hl, hun, hcl, hB => by
    have h0 : ops[k]? = some o := by simpa using (hl 0).symm
    simp only [List.length_cons, Region.lexFrom, Bool.and_eq_true] at hB
    obtain ⟨⟨hr, hf⟩, hB'⟩ := hB
    have h0' : ops.toArray[k]? = some o := by simpa using h0
    refine any_first h0' l.length listed (T k) (fun j oj hj hjk hjun hno => ?_) hcl (by simpa using hr) ⟨fun _ _ => rfl, fun _ => rfl⟩ ?_
    · have hkj := hun j hjun
      exact hP k j o oj (by omega) h0 (by simpa using hj) hno (Region.free_spec h0' hf j oj hj hjk hjun fun e he hb => (hno e he hb).1)
    · rw [← hT k o h0]
      refine any_lex hT hP l (k + 1) _ (by simp only [List.length_cons] at hlen; omega) (fun j => by have := hl (j + 1); simpa [Nat.add_assoc, Nat.add_comm 1 j] using this) (fun j hj => ?_) (by
        obtain ⟨_, ok, hok, hall⟩ := mem_ready.1 (show k ∈ Region.ready .any ops.toArray listed by simpa using hr)
        rw [h0'] at hok
        cases hok
        exact hcl.add h0' hall) hB'
      by_cases hjk : k = j
      · subst hjk
        exfalso
        have : (listed.setIfInBounds k true).getD k true = true := by
          simp only [Array.getD_eq_getD_getElem?]
          rw [Array.getElem?_setIfInBounds]
          split
          · split <;> simp
          · rename_i h; exact absurd rfl h
        rw [this] at hj
        cases hj
      · rw [getD_set_ne true hjk] at hj
        have := hun j hj
        omega

/-- Any order, in the model. -/
theorem any_wp {E : Env} {ops : Array Oper} {base : Nat} {bits : Nat → Vw} {eff : Nat → Rc} {T : Nat → S2} {fin : S2} {Q : Exit → Act → World → Prop} {rt : Nat} {ds : List Deferred}
    (hD : ∀ i o, ops[i]? = some o → Does E ops base (bits i) (base + i * wide) o (T i) (eff i)) {β0 : Bt} {S0 : Pr} {w0 : World}
    (hQ : ∀ (β : Bt) (S D : Pr) (a : Act) (w : World), denL β S w D fin.1 a.tmps.toList → Mem β S D fin.2 w → a.defers = ds → (∀ i, D i → i < base + ops.size * wide) → Glob E S w → (∀ i, i < rt → D i) → Evo β0 S0 w0 β S w → Roots rt β0 β → Q .normal a w) :
    ∀ (fuel : Nat) (listed : Array Bool) (s : S2) (β : Bt) (S D : Pr) (a : Act) (w : World), AnyA ops base bits eff T fin fuel listed s → listed.size = ops.size → denL β S w D s.1 a.tmps.toList → Mem β S D s.2 w → a.defers = ds →
      (∀ i, D i → i < base ∨ (base ≤ i ∧ listed.getD ((i - base) / wide) false = true)) → Glob E S w → (∀ i, i < rt → D i) → Evo β0 S0 w0 β S w → Roots rt β0 β → wpAny E.P .any ops Q fuel listed a w := by
  have hlt : ∀ (listed : Array Bool) (D : Pr), listed.size = ops.size → (∀ i, D i → i < base ∨ (base ≤ i ∧ listed.getD ((i - base) / wide) false = true)) → ∀ i, D i → i < base + ops.size * wide := by
    intro listed D hsz hlD i hi
    rcases hlD i hi with h | ⟨h1, h2⟩
    · omega
    · have : (i - base) / wide < listed.size := by
        rcases Nat.lt_or_ge ((i - base) / wide) listed.size with h | h
        · exact h
        · simp [Array.getElem?_eq_none h] at h2
      rw [hsz] at this
      have := (Nat.div_lt_iff_lt_mul (show 0 < wide by simp [wide])).1 this
      omega
  intro fuel
  induction fuel with
  | zero =>
    intro listed s β S D a w hA hsz hf hM hdf hlD hG hrt hev hro
    obtain ⟨h1, rfl⟩ := hA
    exact ⟨h1, hQ β S D a w hf hM hdf (hlt listed D hsz hlD) hG hrt hev hro⟩
  | succ fuel ih =>
    intro listed s β S D a w hA hsz hf hM hdf hlD hG hrt hev hro
    obtain ⟨h1, h2⟩ := hA
    refine ⟨fun h0 => ?_, fun i hi => ?_⟩
    · have := h1 h0
      subst this
      exact hQ β S D a w hf hM hdf (hlt listed D hsz hlD) hG hrt hev hro
    · obtain ⟨hun, o, ho, hall⟩ := mem_ready.1 hi
      obtain ⟨g1, g2⟩ := h2 i hi o ho
      have hin : i < listed.size := by
        rcases Nat.lt_or_ge i listed.size with h | h
        · exact h
        · simp [Array.getElem?_eq_none h] at hun
      have hfresh : ∀ x, base + i * wide ≤ x → x < base + i * wide + wide → ¬ D x := by
        intro x hx1 hx2 hDx
        rcases hlD x hDx with h | ⟨h3, h4⟩
        · omega
        · have hdiv : (x - base) / wide = i := by
            have hw : 0 < wide := by simp [wide]
            apply Nat.div_eq_of_lt_le
            · omega
            · rw [Nat.add_mul]; omega
          rw [hdiv] at h4
          simp only [Array.getD_eq_getD_getElem?, Array.getElem?_eq_getElem hin, Option.getD_some] at hun h4
          rw [hun] at h4
          cases h4
      unfold wpOp
      simp only [ho]
      refine hD i o ho s g1 β S D a w Q _ hf hM hG hfresh ?_
      intro u w' β' S' q1 q2 q3 q4
      have hk := q3.kept hM
      refine ih (listed.setIfInBounds i true) (app2 s o (eff i)) β' S' (span D (base + i * wide)) (a.put o.dst u) w' g2 (by simpa using hsz) (put_den (denL_later q4 q3.sub (span_sub _ _) hk _ _ hf) q2) q1 (by rw [put_defers]; exact hdf) ?_ (hG.later q3.sub hk) (fun j hj => .inl (hrt j hj)) (hev.trans q3) ?_
      · intro x hx
        rcases hx with hx | ⟨hx1, hx2⟩
        · rcases hlD x hx with h | ⟨h3, h4⟩
          · exact .inl h
          · right
            refine ⟨h3, ?_⟩
            by_cases hxi : i = (x - base) / wide
            · rw [← hxi]
              simp only [Array.getD_eq_getD_getElem?, Array.getElem?_setIfInBounds]
              simp [hin]
            · rw [getD_set_ne false hxi]; exact h4
        · right
          refine ⟨by omega, ?_⟩
          have hdiv : (x - base) / wide = i := by
            have hw : 0 < wide := by simp [wide]
            apply Nat.div_eq_of_lt_le
            · omega
            · rw [Nat.add_mul]; omega
          rw [hdiv]
          simp only [Array.getD_eq_getD_getElem?, Array.getElem?_setIfInBounds]
          simp [hin]
      · intro j bm hj hb
        rcases q4 j (hrt j hj) with e | e
        · rw [e] at hb; exact hro j bm hj hb
        · rw [e] at hb; cases hb

theorem draw_sound {ca : CallT} (hC : SoundC E ca) (hX : SoundX E) {id : Nat} {s : St} {k : KX} {r : Ans} (hok : drawOk E.P ops = true) (h : stepD E ca ops befs s.nx 0 ops [] s k = some r) :
    ∃ s', k .normal s' = some r ∧ s'.rt = s.rt ∧ s'.me = s.me ∧ ∀ (β : Bt) (S D : Pr) (a : Act) (w : World), RelN E β S D s.nx s a w → ∀ Q : Exit → Act → World → Prop,
      (∀ (β' : Bt) (S' D' : Pr) (a' : Act) (w' : World), RelN E β' S' D' s'.nx s' a' w' → Evo β S w β' S' w' → Roots s.rt β β' → Q .normal a' w') → (Code.region id ops.toArray true).wp E.P Q a w := by
  unfold drawOk at hok
  rw [Bool.and_eq_true] at hok
  obtain ⟨hm, hB⟩ := hok
  obtain ⟨rs, bs, sf, hrun, hk⟩ := stepD_run hC hX ops 0 [] s k r h
  obtain ⟨hlen, hlen', hfin, hat⟩ := run_at hrun
  refine ⟨_, hk, rfl, rfl, fun β S D a w hR Q hQ => ?_⟩
  have hrs : ∀ (j : Nat) (o : Oper), ops[j]? = some o → ∃ r, rs[j]? = some r := fun j o hj => by
    have : j < rs.length := by rw [hlen]; exact (List.getElem?_eq_some_iff.1 hj).1
    exact ⟨_, List.getElem?_eq_getElem this⟩
  have hbs : ∀ (j : Nat) (o : Oper), ops[j]? = some o → bs[j]? = some (bs.getD j ⟨0, none⟩) := fun j o hj => by
    have : j < bs.length := by rw [hlen']; exact (List.getElem?_eq_some_iff.1 hj).1
    simp [List.getD, List.getElem?_eq_getElem this]
  have hgetD : ∀ (j : Nat) (r : Rc), rs[j]? = some r → rs.getD j (.junk, []) = r := fun j r hj => by simp [List.getD, hj]
  simp only [Region.lexB, Bool.and_eq_true] at hB
  have hany := any_lex (ops := ops) (base := s.nx) (bits := fun i => bs.getD i ⟨0, none⟩) (eff := fun i => rs.getD i (.junk, [])) (T := fun i => Ts (s.fr, s.H) ops rs i)
    (fun j o hj => by
      obtain ⟨r, hr⟩ := hrs j o hj
      simp only [hgetD j r hr]
      exact Ts_succ ops rs _ j o r hj hr)
    (fun i j oi oj hij hi hj hno hap => by
      obtain ⟨ri, hri⟩ := hrs i oi hi
      obtain ⟨rj, hrj⟩ := hrs j oj hj
      simp only [hgetD i ri hri, hgetD j rj hrj]
      obtain ⟨_, done', g2, _, g4⟩ := hat j oj rj _ hj hrj (hbs j oj hj)
      have hmem := g4 i oi ri _ hij hi hri (hbs i oi hi)
      simp only [Nat.zero_add] at hmem
      rcases pairsOk_mem g2 hmem with hf | ⟨a1, a2, a3⟩
      · exact absurd hno hf
      · exact ⟨hap, a1, a2, a3⟩)
    ops 0 (Array.replicate ops.length false) (by simp) (by simp) (fun j _ => Nat.zero_le _) (fun m om hm hl => by
      rcases Nat.lt_or_ge m ops.length with g | g <;> simp [g, Nat.not_lt.2] at hl
      all_goals omega) (by simpa using hB.2)
  have hT0 : Ts (s.fr, s.H) ops rs 0 = (s.fr, s.H) := by cases ops <;> cases rs <;> rfl
  rw [hT0] at hany
  refine wp_region_any hm ?_
  have hM' : Mem β S D s.H { w with drawn := w.drawn + 1 } := hR.mem.below ⟨rfl, rfl, rfl, Nat.le_refl _, fun _ _ => rfl⟩
  have hkS : Kept S w { w with drawn := w.drawn + 1 } := fun _ _ => rfl
  have := any_wp (E := E) (ops := ops.toArray) (base := s.nx) (bits := fun i => bs.getD i ⟨0, none⟩) (eff := fun i => rs.getD i (.junk, [])) (T := fun i => Ts (s.fr, s.H) ops rs i) (Q := Q) (rt := s.rt)
    (fun i o hi => by
      have hi' : ops[i]? = some o := by simpa using hi
      obtain ⟨r, hr⟩ := hrs i o hi'
      obtain ⟨g1, _⟩ := hat i o r _ hi' hr (hbs i o hi')
      simp only [hgetD i r hr]
      simpa using g1) (β0 := β) (S0 := S) (w0 := w)
    (fun β' S' D' a' w' h1 h2 h3 h4 h5 h6 h7 h8 => hQ β' S' D' a' w' ⟨by rw [hfin]; exact h1, by rw [hfin]; exact h2, by rw [h3]; exact hR.df, fun i hi => by have := h4 i hi; simpa using this, h5, h6⟩ h7 h8)
    ops.length (Array.replicate ops.length false) (s.fr, s.H) β S D a { w with drawn := w.drawn + 1 } hany (by simp) (denL_later (fun _ _ => .inl rfl) (fun _ h => h) (fun _ h => h) hkS _ _ hR.fr) hM' rfl (fun i hi => .inl (hR.lt i hi)) (hR.gl.later (fun _ h => h) hkS) hR.rtD (Evo.below ⟨rfl, rfl, rfl, Nat.le_refl _, fun _ _ => rfl⟩) (fun _ _ _ h => h)
  simpa using this
end
end Go.Am
