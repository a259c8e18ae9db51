/- Operations that only read. -/
import Derived.Test.YtniogljhkjbcgaaDoorAmB
namespace Go.Am
open Go
set_option linter.unusedSimpArgs false
set_option linter.unusedVariables false

section
variable {P : Program} {β : Bt} {S D : Pr} {w : World}

theorem run_sz {t : TypeId} {n : Nat} (h : szP P t = some n) : (sizeOf t).run P w = .ok n w := by
  unfold szP at h
  cases hi : P.info? t with
  | none => rw [hi] at h; cases h
  | some i =>
    rw [hi] at h
    simp only [Option.map_some, Option.some.injEq] at h
    simp [sizeOf, typeInfo, hi, h]
theorem run_agg {t : TypeId} {b : Bool} (h : aggP P t = some b) : (isAgg t).run P w = .ok b w := by
  unfold aggP at h
  cases hu : P.underlying t with
  | none => rw [hu] at h; cases h
  | some d =>
    rw [hu] at h
    simp only [isAgg, Sem.run_bind, run_underlying hu, Result.andThen_ok]
    cases d <;> simp_all
theorem elem_under {t e : TypeId} (h : elemP P t = some e) : P.underlying t = some (.slice e) := by
  unfold elemP at h
  split at h
  · simp only [Option.some.injEq] at h; subst h; assumption
  · cases h
theorem arr_under {t e : TypeId} {n : Nat} (h : arrP P t = some (n, e)) : P.underlying t = some (.array n e) := by
  unfold arrP at h
  split at h
  · simp only [Option.some.injEq, Prod.mk.injEq] at h; obtain ⟨rfl, rfl⟩ := h; assumption
  · cases h
theorem fld_under {t u : TypeId} {f o : Nat} (h : fldP P t f = some (o, u)) : ∃ fs fd, P.underlying t = some (.struct fs) ∧ fs[f]? = some fd ∧ fd.offset = o ∧ fd.type = u := by
  unfold fldP at h
  split at h
  · rename_i fs hu
    simp only [Option.map_eq_some_iff, Prod.mk.injEq] at h
    obtain ⟨fd, h1, h2, h3⟩ := h
    exact ⟨fs, fd, hu, h1, h2, h3⟩
  · cases h
theorem pureL_all : ∀ {l : List V}, pureL l = true ↔ ∀ v ∈ l, v.pure = true
  | [] => by simp [pureL]
  | c :: cs => by simp [pureL, pureL_all (l := cs)]
theorem pureL_drop {l : List V} (n : Nat) (h : pureL l = true) : pureL (l.drop n) = true := pureL_all.2 fun v hv => pureL_all.1 h v (List.mem_of_mem_drop hv)
theorem all_drop {us : List Value} {p : Value → Bool} (n : Nat) (h : us.all p = true) : (us.drop n).all p = true := by
  rw [List.all_eq_true] at h ⊢
  exact fun x hx => h x (List.mem_of_mem_drop hx)
theorem all_take {us : List Value} {p : Value → Bool} (n : Nat) (h : us.all p = true) : (us.take n).all p = true := by
  rw [List.all_eq_true] at h ⊢
  exact fun x hx => h x (List.mem_of_mem_take hx)

theorem seg_load {t : TypeId} {cs : List V} {us : List Value} {o : Nat} {v : V} {p : Addr} (h : seg P t cs o = some v) (hd : denL β S w D cs us) (h1 : us.all Value.oneCell' = true)
    (hc : ∀ i x, us[o + i]? = some x → w.cell? (p.add i) = some x) : ∃ y, (loadVar t p).run P w = .ok y w ∧ den β S w D v y := by
  unfold seg at h
  split at h
  · rename_i ha
    split at h
    · rename_i n hn
      split at h
      · rename_i hle
        simp only [Option.some.injEq] at h
        subst h
        have hlen := denL_len hd
        have hl : ((us.drop o).take n).length = n := by simp; omega
        have hrun := run_loadCells_list (P := P) (w := w) p ((us.drop o).take n) (fun j x hx => hc j x (by
          rw [List.getElem?_take] at hx
          split at hx
          · rwa [List.getElem?_drop] at hx
          · cases hx))
        rw [hl] at hrun
        refine ⟨.agg ((us.drop o).take n).toArray, by simp [loadVar, Sem.run_bind, run_agg ha, run_sz hn, hrun], ?_⟩
        simp only [den]
        exact ⟨_, rfl, denL_take n (denL_drop o hd), all_take n (all_drop o h1)⟩
      · cases h
    · cases h
  · rename_i ha
    obtain ⟨u, hu, hdu⟩ := denL_get hd o v h
    have := hc 0 u (by simpa using hu)
    have e : p.add 0 = p := by simp [Addr.add]
    rw [e] at this
    exact ⟨u, by simp [loadVar, Sem.run_bind, run_agg ha, load, Sem.run, this], hdu⟩
  · cases h

theorem seg_part {t : TypeId} {cs : List V} {us : List Value} {o : Nat} {v : V} (h : seg P t cs o = some v) (hd : denL β S w D cs us) (h1 : us.all Value.oneCell' = true) :
    ∃ y, (part t us.toArray o).run P w = .ok y w ∧ den β S w D v y := by
  unfold seg at h
  split at h
  · rename_i ha
    split at h
    · rename_i n hn
      split at h
      · simp only [Option.some.injEq] at h
        subst h
        refine ⟨.agg ((us.drop o).take n).toArray, ?_, ?_⟩
        · simp only [part, Sem.run_bind, run_agg ha, Result.andThen_ok, if_true, run_sz hn, Sem.run_pure]
          congr 2
          simp [List.extract_eq_take_drop]
        · simp only [den]
          exact ⟨_, rfl, denL_take n (denL_drop o hd), all_take n (all_drop o h1)⟩
      · cases h
    · cases h
  · rename_i ha
    obtain ⟨u, hu, hdu⟩ := denL_get hd o v h
    exact ⟨u, by simp [part, Sem.run_bind, run_agg ha, hu], hdu⟩
  · cases h
end

/-! ### Memory -/
def rowOK (β : Bt) (S : Pr) (w : World) (D : Pr) (k n : Nat) (f : Nat → List V) (cur : Array Value) : Prop :=
  ∀ j, j < n → ∃ us : List Value, denL β S w D (f j) us ∧ pureL (f j) = true ∧ us.length = k ∧ us.all Value.oneCell' = true ∧ ∀ i x, us[i]? = some x → cur[j * k + i]? = some x
/-- A list of what a map holds, in the order in which it was laid in. -/
def mapOK (β : Bt) (S : Pr) (w : World) (D : Pr) : List (Int × V) → List MapEntry → Prop
  | [], es => es = []
  | (n, v) :: l, es => ∃ e es', es = e :: es' ∧ e.key = .int .i64 n ∧ den β S w D v e.val ∧ v.pure = true ∧ mapOK β S w D l es'
/-- What stands at a string. -/
def findS (s : ByteArray) : List MapEntry → Nat → Option (Nat × Value)
  | [], _ => none
  | e :: es, i => match e.key with | .string q => if (s == q) = true then some (i, e.val) else findS s es (i + 1) | _ => findS s es (i + 1)
def smapOK (β : Bt) (S : Pr) (w : World) (D : Pr) (n : Nat) (g : ByteArray → Bool) (f : ByteArray → V) (es : List MapEntry) : Prop :=
  es.length = n ∧ (∀ e ∈ es, ∃ s, e.key = .string s) ∧ ∀ s, match findS s es 0 with
    | some p => g s = true ∧ den β S w D (f s) p.2 ∧ (f s).pure = true
    | none => g s = false
def chunkRel (β : Bt) (S : Pr) (w : World) (D : Pr) (b m : Nat) : Chunk → Prop
  | .blk cs => ∃ (us : List Value) (T : TypeId), w.heap[b]? = some (.cells us.toArray T (0, 0)) ∧ denL β S w D cs us ∧ us.all Value.oneCell' = true
  | .row e k n f => n ≤ m ∧ m ≤ maxLen ∧ 0 < k ∧ ∃ cur : Array Value, w.heap[b]? = some (.cells cur e (0, 0)) ∧ cur.size = m * k ∧ rowOK β S w D k n f cur
  | .iter s p => w.heap[b]? = some (.stringIter s p)
  | .map l => ∃ (es : List MapEntry) (clock : Nat), w.heap[b]? = some (.map es.toArray clock) ∧ mapOK β S w D l es
  | .smap n g f => ∃ (es : List MapEntry) (clock : Nat), w.heap[b]? = some (.map es.toArray clock) ∧ smapOK β S w D n g f es

structure Mem (β : Bt) (S D : Pr) (H : Hp) (w : World) : Prop where
  live : ∀ i c, H i = some c → ∃ b m, β i = some (b, m) ∧ chunkRel β S w D b m c
  dead : ∀ i, H i = none → β i = none
  dom : ∀ i b m, β i = some (b, m) → D i
  own : ∀ i b m, β i = some (b, m) → b < w.heap.size ∧ ¬ S b
  inj : ∀ i j b m m', β i = some (b, m) → β j = some (b, m') → i = j
  st : ∀ b, S b → b < w.heap.size

/-- How the world goes on. -/
structure Evo (β : Bt) (S : Pr) (w : World) (β' : Bt) (S' : Pr) (w' : World) : Prop where
  os : w'.os = w.os
  tape : w'.tape = w.tape
  output : w'.output = w.output
  size : w.heap.size ≤ w'.heap.size
  keep : ∀ b, b < w.heap.size → (∀ i m, β i ≠ some (b, m)) → w'.heap[b]? = w.heap[b]?
  sub : ∀ b, S b → S' b
  newS : ∀ b, S' b → S b ∨ w.heap.size ≤ b ∨ ∃ i m, β i = some (b, m)
  newO : ∀ i b m, β' i = some (b, m) → w.heap.size ≤ b ∨ ∃ j m', β j = some (b, m')

theorem Evo.refl (β : Bt) (S : Pr) (w : World) : Evo β S w β S w := ⟨rfl, rfl, rfl, Nat.le_refl _, fun _ _ _ => rfl, fun _ h => h, fun _ h => .inl h, fun i b m h => .inr ⟨i, m, h⟩⟩
theorem Evo.trans {β β' β'' : Bt} {S S' S'' : Pr} {w w' w'' : World} (h : Evo β S w β' S' w') (g : Evo β' S' w' β'' S'' w'') : Evo β S w β'' S'' w'' := by
  refine ⟨g.os.trans h.os, g.tape.trans h.tape, g.output.trans h.output, Nat.le_trans h.size g.size, ?_, fun b hb => g.sub b (h.sub b hb), ?_, ?_⟩
  · intro b hb hn
    rw [g.keep b (Nat.lt_of_lt_of_le hb h.size) (fun i m he => by
      rcases h.newO i b m he with h1 | ⟨j, m', h1⟩
      · omega
      · exact hn j m' h1)]
    exact h.keep b hb hn
  · intro b hb
    rcases g.newS b hb with h1 | h1 | ⟨i, m, h1⟩
    · exact h.newS b h1
    · exact .inr (.inl (Nat.le_trans h.size h1))
    · rcases h.newO i b m h1 with h2 | h2
      · exact .inr (.inl h2)
      · exact .inr (.inr h2)
  · intro i b m hb
    rcases g.newO i b m hb with h1 | ⟨j, m', h1⟩
    · exact .inl (Nat.le_trans h.size h1)
    · exact h.newO j b m' h1
theorem Evo.kept {β β' : Bt} {S S' D : Pr} {H : Hp} {w w' : World} (h : Evo β S w β' S' w') (hM : Mem β S D H w) : Kept S w w' :=
  fun b hb => h.keep b (hM.st b hb) fun i m he => (hM.own i b m he).2 hb

theorem rowOK_later {β β' : Bt} {S S' D D' : Pr} {w w' : World} {k n : Nat} {f : Nat → List V} {cur : Array Value} (hS : ∀ b, S b → S' b) (hk : Kept S w w') (h : rowOK β S w D k n f cur) : rowOK β' S' w' D' k n f cur := by
  intro j hj
  obtain ⟨us, h1, h2, h3, h4, h5⟩ := h j hj
  exact ⟨us, denL_pure hS hk _ _ h2 h1, h2, h3, h4, h5⟩
theorem mapOK_later {β β' : Bt} {S S' D D' : Pr} {w w' : World} (hS : ∀ b, S b → S' b) (hk : Kept S w w') : ∀ {l : List (Int × V)} {es : List MapEntry}, mapOK β S w D l es → mapOK β' S' w' D' l es
  | [], es, h => h
  | (n, v) :: l, es, h => by
    obtain ⟨e, es', h1, h2, h3, h4, h5⟩ := h
    exact ⟨e, es', h1, h2, den_pure hS hk _ _ h4 h3, h4, mapOK_later hS hk h5⟩
theorem smapOK_later {β β' : Bt} {S S' D D' : Pr} {w w' : World} {n : Nat} {g : ByteArray → Bool} {f : ByteArray → V} {es : List MapEntry} (hS : ∀ b, S b → S' b) (hk : Kept S w w') (h : smapOK β S w D n g f es) : smapOK β' S' w' D' n g f es := by
  refine ⟨h.1, h.2.1, fun s => ?_⟩
  have := h.2.2 s
  split at this
  · rename_i p hp
    exact ⟨this.1, den_pure hS hk _ _ this.2.2 this.2.1, this.2.2⟩
  · exact this
theorem chunkRel_later {β β' : Bt} {S S' D D' : Pr} {w w' : World} {b m : Nat} {c : Chunk} (hβ : ∀ i, D i → β' i = β i ∨ β' i = none) (hS : ∀ b, S b → S' b) (hD : ∀ i, D i → D' i) (hk : Kept S w w')
    (hb : w'.heap[b]? = w.heap[b]?) (h : chunkRel β S w D b m c) : chunkRel β' S' w' D' b m c := by
  cases c with
  | blk cs =>
    simp only [chunkRel] at h ⊢
    obtain ⟨us, T, h1, h2, h3⟩ := h
    exact ⟨us, T, by rw [hb]; exact h1, denL_later hβ hS hD hk _ _ h2, h3⟩
  | row e k n f =>
    simp only [chunkRel] at h ⊢
    obtain ⟨h1, h2, h3, cur, h4, h5, h6⟩ := h
    exact ⟨h1, h2, h3, cur, by rw [hb]; exact h4, h5, rowOK_later hS hk h6⟩
  | iter s p => simp only [chunkRel] at h ⊢; rw [hb]; exact h
  | map l => simp only [chunkRel] at h ⊢; obtain ⟨es, clock, h1, h2⟩ := h; exact ⟨es, clock, by rw [hb]; exact h1, mapOK_later hS hk h2⟩
  | smap n g f => simp only [chunkRel] at h ⊢; obtain ⟨es, clock, h1, h2⟩ := h; exact ⟨es, clock, by rw [hb]; exact h1, smapOK_later hS hk h2⟩

section
variable {P : Program} {β : Bt} {S D : Pr} {H : Hp} {w : World} {k : KR} {r : Ans}

/-- A reading operation: a value, the world as it was. -/
def Reads (P : Program) (β : Bt) (S : Pr) (w : World) (D : Pr) (k : KR) (r : Ans) (s : Sem Value) : Prop := ∃ v, k (.val v []) = some r ∧ ∃ y, s.run P w = .ok y w ∧ den β S w D v y

theorem load_sound (hM : Mem β S D H w) {t : TypeId} {x : V} {u : Value} (hx : den β S w D x u) (h : effLoad P t x H k = some r) : Reads P β S w D k r (Instr.loadAt t u) := by
  unfold effLoad at h
  split at h
  · rename_i i o
    split at h
    · rename_i cs hc
      split at h
      · rename_i v hv
        obtain ⟨b, m, hb, hr⟩ := hM.live i _ hc
        simp only [chunkRel] at hr
        obtain ⟨us, T, h1, h2, h3⟩ := hr
        simp only [den] at hx
        have hu := hx.2 b m hb
        obtain ⟨y, hy1, hy2⟩ := seg_load (p := ⟨b, o, none⟩) hv h2 h3 (fun i x hx => by rw [add_lit, cell_of_row w b (o + i) _ _ _ h1]; simpa using hx)
        exact ⟨v, h, y, by rw [hu]; simp [Instr.loadAt, Instr.sureAddr, hy1], hy2⟩
      · cases h
    · cases h
  · rename_i i z j o
    split at h
    · rename_i e kk n f hc
      split at h
      · rename_i hj
        obtain ⟨hj, rfl⟩ := hj
        split at h
        · rename_i v hv
          obtain ⟨b, m, hb, hr⟩ := hM.live i _ hc
          simp only [chunkRel] at hr
          obtain ⟨h1, h2, h3, cur, h4, h5, h6⟩ := hr
          obtain ⟨us, g1, g2, g3, g4, g5⟩ := h6 j hj
          simp only [den] at hx
          have hu := hx.2 b m hb
          obtain ⟨y, hy1, hy2⟩ := seg_load (p := ⟨b, j * z + o, none⟩) hv g1 g4 (fun i x hx => by
            rw [add_lit, cell_of_row w b (j * z + o + i) _ _ _ h4, Nat.add_assoc]; exact g5 (o + i) x hx)
          exact ⟨v, h, y, by rw [hu]; simp [Instr.loadAt, Instr.sureAddr, hy1], hy2⟩
        · cases h
      · cases h
    · cases h
  · rename_i cs
    split at h
    · rename_i v hv
      simp only [den] at hx
      obtain ⟨a, us, h1, h2, h3, h4, h5, h6⟩ := hx
      obtain ⟨y, hy1, hy2⟩ := seg_load (p := a) hv h3 h5 (fun i x hx => h6 i x (by simpa using hx))
      exact ⟨v, h, y, by rw [h1]; simp [Instr.loadAt, Instr.sureAddr, hy1], hy2⟩
    · cases h
  · cases h

theorem intV_den {y : V} {u : Value} {n : Int} (hy : den β S w D y u) (h : intV y = some n) : ∃ kd, u = .int kd n := by
  unfold intV at h
  split at h
  · simp only [Option.some.injEq] at h
    simp only [den] at hy
    subst h hy
    exact ⟨_, rfl⟩
  · cases h
theorem lives_some {i : Nat} {q : Option Ans} (hM : Mem β S D H w) (h : lives H i q = some r) : q = some r ∧ ∃ b m, β i = some (b, m) := by
  unfold lives at h
  split at h
  · rename_i c hc
    obtain ⟨b, m, hb, _⟩ := hM.live i c hc
    exact ⟨h, b, m, hb⟩
  · cases h
theorem fieldAddr_sound (hM : Mem β S D H w) {t : TypeId} {x : V} {u : Value} {f : Nat} (hx : den β S w D x u) (h : effFieldAddr P t x f H k = some r) : Reads P β S w D k r (Instr.fieldAt t u f) := by
  unfold effFieldAddr at h
  split at h
  · rename_i p ty hf
    obtain ⟨fs, fd, hu, hg, ho, hty⟩ := fld_under hf
    split at h
    · rename_i z hz
      have hsz : (sizeOf fd.type).run P w = .ok (z + 1) w := run_sz (by rw [hty]; exact hz)
      have key : ∀ ad : Addr, u = .pointer (some ad) → (Instr.fieldAt t u f).run P w = .ok (.pointer (some (ad.add p))) w := by
        rintro ad rfl
        simp [Instr.fieldAt, Sem.run_bind, run_underlying hu, hg, Instr.sureAddr, fieldPlace, hsz, ho]
      split at h
      · rename_i i o
        obtain ⟨h, b, m, hb⟩ := lives_some hM h
        simp only [den] at hx
        refine ⟨_, h, _, key _ (hx.2 b m hb), ?_⟩
        simp only [den, add_lit]
        refine ⟨⟨hx.1.1, rfl⟩, fun b' m' hb' => ?_⟩
        rw [hb] at hb'
        cases hb'
        rfl
      · rename_i i c j o
        obtain ⟨h, b, m, hb⟩ := lives_some hM h
        simp only [den] at hx
        refine ⟨_, h, _, key _ (hx.2 b m hb), ?_⟩
        simp only [den, add_lit]
        refine ⟨⟨hx.1.1, rfl⟩, fun b' m' hb' => ?_⟩
        rw [hb] at hb'
        cases hb'
        rw [Nat.add_assoc]
      · rename_i cs
        refine ⟨_, h, ?_⟩
        simp only [den] at hx
        obtain ⟨a, us, h1, h2, h3, h4, h5, h6⟩ := hx
        refine ⟨_, key a h1, ?_⟩
        simp only [den]
        refine ⟨a.add p, us.drop p, rfl, by rw [add_block]; exact h2, denL_drop p h3, ?_, all_drop p h5, fun i x hx => ?_⟩
        · exact pureL_drop p h4
        · rw [add_add]; rw [List.getElem?_drop] at hx; exact h6 _ x hx
      · cases h
    · cases h
  · cases h

theorem run_indexAt_slice {t e : TypeId} {z n i : Nat} {m : Nat} {kd : IntKind} {A : Addr} (he : P.underlying t = some (.slice e)) (hz : szP P e = some z) (hi : i < n) :
    (Instr.indexAt t (.slice (some A) n m) (.int kd (i : Nat))).run P w = .ok (.pointer (some (A.add (i * z)))) w := by
  simp [Instr.indexAt, asIntOf, Sem.run_bind, run_underlying he, hi, run_sz hz]
theorem run_indexAt_arr {t e : TypeId} {z n i : Nat} {kd : IntKind} {A : Addr} (he : P.underlying t = some (.array n e)) (hz : szP P e = some z) (hi : i < n) :
    (Instr.indexAt t (.pointer (some A)) (.int kd (i : Nat))).run P w = .ok (.pointer (some (A.add (i * z)))) w := by
  simp [Instr.indexAt, asIntOf, Sem.run_bind, run_underlying he, hi, run_sz hz, Instr.sureAddr]
theorem indexAddr_sound (hM : Mem β S D H w) {t : TypeId} {x y : V} {u v : Value} (hx : den β S w D x u) (hy : den β S w D y v) (h : effIndexAddr P t x y H k = some r) : Reads P β S w D k r (Instr.indexAt t u v) := by
  unfold effIndexAddr at h
  simp only [ifand] at h
  split at h
  · rename_i n hn
    obtain ⟨kd, rfl⟩ := intV_den hy hn
    split at h
    · rename_i i z o l
      split at h
      · rename_i e he
        split at h
        · rename_i hc
          obtain ⟨hz, h0, hl⟩ := hc
          obtain ⟨h, b, m, hb⟩ := lives_some hM h
          obtain ⟨j, rfl⟩ := Int.eq_ofNat_of_zero_le h0
          simp only [den] at hx
          obtain ⟨g1, A, rfl, g2⟩ := hx.2 b m hb
          refine ⟨_, h, _, run_indexAt_slice (elem_under he) hz (by omega), ?_⟩
          rw [g2 (by omega)]
          simp only [den, add_lit, Int.toNat_natCast]
          refine ⟨⟨hx.1.1, rfl⟩, fun b' m' hb' => ?_⟩
          rw [hb] at hb'
          cases hb'
          rw [Nat.add_mul, Nat.add_zero]
        · cases h
      · cases h
    · rename_i z l f
      split at h
      · rename_i e he
        split at h
        · rename_i hc
          obtain ⟨hz, h0, hl⟩ := hc
          obtain ⟨j, rfl⟩ := Int.eq_ofNat_of_zero_le h0
          simp only [den] at hx
          obtain ⟨h0, A, m, a, us, rfl, g2, g3, g4⟩ := hx
          obtain ⟨rfl, hS⟩ := g3 (by omega)
          refine ⟨_, h, _, run_indexAt_slice (elem_under he) hz (by omega), ?_⟩
          obtain ⟨q1, q2, q3, q4, q5⟩ := g4 j (by omega)
          simp only [den, Int.toNat_natCast]
          exact ⟨a.add (j * z), us j, rfl, by rw [add_block]; exact hS, q1, q2, q4, fun i x hx => by rw [add_add]; exact q5 i x hx⟩
        · cases h
      · cases h
    · rename_i i o
      split at h
      · rename_i l e ha
        split at h
        · rename_i z hz
          split at h
          · rename_i hc
            obtain ⟨h0, hl⟩ := hc
            obtain ⟨h, b, m, hb⟩ := lives_some hM h
            obtain ⟨j, rfl⟩ := Int.eq_ofNat_of_zero_le h0
            simp only [den] at hx
            rw [hx.2 b m hb]
            refine ⟨_, h, _, run_indexAt_arr (arr_under ha) hz (by omega), ?_⟩
            simp only [den, add_lit, Int.toNat_natCast]
            refine ⟨⟨hx.1.1, rfl⟩, fun b' m' hb' => ?_⟩
            rw [hb] at hb'
            cases hb'
            rfl
          · cases h
        · cases h
      · cases h
    · rename_i i c q o
      split at h
      · rename_i l e ha
        split at h
        · rename_i z hz
          split at h
          · rename_i hc
            obtain ⟨h0, hl⟩ := hc
            obtain ⟨h, b, m, hb⟩ := lives_some hM h
            obtain ⟨j, rfl⟩ := Int.eq_ofNat_of_zero_le h0
            simp only [den] at hx
            rw [hx.2 b m hb]
            refine ⟨_, h, _, run_indexAt_arr (arr_under ha) hz (by omega), ?_⟩
            simp only [den, add_lit, Int.toNat_natCast]
            refine ⟨⟨hx.1.1, rfl⟩, fun b' m' hb' => ?_⟩
            rw [hb] at hb'
            cases hb'
            rw [Nat.add_assoc]
          · cases h
        · cases h
      · cases h
    · rename_i cs
      split at h
      · rename_i l e ha
        split at h
        · rename_i z hz
          split at h
          · rename_i hc
            obtain ⟨h0, hl⟩ := hc
            obtain ⟨j, rfl⟩ := Int.eq_ofNat_of_zero_le h0
            simp only [den] at hx
            obtain ⟨a, us, rfl, h2, h3, h4, h5, h6⟩ := hx
            refine ⟨_, h, _, run_indexAt_arr (arr_under ha) hz (by omega), ?_⟩
            simp only [den, Int.toNat_natCast]
            refine ⟨a.add (j * z), us.drop (j * z), rfl, by rw [add_block]; exact h2, denL_drop _ h3, pureL_drop _ h4, all_drop _ h5, fun i x hx => ?_⟩
            rw [add_add]; rw [List.getElem?_drop] at hx; exact h6 _ x hx
          · cases h
        · cases h
      · cases h
    · cases h
  · cases h
theorem run_slice_own {t e : TypeId} {z n m l h : Nat} {A : Option Addr} {lo hi : Option Value} (he : P.underlying t = some (.slice e)) (hz : szP P e = some z) (hn : n ≤ m)
    (hlo : (lo = none ∧ l = 0) ∨ ∃ kd, lo = some (.int kd (l : Nat))) (hhi : (hi = none ∧ h = n) ∨ ∃ kd, hi = some (.int kd (h : Nat))) (h1 : l ≤ h) (h2 : h ≤ n) :
    (Instr.sliceAt t (.slice A n m) lo hi none).run P w = .ok (.slice (if m = l then A else A.map (·.add (l * z))) (h - l) (m - l)) w := by
  have e1 : h ≤ m := by omega
  have e2 : l ≤ h := by omega
  rcases hlo with ⟨rfl, rfl⟩ | ⟨kd, rfl⟩ <;> rcases hhi with ⟨rfl, rfl⟩ | ⟨kd', rfl⟩ <;>
    simp [Instr.sliceAt, Instr.slice, Instr.sliceBounds, Instr.sliceBound, asIntOf, Sem.run_bind, run_underlying he, run_sz hz, e1, e2]
theorem run_slice_string {t : TypeId} {s : ByteArray} {l h : Nat} {lo hi : Option Value} (he : P.underlying t = some .string)
    (hlo : (lo = none ∧ l = 0) ∨ ∃ kd, lo = some (.int kd (l : Nat))) (hhi : (hi = none ∧ h = s.size) ∨ ∃ kd, hi = some (.int kd (h : Nat))) (h1 : l ≤ h) (h2 : h ≤ s.size) :
    (Instr.sliceAt t (.string s) lo hi none).run P w = .ok (.string (s.extract l h)) w := by
  have e1 : h ≤ s.size := by omega
  have e2 : l ≤ h := by omega
  rcases hlo with ⟨rfl, rfl⟩ | ⟨kd, rfl⟩ <;> rcases hhi with ⟨rfl, rfl⟩ | ⟨kd', rfl⟩ <;>
    simp [Instr.sliceAt, Instr.slice, Instr.sliceBounds, Instr.sliceBound, asIntOf, Sem.run_bind, run_underlying he, e1, e2]
theorem slice_sound (hM : Mem β S D H w) {t : TypeId} {x : V} {u : Value} {lo hi : Option Value} {l h : Option Int} (hx : den β S w D x u)
    (hlo : (lo = none ∧ l = some 0) ∨ ∃ kd n, lo = some (.int kd n) ∧ l = some n) (hhi : (hi = none ∧ h = lenV x) ∨ ∃ kd n, hi = some (.int kd n) ∧ h = some n)
    (he : effSlice P t x l h H k = some r) : Reads P β S w D k r (Instr.sliceAt t u lo hi none) := by
  unfold effSlice at he
  simp only [ifand] at he
  split at he
  · rename_i _ _ l h
    split at he
    · rename_i i z o n
      split at he
      · rename_i e hel
        split at he
        · rename_i hc
          obtain ⟨hz, h0, h1, h2⟩ := hc
          obtain ⟨he, b, m, hb⟩ := lives_some hM he
          obtain ⟨l, rfl⟩ := Int.eq_ofNat_of_zero_le h0
          obtain ⟨h, rfl⟩ := Int.eq_ofNat_of_zero_le (Int.le_trans h0 h1)
          simp only [den] at hx
          obtain ⟨g1, A, rfl, g2⟩ := hx.2 b m hb
          refine ⟨_, he, _, run_slice_own (l := l) (h := h) (n := n) (elem_under hel) hz (by omega) ?_ ?_ (by omega) (by omega), ?_⟩
          · rcases hlo with ⟨q1, q2⟩ | ⟨kd, n', q1, q2⟩
            · exact .inl ⟨q1, by simp at q2; omega⟩
            · simp only [Option.some.injEq] at q2; subst q2; exact .inr ⟨kd, q1⟩
          · rcases hhi with ⟨q1, q2⟩ | ⟨kd, n', q1, q2⟩
            · exact .inl ⟨q1, by simp [lenV] at q2; omega⟩
            · simp only [Option.some.injEq] at q2; subst q2; exact .inr ⟨kd, q1⟩
          · simp only [den, Int.toNat_natCast]
            refine ⟨⟨hx.1.1, rfl⟩, fun b' m' hb' => ?_⟩
            rw [hb] at hb'
            cases hb'
            refine ⟨by omega, ?_⟩
            by_cases hml : m - o = l
            · rw [if_pos hml]
              exact ⟨A, by congr 1; omega, fun hlt => by
                have h0 : o = 0 ∧ l = 0 := by omega
                obtain ⟨rfl, rfl⟩ := h0
                exact g2 (.inr rfl)⟩
            · rw [if_neg hml]
              refine ⟨A.add (l * z), by simp; omega, fun hlt => ?_⟩
              rw [g2 (by omega), add_lit, Nat.add_mul]
        · cases he
      · cases he
    · rename_i z n f
      split at he
      · rename_i e hel
        split at he
        · rename_i hc
          obtain ⟨hz, h0, h1, h2⟩ := hc
          obtain ⟨l, rfl⟩ := Int.eq_ofNat_of_zero_le h0
          obtain ⟨h, rfl⟩ := Int.eq_ofNat_of_zero_le (Int.le_trans h0 h1)
          simp only [den] at hx
          obtain ⟨hmx, A, m, a, us, rfl, g2, g3, g4⟩ := hx
          refine ⟨_, he, _, run_slice_own (l := l) (h := h) (n := n) (elem_under hel) hz g2 ?_ ?_ (by omega) (by omega), ?_⟩
          · rcases hlo with ⟨q1, q2⟩ | ⟨kd, n', q1, q2⟩
            · exact .inl ⟨q1, by simp at q2; omega⟩
            · simp only [Option.some.injEq] at q2; subst q2; exact .inr ⟨kd, q1⟩
          · rcases hhi with ⟨q1, q2⟩ | ⟨kd, n', q1, q2⟩
            · exact .inl ⟨q1, by simp [lenV] at q2; omega⟩
            · simp only [Option.some.injEq] at q2; subst q2; exact .inr ⟨kd, q1⟩
          · simp only [den, Int.toNat_natCast]
            refine ⟨by omega, _, m - l, a.add (l * z), fun j => us (l + j), rfl, by omega, fun hlt => ?_, fun j hj => ?_⟩
            · obtain ⟨rfl, hS⟩ := g3 (by omega)
              rw [if_neg (by omega)]
              exact ⟨rfl, by rw [add_block]; exact hS⟩
            · obtain ⟨q1, q2, q3, q4, q5⟩ := g4 (l + j) (by omega)
              exact ⟨q1, q2, q3, q4, fun i x hx => by rw [add_add, ← Nat.add_assoc, ← Nat.add_mul]; exact q5 i x hx⟩
        · cases he
      · cases he
    · rename_i s
      split at he
      · rename_i hc
        obtain ⟨hu, h0, h1, h2⟩ := hc
        obtain ⟨l, rfl⟩ := Int.eq_ofNat_of_zero_le h0
        obtain ⟨h, rfl⟩ := Int.eq_ofNat_of_zero_le (Int.le_trans h0 h1)
        simp only [den] at hx
        subst hx
        have hu' : P.underlying t = some .string := by
          unfold isStrP at hu
          split at hu
          · assumption
          · cases hu
        refine ⟨_, he, _, run_slice_string (l := l) (h := h) hu' ?_ ?_ (by omega) (by omega), by simp [den]⟩
        · rcases hlo with ⟨q1, q2⟩ | ⟨kd, n', q1, q2⟩
          · exact .inl ⟨q1, by simp at q2; omega⟩
          · simp only [Option.some.injEq] at q2; subst q2; exact .inr ⟨kd, q1⟩
        · rcases hhi with ⟨q1, q2⟩ | ⟨kd, n', q1, q2⟩
          · exact .inl ⟨q1, by simp [lenV] at q2; omega⟩
          · simp only [Option.some.injEq] at q2; subst q2; exact .inr ⟨kd, q1⟩
      · cases he
    · cases he
  · cases he
end
end Go.Am
