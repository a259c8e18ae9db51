/- States weakened; loops by tables of facts. -/
import Derived.Test.YtniogljhkjbcgaaDoorAmY
namespace Go.Am
open Go Go.RowKit
set_option linter.unusedSimpArgs false
set_option linter.unusedVariables false

noncomputable def cl (p : Prop) (x y : Option Ans) : Option Ans := @ite _ p (Classical.propDecidable p) x y
theorem cl_pos {p : Prop} {x y : Option Ans} (h : p) : cl p x y = x := by unfold cl; exact if_pos h
theorem cl_some {p : Prop} {x y : Option Ans} {r : Ans} (h : cl p x y = some r) : (p ∧ x = some r) ∨ (¬ p ∧ y = some r) := by
  unfold cl at h
  split at h
  · exact .inl ⟨by assumption, h⟩
  · exact .inr ⟨by assumption, h⟩

theorem Le.junk (v : V) : Le v .junk := fun _ _ _ _ _ _ => by simp [den]
theorem LeL.nil : LeL [] [] := fun _ _ _ _ _ h => h
theorem Le.trans {a b c : V} (h : Le a b) (g : Le b c) : Le a c := fun β S w D u hd => g β S w D u (h β S w D u hd)
theorem LeL.trans {a b c : List V} (h : LeL a b) (g : LeL b c) : LeL a c := fun β S w D u hd => g β S w D u (h β S w D u hd)
theorem Le.tup {a b : List V} (h : LeL a b) : Le (.tup a) (.tup b) := by
  intro β S w D u hd
  simp only [Am.den] at hd ⊢
  obtain ⟨us, h1, h2⟩ := hd
  exact ⟨us, h1, h _ _ _ _ _ h2⟩
theorem Le.of_eq {a b : V} (h : a = b) : Le a b := h ▸ Le.refl _
/-- What stands in memory, weakened. -/
def ChLe (c c' : Chunk) : Prop := ∀ β S w D b m, chunkRel β S w D b m c → chunkRel β S w D b m c'
theorem ChLe.refl (c : Chunk) : ChLe c c := fun _ _ _ _ _ _ h => h
theorem ChLe.blk {a b : List V} (h : LeL a b) : ChLe (.blk a) (.blk b) := by
  intro β S w D bb m hd
  simp only [chunkRel] at hd ⊢
  obtain ⟨us, T, h1, h2, h3⟩ := hd
  exact ⟨us, T, h1, h _ _ _ _ _ h2, h3⟩
theorem ChLe.row {e k n : Nat} {f g : Nat → List V} (h : ∀ j, j < n → f j = g j) : ChLe (.row e k n f) (.row e k n g) := by
  intro β S w D b m hd
  simp only [chunkRel] at hd ⊢
  obtain ⟨h1, h2, h3, cur, h4, h5, h6⟩ := hd
  exact ⟨h1, h2, h3, cur, h4, h5, fun j hj => by rw [← h j hj]; exact h6 j hj⟩
def OcLe : Option Chunk → Option Chunk → Prop
  | none, none => True
  | some c, some c' => ChLe c c'
  | _, _ => False
/-- A state of which less is said. -/
structure LeSt (s s' : St) : Prop where
  fr : LeL s.fr s'.fr
  H : ∀ i, OcLe (s.H i) (s'.H i)
  nx : s.nx = s'.nx
  rt : s.rt = s'.rt
  me : s.me = s'.me
theorem OcLe.refl (c : Option Chunk) : OcLe c c := by cases c with | none => exact trivial | some c => exact ChLe.refl c
theorem LeSt.refl (s : St) : LeSt s s := ⟨LeL.refl _, fun _ => OcLe.refl _, rfl, rfl, rfl⟩
def LeLs : List (Option Chunk) → List (Option Chunk) → Prop
  | [], [] => True
  | a :: l, b :: m => OcLe a b ∧ LeLs l m
  | _, _ => False
theorem hp_le : ∀ {l m : List (Option Chunk)}, LeLs l m → ∀ i, OcLe (hp l i) (hp m i)
  | [], [], _, i => by simp [hp, OcLe]
  | a :: l, b :: m, h, i => by
    cases i with
    | zero => simpa [hp] using h.1
    | succ i => simpa [hp] using hp_le h.2 i
  | [], b :: m, h, _ => h.elim
  | a :: l, [], h, _ => h.elim
theorem LeSt.mk' {fr fr' : List V} {l m : List (Option Chunk)} {nx rt : Nat} {me : FuncId} (h1 : LeL fr fr') (h2 : LeLs l m) : LeSt { fr := fr, H := hp l, nx := nx, rt := rt, me := me } { fr := fr', H := hp m, nx := nx, rt := rt, me := me } :=
  ⟨h1, hp_le h2, rfl, rfl, rfl⟩
theorem Mem.le {β : Bt} {S D : Pr} {H H' : Hp} {w : World} (h : Mem β S D H w) (hl : ∀ i, OcLe (H i) (H' i)) : Mem β S D H' w := by
  refine ⟨fun i c hc => ?_, fun i hi => ?_, h.dom, h.own, h.inj, h.st⟩
  · have := hl i
    rw [hc] at this
    cases hH : H i with
    | none => rw [hH] at this; exact this.elim
    | some c0 =>
      rw [hH] at this
      obtain ⟨b, m, h1, h2⟩ := h.live i c0 hH
      exact ⟨b, m, h1, this _ _ _ _ _ _ h2⟩
  · have := hl i
    rw [hi] at this
    cases hH : H i with
    | none => exact h.dead i hH
    | some c0 => rw [hH] at this; exact this.elim
theorem Rel.le {E : Env} {β : Bt} {S D : Pr} {s s' : St} {a : Act} {w : World} (h : Rel E β S D s a w) (hl : LeSt s s') : Rel E β S D s' a w :=
  ⟨hl.fr _ _ _ _ _ h.fr, h.mem.le hl.H, (by rw [← hl.me]; exact h.df), by rw [← hl.nx]; exact h.lt, h.gl, by rw [← hl.rt]; exact h.rtD⟩
theorem SL.le {E : Env} {c : ACode} {s s' t : St} {e : Ex} (h : SL E c s' e t) (hl : LeSt s s') : SL E c s e t := by
  intro β S D a w hR b k cs
  obtain ⟨e', a', w', hP, hA⟩ := h β S D a w (hR.le hl) b k cs
  refine ⟨e', a', w', ?_, hA⟩
  obtain ⟨β', S', D', h1, h2, h3, h4, h5, h6⟩ := hP.ex
  exact ⟨β', S', D', h1, h2, h3, by rw [hl.rt]; exact h4, by rw [hl.rt]; exact h5, by rw [hl.me]; exact h6⟩
/-- A loop's end weakened. -/
theorem RelX.le {E : Env} {e : Ex} {β : Bt} {S D : Pr} {s s' : St} {a : Act} {w : World} (h : RelX E e β S D s a w) (hl : LeSt s s') : RelX E e β S D s' a w := by
  exact Rel.le h hl
theorem SL.post {E : Env} {c : ACode} {s t t' : St} {e : Ex} (h : SL E c s e t) (hl : LeSt t t') : SL E c s e t' := by
  intro β S D a w hR b k cs
  obtain ⟨e', a', w', hP, hA⟩ := h β S D a w hR b k cs
  refine ⟨e', a', w', ?_, hA⟩
  obtain ⟨β', S', D', h1, h2, h3, h4, h5, h6⟩ := hP.ex
  exact ⟨β', S', D', h1, h2.le hl, h3, h4, by rw [← hl.rt]; exact h5, by rw [← hl.me]; exact h6⟩
theorem SC.le {E : Env} {f : FuncId} {args : List V} {L : List (Option Chunk)} {v v' : V} {L' : List (Option Chunk)} (h : SC E f args L (.ret v L')) (hl : Le v v') : SC E f args L (.ret v' L') := by
  refine ⟨h.1, fun β S w us h1 h2 h3 => (h.2 β S w us h1 h2 h3).mono ?_⟩
  rintro e w' ⟨u, β', S', g1, g2, g3, g4, g5⟩
  exact ⟨u, β', S', g1, g2, hl _ _ _ _ _ g3, g4, g5⟩
theorem SC.leM {E : Env} {f : FuncId} {args : List V} {L : List (Option Chunk)} {v v' : V} {L1 L2 : List (Option Chunk)} (h : SC E f args L (.ret v L1)) (hl : Le v v') (hL : LeLs L1 L2) (hn : L1.length = L2.length) : SC E f args L (.ret v' L2) := by
  refine ⟨h.1, fun β S w us h1 h2 h3 => (h.2 β S w us h1 h2 h3).mono ?_⟩
  rintro e w' ⟨u, β', S', g1, g2, g3, g4, g5⟩
  refine ⟨u, β', S', g1, ?_, ?_, g4, g5⟩
  · rw [← hn]; exact g2.le (hp_le hL)
  · rw [← hn]; exact hl _ _ _ _ _ g3
/-- What a call hands back, given up: to be read only. -/
theorem SC.give {E : Env} {f : FuncId} {args : List V} {L0 : List (Option Chunk)} {v : V} {L : List (Option Chunk)} (h : SC E f args L0 (.ret v L)) (hp' : (v.bw (hp L)).pure = true) : SC E f args L0 (.ret (v.bw (hp L)) []) := by
  refine ⟨h.1, fun β S w us h1 h2 h3 => (h.2 β S w us h1 h2 h3).mono ?_⟩
  rintro e w' ⟨u, β', S', rfl, g1, g2, g3, g4⟩
  refine ⟨u, fun _ => none, fun b => S' b ∨ ∃ j m', β' j = some (b, m'), rfl, ⟨fun i c hc => (by simp [hp] at hc), fun _ _ => rfl, fun i b m h => (by cases h), fun i b m h => (by cases h), fun i j b m m' h => (by cases h), ?_⟩, ?_, ⟨g3.os, g3.tape, g3.output, g3.size, g3.keep, fun b h => .inl (g3.sub b h), ?_, fun i b m h => (by cases h)⟩, fun i bm _ h => (by cases h)⟩
  · rintro b (hs | ⟨j, m', hj⟩)
    · exact g1.st b hs
    · exact (g1.own j b m' hj).1
  · have := bw_sound (S' := fun b => S' b ∨ ∃ j m', β' j = some (b, m')) (β' := fun _ => none) g1 (fun _ _ => .inr rfl) (fun _ h => .inl h) (fun i b m hb => .inr ⟨i, m, hb⟩) g2
    exact den_pure (fun _ h => h) (fun _ _ => rfl) _ _ hp' this
  · rintro b (hs | ⟨j, m', hj⟩)
    · exact g3.newS b hs
    · rcases g3.newO j b m' hj with h | ⟨j', m'', h⟩
      · exact .inr (.inl h)
      · exact .inr (.inr ⟨j', m'', h⟩)
theorem Le.nil_ro {k : Nat} {f : Nat → List V} : Le (.sc (.slice none 0 0)) (.ro k 0 f) := by
  intro β S w D u hd
  simp only [Am.den] at hd ⊢
  subst hd
  exact ⟨Nat.zero_le _, none, 0, ⟨0, 0, none⟩, fun _ => [], rfl, Nat.le_refl _, fun h => absurd h (Nat.lt_irrefl _), fun j hj => absurd hj (Nat.not_lt_zero _)⟩
/-- The arguments weakened. -/
theorem SC.arg {E : Env} {f : FuncId} {args args' : List V} {cr : CRes} (h : SC E f args' [] cr) (hl : LeL args args') (hi : idsL args = []) (hi' : idsL args' = []) : SC E f args [] cr := by
  refine ⟨h.1, fun β S w us h1 h2 h3 => ?_⟩
  have := h.2 β S w us (hl _ _ _ _ _ h1) h2 h3
  rw [hi'] at this
  rw [hi]
  exact this

theorem SL.canon {E : Env} {c : ACode} {s t : St} {e : Ex} (h : SL E c s e t) (live : Nat) : SL E c s e (canonS live t) := by
  intro β S D a w hR b k cs
  obtain ⟨e', a', w', hP, hA⟩ := h β S D a w hR b k cs
  refine ⟨e', a', w', ?_, hA⟩
  obtain ⟨β', S', D', h1, h2, h3, h4, h5, h6⟩ := hP.ex
  obtain ⟨β2, D2, g1, g2, g3⟩ := canon_rel h2 live
  exact ⟨β2, S', D2, h1, g1, h3.trans g2, fun i bm hi hb => h4 i bm hi (g3 i bm (by rw [h5]; exact hi) hb), h5, h6⟩
/-- A loop's end: of its frame, what is wanted. -/
def KC (live : Nat) : Ex → St → Option Ans := fun e s => canonK live s fun s => some (.l e s)
/-- A loop from this state on. -/
theorem SL.by {E : Env} {ca : CallT} {lo : LoopT} (hC : SoundC E ca) (hX : SoundX E) (hL : SoundL E lo) {id live m : Nat} {c : ACode} {s t : St} {e : Ex} (h : loopK E ca lo id live c s (KC m) = some (.l e t)) : SL E c s e t := by
  obtain ⟨e1, s1, h1, h2⟩ := loop_sound hC hX hL h
  simp only [KC, canonK_eq, Option.some.injEq, Ans.l.injEq] at h1
  obtain ⟨rfl, rfl⟩ := h1
  exact h2.canon _

/-- One round, and on from there. -/
theorem SL.next {E : Env} {ca : CallT} (hC : SoundC E ca) (hX : SoundX E) {id live : Nat} {c : ACode} {s s' t : St} {e : Ex} (h : ∀ (lo : LoopT) (k : Ex → St → Option Ans), loopK E ca lo id live c s k = lo id live c s' k) (hn : SL E c s' e t) : SL E c s e t := by
  let lo : LoopT := fun id live c1 s1 k => cl (c1 = c ∧ s1 = s') (k e t) none
  have hlo : SoundL E lo := by
    intro id live c1 s1 k r hr
    rcases cl_some hr with ⟨⟨rfl, rfl⟩, h1⟩ | ⟨_, h1⟩
    · exact ⟨_, _, h1, hn⟩
    · cases h1
  have h1 : loopK E ca lo id live c s (fun e s => some (.l e s)) = some (.l e t) := (h lo _).trans (cl_pos ⟨rfl, rfl⟩)
  obtain ⟨e1, s1, h2, h3⟩ := loop_sound hC hX hlo h1
  simp only [Option.some.injEq, Ans.l.injEq] at h2
  obtain ⟨rfl, rfl⟩ := h2
  exact h3

/-! ### Tables of facts on loops -/
structure LFact where
  c : ACode
  s : St
  e : Ex
  t : St
noncomputable def ltab : List LFact → LoopT
  | [] => fun _ _ _ _ _ => none
  | x :: l => fun id live c s k => cl (c = x.c ∧ LeSt s x.s) (k x.e x.t) (ltab l id live c s k)
theorem ltab_nil {E : Env} : SoundL E (ltab []) := fun id live c s k r h => by cases h
theorem ltab_cons {E : Env} {x : LFact} {l : List LFact} (h : SL E x.c x.s x.e x.t) (hl : SoundL E (ltab l)) : SoundL E (ltab (x :: l)) := by
  intro id live c s k r hr
  simp only [ltab] at hr
  rcases cl_some hr with ⟨⟨rfl, hle⟩, h1⟩ | ⟨_, h1⟩
  · exact ⟨_, _, h1, h.le hle⟩
  · exact hl _ _ _ _ _ _ h1
/-- Facts on calls. -/
structure CFact where
  f : FuncId
  args : List V
  v : V
noncomputable def ctab : List CFact → CallT → CallT
  | [], ca => ca
  | x :: l, ca => fun f args L k => if f == x.f then cl (LeL args x.args ∧ idsL args = [] ∧ idsL x.args = [] ∧ L = []) (k (.ret x.v [])) (ctab l ca f args L k) else ctab l ca f args L k
theorem ctab_cons {E : Env} {x : CFact} {l : List CFact} {ca : CallT} (h : SC E x.f x.args [] (.ret x.v [])) (hl : SoundC E (ctab l ca)) : SoundC E (ctab (x :: l) ca) := by
  intro f args L k r hr
  simp only [ctab] at hr
  split at hr
  · rename_i e
    have := beq_iff_eq.1 e
    subst this
    rcases cl_some hr with ⟨⟨h1, h2, h3, rfl⟩, g⟩ | ⟨_, g⟩
    · exact ⟨_, g, h.arg h1 h2 h3⟩
    · exact hl _ _ _ _ _ g
  · exact hl _ _ _ _ _ hr
/-- A function whose first argument is known, by what its others say. -/
noncomputable def htab (g : FuncId) (a0 : V) (q : List V → Option V) (ca : CallT) : CallT := fun f args L k =>
  if f == g then match args with
    | a :: rest => match q rest with
      | some v => cl (Le a a0 ∧ a.ids = [] ∧ L = []) (k (.ret v [])) none
      | none => none
    | [] => none
  else ca f args L k
theorem htab_cons {E : Env} {g : FuncId} {a0 : V} {q : List V → Option V} {ca : CallT} (h0 : a0.ids = []) (h : ∀ rest v, q rest = some v → idsL rest = [] ∧ SC E g (a0 :: rest) [] (.ret v [])) (hl : SoundC E ca) : SoundC E (htab g a0 q ca) := by
  intro f args L k r hr
  simp only [htab] at hr
  split at hr
  · rename_i e
    have := beq_iff_eq.1 e
    subst this
    split at hr
    · split at hr
      · rename_i v hv
        obtain ⟨g1, g2⟩ := h _ _ hv
        rcases cl_some hr with ⟨⟨h1, h2, rfl⟩, h3⟩ | ⟨_, h3⟩
        · exact ⟨_, h3, g2.arg (LeL.cons h1 (LeL.refl _)) (by simp [idsL, h2, g1]) (by simp [idsL, h0, g1])⟩
        · cases h3
      · cases hr
    · cases hr
  · exact hl _ _ _ _ _ hr
/-- A function under a condition on its arguments. -/
noncomputable def ptab (g : FuncId) (Q : List V → Prop) (v : List V → V) (ca : CallT) : CallT := fun f args L k =>
  if f == g then cl (Q args ∧ L = []) (k (.ret (v args) [])) none else ca f args L k
theorem ptab_cons {E : Env} {g : FuncId} {Q : List V → Prop} {v : List V → V} {ca : CallT} (h : ∀ args, Q args → SC E g args [] (.ret (v args) [])) (hl : SoundC E ca) : SoundC E (ptab g Q v ca) := by
  intro f args L k r hr
  simp only [ptab] at hr
  split at hr
  · rename_i e
    have := beq_iff_eq.1 e
    subst this
    rcases cl_some hr with ⟨⟨h1, rfl⟩, h3⟩ | ⟨_, h3⟩
    · exact ⟨_, h3, h _ h1⟩
    · cases h3
  · exact hl _ _ _ _ _ hr
/-- Loops run for so many rounds, calls by a table. -/
def loopT (E : Env) (ca : CallT) : Nat → LoopT
  | 0 => fun _ _ _ _ _ => none
  | n + 1 => loopK E ca (loopT E ca n)
theorem sound_T {E : Env} {ca : CallT} (hC : SoundC E ca) (hX : SoundX E) : ∀ n, SoundL E (loopT E ca n)
  | 0 => fun id live c s k r h => by simp [loopT] at h
  | n + 1 => fun id live c s k r h => by
    rw [loopT] at h
    exact loop_sound hC hX (sound_T hC hX n) h
/-- The loop with this number. -/
def findLoop (id : Nat) : ACode → Option ACode
  | .seq a b => match findLoop id a with | some c => some c | none => findLoop id b
  | .cond _ a b => match findLoop id a with | some c => some c | none => findLoop id b
  | .block _ c => findLoop id c
  | .loop j _ c => if j = id then some c else findLoop id c
  | _ => none
def bodyOf (E : Env) (f : FuncId) (id : Nat) : ACode := ((E.code f).bind (findLoop id)).getD .skip
end Go.Am
