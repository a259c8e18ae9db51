/- Values brought to their form; states numbered anew; loops. -/
import Derived.Test.YtniogljhkjbcgaaDoorAmJ
namespace Go.Am
open Go Go.RowKit
set_option linter.unusedSimpArgs false
set_option linter.unusedVariables false

theorem fC_eq (c : Option Chunk) (k : Option Chunk → Option Ans) : fC c k = k c := by
  unfold fC
  split <;> simp only [fL_eq]
theorem fCL_eq : ∀ (l : List (Option Chunk)) (k : List (Option Chunk) → Option Ans), fCL l k = k l
  | [], k => rfl
  | c :: l, k => by simp only [fCL, fC_eq, fCL_eq l]
theorem fU_eq : ∀ (l : List (Nat × Option Chunk)) (k : List (Nat × Option Chunk) → Option Ans), fU l k = k l
  | [], k => rfl
  | (i, c) :: l, k => by simp only [fU, fC_eq, fU_eq l]
theorem fNL_eq : ∀ (l : List Nat) (k : List Nat → Option Ans), fNL l k = k l
  | [], k => rfl
  | i :: l, k => by simp only [fNL, fNL_eq l]
theorem setK_eq : ∀ (l : List V) (t : Nat) (v : V) (k : List V → Option Ans), setK l t v k = k (l.set t v)
  | [], t, v, k => by simp [setK]
  | x :: l, 0, v, k => by simp [setK]
  | x :: l, t + 1, v, k => by simp only [setK, setK_eq l t v, List.set_cons_succ]
def putL (fr : List V) (d : Option Tmp) (v : V) : List V := match d with | some t => fr.set t v | none => fr
theorem putK_eq (fr : List V) (d : Option Tmp) (v : V) (k : List V → Option Ans) : putK fr d v k = k (putL fr d v) := by
  unfold putK putL
  split <;> simp only [setK_eq]
theorem doneK_eq (s : St) (d : Option Tmp) (v : V) (us : List (Nat × Option Chunk)) (k : St → Option Ans) :
    doneK s d v us k = k { fr := putL s.fr d v, H := updL s.H us, nx := s.nx, rt := s.rt, me := s.me } := by
  simp only [doneK, fV_eq, putK_eq, fU_eq]
theorem put_den {β : Bt} {S D : Pr} {w : World} {fr : List V} {a : Act} {d : Option Tmp} {v : V} {u : Value} (h : denL β S w D fr a.tmps.toList) (hv : den β S w D v u) :
    denL β S w D (putL fr d v) (a.put d u).tmps.toList := by
  unfold putL Act.put
  cases d with
  | none => exact h
  | some t => simpa using denL_set t h hv
theorem put_defers (a : Act) (d : Option Tmp) (u : Value) : (a.put d u).defers = a.defers := by unfold Act.put; split <;> rfl

/-! ### Numbered anew -/
theorem dd_nodup : ∀ (l seen : List Nat), seen.Nodup → (dd seen l).Nodup
  | [], seen, h => h
  | i :: l, seen, h => by
    unfold dd
    split
    · exact dd_nodup l seen h
    · rename_i hn
      refine dd_nodup l _ ?_
      rw [List.nodup_append]
      refine ⟨h, by simp, fun a ha b hb => ?_⟩
      simp only [List.mem_singleton] at hb
      subst hb
      rintro rfl
      exact hn (by simpa using ha)
theorem reach_spec (h : Hp) : ∀ (n : Nat) (todo seen : List Nat), seen.Nodup → (reach h n todo seen).Nodup ∧ ∃ ex, reach h n todo seen = seen ++ ex
  | 0, todo, seen, hn => ⟨hn, [], by simp [reach]⟩
  | n + 1, [], seen, hn => ⟨hn, [], by simp [reach]⟩
  | n + 1, i :: todo, seen, hn => by
    unfold reach
    split
    · exact reach_spec h n todo seen hn
    · rename_i hi
      split
      · exact reach_spec h n todo seen hn
      · rename_i c hc
        obtain ⟨h1, ex, h2⟩ := reach_spec h n (c.ids ++ todo) (seen ++ [i]) (by
          rw [List.nodup_append]
          refine ⟨hn, by simp, fun a ha b hb => ?_⟩
          simp only [List.mem_singleton] at hb
          subst hb
          rintro rfl
          exact hi (by simpa using ha))
        exact ⟨h1, i :: ex, by rw [h2]; simp⟩
theorem posOf_some {order : List Nat} {i j : Nat} (h : posOf order i = some j) : order[j]? = some i := by
  unfold posOf at h
  rw [List.idxOf?_eq_some_iff] at h
  obtain ⟨h1, h2, _⟩ := h
  rw [List.getElem?_eq_getElem h1, h2]
theorem posOf_get {order : List Nat} (hn : order.Nodup) {i j : Nat} (h : order[j]? = some i) : posOf order i = some j := by
  cases hp : posOf order i with
  | none =>
    unfold posOf at hp
    rw [List.idxOf?_eq_none_iff] at hp
    exact absurd (List.mem_of_getElem? h) hp
  | some j' =>
    have h' := posOf_some hp
    obtain ⟨a1, a2⟩ := List.getElem?_eq_some_iff.1 h
    obtain ⟨b1, b2⟩ := List.getElem?_eq_some_iff.1 h'
    rw [(List.getElem_inj hn).1 (b2.trans a2.symm)]
theorem posOf_none {order : List Nat} {i : Nat} (h : posOf order i = none) : i ∉ order := by
  unfold posOf at h
  rwa [List.idxOf?_eq_none_iff] at h

def ofOrder (β : Bt) (order : List Nat) : Bt := fun j => (order[j]?).bind β
section
variable {β : Bt} {S D : Pr} {H : Hp} {w : World} {order : List Nat}
theorem ren_order : Ren (posOf order) β (ofOrder β order) D (· < order.length) := by
  intro i j _ hj
  have h := posOf_some hj
  refine ⟨(List.getElem?_eq_some_iff.1 h).1, fun bm hb => ?_⟩
  unfold ofOrder at hb
  rw [h] at hb
  exact hb
theorem chunk_ren {β β' : Bt} {S D D' : Pr} {w : World} {r : Nat → Option Nat} {b m : Nat} {c : Chunk} (hr : Ren r β β' D D') (h : chunkRel β S w D b m c) : chunkRel β' S w D' b m (c.ren r) := by
  cases c with
  | blk cs =>
    simp only [chunkRel, Chunk.ren] at h ⊢
    obtain ⟨us, T, h1, h2, h3⟩ := h
    exact ⟨us, T, h1, denL_ren hr _ _ h2, h3⟩
  | row e k n f =>
    simp only [chunkRel, Chunk.ren] at h ⊢
    obtain ⟨h1, h2, h3, cur, h4, h5, h6⟩ := h
    exact ⟨h1, h2, h3, cur, h4, h5, rowOK_later (fun _ h => h) (fun _ _ => rfl) h6⟩
  | iter s p => exact h
  | map es =>
    simp only [chunkRel, Chunk.ren] at h ⊢
    obtain ⟨ents, clock, h1, h2⟩ := h
    exact ⟨ents, clock, h1, mapOK_later (fun _ h => h) (fun _ _ => rfl) h2⟩
  | smap n g f =>
    simp only [chunkRel, Chunk.ren] at h ⊢
    obtain ⟨ents, clock, h1, h2⟩ := h
    exact ⟨ents, clock, h1, smapOK_later (fun _ h => h) (fun _ _ => rfl) h2⟩
theorem keep_get (j : Nat) : hp (keep H order) j = (order[j]?).bind fun i => (H i).map (Chunk.ren (posOf order)) := by
  unfold hp keep
  rw [List.getD, List.getElem?_map]
  cases order[j]? <;> simp
theorem Mem.renum (hM : Mem β S D H w) (hn : order.Nodup) : Mem (ofOrder β order) S (· < order.length) (hp (keep H order)) w := by
  have hget : ∀ j bm, ofOrder β order j = some bm → ∃ i, order[j]? = some i ∧ β i = some bm := by
    intro j bm h
    unfold ofOrder at h
    cases ho : order[j]? with
    | none => rw [ho] at h; cases h
    | some i => rw [ho] at h; exact ⟨i, rfl, h⟩
  refine ⟨?_, ?_, ?_, ?_, ?_, hM.st⟩
  · intro j c hc
    rw [keep_get] at hc
    cases ho : order[j]? with
    | none => rw [ho] at hc; cases hc
    | some i =>
      rw [ho] at hc
      simp only [Option.bind_some, Option.map_eq_some_iff] at hc
      obtain ⟨c', h1, rfl⟩ := hc
      obtain ⟨b, m, h2, h3⟩ := hM.live i c' h1
      exact ⟨b, m, by unfold ofOrder; rw [ho]; exact h2, chunk_ren ren_order h3⟩
  · intro j hj
    rw [keep_get] at hj
    unfold ofOrder
    cases ho : order[j]? with
    | none => rfl
    | some i =>
      rw [ho] at hj
      simp only [Option.bind_some, Option.map_eq_none_iff] at hj ⊢
      exact hM.dead i hj
  · intro j b m h
    obtain ⟨i, h1, _⟩ := hget j _ h
    exact (List.getElem?_eq_some_iff.1 h1).1
  · intro j b m h
    obtain ⟨i, _, h2⟩ := hget j _ h
    exact hM.own i b m h2
  · intro j j' b m m' h h'
    obtain ⟨i, h1, h2⟩ := hget j _ h
    obtain ⟨i', h1', h2'⟩ := hget j' _ h'
    have := hM.inj i i' b m m' h2 h2'
    subst this
    have e1 := posOf_get hn h1
    have e2 := posOf_get hn h1'
    rw [e1] at e2
    cases e2
    rfl
end

/-! ### States and what comes of them -/
structure Glob (E : Env) (S : Pr) (w : World) : Prop where
  rd : ∀ g cs, E.glob g = some cs → den (fun _ => none) S w (fun _ => False) (.rp cs) (.pointer (some ⟨g, 0, none⟩))
  inv : ∀ p ∈ E.inv, S p.1 ∧ ∃ x, w.heap[p.1]? = some x ∧ p.2 x
theorem Glob.later {E : Env} {S S' : Pr} {w w' : World} (h : Glob E S w) (hS : ∀ b, S b → S' b) (hk : Kept S w w') : Glob E S' w' :=
  ⟨fun g cs hg => den_later (fun _ h => h.elim) hS (fun _ h => h) hk _ _ (h.rd g cs hg), fun p hp => by
    obtain ⟨h1, x, h2, h3⟩ := h.inv p hp
    exact ⟨hS _ h1, x, by rw [hk _ h1]; exact h2, h3⟩⟩
/-- What is deferred. -/
def Dfs (E : Env) (f : FuncId) (ds : List Deferred) : Prop := (E.dfn f = false → ds = []) ∧ ∀ d, d ∈ ds → ∃ (g : FuncId) (us : Array Value), E.idle g = some us.size ∧ d = { target := .fn (.func g) us, args := #[] }
structure Rel (E : Env) (β : Bt) (S D : Pr) (s : St) (a : Act) (w : World) : Prop where
  fr : denL β S w D s.fr a.tmps.toList
  mem : Mem β S D s.H w
  df : Dfs E s.me a.defers
  lt : ∀ i, D i → i < s.nx
  gl : Glob E S w
  rtD : ∀ i, i < s.rt → D i
def ExR (S : Pr) (w : World) : Ex → Exit → Prop
  | .normal, .normal => True
  | .exit i, .exit j => i = j
  | .ret, .ret => True
  | .panic v, .panic ch => ∃ u, ch = [{ v := u, recovered := false }] ∧ v.pure = true ∧ den (fun _ => none) S w (fun _ => False) v u
  | _, _ => False
/-- What is known behind an end. -/
def RelX (E : Env) (_e : Ex) (β : Bt) (S D : Pr) (s : St) (a : Act) (w : World) : Prop := Rel E β S D s a w
/-- The roots are where they were. -/
def Roots (n : Nat) (β β' : Bt) : Prop := ∀ i bm, i < n → β' i = some bm → β i = some bm
structure Post (E : Env) (β : Bt) (S : Pr) (w : World) (s : St) (e : Ex) (s' : St) (e' : Exit) (a' : Act) (w' : World) : Prop where
  ex : ∃ β' S' D', ExR S' w' e e' ∧ RelX E e β' S' D' s' a' w' ∧ Evo β S w β' S' w' ∧ Roots s.rt β β' ∧ s'.rt = s.rt ∧ s'.me = s.me
theorem Post.trans {E : Env} {β β1 : Bt} {S S1 : Pr} {w w1 : World} {s s1 s' : St} {e : Ex} {e' : Exit} {a' : Act} {w' : World} (hev : Evo β S w β1 S1 w1) (hr : Roots s.rt β β1) (hrt : s1.rt = s.rt) (hme : s1.me = s.me)
    (h : Post E β1 S1 w1 s1 e s' e' a' w') : Post E β S w s e s' e' a' w' := by
  obtain ⟨β', S', D', h1, h2, h3, h4, h5, h6⟩ := h.ex
  exact ⟨β', S', D', h1, h2, hev.trans h3, (fun i bm hi hb => hr i bm hi (h4 i bm (by rw [hrt]; exact hi) hb)), h5.trans hrt, h6.trans hme⟩
/-- From the state s the code ends as e, in the state s'. -/
def Runs (E : Env) (c : Code) (s : St) (e : Ex) (s' : St) : Prop := ∀ β S D a w, Rel E β S D s a w → c.wp E.P (Post E β S w s e s') a w

def canonO (live : Nat) (s : St) : List Nat := reach s.H deep (chIds s.H (List.range s.rt) ++ idsL (zap live 0 s.fr)) (List.range s.rt)
def canonS (live : Nat) (s : St) : St := { fr := renL (posOf (canonO live s)) (zap live 0 s.fr), H := hp (keep s.H (canonO live s)), nx := (canonO live s).length, rt := s.rt, me := s.me }
theorem canonK_eq (live : Nat) (s : St) (k : St → Option Ans) : canonK live s k = k (canonS live s) := by
  simp only [canonK, fNL_eq, renK, fL_eq, fCL_eq]
  rfl
theorem canon_rel {E : Env} {β : Bt} {S D : Pr} {s : St} {a : Act} {w : World} (h : Rel E β S D s a w) (live : Nat) :
    ∃ β' D', Rel E β' S D' (canonS live s) a w ∧ Evo β S w β' S w ∧ Roots s.rt β β' := by
  unfold canonS canonO
  obtain ⟨hn, ex, hex⟩ := reach_spec s.H deep (chIds s.H (List.range s.rt) ++ idsL (zap live 0 s.fr)) (List.range s.rt) List.nodup_range
  generalize ho : reach s.H deep (chIds s.H (List.range s.rt) ++ idsL (zap live 0 s.fr)) (List.range s.rt) = order at *
  refine ⟨ofOrder β order, (· < order.length), ⟨denL_ren ren_order _ _ (denL_zap live 0 h.fr), h.mem.renum hn, h.df, fun i hi => hi, h.gl, fun i hi => by
    show i < order.length
    have hi' : i < s.rt := hi
    rw [hex, List.length_append, List.length_range]
    omega⟩, ?_, ?_⟩
  · refine ⟨rfl, rfl, rfl, Nat.le_refl _, fun _ _ _ => rfl, fun _ h => h, fun _ h => .inl h, fun i b m hb => ?_⟩
    unfold ofOrder at hb
    cases ho : order[i]? with
    | none => rw [ho] at hb; cases hb
    | some j => rw [ho] at hb; exact .inr ⟨j, m, hb⟩
  · intro i bm hi hb
    unfold ofOrder at hb
    have : order[i]? = some i := by
      rw [hex, List.getElem?_append, if_pos (by simpa using hi)]
      simp [hi]
    rw [this] at hb
    exact hb

/-! ### Loops -/
/-- At a round's head. -/
def Rounds (P : Program) (c : Code) (Q : Exit → Act → World → Prop) (a : Act) (w : World) : Prop :=
  ∀ (b : Frame) (k : List Item) (cs : List Frame), ∃ e a' w', Q e a' w' ∧ Arrives P (lone (b.at a (.code c :: .inLoop c :: k)) cs w) b k cs e a' w'
theorem loop_of_rounds {P : Program} {c : Code} {Q : Exit → Act → World → Prop} {a : Act} {w : World} (h : Rounds P c Q a w) : (Code.loop c).wp P Q a w :=
  fun b k cs => let ⟨e, a', w', q, r⟩ := h b k cs; ⟨e, a', w', q, .of_steps (.one step_loop) r⟩
theorem round_next {P : Program} {c : Code} {Q : Exit → Act → World → Prop} {a : Act} {w : World} (h : c.wp P (Exit.then (Rounds P c Q) Q) a w) : Rounds P c Q a w := by
  intro b k cs
  obtain ⟨e, a₁, w₁, hq, harr⟩ := h b (.inLoop c :: k) cs
  cases e with
  | normal =>
    obtain ⟨e₂, a₂, w₂, hq₂, harr₂⟩ := hq b k cs
    exact ⟨e₂, a₂, w₂, hq₂, .of_steps (Steps.trans harr (.one step_inLoop)) harr₂⟩
  | exit id => exact ⟨_, a₁, w₁, hq, .pass (x := .inLoop c) rfl (fun _ _ => .inl (by simp)) harr⟩
  | goto l => exact ⟨_, a₁, w₁, hq, .pass (x := .inLoop c) rfl (fun _ _ => .inl (by simp)) harr⟩
  | ret => exact ⟨_, a₁, w₁, hq, .pass (x := .inLoop c) rfl (fun _ _ => .inl (by simp)) harr⟩
  | panic ch => exact ⟨_, a₁, w₁, hq, .pass (x := .inLoop c) rfl (fun _ _ => .inl (by simp)) harr⟩
  | outgrown => exact ⟨_, a₁, w₁, hq, .pass (x := .inLoop c) rfl (fun _ _ => .inl (by simp)) harr⟩
/-- From the state s, at a round's head, the loop ends as e, in the state s'. -/
def SL (E : Env) (c : ACode) (s : St) (e : Ex) (s' : St) : Prop := ∀ β S D a w, Rel E β S D s a w → Rounds E.P c.erase (Post E β S w s e s') a w
def SoundL (E : Env) (lo : LoopT) : Prop := ∀ id live c s k r, lo id live c s k = some r → ∃ e s', k e s' = some r ∧ SL E c s e s'
end Go.Am
