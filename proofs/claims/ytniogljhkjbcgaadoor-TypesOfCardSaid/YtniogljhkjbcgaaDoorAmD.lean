/- Steps of the memory: what is new, what is written, what is given up. -/
import Derived.Test.YtniogljhkjbcgaaDoorAmC
namespace Go.Am
open Go Go.RowKit
set_option linter.unusedSimpArgs false
set_option linter.unusedVariables false

theorem upd_same {α : Type} (h : Nat → Option α) (i : Nat) (c : Option α) : upd h i c i = c := by simp [upd]
theorem upd_ne {α : Type} (h : Nat → Option α) {i j : Nat} (c : Option α) (hn : j ≠ i) : upd h i c j = h j := by simp [upd, hn]

/-- β' says of the old names what β says, or nothing. -/
def Hb (β β' : Bt) (D : Pr) : Prop := ∀ i, D i → β' i = β i ∨ β' i = none
theorem Hb.refl (β : Bt) (D : Pr) : Hb β β D := fun _ _ => .inl rfl
theorem Hb.trans {β β' β'' : Bt} {D D' : Pr} (h : Hb β β' D) (hD : ∀ i, D i → D' i) (g : Hb β' β'' D') : Hb β β'' D := by
  intro i hi
  rcases g i (hD i hi) with e | e
  · rcases h i hi with e' | e'
    · exact .inl (e.trans e')
    · exact .inr (e.trans e')
  · exact .inr e

section
variable {P : Program} {β : Bt} {S D D' : Pr} {H : Hp} {w w' : World}

theorem Mem.mono (hM : Mem β S D H w) (hD : ∀ i, D i → D' i) : Mem β S D' H w :=
  ⟨fun i c hc => let ⟨b, m, h1, h2⟩ := hM.live i c hc; ⟨b, m, h1, chunkRel_later (fun _ _ => .inl rfl) (fun _ h => h) hD (fun _ _ => rfl) rfl h2⟩, hM.dead, fun i b m h => hD i (hM.dom i b m h), hM.own, hM.inj, hM.st⟩

theorem Mem.new (hM : Mem β S D H w) {a b m : Nat} {c : Chunk} (ha : ¬ D a) (hD : ∀ i, D i → D' i) (hDa : D' a) (hev : Below w.heap.size w w') (hb : w.heap.size ≤ b) (hb' : b < w'.heap.size)
    (hc : chunkRel (upd β a (some (b, m))) S w' D' b m c) : Mem (upd β a (some (b, m))) S D' (upd H a (some c)) w' ∧ Evo β S w (upd β a (some (b, m))) S w' ∧ Hb β (upd β a (some (b, m))) D := by
  have hHb : Hb β (upd β a (some (b, m))) D := fun i hi => .inl (upd_ne _ _ (fun e => ha (e ▸ hi)))
  have hβa : ∀ i b' m', i ≠ a → upd β a (some (b, m)) i = some (b', m') → β i = some (b', m') := fun i b' m' hi h => by rwa [upd_ne _ _ hi] at h
  refine ⟨⟨?_, ?_, ?_, ?_, ?_, ?_⟩, ⟨hev.os, hev.tape, hev.output, hev.size, fun b' hb' _ => hev.block b' hb', fun _ h => h, fun _ h => .inl h, ?_⟩, hHb⟩
  · intro i c' hc'
    by_cases hi : i = a
    · subst hi
      rw [upd_same] at hc'
      cases hc'
      exact ⟨b, m, upd_same _ _ _, hc⟩
    · rw [upd_ne _ _ hi] at hc'
      obtain ⟨b', m', h1, h2⟩ := hM.live i c' hc'
      exact ⟨b', m', by rw [upd_ne _ _ hi]; exact h1, chunkRel_later hHb (fun _ h => h) hD (fun x hx => hev.block x (hM.st x hx)) (hev.block b' (hM.own i b' m' h1).1) h2⟩
  · intro i hi
    by_cases he : i = a
    · subst he; rw [upd_same] at hi; cases hi
    · rw [upd_ne _ _ he] at hi ⊢; exact hM.dead i hi
  · intro i b' m' h
    by_cases he : i = a
    · rw [he]; exact hDa
    · exact hD i (hM.dom i b' m' (hβa i b' m' he h))
  · intro i b' m' h
    by_cases he : i = a
    · subst he
      rw [upd_same] at h
      cases h
      exact ⟨hb', fun hs => by have := hM.st _ hs; omega⟩
    · have h' := hβa i b' m' he h
      exact ⟨Nat.lt_of_lt_of_le (hM.own i b' m' h').1 hev.size, (hM.own i b' m' h').2⟩
  · intro i j b' m' m'' h1 h2
    by_cases hi : i = a <;> by_cases hj : j = a
    · rw [hi, hj]
    · subst hi
      rw [upd_same] at h1
      cases h1
      have := (hM.own j _ _ (hβa j _ _ hj h2)).1
      omega
    · subst hj
      rw [upd_same] at h2
      cases h2
      have := (hM.own i _ _ (hβa i _ _ hi h1)).1
      omega
    · exact hM.inj i j b' m' m'' (hβa i _ _ hi h1) (hβa j _ _ hj h2)
  · exact fun x hx => Nat.lt_of_lt_of_le (hM.st x hx) hev.size
  · intro i b' m' h
    by_cases he : i = a
    · subst he; rw [upd_same] at h; cases h; exact .inl hb
    · exact .inr ⟨i, m', hβa i b' m' he h⟩

theorem Mem.put (hM : Mem β S D H w) {i b m : Nat} {c c' : Chunk} (hi : H i = some c) (hb : β i = some (b, m)) (hg : w.grownBy w' (some b)) (hc : chunkRel β S w' D b m c') :
    Mem β S D (upd H i (some c')) w' ∧ Evo β S w β S w' := by
  have hk : Kept S w w' := fun x hx => hg.block x (hM.st x hx) (fun e => by cases e; exact (hM.own i b m hb).2 hx)
  refine ⟨⟨?_, ?_, hM.dom, fun j b' m' h => ⟨Nat.lt_of_lt_of_le (hM.own j b' m' h).1 hg.size, (hM.own j b' m' h).2⟩, hM.inj, fun x hx => Nat.lt_of_lt_of_le (hM.st x hx) hg.size⟩,
    ⟨hg.os, hg.tape, hg.output, hg.size, fun b' hb' hn => hg.block b' hb' (fun e => by cases e; exact hn i m hb), fun _ h => h, fun _ h => .inl h, fun i b m h => .inr ⟨i, m, h⟩⟩⟩
  · intro j d hd
    by_cases hj : j = i
    · subst hj
      rw [upd_same] at hd
      cases hd
      exact ⟨b, m, hb, hc⟩
    · rw [upd_ne _ _ hj] at hd
      obtain ⟨b', m', h1, h2⟩ := hM.live j d hd
      refine ⟨b', m', h1, chunkRel_later (fun _ _ => .inl rfl) (fun _ h => h) (fun _ h => h) hk (hg.block b' (hM.own j b' m' h1).1 (fun e => by cases e; exact hj (hM.inj j i _ _ _ h1 hb))) h2⟩
  · intro j hj
    by_cases he : j = i
    · subst he; rw [upd_same] at hj; cases hj
    · rw [upd_ne _ _ he] at hj; exact hM.dead j hj

/-! ### Given up -/
theorem updL_none (l : List (Nat × Option Chunk)) (hl : ∀ u ∈ l, u.2 = none) : ∀ (H : Hp) (i : Nat), updL H l i = if i ∈ l.map (·.1) then none else H i := by
  induction l with
  | nil => intro H i; simp [updL]
  | cons u l ih =>
    intro H i
    obtain ⟨j, c⟩ := u
    have hc : c = none := hl (j, c) (.head _)
    subst hc
    simp only [updL, ih (fun u hu => hl u (.tail _ hu)), List.map_cons, List.mem_cons]
    by_cases h1 : i ∈ l.map (·.1)
    · simp [h1]
    · by_cases h2 : i = j
      · subst h2; simp [h1, upd_same]
      · simp [h1, h2, upd_ne]
theorem updL_append (H : Hp) (l l' : List (Nat × Option Chunk)) : updL H (l ++ l') = updL (updL H l) l' := by
  induction l generalizing H with
  | nil => rfl
  | cons u l ih => obtain ⟨i, c⟩ := u; simp only [List.cons_append, updL]; exact ih _
theorem fzU_none (l : List V) : ∀ u ∈ fzU l, u.2 = none := by
  intro u hu
  simp only [fzU, List.mem_flatMap] at hu
  obtain ⟨v, _, hv⟩ := hu
  unfold gone1 at hv
  split at hv
  · simp only [List.mem_singleton] at hv; subst hv; rfl
  · cases hv
def goneB (β : Bt) (S : Pr) (l : List Nat) : Pr := fun b => S b ∨ ∃ i m, i ∈ l ∧ β i = some (b, m)
def dropB (β : Bt) (l : List Nat) : Bt := fun i => if i ∈ l then none else β i
theorem Mem.drop (hM : Mem β S D H w) (l : List (Nat × Option Chunk)) (hl : ∀ u ∈ l, u.2 = none) :
    Mem (dropB β (l.map (·.1))) (goneB β S (l.map (·.1))) D (updL H l) w ∧ Evo β S w (dropB β (l.map (·.1))) (goneB β S (l.map (·.1))) w ∧ Hb β (dropB β (l.map (·.1))) D := by
  have hHb : Hb β (dropB β (l.map (·.1))) D := fun i _ => by unfold dropB; split <;> simp
  have hin : ∀ i b m, dropB β (l.map (·.1)) i = some (b, m) → i ∉ l.map (·.1) ∧ β i = some (b, m) := by
    intro i b m h
    unfold dropB at h
    split at h
    · cases h
    · exact ⟨by assumption, h⟩
  refine ⟨⟨?_, ?_, fun i b m h => hM.dom i b m (hin i b m h).2, ?_, fun i j b m m' h1 h2 => hM.inj i j b m m' (hin _ _ _ h1).2 (hin _ _ _ h2).2, ?_⟩,
    ⟨rfl, rfl, rfl, Nat.le_refl _, fun _ _ _ => rfl, fun _ h => .inl h, ?_, fun i b m h => .inr ⟨i, m, (hin _ _ _ h).2⟩⟩, hHb⟩
  · intro i c hc
    rw [updL_none l hl] at hc
    split at hc
    · cases hc
    · rename_i hn
      obtain ⟨b, m, h1, h2⟩ := hM.live i c hc
      exact ⟨b, m, by unfold dropB; rw [if_neg hn]; exact h1, chunkRel_later hHb (fun _ h => .inl h) (fun _ h => h) (fun _ _ => rfl) rfl h2⟩
  · intro i hi
    rw [updL_none l hl] at hi
    unfold dropB
    split at hi
    · rw [if_pos (by assumption)]
    · rename_i hn; rw [if_neg hn]; exact hM.dead i hi
  · intro i b m h
    obtain ⟨hn, h'⟩ := hin i b m h
    refine ⟨(hM.own i b m h').1, ?_⟩
    rintro (hs | ⟨j, m', hj, hb⟩)
    · exact (hM.own i b m h').2 hs
    · have := hM.inj i j b m m' h' hb
      subst this
      exact hn hj
  · rintro b (hs | ⟨j, m', hj, hb⟩)
    · exact hM.st b hs
    · exact (hM.own j b m' hb).1
  · rintro b (hs | ⟨j, m', hj, hb⟩)
    · exact .inl hs
    · exact .inr (.inr ⟨j, m', hb⟩)
theorem bw1_sound (hM : Mem β S D H w) {S' : Pr} {β' : Bt} (hHb : Hb β β' D) (hS : ∀ b, S b → S' b) {v : V} {u : Value} (hg : ∀ i z o l b m, v = .sl i z o l → β i = some (b, m) → S' b) (h : den β S w D v u) :
    den β' S' w D (v.bw1 H) u := by
  unfold V.bw1
  split
  · rename_i i z o l
    split
    · rename_i e k n f hc
      split
      · rename_i hle
        obtain ⟨hle, rfl⟩ := hle
        obtain ⟨b, m, hb, hr⟩ := hM.live i _ hc
        simp only [chunkRel] at hr
        obtain ⟨h1, h2, h3, cur, h4, h5, h6⟩ := hr
        simp only [den] at h ⊢
        obtain ⟨g1, A, rfl, g2⟩ := h.2 b m hb
        have hSb := hg i z o l b m rfl hb
        refine ⟨by omega, some A, m - o, A, fun j => if h : o + j < n then (h6 (o + j) h).choose else [], rfl, by omega, fun hl => ⟨rfl, by rw [g2 (by omega)]; exact hSb⟩, fun j hj => ?_⟩
        have hjn : o + j < n := by omega
        simp only [hjn, dif_pos]
        obtain ⟨q1, q2, q3, q4, q5⟩ := (h6 (o + j) hjn).choose_spec
        refine ⟨denL_pure hS (fun _ _ => rfl) _ _ q2 q1, q2, q3, q4, fun i x hx => ?_⟩
        rw [g2 (by omega), add_lit, cell_of_row w b _ _ _ _ h4]
        have := q5 i x hx
        rw [show o * z + (j * z + i) = (o + j) * z + i by rw [Nat.add_mul]; omega]
        exact this
      · simp [den]
    · simp [den]
  · exact den_later hHb hS (fun _ h => h) (fun _ _ => rfl) v u h
theorem fzL_sound (hM : Mem β S D H w) {S' : Pr} {β' : Bt} (hHb : Hb β β' D) (hS : ∀ b, S b → S' b) : ∀ {l : List V} {us : List Value}, (∀ i b m, (i, none) ∈ fzU l → β i = some (b, m) → S' b) → denL β S w D l us → denL β' S' w D (fzL H l) us
  | [], us, _, h => by simpa [fzL, denL] using h
  | v :: l, us, hg, h => by
    simp only [denL] at h
    obtain ⟨x, xs, rfl, h1, h2⟩ := h
    simp only [fzL, List.map_cons, denL]
    refine ⟨x, xs, rfl, bw1_sound hM hHb hS (fun i z o n b m e hb => hg i b m (by subst e; simp [fzU, gone1]) hb) h1, ?_⟩
    exact fzL_sound hM hHb hS (fun i b m hi hb => hg i b m (by simp only [fzU, List.flatMap_cons, List.mem_append] at hi ⊢; exact .inr hi) hb) h2
end

/-! ### Read as values, one after the other -/
theorem bw1K_some {get : Hp} {v : V} {k : V → Option Ans} {r : Ans} (h : bw1K get v k = some r) : k (v.bw1 get) = some r := by
  unfold bw1K at h
  unfold V.bw1
  split at h
  · split at h
    · split at h
      · rename_i hc; obtain ⟨h1, rfl⟩ := hc; simp only [*, and_self, if_true]
      · cases h
    · cases h
  · exact h
theorem bw1LK_some {get : Hp} : ∀ {l : List V} {k : List V → Option Ans} {r : Ans}, bw1LK get l k = some r → k (l.map (·.bw1 get)) = some r
  | [], _, _, h => h
  | v :: l, k, _, h => by
    have h := bw1K_some h
    exact bw1LK_some (k := fun l => k (_ :: l)) h
theorem bw2K_some {get : Hp} {v : V} {k : V → Option Ans} {r : Ans} (h : bw2K get v k = some r) : k (v.bw2 get) = some r := by
  unfold bw2K at h
  unfold V.bw2
  split at h
  · exact bw1LK_some h
  · exact bw1K_some h
theorem bw2LK_some {get : Hp} : ∀ {l : List V} {k : List V → Option Ans} {r : Ans}, bw2LK get l k = some r → k (l.map (·.bw2 get)) = some r
  | [], _, _, h => h
  | v :: l, k, _, h => by
    have h := bw2K_some h
    exact bw2LK_some (k := fun l => k (_ :: l)) h
theorem bwK_some {get : Hp} {v : V} {k : V → Option Ans} {r : Ans} (h : bwK get v k = some r) : k (v.bw get) = some r := by
  unfold bwK at h
  unfold V.bw
  split at h
  · exact bw2LK_some h
  · exact bw2K_some h
theorem bwLK_some {get : Hp} : ∀ {l : List V} {k : List V → Option Ans} {r : Ans}, bwLK get l k = some r → k (l.map (·.bw get)) = some r
  | [], _, _, h => h
  | v :: l, k, _, h => by
    have h := bwK_some h
    exact bwLK_some (k := fun l => k (_ :: l)) h
theorem bw1K_elems {get : Hp} {y : V} {F : Option (Nat × Nat × (Nat → List V)) → Option Ans} {r : Ans} (h : bw1K get y (fun y => F (elemsOf get y)) = some r) : F (elemsOf get y) = some r := by
  unfold bw1K at h
  split at h
  · split at h
    · split at h
      · rename_i hg hc
        simp only [elemsOf, hg, if_pos hc]
        exact h
      · cases h
    · cases h
  · exact h
end Go.Am
