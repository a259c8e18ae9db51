/- Regions that draw their order: any order does what the text's order does. -/
import Derived.Test.YtniogljhkjbcgaaDoorAmP
import Derived.Test.YtniogljhkjbcgaaDoorAmNa

namespace Go.Am
open Go Go.RowKit
set_option linter.unusedSimpArgs false
set_option linter.unusedVariables false

theorem updL_at (us : List (Nat × Option Chunk)) : ∀ (h h' : Hp) (i : Nat), h i = h' i → updL h us i = updL h' us i := by
  induction us with
  | nil => intro h h' i e; exact e
  | cons u us ih =>
    intro h h' i e
    obtain ⟨j, c⟩ := u
    simp only [updL]
    refine ih _ _ i ?_
    unfold upd
    split
    · rfl
    · exact e
theorem updL_notin (us : List (Nat × Option Chunk)) : ∀ (h : Hp) (i : Nat), i ∉ us.map (·.1) → updL h us i = h i := by
  induction us with
  | nil => intro h i _; rfl
  | cons u us ih =>
    intro h i hi
    obtain ⟨j, c⟩ := u
    simp only [List.map_cons, List.mem_cons, not_or] at hi
    simp only [updL]
    rw [ih _ i hi.2, upd_ne _ _ hi.1]
theorem updL_comm (us us' : List (Nat × Option Chunk)) (hd : ∀ i, i ∈ us.map (·.1) → i ∉ us'.map (·.1)) (h : Hp) : updL (updL h us) us' = updL (updL h us') us := by
  funext i
  by_cases h1 : i ∈ us.map (·.1)
  · have h2 := hd i h1
    rw [updL_notin us' _ i h2]
    exact updL_at us _ _ i (updL_notin us' h i h2).symm
  · rw [updL_notin us _ i h1]
    exact updL_at us' _ _ i (updL_notin us h i h1)

mutual
theorem den_ids {β β' : Bt} {S D : Pr} {w : World} : ∀ (v : V) (u : Value), (∀ i ∈ v.ids, β' i = β i ∨ β' i = none) → den β S w D v u → den β' S w D v u
  | .junk, _, _, _ => by simp [den]
  | .sc v, u, _, h => by simpa [den] using h
  | .agg cs, u, hi, h => by
    simp only [den, V.ids] at h hi ⊢
    obtain ⟨us, h1, h2, h3⟩ := h
    exact ⟨us, h1, denL_ids cs us hi h2, h3⟩
  | .tup cs, u, hi, h => by
    simp only [den, V.ids] at h hi ⊢
    obtain ⟨us, h1, h2⟩ := h
    exact ⟨us, h1, denL_ids cs us hi h2⟩
  | .ptr i o, u, hi, h => by
    simp only [den, V.ids] at h hi ⊢
    refine ⟨h.1, fun b m hb => h.2 b m ?_⟩
    rcases hi i (.head _) with e | e
    · rw [← e]; exact hb
    · rw [e] at hb; cases hb
  | .ep i k j o, u, hi, h => by
    simp only [den, V.ids] at h hi ⊢
    refine ⟨h.1, fun b m hb => h.2 b m ?_⟩
    rcases hi i (.head _) with e | e
    · rw [← e]; exact hb
    · rw [e] at hb; cases hb
  | .rp cs, u, _, h => den_pure (fun _ h => h) (fun _ _ => rfl) _ _ rfl h
  | .sl i k o l, u, hi, h => by
    simp only [den, V.ids] at h hi ⊢
    refine ⟨h.1, fun b m hb => h.2 b m ?_⟩
    rcases hi i (.head _) with e | e
    · rw [← e]; exact hb
    · rw [e] at hb; cases hb
  | .ro k n f, u, _, h => den_pure (fun _ h => h) (fun _ _ => rfl) _ _ rfl h
  | .fn f cs, u, hi, h => by
    simp only [den, V.ids] at h hi ⊢
    obtain ⟨us, h1, h2⟩ := h
    exact ⟨us, h1, denL_ids cs us hi h2⟩
  | .mp i, u, hi, h => by
    simp only [den, V.ids] at h hi ⊢
    refine ⟨h.1, fun b m hb => h.2 b m ?_⟩
    rcases hi i (.head _) with e | e
    · rw [← e]; exact hb
    · rw [e] at hb; cases hb
  | .ifc t v, u, hi, h => by
    simp only [den, V.ids] at h hi ⊢
    obtain ⟨x, h1, h2⟩ := h
    exact ⟨x, h1, den_ids v x hi h2⟩
  | .bf f fs cs, u, hi, h => by
    simp only [den, V.ids] at h hi ⊢
    obtain ⟨xs, us, h1, h2, h3⟩ := h
    exact ⟨xs, us, h1, denL_ids fs xs (fun i h => hi i (List.mem_append_left _ h)) h2, denL_ids cs us (fun i h => hi i (List.mem_append_right _ h)) h3⟩
theorem denL_ids {β β' : Bt} {S D : Pr} {w : World} : ∀ (l : List V) (us : List Value), (∀ i ∈ idsL l, β' i = β i ∨ β' i = none) → denL β S w D l us → denL β' S w D l us
  | [], us, _, h => by simpa [denL] using h
  | c :: cs, us, hi, h => by
    simp only [denL, idsL] at h hi ⊢
    obtain ⟨x, xs, h1, h2, h3⟩ := h
    exact ⟨x, xs, h1, den_ids c x (fun i hh => hi i (List.mem_append_left _ hh)) h2, denL_ids cs xs (fun i hh => hi i (List.mem_append_right _ hh)) h3⟩
end
theorem chunk_ids {β β' : Bt} {S D : Pr} {w : World} {b m : Nat} {c : Chunk} (hi : ∀ i ∈ c.ids, β' i = β i ∨ β' i = none) (h : chunkRel β S w D b m c) : chunkRel β' S w D b m c := by
  cases c with
  | blk cs =>
    simp only [chunkRel, Chunk.ids] at h hi ⊢
    obtain ⟨us, T, h1, h2, h3⟩ := h
    exact ⟨us, T, h1, denL_ids _ _ hi h2, h3⟩
  | row e k n f =>
    simp only [chunkRel] at h ⊢
    obtain ⟨h1, h2, h3, cur, h4, h5, h6⟩ := h
    exact ⟨h1, h2, h3, cur, h4, h5, rowOK_later (fun _ h => h) (fun _ _ => rfl) h6⟩
  | iter s p => exact h
  | map es =>
    simp only [chunkRel] at h ⊢
    obtain ⟨ents, clock, h1, h2⟩ := h
    exact ⟨ents, clock, h1, mapOK_later (fun _ h => h) (fun _ _ => rfl) h2⟩
  | smap n g f =>
    simp only [chunkRel] at h ⊢
    obtain ⟨ents, clock, h1, h2⟩ := h
    exact ⟨ents, clock, h1, smapOK_later (fun _ h => h) (fun _ _ => rfl) h2⟩
theorem updIds_mem : ∀ (us : List (Nat × Option Chunk)) (j : Nat) (c : Chunk) (i : Nat), (j, some c) ∈ us → i ∈ c.ids → i ∈ updIds us
  | (k, none) :: us, j, c, i, h, hi => by
    cases h with
    | tail _ h => exact updIds_mem us j c i h hi
  | (k, some c') :: us, j, c, i, h, hi => by
    simp only [updIds, List.mem_append]
    cases h with
    | head => exact .inl hi
    | tail _ h => exact .inr (updIds_mem us j c i h hi)
theorem updL_key : ∀ (us : List (Nat × Option Chunk)) (h : Hp) (i : Nat) (c : Chunk), i ∈ us.map (·.1) → updL h us i = some c → (i, some c) ∈ us
  | [], h, i, c, hi, _ => by simp at hi
  | (j, d) :: us, h, i, c, hi, hu => by
    simp only [updL] at hu
    by_cases hin : i ∈ us.map (·.1)
    · exact .tail _ (updL_key us _ i c hin hu)
    · simp only [List.map_cons, List.mem_cons] at hi
      have hij := hi.resolve_right hin
      rw [updL_notin us _ i hin] at hu
      subst hij
      rw [upd_same] at hu
      subst hu
      exact .head _

section
variable {E : Env} {β : Bt} {S D : Pr} {H : Hp} {w : World} {new : Nat}

/-- Only what is seen. -/
def visT (base : Nat) (bits : Vw) (β : Bt) : Bt := fun i => if visB base bits i then β i else none
theorem Mem.vis (hM : Mem β S D H w) (base : Nat) (bits : Vw) : Mem (visT base bits β) S D (visH base bits H) w ∧ Hb β (visT base bits β) D := by
  have hHb : Hb β (visT base bits β) D := fun i _ => by unfold visT; split <;> simp
  have hin : ∀ i bm, visT base bits β i = some bm → visB base bits i = true ∧ β i = some bm := fun i bm h => by
    unfold visT at h
    split at h
    · exact ⟨by assumption, h⟩
    · cases h
  refine ⟨⟨fun i c hc => ?_, fun i hi => ?_, fun i b m h => hM.dom i b m (hin _ _ h).2, fun i b m h => hM.own i b m (hin _ _ h).2, fun i j b m m' h h' => hM.inj i j b m m' (hin _ _ h).2 (hin _ _ h').2, hM.st⟩, hHb⟩
  · unfold visH at hc
    split at hc
    · rename_i hv
      obtain ⟨b, m, h1, h2⟩ := hM.live i c hc
      exact ⟨b, m, by unfold visT; rw [if_pos hv]; exact h1, chunkRel_later hHb (fun _ h => h) (fun _ h => h) (fun _ _ => rfl) rfl h2⟩
    · cases hc
  · unfold visT visH at *
    split
    · rename_i hv; rw [if_pos hv] at hi; exact hM.dead i hi
    · rfl
def mixT (base : Nat) (bits : Vw) (new : Nat) (β β' : Bt) : Bt := fun i => if (visB base bits i || ownB new i) = true then β' i else β i
/-- What was done to what is seen, told of all. -/
theorem unsee {base : Nat} {bits : Vw} {β' : Bt} {S' : Pr} {w' : World} {us : List (Nat × Option Chunk)} {v : V} {u : Value} (hM : Mem β S D H w) (hn : ∀ i, new ≤ i → i < new + wide → ¬ D i) (hk : seenOk base bits new v us = true)
    (h1 : Mem β' S' (span D new) (updL (visH base bits H) us) w') (h2 : den β' S' w' (span D new) v u) (h3 : Evo (visT base bits β) S w β' S' w') (h4 : Hb (visT base bits β) β' D) (h5 : Same (visT base bits β) w us w') :
    Mem (mixT base bits new β β') S' (span D new) (updL H us) w' ∧ den (mixT base bits new β β') S' w' (span D new) v u ∧ Evo β S w (mixT base bits new β β') S' w' ∧ Hb β (mixT base bits new β β') D := by
  unfold seenOk at hk
  rw [List.all_eq_true] at hk
  have hkey : ∀ i, i ∈ us.map (·.1) → (visB base bits i || ownB new i) = true := fun i hi => hk i (by simp only [List.mem_append]; exact .inl (.inl hi))
  have hvi : ∀ i, i ∈ v.ids → (visB base bits i || ownB new i) = true := fun i hi => hk i (by simp only [List.mem_append]; exact .inl (.inr hi))
  have hci : ∀ i j c, (j, some c) ∈ us → i ∈ c.ids → (visB base bits i || ownB new i) = true := fun i j c hj hi => hk i (by simp only [List.mem_append]; exact .inr (updIds_mem us j c i hj hi))
  have hvis : ∀ i bm, visT base bits β i = some bm → visB base bits i = true ∧ β i = some bm := fun i bm h => by
    unfold visT at h
    split at h
    · exact ⟨by assumption, h⟩
    · cases h
  have hmix : ∀ i, (visB base bits i || ownB new i) = true → mixT base bits new β β' i = β' i := fun i hi => by unfold mixT; rw [if_pos hi]
  have hmixn : ∀ i, (visB base bits i || ownB new i) ≠ true → mixT base bits new β β' i = β i := fun i hi => by unfold mixT; rw [if_neg hi]
  have hown0 : ∀ i bm, ownB new i = true → β i = some bm → False := fun i bm ho hb => by
    simp only [ownB, Bool.and_eq_true, decide_eq_true_eq] at ho
    exact hn i ho.1 ho.2 (hM.dom i bm.1 bm.2 hb)
  have hup : ∀ i, (visB base bits i || ownB new i) = true → updL H us i = updL (visH base bits H) us i := by
    intro i hi
    refine updL_at us _ _ i ?_
    unfold visH
    split
    · rfl
    · rename_i hv
      cases hH : H i with
      | none => rfl
      | some c =>
        obtain ⟨b, m, hb, _⟩ := hM.live i c hH
        rcases Bool.or_eq_true_iff.1 hi with h | h
        · exact absurd h hv
        · exact (hown0 i _ h hb).elim
  have hdn : ∀ i, (visB base bits i || ownB new i) ≠ true → updL H us i = H i := fun i hi => updL_notin us H i fun hm => hi (hkey i hm)
  have hfr : ∀ i b m, (visB base bits i || ownB new i) ≠ true → β i = some (b, m) → w'.heap[b]? = w.heap[b]? ∧ ¬ S' b ∧ ∀ j m', β' j ≠ some (b, m') := by
    intro i b m hi hb
    have hno : ∀ j m', visT base bits β j ≠ some (b, m') := fun j m' e => by
      obtain ⟨hv, hj⟩ := hvis j _ e
      have := hM.inj i j b m m' hb hj
      subst this
      exact hi (by simp [hv])
    have hlt := (hM.own i b m hb).1
    refine ⟨h3.keep b hlt hno, fun hs => ?_, fun j m' e => ?_⟩
    · rcases h3.newS b hs with h | h | ⟨j, m', h⟩
      · exact (hM.own i b m hb).2 h
      · omega
      · exact hno j m' h
    · rcases h3.newO j b m' e with h | ⟨j', m'', h⟩
      · omega
      · exact hno j' m'' h
  have hkS : Kept S w w' := fun b hb => h3.keep b (hM.st b hb) fun i m e => (hM.own i b m (hvis i _ e).2).2 hb
  have hHb : Hb β (mixT base bits new β β') D := by
    intro i hi
    unfold mixT
    split
    · rcases h4 i hi with e | e
      · rw [e]; unfold visT; split <;> simp
      · exact .inr e
    · exact .inl rfl
  have hB : ∀ i bm, mixT base bits new β β' i = some bm → ((visB base bits i || ownB new i) = true ∧ β' i = some bm) ∨ ((visB base bits i || ownB new i) ≠ true ∧ β i = some bm) := fun i bm h => by
    by_cases hi : (visB base bits i || ownB new i) = true
    · rw [hmix i hi] at h; exact .inl ⟨hi, h⟩
    · rw [hmixn i hi] at h; exact .inr ⟨hi, h⟩
  refine ⟨⟨fun i c hc => ?_, fun i hi => ?_, fun i b m h => ?_, fun i b m h => ?_, fun i j b m m' h h' => ?_, h1.st⟩, den_ids v u (fun i hi => .inl (hmix i (hvi i hi))) h2, ⟨h3.os, h3.tape, h3.output, h3.size, fun b hb hno => h3.keep b hb (fun i m e => hno i m (hvis i _ e).2), h3.sub, fun b hb => ?_, fun i b m h => ?_⟩, hHb⟩
  · by_cases hi : (visB base bits i || ownB new i) = true
    · rw [hup i hi] at hc
      obtain ⟨b, m, e1, e2⟩ := h1.live i c hc
      by_cases hin : i ∈ us.map (·.1)
      · have hmem := updL_key us _ i c hin hc
        exact ⟨b, m, by rw [hmix i hi]; exact e1, chunk_ids (fun j hj => .inl (hmix j (hci j i c hmem hj))) e2⟩
      · rw [updL_notin us _ i hin] at hc
        unfold visH at hc
        split at hc
        · rename_i hv
          obtain ⟨b', m', f1, f2⟩ := hM.live i c hc
          have hvt : visT base bits β i = some (b', m') := by unfold visT; rw [if_pos hv]; exact f1
          refine ⟨b', m', ?_, chunkRel_later hHb h3.sub (span_sub D new) hkS (h5 i b' m' hvt hin) f2⟩
          rw [hmix i hi]
          rcases h4 i (hM.dom i b' m' f1) with e | e
          · rw [e]; exact hvt
          · rw [e] at e1; cases e1
        · cases hc
    · rw [hdn i hi] at hc
      obtain ⟨b, m, e1, e2⟩ := hM.live i c hc
      exact ⟨b, m, by rw [hmixn i hi]; exact e1, chunkRel_later hHb h3.sub (span_sub D new) hkS (hfr i b m hi e1).1 e2⟩
  · by_cases hv : (visB base bits i || ownB new i) = true
    · rw [hup i hv] at hi
      rw [hmix i hv]
      exact h1.dead i hi
    · rw [hdn i hv] at hi
      rw [hmixn i hv]
      exact hM.dead i hi
  · rcases hB i _ h with ⟨_, h⟩ | ⟨_, h⟩
    · exact h1.dom i b m h
    · exact .inl (hM.dom i b m h)
  · rcases hB i _ h with ⟨_, h⟩ | ⟨hi, h⟩
    · exact h1.own i b m h
    · exact ⟨Nat.lt_of_lt_of_le (hM.own i b m h).1 h3.size, (hfr i b m hi h).2.1⟩
  · rcases hB i _ h with ⟨_, h⟩ | ⟨hi, h⟩ <;> rcases hB j _ h' with ⟨_, h'⟩ | ⟨hj, h'⟩
    · exact h1.inj i j b m m' h h'
    · exact absurd h ((hfr j b m' hj h').2.2 i m)
    · exact absurd h' ((hfr i b m hi h).2.2 j m')
    · exact hM.inj i j b m m' h h'
  · rcases h3.newS b hb with h | h | ⟨j, m', h⟩
    · exact .inl h
    · exact .inr (.inl h)
    · exact .inr (.inr ⟨j, m', (hvis j _ h).2⟩)
  · rcases hB i _ h with ⟨_, h⟩ | ⟨_, h⟩
    · rcases h3.newO i b m h with h | ⟨j, m', h⟩
      · exact .inl h
      · exact .inr ⟨j, m', (hvis j _ h).2⟩
    · exact .inr ⟨i, m, h⟩
end
end Go.Am
