/- Calls. -/
import Derived.Test.YtniogljhkjbcgaaDoorAmK
namespace Go.Am
open Go Go.RowKit
set_option linter.unusedSimpArgs false
set_option linter.unusedVariables false

def callPost (β : Bt) (S : Pr) (w : World) (r : Nat) (cr : CRes) (e : Ending) (w' : World) : Prop :=
  match cr with
  | .ret v L => ∃ u β' S', e = .returned u ∧ Mem β' S' (· < L.length) (hp L) w' ∧ den β' S' w' (· < L.length) v u ∧ Evo β S w β' S' w' ∧ Roots r β β'
  | .pan v => ∃ u β' S', e = .panicked [{ v := u, recovered := false }] ∧ v.pure = true ∧ den (fun _ => none) S' w' (fun _ => False) v u ∧ Evo β S w β' S' w' ∧ ∀ b, S' b → b < w'.heap.size
/-- A call of f with these arguments, over this memory, comes to this. -/
def SC (E : Env) (f : FuncId) (args : List V) (L : List (Option Chunk)) (cr : CRes) : Prop :=
  callable E.P f ∧ ∀ (β : Bt) (S : Pr) (w : World) (us : List Value), denL β S w (· < L.length) args us → Mem β S (· < L.length) (hp L) w → Glob E S w →
    Calls E.P f us.toArray w (callPost β S w (dd [] (idsL args)).length cr)
def SoundC (E : Env) (ca : CallT) : Prop := ∀ f args L k r, ca f args L k = some r → ∃ cr, k cr = some r ∧ SC E f args L cr
def SoundX (E : Env) : Prop := ∀ f args v, E.ext f args = some v → callable E.P f ∧ v.pure = true ∧ ∀ (β : Bt) (S D : Pr) (w : World) (us : List Value), denL β S w D args us → Glob E S w → (∀ b, S b → b < w.heap.size) →
    Calls E.P f us.toArray w fun e w' => ∃ u S', e = .returned u ∧ Below w.heap.size w w' ∧ den (fun _ => none) S' w' (fun _ => False) v u ∧ (∀ b, S b → S' b) ∧ ∀ b, S' b → S b ∨ (w.heap.size ≤ b ∧ b < w'.heap.size)

/-- What a call's effect says of the model. -/
def CallR (E : Env) (β : Bt) (S D : Pr) (H : Hp) (new : Nat) (f : FuncId) (args : List V) (w : World) : Res → Prop
  | .val v us => callable E.P f ∧ ∀ cs : List Value, denL β S w D args cs → Calls E.P f cs.toArray w fun e w' => ∃ u β' S', e = .returned u ∧ Mem β' S' (span D new) (updL H us) w' ∧ den β' S' w' (span D new) v u ∧ Evo β S w β' S' w' ∧ Hb β β' D ∧ Same β w us w'
  | .pan v us => callable E.P f ∧ ∀ cs : List Value, denL β S w D args cs → Calls E.P f cs.toArray w fun e w' => ∃ u β' S', e = .panicked [{ v := u, recovered := false }] ∧ v.pure = true ∧ den (fun _ => none) S' w' (fun _ => False) v u ∧ Evo β S w β' S' w' ∧ Mem β' S' D (updL H us) w' ∧ Hb β β' D
  | .call _ _ => False
  | .dfr _ _ => False

section
variable {E : Env} {β : Bt} {S D : Pr} {H : Hp} {w : World} {new : Nat} {k : KR} {r : Ans}

theorem Mem.below {w' : World} (hM : Mem β S D H w) (hb : Below w.heap.size w w') : Mem β S D H w' :=
  ⟨fun i c hc => let ⟨b, m, h1, h2⟩ := hM.live i c hc; ⟨b, m, h1, chunkRel_later (fun _ _ => .inl rfl) (fun _ h => h) (fun _ h => h) (fun x hx => hb.block x (hM.st x hx)) (hb.block b (hM.own i b m h1).1) h2⟩,
    hM.dead, hM.dom, fun i b m h => ⟨Nat.lt_of_lt_of_le (hM.own i b m h).1 hb.size, (hM.own i b m h).2⟩, hM.inj, fun x hx => Nat.lt_of_lt_of_le (hM.st x hx) hb.size⟩
theorem Evo.below {w' : World} (hb : Below w.heap.size w w') : Evo β S w β S w' :=
  ⟨hb.os, hb.tape, hb.output, hb.size, fun b h _ => hb.block b h, fun _ h => h, fun _ h => .inl h, fun i b m h => .inr ⟨i, m, h⟩⟩
theorem below_of_evo {S' S1 : Pr} {β' : Bt} {w' : World} (h : Evo (fun _ => none) S1 w β' S' w') : Below w.heap.size w w' :=
  ⟨h.os, h.tape, h.output, h.size, fun b hb => h.keep b hb (fun i m e => by cases e)⟩
theorem Mem.wider' {S' : Pr} (hM : Mem β S D H w) (hS : ∀ b, S b → S' b) (hn : ∀ b, S' b → b < w.heap.size) (ho : ∀ i b m, β i = some (b, m) → ¬ S' b) : Mem β S' D H w :=
  ⟨fun i c hc => let ⟨b, m, h1, h2⟩ := hM.live i c hc; ⟨b, m, h1, chunkRel_later (fun _ _ => .inl rfl) hS (fun _ h => h) (fun _ _ => rfl) rfl h2⟩,
    hM.dead, hM.dom, fun i b m h => ⟨(hM.own i b m h).1, ho i b m h⟩, hM.inj, hn⟩
theorem ext_sound (hX : SoundX E) (hM : Mem β S D H w) (hG : Glob E S w) {f : FuncId} {args : List V} {v : V} (h : E.ext f args = some v) : CallR E β S D H new f args w (.val v []) := by
  obtain ⟨h1, h2, h3⟩ := hX f args v h
  refine ⟨h1, fun cs hcs => (h3 β S D w cs hcs hG hM.st).mono ?_⟩
  rintro e w' ⟨u, S', rfl, hb, hd, hs1, hs2⟩
  have ho : ∀ i b m, β i = some (b, m) → ¬ S' b := by
    intro i b m hi hs
    rcases hs2 b hs with h | ⟨h, _⟩
    · exact (hM.own i b m hi).2 h
    · have := (hM.own i b m hi).1; omega
  refine ⟨u, β, S', rfl, ((hM.below hb).wider' hs1 (fun b hs => ?_) ho).mono (span_sub D new), den_pure (fun _ h => h) (fun _ _ => rfl) _ _ h2 hd, ⟨hb.os, hb.tape, hb.output, hb.size, fun b h _ => hb.block b h, hs1, fun b hs => ?_, fun i b m h => .inr ⟨i, m, h⟩⟩, Hb.refl _ _, fun i b m hi _ => hb.block b (hM.own i b m hi).1⟩
  · rcases hs2 b hs with h | ⟨_, h⟩
    · exact Nat.lt_of_lt_of_le (hM.st b h) hb.size
    · exact h
  · rcases hs2 b hs with h | ⟨h, _⟩
    · exact .inl h
    · exact .inr (.inl h)

theorem scal_pure {v : V} (h : v.scal = true) : v.pure = true := by
  have one : ∀ v : V, v.sc1 = true → v.pure = true := fun v h => by cases v <;> simp_all [V.sc1, V.pure]
  have two : ∀ v : V, v.sc2 = true → v.pure = true := fun v h => by
    cases v <;> simp_all [V.sc2, V.pure]
    rename_i cs
    exact pureL_all.2 fun v hv => one v (h v hv)
  cases v <;> simp_all [V.scal, V.sc2, V.pure]
  · rename_i cs; exact pureL_all.2 fun v hv => one v (h v hv)
  · rename_i cs; exact pureL_all.2 fun v hv => two v (h v hv)
theorem scal_any {v : V} (h : v.scal = true) {β β' : Bt} {S S' D D' : Pr} {w w' : World} {u : Value} (hd : den β S w D v u) : den β' S' w' D' v u := by
  have one : ∀ (v : V) (u : Value), v.sc1 = true → den β S w D v u → den β' S' w' D' v u := fun v u h hd => by cases v <;> simp_all [V.sc1, den]
  have oneL : ∀ (l : List V) (us : List Value), (∀ v ∈ l, v.sc1 = true) → denL β S w D l us → denL β' S' w' D' l us := by
    intro l
    induction l with
    | nil => intro us _ h; simpa [denL] using h
    | cons c cs ih =>
      intro us h hd
      simp only [denL] at hd ⊢
      obtain ⟨x, xs, h1, h2, h3⟩ := hd
      exact ⟨x, xs, h1, one c x (h c (.head _)) h2, ih xs (fun v hv => h v (.tail _ hv)) h3⟩
  have two : ∀ (v : V) (u : Value), v.sc2 = true → den β S w D v u → den β' S' w' D' v u := fun v u h hd => by
    cases v with
    | sc x => simpa [den] using hd
    | agg cs =>
      simp only [den] at hd ⊢
      obtain ⟨us, h1, h2, h3⟩ := hd
      exact ⟨us, h1, oneL cs us (by simpa [V.sc2, List.all_eq_true] using h) h2, h3⟩
    | _ => simp [V.sc2] at h
  have twoL : ∀ (l : List V) (us : List Value), (∀ v ∈ l, v.sc2 = true) → denL β S w D l us → denL β' S' w' D' l us := by
    intro l
    induction l with
    | nil => intro us _ h; simpa [denL] using h
    | cons c cs ih =>
      intro us h hd
      simp only [denL] at hd ⊢
      obtain ⟨x, xs, h1, h2, h3⟩ := hd
      exact ⟨x, xs, h1, two c x (h c (.head _)) h2, ih xs (fun v hv => h v (.tail _ hv)) h3⟩
  cases v with
  | tup cs =>
    simp only [den] at hd ⊢
    obtain ⟨us, h1, h2⟩ := hd
    exact ⟨us, h1, twoL cs us (by simpa [V.scal, List.all_eq_true] using h) h2⟩
  | sc x => exact two _ _ h hd
  | agg cs => exact two _ _ h hd
  | _ => simp [V.scal, V.sc2] at h

theorem bw2_sound (hM : Mem β S D H w) {S' : Pr} {β' : Bt} (hHb : Hb β β' D) (hS : ∀ b, S b → S' b) (hown : ∀ i b m, β i = some (b, m) → S' b) {v : V} {u : Value} (h : den β S w D v u) : den β' S' w D (v.bw2 H) u := by
  have one : ∀ (v : V) (u : Value), den β S w D v u → den β' S' w D (v.bw1 H) u := fun v u h => bw1_sound hM hHb hS (fun i z o l b m _ hb => hown i b m hb) h
  unfold V.bw2
  split
  · rename_i cs
    simp only [den] at h ⊢
    obtain ⟨us, h1, h2, h3⟩ := h
    refine ⟨us, h1, ?_, h3⟩
    clear h1 h3
    induction cs generalizing us with
    | nil => simpa [denL] using h2
    | cons c cs ih =>
      simp only [denL, List.map_cons] at h2 ⊢
      obtain ⟨x, xs, h4, h5, h6⟩ := h2
      exact ⟨x, xs, h4, one c x h5, ih xs h6⟩
  · exact one v u h
theorem bw_sound (hM : Mem β S D H w) {S' : Pr} {β' : Bt} (hHb : Hb β β' D) (hS : ∀ b, S b → S' b) (hown : ∀ i b m, β i = some (b, m) → S' b) {v : V} {u : Value} (h : den β S w D v u) : den β' S' w D (v.bw H) u := by
  unfold V.bw
  split
  · rename_i cs
    simp only [den] at h ⊢
    obtain ⟨us, h1, h2⟩ := h
    refine ⟨us, h1, ?_⟩
    clear h1
    induction cs generalizing us with
    | nil => simpa [denL] using h2
    | cons c cs ih =>
      simp only [denL, List.map_cons] at h2 ⊢
      obtain ⟨x, xs, h4, h5, h6⟩ := h2
      exact ⟨x, xs, h4, bw2_sound hM hHb hS hown h5, ih xs h6⟩
  · exact bw2_sound hM hHb hS hown h

theorem lend_sound {ca : CallT} (hC : SoundC E ca) (hX : SoundX E) {f : FuncId} {args : List V} (h : callLend E ca f args H k = some r) : ∃ res, k res = some r ∧ ∀ β S D w new, Mem β S D H w → Glob E S w → CallR E β S D H new f args w res := by
  unfold callLend at h
  replace h := bwLK_some h
  simp only [fL_eq] at h
  split at h
  case isFalse => cases h
  rename_i hpure
  have lent : ∀ (β : Bt) (S D : Pr) (w : World), Mem β S D H w → ∀ cs : List Value, denL β S w D args cs → denL (fun _ => none) (fun b => S b ∨ ∃ i m, β i = some (b, m)) w (fun i => i < ([] : List (Option Chunk)).length) (args.map (V.bw H)) cs := by
    intro β S D w hM cs hcs
    have key : ∀ (l : List V) (us : List Value), denL β S w D l us → denL (fun _ => none) (fun b => S b ∨ ∃ i m, β i = some (b, m)) w D (l.map (V.bw H)) us := by
      intro l
      induction l with
      | nil => intro us h; simpa [denL] using h
      | cons c l ih =>
        intro us h
        simp only [denL, List.map_cons] at h ⊢
        obtain ⟨x, xs, h1, h2, h3⟩ := h
        exact ⟨x, xs, h1, bw_sound hM (fun _ _ => .inr rfl) (fun _ h => .inl h) (fun i b m hb => .inr ⟨i, m, hb⟩) h2, ih xs h3⟩
    exact denL_pure (fun _ h => h) (fun _ _ => rfl) _ _ hpure (key _ _ hcs)
  split at h
  · rename_i v hv
    split at h
    case isFalse => cases h
    rename_i hs
    obtain ⟨x1, x2, x3⟩ := hX _ _ v hv
    refine ⟨_, h, fun β S D w new hM hG => ⟨x1, fun cs hcs => ?_⟩⟩
    have hst : ∀ b, (S b ∨ ∃ i m, β i = some (b, m)) → b < w.heap.size := fun b hb => hb.elim (fun h => hM.st b h) (fun ⟨i, m, h⟩ => (hM.own i b m h).1)
    refine (x3 _ _ _ w cs (lent β S D w hM cs hcs) (hG.later (fun _ h => .inl h) (fun _ _ => rfl)) hst).mono ?_
    rintro e w' ⟨u, S', rfl, hb, hd, _, _⟩
    exact ⟨u, β, S, rfl, (hM.below hb).mono (span_sub D new), scal_any hs hd, Evo.below hb, Hb.refl _ _, fun i b m hi _ => hb.block b (hM.own i b m hi).1⟩
  obtain ⟨cr, hk, hsc⟩ := hC _ _ _ _ _ h
  split at hk
  · rename_i v L
    split at hk
    · rename_i hc
      obtain ⟨hL, hs⟩ := hc
      obtain ⟨hcal, hsc⟩ := hsc
      refine ⟨_, hk, fun β S D w new hM hG => ⟨hcal, fun cs hcs => ?_⟩⟩
      have hargs := lent β S D w hM cs hcs
      have hmem : Mem (fun _ => none) (fun b => S b ∨ ∃ i m, β i = some (b, m)) (fun i => i < ([] : List (Option Chunk)).length) (hp []) w :=
        ⟨fun i c hc => (by simp [hp] at hc), fun _ _ => rfl, fun i b m h => (by cases h), fun i b m h => (by cases h), fun i j b m m' h => (by cases h), fun b hb => hb.elim (fun h => hM.st b h) (fun ⟨i, m, h⟩ => (hM.own i b m h).1)⟩
      refine (hsc _ _ w cs hargs hmem (hG.later (fun _ h => .inl h) (fun _ _ => rfl))).mono ?_
      rintro e w' ⟨u, β', S', rfl, g1, g2, g3, g4⟩
      have hb := below_of_evo g3
      exact ⟨u, β, S, rfl, (hM.below hb).mono (span_sub D new), scal_any hs g2, Evo.below hb, Hb.refl _ _, fun i b m hi _ => hb.block b (hM.own i b m hi).1⟩
    · cases hk
  · cases hk

/-! ### Memory handed over and back -/
theorem updL_out {F : Option Chunk → Option Chunk} {g : Nat → Nat} : ∀ (L : List (Option Chunk)) (n : Nat) (H : Hp) (i : Nat), (∀ j, n ≤ j → j < n + L.length → g j ≠ i) → updL H ((L.zipIdx n).map fun p => (g p.2, F p.1)) i = H i
  | [], n, H, i, _ => rfl
  | c :: L, n, H, i, h => by
    simp only [List.zipIdx_cons, List.map_cons, updL]
    rw [updL_out L (n + 1) _ i (fun j h1 h2 => h j (by omega) (by simp only [List.length_cons]; omega))]
    exact upd_ne _ _ (fun e => h n (Nat.le_refl _) (by simp) e.symm)
theorem updL_in {F : Option Chunk → Option Chunk} {g : Nat → Nat} : ∀ (L : List (Option Chunk)) (n : Nat) (H : Hp) (j : Nat), n ≤ j → j < n + L.length → (∀ a b, n ≤ a → a < n + L.length → n ≤ b → b < n + L.length → g a = g b → a = b) →
    updL H ((L.zipIdx n).map fun p => (g p.2, F p.1)) (g j) = F (L.getD (j - n) none)
  | [], n, H, j, h1, h2, _ => by simp at h2; omega
  | c :: L, n, H, j, h1, h2, hinj => by
    simp only [List.zipIdx_cons, List.map_cons, updL]
    by_cases hj : j = n
    · subst hj
      rw [updL_out L (j + 1) _ _ (fun j' h3 h4 e => by
        have := hinj j' j (by omega) (by simp only [List.length_cons]; omega) (by omega) (by simp only [List.length_cons]; omega) e
        omega), upd_same]
      simp
    · rw [updL_in L (n + 1) _ j (by omega) (by simp only [List.length_cons] at h2; omega) (fun a b h3 h4 h5 h6 => hinj a b (by omega) (by simp only [List.length_cons]; omega) (by omega) (by simp only [List.length_cons]; omega))]
      congr 1
      obtain ⟨q, rfl⟩ : ∃ q, j = n + 1 + q := ⟨j - (n + 1), by omega⟩
      rw [show n + 1 + q - (n + 1) = q by omega, show n + 1 + q - n = q + 1 by omega]
      simp

mutual
theorem ids_dom : ∀ (v : V) (u : Value), den β S w D v u → ∀ i ∈ v.ids, D i
  | .junk, u, h => by simp [V.ids]
  | .sc v, u, h => by simp [V.ids]
  | .agg cs, u, h => by
    simp only [den, V.ids] at h ⊢
    obtain ⟨us, _, h2, _⟩ := h
    exact idsL_dom cs us h2
  | .tup cs, u, h => by
    simp only [den, V.ids] at h ⊢
    obtain ⟨us, _, h2⟩ := h
    exact idsL_dom cs us h2
  | .ptr i o, u, h => by simp only [den, V.ids] at h ⊢; intro j hj; simp only [List.mem_singleton] at hj; rw [hj]; exact h.1.1
  | .ep i k j o, u, h => by simp only [den, V.ids] at h ⊢; intro j hj; simp only [List.mem_singleton] at hj; rw [hj]; exact h.1.1
  | .rp cs, u, h => by simp [V.ids]
  | .sl i k o l, u, h => by simp only [den, V.ids] at h ⊢; intro j hj; simp only [List.mem_singleton] at hj; rw [hj]; exact h.1.1
  | .ro k n f, u, h => by simp [V.ids]
  | .fn f cs, u, h => by
    simp only [den, V.ids] at h ⊢
    obtain ⟨us, _, h2⟩ := h
    exact idsL_dom cs us h2
  | .mp i, u, h => by simp only [den, V.ids] at h ⊢; intro j hj; simp only [List.mem_singleton] at hj; rw [hj]; exact h.1.1
  | .ifc t v, u, h => by
    simp only [den, V.ids] at h ⊢
    obtain ⟨x, _, h2⟩ := h
    exact ids_dom v x h2
  | .bf f fs cs, u, h => by
    simp only [den, V.ids] at h ⊢
    obtain ⟨xs, us, _, h2, h3⟩ := h
    intro i hi
    rcases List.mem_append.1 hi with hi | hi
    · exact idsL_dom fs xs h2 i hi
    · exact idsL_dom cs us h3 i hi
theorem idsL_dom : ∀ (l : List V) (us : List Value), denL β S w D l us → ∀ i ∈ idsL l, D i
  | [], us, h => by simp [idsL]
  | c :: cs, us, h => by
    simp only [denL, idsL] at h ⊢
    obtain ⟨x, xs, _, h2, h3⟩ := h
    intro i hi
    rcases List.mem_append.1 hi with hi | hi
    · exact ids_dom c x h2 i hi
    · exact idsL_dom cs xs h3 i hi
end
theorem dd_mem : ∀ (l seen : List Nat) (i : Nat), i ∈ dd seen l → i ∈ seen ∨ i ∈ l
  | [], seen, i, h => .inl h
  | x :: l, seen, i, h => by
    unfold dd at h
    split at h
    · rcases dd_mem l seen i h with h | h
      · exact .inl h
      · exact .inr (.tail _ h)
    · rcases dd_mem l _ i h with h | h
      · rcases List.mem_append.1 h with h | h
        · exact .inl h
        · simp only [List.mem_singleton] at h; subst h; exact .inr (.head _)
      · exact .inr (.tail _ h)
theorem reach_mem (h : Hp) : ∀ (n : Nat) (todo seen : List Nat) (i : Nat), i ∈ reach h n todo seen → i ∈ seen ∨ (h i).isSome = true
  | 0, todo, seen, i, hi => .inl hi
  | n + 1, [], seen, i, hi => .inl hi
  | n + 1, x :: todo, seen, i, hi => by
    unfold reach at hi
    split at hi
    · exact reach_mem h n todo seen i hi
    · split at hi
      · exact reach_mem h n todo seen i hi
      · rename_i c hc
        rcases reach_mem h n _ _ i hi with h1 | h1
        · rcases List.mem_append.1 h1 with h1 | h1
          · exact .inl h1
          · simp only [List.mem_singleton] at h1; subst h1; exact .inr (by rw [hc]; rfl)
        · exact .inr h1
end
end Go.Am
