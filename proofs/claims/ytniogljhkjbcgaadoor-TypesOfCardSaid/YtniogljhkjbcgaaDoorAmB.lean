/- What an abstract value means in a world; what is kept as the world goes on. -/
import Derived.Test.YtniogljhkjbcgaaDoorAmA
namespace Go.Am
open Go
set_option linter.unusedSimpArgs false
set_option linter.unusedVariables false

theorem fVal_eq (x : Value) (k : Value → Option Ans) : fVal x k = k x := by unfold fVal; split <;> rfl
mutual
theorem fV_eq : ∀ (v : V) (k : V → Option Ans), fV v k = k v
  | .junk, k => rfl
  | .sc x, k => by simp only [fV, fVal_eq]
  | .agg cs, k => by simp only [fV, fL_eq]
  | .tup cs, k => by simp only [fV, fL_eq]
  | .ptr i o, k => rfl
  | .ep i c j o, k => rfl
  | .rp cs, k => by simp only [fV, fL_eq]
  | .sl i c o l, k => rfl
  | .ro c n f, k => rfl
  | .fn f cs, k => by simp only [fV, fL_eq]
  | .mp i, k => rfl
  | .ifc t v, k => by simp only [fV, fV_eq v]
  | .bf f fs cs, k => by simp only [fV, fL_eq]
theorem fL_eq : ∀ (l : List V) (k : List V → Option Ans), fL l k = k l
  | [], k => rfl
  | v :: l, k => by simp only [fL, fV_eq v, fL_eq l]
end
theorem fLL_eq : ∀ (l : List (List V)) (k : List (List V) → Option Ans), fLL l k = k l
  | [], k => rfl
  | v :: l, k => by simp only [fLL, fL_eq v, fLL_eq l]
theorem ifand {α : Type} (p q : Prop) [Decidable p] [Decidable q] (x : Option α) : (if p then (if q then x else none) else none) = if p ∧ q then x else none := by
  by_cases hp : p <;> by_cases hq : q <;> simp [hp, hq]
abbrev Bt := Nat → Option (Nat × Nat)
abbrev Pr := Nat → Prop

mutual
def den (β : Bt) (S : Pr) (w : World) (D : Pr) : V → Value → Prop
  | .junk, _ => True
  | .sc v, u => u = v
  | .agg cs, u => ∃ us : List Value, u = .agg us.toArray ∧ denL β S w D cs us ∧ us.all Value.oneCell' = true
  | .tup cs, u => ∃ us : List Value, u = .tuple us.toArray ∧ denL β S w D cs us
  | .ptr i o, u => (D i ∧ u.oneCell' = true) ∧ ∀ b m, β i = some (b, m) → u = .pointer (some ⟨b, o, none⟩)
  | .ep i k j o, u => (D i ∧ u.oneCell' = true) ∧ ∀ b m, β i = some (b, m) → u = .pointer (some ⟨b, j * k + o, none⟩)
  | .rp cs, u => ∃ (a : Addr) (us : List Value), u = .pointer (some a) ∧ S a.block ∧ denL β S w D cs us ∧ pureL cs = true ∧ us.all Value.oneCell' = true ∧ ∀ i x, us[i]? = some x → w.cell? (a.add i) = some x
  | .sl i k o l, u => (D i ∧ u.oneCell' = true) ∧ ∀ b m, β i = some (b, m) → o + l ≤ m ∧ ∃ A, u = .slice (some A) l (m - o) ∧ (o < m ∨ o = 0 → A = ⟨b, o * k, none⟩)
  | .ro k n f, u => n ≤ maxLen ∧ ∃ (A : Option Addr) (m : Nat) (a : Addr) (us : Nat → List Value), u = .slice A n m ∧ n ≤ m ∧ (0 < n → A = some a ∧ S a.block) ∧
      ∀ j, j < n → denL β S w D (f j) (us j) ∧ pureL (f j) = true ∧ (us j).length = k ∧ (us j).all Value.oneCell' = true ∧ ∀ i x, (us j)[i]? = some x → w.cell? (a.add (j * k + i)) = some x
  | .fn f cs, u => ∃ us : List Value, u = .func (.func f) #[] us.toArray ∧ denL β S w D cs us
  | .mp i, u => (D i ∧ u.oneCell' = true) ∧ ∀ b m, β i = some (b, m) → u = .map (some b)
  | .ifc t v, u => ∃ x, u = .iface t x ∧ den β S w D v x
  | .bf f fs cs, u => ∃ xs us : List Value, u = .func (.func f) xs.toArray us.toArray ∧ denL β S w D fs xs ∧ denL β S w D cs us
def denL (β : Bt) (S : Pr) (w : World) (D : Pr) : List V → List Value → Prop
  | [], us => us = []
  | c :: cs, us => ∃ x xs, us = x :: xs ∧ den β S w D c x ∧ denL β S w D cs xs
end

/-- What S holds stays as it is. -/
def Kept (S : Pr) (w w' : World) : Prop := ∀ b, S b → w'.heap[b]? = w.heap[b]?
theorem Kept.cell {S : Pr} {w w' : World} (h : Kept S w w') {a : Addr} (ha : S a.block) : w'.cell? a = w.cell? a := World.cell?_of_block (h _ ha)
theorem add_block (a : Addr) (n : Nat) : (a.add n).block = a.block := by unfold Addr.add; split <;> rfl
theorem add_add (a : Addr) (i j : Nat) : (a.add i).add j = a.add (i + j) := by
  unfold Addr.add
  by_cases hi : i = 0 <;> by_cases hj : j = 0 <;> simp [hi, hj, Nat.add_assoc]
theorem add_lit (g i n : Nat) : (⟨g, i, none⟩ : Addr).add n = ⟨g, i + n, none⟩ := by unfold Addr.add; split <;> simp_all

mutual
theorem den_later {β β' : Bt} {S S' D D' : Pr} {w w' : World} (hβ : ∀ i, D i → β' i = β i ∨ β' i = none) (hS : ∀ b, S b → S' b) (hD : ∀ i, D i → D' i) (hk : Kept S w w') :
    ∀ (v : V) (u : Value), den β S w D v u → den β' S' w' D' v u
  | .junk, _, _ => by simp [den]
  | .sc v, u, h => by simpa [den] using h
  | .agg cs, u, h => by
    simp only [den] at h ⊢
    obtain ⟨us, h1, h2, h3⟩ := h
    exact ⟨us, h1, denL_later hβ hS hD hk cs us h2, h3⟩
  | .tup cs, u, h => by
    simp only [den] at h ⊢
    obtain ⟨us, h1, h2⟩ := h
    exact ⟨us, h1, denL_later hβ hS hD hk cs us h2⟩
  | .ptr i o, u, h => by
    simp only [den] at h ⊢
    refine ⟨⟨hD _ h.1.1, h.1.2⟩, fun b m hb => ?_⟩
    rcases hβ i h.1.1 with e | e
    · exact h.2 b m (by rw [← e]; exact hb)
    · rw [e] at hb; cases hb
  | .ep i k j o, u, h => by
    simp only [den] at h ⊢
    refine ⟨⟨hD _ h.1.1, h.1.2⟩, fun b m hb => ?_⟩
    rcases hβ i h.1.1 with e | e
    · exact h.2 b m (by rw [← e]; exact hb)
    · rw [e] at hb; cases hb
  | .rp cs, u, h => by
    simp only [den] at h ⊢
    obtain ⟨a, us, h1, h2, h3, h4, h5, h6⟩ := h
    exact ⟨a, us, h1, hS _ h2, denL_later hβ hS hD hk cs us h3, h4, h5, fun i x hx => by rw [hk.cell (by rw [add_block]; exact h2)]; exact h6 i x hx⟩
  | .sl i k o l, u, h => by
    simp only [den] at h ⊢
    refine ⟨⟨hD _ h.1.1, h.1.2⟩, fun b m hb => ?_⟩
    rcases hβ i h.1.1 with e | e
    · exact h.2 b m (by rw [← e]; exact hb)
    · rw [e] at hb; cases hb
  | .ro k n f, u, h => by
    simp only [den] at h ⊢
    obtain ⟨h0, A, m, a, us, h1, h2, h3, h4⟩ := h
    refine ⟨h0, A, m, a, us, h1, h2, fun hn => ⟨(h3 hn).1, hS _ (h3 hn).2⟩, fun j hj => ?_⟩
    obtain ⟨g1, g2, g3, g4, g5⟩ := h4 j hj
    exact ⟨denL_later hβ hS hD hk (f j) (us j) g1, g2, g3, g4, fun i x hx => by rw [hk.cell (by rw [add_block]; exact (h3 (by omega)).2)]; exact g5 i x hx⟩
  | .fn f cs, u, h => by
    simp only [den] at h ⊢
    obtain ⟨us, h1, h2⟩ := h
    exact ⟨us, h1, denL_later hβ hS hD hk cs us h2⟩
  | .mp i, u, h => by
    simp only [den] at h ⊢
    refine ⟨⟨hD _ h.1.1, h.1.2⟩, fun b m hb => ?_⟩
    rcases hβ i h.1.1 with e | e
    · exact h.2 b m (by rw [← e]; exact hb)
    · rw [e] at hb; cases hb
  | .ifc t v, u, h => by
    simp only [den] at h ⊢
    obtain ⟨x, h1, h2⟩ := h
    exact ⟨x, h1, den_later hβ hS hD hk v x h2⟩
  | .bf f fs cs, u, h => by
    simp only [den] at h ⊢
    obtain ⟨xs, us, h1, h2, h3⟩ := h
    exact ⟨xs, us, h1, denL_later hβ hS hD hk fs xs h2, denL_later hβ hS hD hk cs us h3⟩
theorem denL_later {β β' : Bt} {S S' D D' : Pr} {w w' : World} (hβ : ∀ i, D i → β' i = β i ∨ β' i = none) (hS : ∀ b, S b → S' b) (hD : ∀ i, D i → D' i) (hk : Kept S w w') :
    ∀ (l : List V) (us : List Value), denL β S w D l us → denL β' S' w' D' l us
  | [], us, h => by simpa [denL] using h
  | c :: cs, us, h => by
    simp only [denL] at h ⊢
    obtain ⟨x, xs, h1, h2, h3⟩ := h
    exact ⟨x, xs, h1, den_later hβ hS hD hk c x h2, denL_later hβ hS hD hk cs xs h3⟩
end

mutual
/-- What is pure asks nothing of one's own memory. -/
theorem den_pure {β β' : Bt} {S S' D D' : Pr} {w w' : World} (hS : ∀ b, S b → S' b) (hk : Kept S w w') :
    ∀ (v : V) (u : Value), v.pure = true → den β S w D v u → den β' S' w' D' v u
  | .junk, _, hp, _ => by simp [V.pure] at hp
  | .sc v, u, _, h => by simpa [den] using h
  | .agg cs, u, hp, h => by
    simp only [den, V.pure] at h hp ⊢
    obtain ⟨us, h1, h2, h3⟩ := h
    exact ⟨us, h1, denL_pure hS hk cs us hp h2, h3⟩
  | .tup cs, u, hp, h => by
    simp only [den, V.pure] at h hp ⊢
    obtain ⟨us, h1, h2⟩ := h
    exact ⟨us, h1, denL_pure hS hk cs us hp h2⟩
  | .ptr i o, u, hp, h => by simp [V.pure] at hp
  | .ep i k j o, u, hp, h => by simp [V.pure] at hp
  | .rp cs, u, hp, h => by
    simp only [den] at h ⊢
    obtain ⟨a, us, h1, h2, h3, h4, h5, h6⟩ := h
    exact ⟨a, us, h1, hS _ h2, denL_pure hS hk cs us h4 h3, h4, h5, fun i x hx => by rw [hk.cell (by rw [add_block]; exact h2)]; exact h6 i x hx⟩
  | .sl i k o l, u, hp, h => by simp [V.pure] at hp
  | .ro k n f, u, hp, h => by
    simp only [den] at h ⊢
    obtain ⟨h0, A, m, a, us, h1, h2, h3, h4⟩ := h
    refine ⟨h0, A, m, a, us, h1, h2, fun hn => ⟨(h3 hn).1, hS _ (h3 hn).2⟩, fun j hj => ?_⟩
    obtain ⟨g1, g2, g3, g4, g5⟩ := h4 j hj
    exact ⟨denL_pure hS hk (f j) (us j) g2 g1, g2, g3, g4, fun i x hx => by rw [hk.cell (by rw [add_block]; exact (h3 (by omega)).2)]; exact g5 i x hx⟩
  | .fn f cs, u, hp, h => by
    simp only [den, V.pure] at h hp ⊢
    obtain ⟨us, h1, h2⟩ := h
    exact ⟨us, h1, denL_pure hS hk cs us hp h2⟩
  | .mp i, u, hp, h => by simp [V.pure] at hp
  | .ifc t v, u, hp, h => by
    simp only [den, V.pure] at h hp ⊢
    obtain ⟨x, h1, h2⟩ := h
    exact ⟨x, h1, den_pure hS hk v x hp h2⟩
  | .bf f fs cs, u, hp, h => by
    simp only [den, V.pure, Bool.and_eq_true] at h hp ⊢
    obtain ⟨xs, us, h1, h2, h3⟩ := h
    exact ⟨xs, us, h1, denL_pure hS hk fs xs hp.1 h2, denL_pure hS hk cs us hp.2 h3⟩
theorem denL_pure {β β' : Bt} {S S' D D' : Pr} {w w' : World} (hS : ∀ b, S b → S' b) (hk : Kept S w w') :
    ∀ (l : List V) (us : List Value), pureL l = true → denL β S w D l us → denL β' S' w' D' l us
  | [], us, _, h => by simpa [denL] using h
  | c :: cs, us, hp, h => by
    simp only [denL, pureL, Bool.and_eq_true] at h hp ⊢
    obtain ⟨x, xs, h1, h2, h3⟩ := h
    exact ⟨x, xs, h1, den_pure hS hk c x hp.1 h2, denL_pure hS hk cs xs hp.2 h3⟩
end

/-- A renumbering that fits. -/
def Ren (r : Nat → Option Nat) (β β' : Bt) (D D' : Pr) : Prop := ∀ i j, D i → r i = some j → D' j ∧ ∀ bm, β' j = some bm → β i = some bm
mutual
theorem den_ren {r : Nat → Option Nat} {β β' : Bt} {S D D' : Pr} {w : World} (hr : Ren r β β' D D') :
    ∀ (v : V) (u : Value), den β S w D v u → den β' S w D' (v.ren r) u
  | .junk, _, _ => by simp [den, V.ren]
  | .sc v, u, h => by simpa [den, V.ren] using h
  | .agg cs, u, h => by
    simp only [den, V.ren] at h ⊢
    obtain ⟨us, h1, h2, h3⟩ := h
    exact ⟨us, h1, denL_ren hr cs us h2, h3⟩
  | .tup cs, u, h => by
    simp only [den, V.ren] at h ⊢
    obtain ⟨us, h1, h2⟩ := h
    exact ⟨us, h1, denL_ren hr cs us h2⟩
  | .ptr i o, u, h => by
    simp only [den, V.ren] at h ⊢
    split
    · rename_i j hj
      obtain ⟨g1, g2⟩ := hr i j h.1.1 hj
      simp only [den]
      exact ⟨⟨g1, h.1.2⟩, fun b m hb => h.2 b m (g2 _ hb)⟩
    · simp [den]
  | .ep i k j o, u, h => by
    simp only [den, V.ren] at h ⊢
    split
    · rename_i j hj
      obtain ⟨g1, g2⟩ := hr i j h.1.1 hj
      simp only [den]
      exact ⟨⟨g1, h.1.2⟩, fun b m hb => h.2 b m (g2 _ hb)⟩
    · simp [den]
  | .rp cs, u, h => by
    simp only [den, V.ren] at h ⊢
    obtain ⟨a, us, h1, h2, h3, h4, h5, h6⟩ := h
    exact ⟨a, us, h1, h2, denL_pure (fun _ h => h) (fun _ _ => rfl) cs us h4 h3, h4, h5, h6⟩
  | .sl i k o l, u, h => by
    simp only [den, V.ren] at h ⊢
    split
    · rename_i j hj
      obtain ⟨g1, g2⟩ := hr i j h.1.1 hj
      simp only [den]
      exact ⟨⟨g1, h.1.2⟩, fun b m hb => h.2 b m (g2 _ hb)⟩
    · simp [den]
  | .ro k n f, u, h => by
    simp only [V.ren]
    exact den_pure (fun _ h => h) (fun _ _ => rfl) _ _ (by simp [V.pure]) h
  | .fn f cs, u, h => by
    simp only [den, V.ren] at h ⊢
    obtain ⟨us, h1, h2⟩ := h
    exact ⟨us, h1, denL_ren hr cs us h2⟩
  | .mp i, u, h => by
    simp only [den, V.ren] at h ⊢
    split
    · rename_i j hj
      obtain ⟨g1, g2⟩ := hr i j h.1.1 hj
      simp only [den]
      exact ⟨⟨g1, h.1.2⟩, fun b m hb => h.2 b m (g2 _ hb)⟩
    · simp [den]
  | .ifc t v, u, h => by
    simp only [den, V.ren] at h ⊢
    obtain ⟨x, h1, h2⟩ := h
    exact ⟨x, h1, den_ren hr v x h2⟩
  | .bf f fs cs, u, h => by
    simp only [den, V.ren] at h ⊢
    obtain ⟨xs, us, h1, h2, h3⟩ := h
    exact ⟨xs, us, h1, denL_ren hr fs xs h2, denL_ren hr cs us h3⟩
theorem denL_ren {r : Nat → Option Nat} {β β' : Bt} {S D D' : Pr} {w : World} (hr : Ren r β β' D D') :
    ∀ (l : List V) (us : List Value), denL β S w D l us → denL β' S w D' (renL r l) us
  | [], us, h => by simpa [denL, renL] using h
  | c :: cs, us, h => by
    simp only [denL, renL] at h ⊢
    obtain ⟨x, xs, h1, h2, h3⟩ := h
    exact ⟨x, xs, h1, den_ren hr c x h2, denL_ren hr cs xs h3⟩
end

/-! ### Lists -/
section
variable {β : Bt} {S D : Pr} {w : World}
theorem denL_len : ∀ {l : List V} {us : List Value}, denL β S w D l us → l.length = us.length
  | [], us, h => by simp only [denL] at h; subst h; rfl
  | c :: cs, us, h => by
    simp only [denL] at h
    obtain ⟨x, xs, rfl, _, h3⟩ := h
    simp [denL_len h3]
theorem denL_get : ∀ {l : List V} {us : List Value}, denL β S w D l us → ∀ (i : Nat) (v : V), l[i]? = some v → ∃ u, us[i]? = some u ∧ den β S w D v u
  | [], us, h => by intro i v hv; simp at hv
  | c :: cs, us, h => by
    simp only [denL] at h
    obtain ⟨x, xs, rfl, h2, h3⟩ := h
    intro i v hv
    cases i with
    | zero =>
      simp only [List.getElem?_cons_zero, Option.some.injEq] at hv
      subst hv
      exact ⟨x, rfl, h2⟩
    | succ i => simpa using denL_get h3 i v (by simpa using hv)
theorem denL_getD {l : List V} {us : List Value} (h : denL β S w D l us) (i : Nat) : den β S w D (l.getD i .junk) (us.getD i undef) := by
  cases hv : l[i]? with
  | none => simp [List.getD, hv, den]
  | some v =>
    obtain ⟨u, hu, hd⟩ := denL_get h i v hv
    simpa [List.getD, hv, hu] using hd
theorem denL_drop {l : List V} : ∀ {us : List Value} (n : Nat), denL β S w D l us → denL β S w D (l.drop n) (us.drop n) := by
  induction l with
  | nil => intro us n h; simp only [denL] at h; subst h; simp [denL]
  | cons c cs ih =>
    intro us n h
    cases n with
    | zero => simpa using h
    | succ n =>
      simp only [denL] at h
      obtain ⟨x, xs, rfl, h2, h3⟩ := h
      simpa using ih n h3
theorem denL_take {l : List V} : ∀ {us : List Value} (n : Nat), denL β S w D l us → denL β S w D (l.take n) (us.take n) := by
  induction l with
  | nil => intro us n h; simp only [denL] at h; subst h; simp [denL]
  | cons c cs ih =>
    intro us n h
    cases n with
    | zero => simp [denL]
    | succ n =>
      simp only [denL] at h
      obtain ⟨x, xs, rfl, h2, h3⟩ := h
      simp only [List.take_succ_cons, denL]
      exact ⟨x, _, rfl, h2, ih n h3⟩
theorem denL_append {l l' : List V} : ∀ {us us' : List Value}, denL β S w D l us → denL β S w D l' us' → denL β S w D (l ++ l') (us ++ us') := by
  induction l with
  | nil => intro us us' h h'; simp only [denL] at h; subst h; simpa using h'
  | cons c cs ih =>
    intro us us' h h'
    simp only [denL] at h
    obtain ⟨x, xs, rfl, h2, h3⟩ := h
    simp only [List.cons_append, denL]
    exact ⟨x, _, rfl, h2, ih h3 h'⟩
theorem denL_set {l : List V} : ∀ {us : List Value} (n : Nat) {v : V} {u : Value}, denL β S w D l us → den β S w D v u → denL β S w D (l.set n v) (us.set n u) := by
  induction l with
  | nil => intro us n v u h _; simp only [denL] at h; subst h; simp [denL]
  | cons c cs ih =>
    intro us n v u h hv
    simp only [denL] at h
    obtain ⟨x, xs, rfl, h2, h3⟩ := h
    cases n with
    | zero => simp only [List.set_cons_zero, denL]; exact ⟨u, xs, rfl, hv, h3⟩
    | succ n => simp only [List.set_cons_succ, denL]; exact ⟨x, _, rfl, h2, ih n h3 hv⟩
theorem denL_map {α : Type} {f : α → V} {g : α → Value} : ∀ {l : List α}, (∀ x ∈ l, den β S w D (f x) (g x)) → denL β S w D (l.map f) (l.map g) := by
  intro l
  induction l with
  | nil => intro _; simp [denL]
  | cons x l ih => intro h; simp only [List.map_cons, denL]; exact ⟨_, _, rfl, h x (.head _), ih fun y hy => h y (.tail _ hy)⟩
theorem denL_zap (live : Nat) : ∀ {l : List V} {us : List Value} (i : Nat), denL β S w D l us → denL β S w D (zap live i l) us := by
  intro l
  induction l with
  | nil => intro us i h; simpa [zap] using h
  | cons c cs ih =>
    intro us i h
    simp only [denL] at h
    obtain ⟨x, xs, rfl, h2, h3⟩ := h
    simp only [zap, denL]
    refine ⟨x, xs, rfl, ?_, ih (i + 1) h3⟩
    split
    · exact h2
    · simp [den]
end

/-! ### Values that are the model's own -/
mutual
theorem den_toVal {β : Bt} {S D : Pr} {w : World} : ∀ (v : V) (x u : Value), v.toVal = some x → den β S w D v u → u = x
  | .sc v, x, u, h, hd => by
    simp only [V.toVal, Option.some.injEq] at h
    simp only [den] at hd
    rw [hd, h]
  | .agg cs, x, u, h, hd => by
    simp only [V.toVal, Option.map_eq_some_iff] at h
    obtain ⟨l, h1, rfl⟩ := h
    simp only [den] at hd
    obtain ⟨us, rfl, h2, _⟩ := hd
    rw [denL_toVal cs l us h1 h2]
  | .tup cs, x, u, h, hd => by
    simp only [V.toVal, Option.map_eq_some_iff] at h
    obtain ⟨l, h1, rfl⟩ := h
    simp only [den] at hd
    obtain ⟨us, rfl, h2⟩ := hd
    rw [denL_toVal cs l us h1 h2]
  | .fn f cs, x, u, h, hd => by
    simp only [V.toVal, Option.map_eq_some_iff] at h
    obtain ⟨l, h1, rfl⟩ := h
    simp only [den] at hd
    obtain ⟨us, rfl, h2⟩ := hd
    rw [denL_toVal cs l us h1 h2]
  | .ifc t v, x, u, h, hd => by
    simp only [V.toVal, Option.map_eq_some_iff] at h
    obtain ⟨y, h1, rfl⟩ := h
    simp only [den] at hd
    obtain ⟨z, rfl, h2⟩ := hd
    rw [den_toVal v y z h1 h2]
  | .junk, x, u, h, hd => by simp [V.toVal] at h
  | .ptr _ _, x, u, h, hd => by simp [V.toVal] at h
  | .ep _ _ _ _, x, u, h, hd => by simp [V.toVal] at h
  | .rp _, x, u, h, hd => by simp [V.toVal] at h
  | .sl _ _ _ _, x, u, h, hd => by simp [V.toVal] at h
  | .ro _ _ _, x, u, h, hd => by simp [V.toVal] at h
  | .mp _, x, u, h, hd => by simp [V.toVal] at h
  | .bf f fs cs, x, u, h, hd => by
    simp only [V.toVal] at h
    split at h
    · rename_i l m h1 h2
      simp only [Option.some.injEq] at h
      subst h
      simp only [den] at hd
      obtain ⟨xs, us, rfl, h3, h4⟩ := hd
      rw [denL_toVal fs l xs h1 h3, denL_toVal cs m us h2 h4]
    · cases h
theorem denL_toVal {β : Bt} {S D : Pr} {w : World} : ∀ (l : List V) (xs us : List Value), toValL l = some xs → denL β S w D l us → us = xs
  | [], xs, us, h, hd => by
    simp only [toValL, Option.some.injEq] at h
    simp only [denL] at hd
    rw [hd, h]
  | c :: cs, xs, us, h, hd => by
    simp only [toValL] at h
    split at h
    · rename_i x ys h1 h2
      simp only [Option.some.injEq] at h
      subst h
      simp only [denL] at hd
      obtain ⟨y, zs, rfl, h3, h4⟩ := hd
      rw [den_toVal c x y h1 h3, denL_toVal cs ys zs h2 h4]
    · cases h
end
theorem den_one {β : Bt} {S D : Pr} {w : World} {v : V} {u : Value} (h1 : v.one = true) (h : den β S w D v u) : u.oneCell' = true := by
  cases v with
  | junk => simp [V.one] at h1
  | agg cs => simp [V.one] at h1
  | tup cs => simp [V.one] at h1
  | sc x => simp only [den] at h; subst h; simpa [V.one] using h1
  | ptr i o => simp only [den] at h; exact h.1.2
  | ep i k j o => simp only [den] at h; exact h.1.2
  | sl i k o l => simp only [den] at h; exact h.1.2
  | mp i => simp only [den] at h; exact h.1.2
  | bf f fs cs => simp only [den] at h; obtain ⟨xs, us, rfl, _⟩ := h; rfl
  | rp cs => simp only [den] at h; obtain ⟨a, us, rfl, _⟩ := h; rfl
  | ro k n f => simp only [den] at h; obtain ⟨_, A, m, a, us, rfl, _⟩ := h; rfl
  | fn f cs => simp only [den] at h; obtain ⟨us, rfl, _⟩ := h; rfl
  | ifc t v => simp only [den] at h; obtain ⟨x, rfl, _⟩ := h; rfl
theorem denL_one {β : Bt} {S D : Pr} {w : World} : ∀ {l : List V} {us : List Value}, l.all V.one = true → denL β S w D l us → us.all Value.oneCell' = true
  | [], us, _, h => by simp only [denL] at h; subst h; rfl
  | c :: cs, us, h1, h => by
    simp only [denL] at h
    obtain ⟨x, xs, rfl, h2, h3⟩ := h
    simp only [List.all_cons, Bool.and_eq_true] at h1 ⊢
    exact ⟨den_one h1.1 h2, denL_one h1.2 h3⟩
theorem cells_den {β : Bt} {S D : Pr} {w : World} {v : V} {u : Value} (h1 : v.cells.all V.one = true) (h : den β S w D v u) :
    ∃ us : List Value, u.cells = us.toArray ∧ denL β S w D v.cells us ∧ us.all Value.oneCell' = true := by
  cases v with
  | agg cs =>
    simp only [den] at h
    obtain ⟨us, rfl, h2, h3⟩ := h
    exact ⟨us, rfl, h2, h3⟩
  | _ =>
    simp only [V.cells, List.all_cons, List.all_nil, Bool.and_true] at h1 ⊢
    have ho := den_one h1 h
    refine ⟨[u], ?_, by simp only [denL]; exact ⟨u, [], rfl, h, rfl⟩, by simp [ho]⟩
    cases u <;> simp_all [Value.oneCell', Value.cells]
theorem denL_sc {β : Bt} {S D : Pr} {w : World} (l : List Value) : denL β S w D (l.map .sc) l := by
  induction l with
  | nil => simp [denL]
  | cons x l ih => simp only [List.map_cons, denL]; exact ⟨x, l, rfl, by simp [den], ih⟩
theorem den_ofVal1 {β : Bt} {S D : Pr} {w : World} (u : Value) : den β S w D (ofVal1 u) u := by
  unfold ofVal1
  split
  · split
    · rename_i cs h
      simp only [den]
      exact ⟨cs.toList, by simp, denL_sc _, h⟩
    · simp [den]
  · simp [den]
theorem den_ofVal {β : Bt} {S D : Pr} {w : World} (u : Value) : den β S w D (ofVal u) u := by
  unfold ofVal
  split
  · rename_i vs
    simp only [den]
    refine ⟨vs.toList, by simp, ?_⟩
    have := denL_map (β := β) (S := S) (w := w) (D := D) (f := ofVal1) (g := fun u => u) (l := vs.toList) (fun x _ => den_ofVal1 x)
    simpa using this
  · exact den_ofVal1 u
end Go.Am
