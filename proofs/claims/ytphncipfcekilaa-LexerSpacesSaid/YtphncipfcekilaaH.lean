/- Symbolic heap: a world above a base world, whose own blocks are listed. Generic: no program is named. -/
import Derived.WalkKit
import Derived.WalkLawsBesides
import Derived.WalkSpells
import Derived.Lib.Hide
import Derived.Maps.AppendAt
import Derived.Deep.Draws
namespace Go.Sx
open Go Go.RowKit
set_option linter.unusedSimpArgs false
set_option linter.unusedVariables false

/-- What stands in memory of one's own: a block known whole, or a row behind a slice that may grow. -/
inductive Chunk where
  | blk (g : Nat) (o : Obj)
  | row (v : Value) (e : TypeId) (k n : Nat) (xs : List Value)

def Chunk.foot : Chunk → Option Nat
  | .blk g _ => some g
  | .row v _ _ _ _ => v.ownBlock
def Chunk.holds (B : Nat) (w : World) : Chunk → Prop
  | .blk g o => w.heap[g]? = some o ∧ B ≤ g
  | .row v e k n xs => w.ownsRow B e k v n xs

theorem Chunk.lt {B : Nat} {w : World} {c : Chunk} (h : c.holds B w) {g : Nat} (hg : c.foot = some g) : B ≤ g ∧ g < w.heap.size := by
  cases c with
  | blk g' o =>
    simp only [Chunk.foot, Option.some.injEq] at hg
    subst hg
    refine ⟨h.2, ?_⟩
    rcases Nat.lt_or_ge g' w.heap.size with hl | hl
    · exact hl
    · have := h.1; rw [Array.getElem?_eq_none hl] at this; cases this
  | row v e k n xs => exact World.ownsRow.lt h g hg

theorem Chunk.kept {B : Nat} {w w' : World} {c : Chunk} {r : Option Nat} (h : c.holds B w) (hg : w.grownBy w' r) (hne : c.foot = none ∨ c.foot ≠ r) : c.holds B w' := by
  cases c with
  | blk g o =>
    refine ⟨?_, h.2⟩
    have hl := (Chunk.lt (c := .blk g o) h rfl).2
    rw [hg.block g hl (by rcases hne with hne | hne; · cases hne
                          · exact hne)]
    exact h.1
  | row v e k n xs => exact World.ownsRow.kept h hg hne

/-- The world w lies above w0: what w0 had is unchanged; the chunks of L hold in w and lie apart. -/
structure St (w0 w : World) (L : List Chunk) : Prop where
  below : Below w0.heap.size w0 w
  has : ∀ c ∈ L, c.holds w0.heap.size w
  diff : (L.filterMap Chunk.foot).Nodup

/-- In L stands c; L' is L with c' in its place. -/
inductive Upd : List Chunk → Chunk → Chunk → List Chunk → Prop where
  | here {B : List Chunk} {c c' : Chunk} : Upd (c :: B) c c' (c' :: B)
  | there {B B' : List Chunk} {d c c' : Chunk} : Upd B c c' B' → Upd (d :: B) c c' (d :: B')
/-- In L stands c; L' is L without it. -/
inductive Del : List Chunk → Chunk → List Chunk → Prop where
  | here {B : List Chunk} {c : Chunk} : Del (c :: B) c B
  | there {B B' : List Chunk} {d c : Chunk} : Del B c B' → Del (d :: B) c (d :: B')

theorem Upd.mem {L L' : List Chunk} {c c' : Chunk} (h : Upd L c c' L') : c ∈ L := by
  induction h with
  | here => exact .head _
  | there _ ih => exact .tail _ ih
theorem Del.mem {L L' : List Chunk} {c : Chunk} (h : Del L c L') : c ∈ L := by
  induction h with
  | here => exact .head _
  | there _ ih => exact .tail _ ih

theorem St.start (w : World) : St w w [] := ⟨Below.refl _ _, by simp, by simp⟩

theorem St.start' (w : World) : ∃ w0, w0 = w ∧ St w0 w [] := ⟨w, rfl, .start w⟩

section
variable {w0 w w' : World} {L L' : List Chunk}

theorem St.drew (h : St w0 w L) : St w0 w.drew L :=
  ⟨h.below.drew, fun c hc => Chunk.kept (h.has c hc) (r := none) ⟨rfl, rfl, rfl, Nat.le_refl _, fun _ _ _ => rfl⟩ (by cases c.foot <;> simp), h.diff⟩
theorem St.drewN (h : St w0 w L) (n : Nat) : St w0 (w.drewN n) L :=
  ⟨⟨h.below.os, h.below.tape, h.below.output, h.below.size, h.below.block⟩, fun c hc => Chunk.kept (h.has c hc) (r := none) ⟨rfl, rfl, rfl, Nat.le_refl _, fun _ _ _ => rfl⟩ (by cases c.foot <;> simp), h.diff⟩

theorem foot_new (h : St w0 w L) (g : Nat) (hg : w.heap.size ≤ g) : g ∉ L.filterMap Chunk.foot := by
  intro hm
  obtain ⟨c, hc, he⟩ := List.mem_filterMap.1 hm
  have := (Chunk.lt (h.has c hc) he).2
  omega

/-- A step that changes only what is new. -/
theorem St.call (h : St w0 w L) (hb : Below w.heap.size w w') : St w0 w' L :=
  ⟨h.below.trans (hb.mono h.below.size), fun c hc => Chunk.kept (h.has c hc) (r := none) ⟨hb.os, hb.tape, hb.output, hb.size, fun k hk _ => hb.block k hk⟩ (by cases c.foot <;> simp), h.diff⟩

/-- Such a step, and a chunk that it has made and left. -/
theorem St.add (h : St w0 w L) (hb : Below w.heap.size w w') {c : Chunk} (hc : c.holds w.heap.size w') : St w0 w' (c :: L) := by
  have h' := h.call hb
  refine ⟨h'.below, ?_, ?_⟩
  · intro d hd
    cases hd with
    | head =>
      have hle := h.below.size
      cases c with
      | blk g o => exact ⟨hc.1, Nat.le_trans hle hc.2⟩
      | row v e k n xs =>
        refine ⟨hc.1, hc.2.imp id ?_⟩
        rintro ⟨g, cap, cur, h1, h2, rest⟩
        exact ⟨g, cap, cur, h1, Nat.le_trans hle h2, rest⟩
    | tail _ hd => exact h'.has d hd
  · cases hf : c.foot with
    | none => simp only [List.filterMap_cons, hf]; exact h.diff
    | some g =>
      simp only [List.filterMap_cons, hf, List.nodup_cons]
      exact ⟨foot_new h g (Chunk.lt hc hf).1, h.diff⟩

theorem St.alloc (h : St w0 w L) (o : Obj) : St w0 (w.alloc o) (.blk w.heap.size o :: L) :=
  h.add ((Below.refl _ _).alloc (Nat.le_refl _) _) ⟨heap_alloc_new w o, Nat.le_refl _⟩

theorem Del.sub {c : Chunk} (h : Del L c L') : L'.Sublist L := by
  induction h with
  | here => exact List.sublist_cons_self _ _
  | there _ ih => exact ih.cons_cons _
theorem St.del {c : Chunk} (h : St w0 w L) (hd : Del L c L') : St w0 w L' :=
  ⟨h.below, fun c hc => h.has c (hd.sub.mem hc), (hd.sub.filterMap _).nodup h.diff⟩
theorem St.tail {c : Chunk} (h : St w0 w (c :: L)) : St w0 w L := h.del .here
theorem St.nil (h : St w0 w L) : St w0 w [] := ⟨h.below, by simp, by simp⟩

theorem upd_key {c c' : Chunk} {B : Nat} {r : Option Nat} (hU : Upd L c c' L') (hr : c.foot = r) (hgr : w.grownBy w' r) (hnew : c'.holds B w') (hfoot : c'.foot = r ∨ ∃ g, c'.foot = some g ∧ w.heap.size ≤ g)
    (hn : (L.filterMap Chunk.foot).Nodup) (hh : ∀ d ∈ L, d.holds B w) :
    (∀ d ∈ L', d.holds B w') ∧ (L'.filterMap Chunk.foot).Nodup ∧ (∀ g ∈ L'.filterMap Chunk.foot, g ∈ L.filterMap Chunk.foot ∨ w.heap.size ≤ g) := by
  induction hU with
  | @here M c c' =>
    have hrest : ∀ d ∈ M, d.foot = none ∨ d.foot ≠ r := by
      intro d hd
      cases hf : d.foot with
      | none => exact .inl rfl
      | some g =>
        right
        intro he
        rw [← hr] at he
        simp only [List.filterMap_cons, ← he, List.nodup_cons] at hn
        exact hn.1 (List.mem_filterMap.2 ⟨d, hd, hf⟩)
    have hlow : ∀ g ∈ M.filterMap Chunk.foot, g < w.heap.size := by
      intro g hg
      obtain ⟨d, hd, he⟩ := List.mem_filterMap.1 hg
      exact (Chunk.lt (hh d (.tail _ hd)) he).2
    refine ⟨?_, ?_, ?_⟩
    · intro d hd
      cases hd with
      | head => exact hnew
      | tail _ hd => exact Chunk.kept (hh d (.tail _ hd)) hgr (hrest d hd)
    · have hM : (M.filterMap Chunk.foot).Nodup := by
        cases hf : c.foot with
        | none => simpa only [List.filterMap_cons, hf] using hn
        | some g => simp only [List.filterMap_cons, hf, List.nodup_cons] at hn; exact hn.2
      cases hf : c'.foot with
      | none => simpa only [List.filterMap_cons, hf] using hM
      | some g =>
        simp only [List.filterMap_cons, hf, List.nodup_cons]
        refine ⟨?_, hM⟩
        rcases hfoot with h | ⟨g', h, hge⟩
        · intro hm
          rw [hf] at h
          rw [← h] at hr
          simp only [List.filterMap_cons, hr, List.nodup_cons] at hn
          exact hn.1 hm
        · rw [hf] at h
          injection h with h
          subst h
          intro hm
          have := hlow _ hm
          omega
    · intro g hg
      cases hf : c'.foot with
      | none =>
        simp only [List.filterMap_cons, hf] at hg
        left
        cases hf2 : c.foot <;> simp only [List.filterMap_cons, hf2]
        · exact hg
        · exact .tail _ hg
      | some g' =>
        simp only [List.filterMap_cons, hf, List.mem_cons] at hg
        rcases hg with rfl | hg
        · rcases hfoot with h | ⟨g', h, hge⟩
          · left
            rw [hf] at h
            rw [← h] at hr
            simp [List.filterMap_cons, hr]
          · right
            rw [hf] at h
            injection h with h
            omega
        · left
          cases hf2 : c.foot <;> simp only [List.filterMap_cons, hf2]
          · exact hg
          · exact .tail _ hg
  | @there M M' d c c' hU ih =>
    have hnM : (M.filterMap Chunk.foot).Nodup := by
      cases hf : d.foot with
      | none => simpa only [List.filterMap_cons, hf] using hn
      | some g => simp only [List.filterMap_cons, hf, List.nodup_cons] at hn; exact hn.2
    obtain ⟨i1, i2, i3⟩ := ih hr hnew hfoot hnM (fun x hx => hh x (.tail _ hx))
    have hd0 : d.foot = none ∨ d.foot ≠ r := by
      cases hf : d.foot with
      | none => exact .inl rfl
      | some g =>
        right
        intro he
        simp only [List.filterMap_cons, hf, List.nodup_cons] at hn
        exact hn.1 (List.mem_filterMap.2 ⟨c, hU.mem, by rw [hr, ← he]⟩)
    refine ⟨?_, ?_, ?_⟩
    · intro x hx
      cases hx with
      | head => exact Chunk.kept (hh _ (.head _)) hgr hd0
      | tail _ hx => exact i1 x hx
    · cases hf : d.foot with
      | none => simpa only [List.filterMap_cons, hf] using i2
      | some g =>
        simp only [List.filterMap_cons, hf, List.nodup_cons] at hn ⊢
        refine ⟨?_, i2⟩
        intro hm
        rcases i3 g hm with h | h
        · exact hn.1 h
        · have := (Chunk.lt (hh _ (.head _)) hf).2
          omega
    · intro g hg
      cases hf : d.foot with
      | none =>
        simp only [List.filterMap_cons, hf] at hg ⊢
        exact i3 g hg
      | some g' =>
        simp only [List.filterMap_cons, hf, List.mem_cons] at hg ⊢
        rcases hg with rfl | hg
        · exact .inl (.inl rfl)
        · exact (i3 g hg).imp .inr id

/-- One chunk is replaced by what now holds in its place. -/
theorem St.put {c c' : Chunk} (h : St w0 w L) (hU : Upd L c c' L') (hgr : w.grownBy w' c.foot) (hnew : c'.holds w0.heap.size w') (hfoot : c'.foot = c.foot ∨ ∃ g, c'.foot = some g ∧ w.heap.size ≤ g) : St w0 w' L' := by
  obtain ⟨h1, h2, _⟩ := upd_key hU rfl hgr hnew hfoot h.diff h.has
  refine ⟨h.below.trans ⟨hgr.os, hgr.tape, hgr.output, hgr.size, fun k hk => ?_⟩, h1, h2⟩
  refine hgr.block k (Nat.lt_of_lt_of_le hk h.below.size) ?_
  intro he
  have := (Chunk.lt (h.has c hU.mem) he.symm).1
  omega
end
end Go.Sx
