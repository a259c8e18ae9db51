/- The library's contracts, as the environment has them. -/
import Derived.Test.YtnjpgkaignfcaaaDoorUe
import Derived.Test.YtnjpgkaignfcaaaDoorShelf
import Derived.Lib.AppendIntMem
namespace Go.Proofs.YtnjpgkaignfcaaaDoor
open Go Go.Am Go.RowKit
theorem drewN_below (w : World) (n : Nat) : Below w.heap.size w (w.drewN n) := ⟨rfl, rfl, rfl, Nat.le_refl _, fun _ _ => rfl⟩
theorem strL_spec : ∀ {l : List (List V)} {xs : List ByteArray}, strL l = some xs → l = xs.map fun x => [V.sc (.string x)]
  | [], xs, h => by simp only [strL, Option.some.injEq] at h; subst h; rfl
  | [] :: l, xs, h => by simp [strL] at h
  | [a] :: l, xs, h => by
    cases a <;> try (simp [strL] at h; done)
    rename_i v
    cases v <;> try (simp [strL] at h; done)
    rename_i s
    simp only [strL] at h
    split at h
    · rename_i r hr
      simp only [Option.some.injEq] at h
      subst h
      rw [strL_spec hr]
      rfl
    · cases h
  | (a :: b :: c) :: l, xs, h => by
    have : strL ((a :: b :: c) :: l) = none := by cases a with | sc v => (cases v <;> rfl) | _ => rfl
    rw [this] at h
    cases h
theorem cellAt {W : World} {a : Addr} {x : Value} (h : W.cell? a = some x) : a = ⟨a.block, a.off, none⟩ := by
  unfold World.cell? at h
  split at h
  · split at h
    · cases h
    · rename_i hs
      obtain ⟨b, o, s⟩ := a
      cases s with
      | none => rfl
      | some q => exact absurd rfl hs
  · cases h
theorem maxLen_at {S : Pr} {w : World} (hG : Glob E S w) : ∃ m, w.cell? ⟨1, 0, none⟩ = some (.int .i64 m) := by
  obtain ⟨_, x, h1, h2⟩ := hG.inv (1, intCell .i64) (by simp [E])
  exact intCell_cell h1 h2
theorem g2 : Tryd.prog.globalNamed "internal/strconv.uint64pow10" = some 2 := by kernel_rfl
theorem pow_at {S : Pr} {w : World} (hG : Glob E S w) : Lib.TabIs Tryd.prog w "internal/strconv.uint64pow10" .u64 Lib.pow10Tab := by
  obtain ⟨_, x, h1, h2⟩ := hG.inv (2, allCells (Lib.pow10Tab.map fun z => Value.int .u64 z).toArray) (by simp [E])
  exact allCells_var g2 h1 h2
theorem hX : SoundX E := by
  intro f args v h
  have h' : extF f args = some v := h
  unfold extF at h'
  split at h'
  · rename_i hf; subst hf
    split at h'
    · rename_i n
      split at h'
      · rename_i hn
        cases h'
        refine ⟨⟨_, Tryd.func42, by kernel_rfl, by intro e; exact absurd e (by decide +kernel)⟩, rfl, fun β S D w us hd hG hS => ?_⟩
        obtain rfl : us = [.int .i64 n] := by simpa [denL, den] using hd
        refine (Tryd.strconv_Itoa n hn.1 hn.2 w (pow_at hG)).mono ?_
        rintro e w' ⟨rfl, k, os, rfl⟩
        exact ⟨_, S, rfl, Lib.below_grow w.heap.size w (Nat.le_refl _) k os, by simp [den], fun _ h => h, fun _ h => .inl h⟩
      · cases h'
    · cases h'
  split at h'
  · rename_i hf; subst hf
    split at h'
    · rename_i sep
      cases h'
      refine ⟨⟨_, Tryd.func43, by kernel_rfl, by intro e; exact absurd e (by decide +kernel)⟩, rfl, fun β S D w us hd hG hS => ?_⟩
      obtain rfl : us = [.slice none 0 0, .string sep] := by simpa [denL, den] using hd
      refine (Tryd.strings_Join_none none 0 sep w).mono ?_
      rintro e w' ⟨rfl, rfl⟩
      exact ⟨_, S, rfl, Below.refl _ _, by simp only [den]; rfl, fun _ h => h, fun _ h => .inl h⟩
    · rename_i n g sep
      split at h'
      · rename_i xs hxs
        split at h'
        · rename_i hn
          cases h'
          refine ⟨⟨_, Tryd.func43, by kernel_rfl, by intro e; exact absurd e (by decide +kernel)⟩, rfl, fun β S D w us hd hG hS => ?_⟩
          simp only [denL, den] at hd
          obtain ⟨u, r, rfl, ⟨_, A, m, a, cs, rfl, hnm, hA, hc⟩, u2, r2, rfl, rfl, rfl⟩ := hd
          have hl := strL_spec hxs
          have hlen : xs.length = n := by
            have := congrArg List.length hl
            simpa using this.symm
          have hcell : ∀ (j : Nat) (x : ByteArray), xs[j]? = some x → w.cell? (a.add j) = some (.string x) := by
            intro j x hj
            have hjn : j < n := by rw [← hlen]; exact (List.getElem?_eq_some_iff.1 hj).1
            obtain ⟨g1, g2, g3, g4, g5⟩ := hc j hjn
            have hg : g j = [.sc (.string x)] := by
              have := congrArg (fun l => l[j]?) hl
              simp only [List.getElem?_map, List.getElem?_range hjn, hj, Option.map_some, Option.some.injEq] at this
              exact this
            rw [hg] at g1
            simp only [denL, den] at g1
            obtain ⟨x1, x2, h1, rfl, rfl⟩ := g1
            have := g5 0 (.string x) (by rw [h1]; rfl)
            simpa using this
          have hdone : ∀ (o : Option Addr), Calls Tryd.prog 43 #[.slice o n m, .string sep] w (fun e w' => e = .returned (.string ⟨(Lib.join (xs.map (·.data.toList)) sep.data.toList).toArray⟩) ∧ Below w.heap.size w w') →
              Calls E.P 43 [Value.slice o n m, .string sep].toArray w fun e w' => ∃ u S', e = .returned u ∧ Below w.heap.size w w' ∧ den (fun _ => none) S' w' (fun _ => False) (st ⟨(Lib.join (xs.map (·.data.toList)) sep.data.toList).toArray⟩) u ∧ (∀ b, S b → S' b) ∧ ∀ b, S' b → S b ∨ (w.heap.size ≤ b ∧ b < w'.heap.size) := by
            intro o h
            refine Calls.mono h ?_
            rintro e w' ⟨rfl, hb⟩
            exact ⟨_, S, rfl, hb, by simp only [den], fun _ h => h, fun _ h => .inl h⟩
          cases xs with
          | nil =>
            simp only [List.length_nil] at hlen
            subst hlen
            exact hdone A ((Tryd.strings_Join_none A m sep w).mono fun e w' ⟨he, hw⟩ => ⟨he, hw ▸ Below.refl _ _⟩)
          | cons x xs =>
            have h0 : 0 < n := by rw [← hlen]; simp
            obtain ⟨rfl, hab⟩ := hA h0
            have hsp := cellAt (a := a) (by have := hcell 0 x rfl; simpa [Addr.add] using this)
            refine hdone (some a) ?_
            have := Tryd.strings_Join a.block a.off m (x :: xs) sep w (fun j y hj => by
              have := hcell j y hj
              rw [hsp, add_lit] at this
              exact this) (hS _ hab) (by rw [hlen]; exact hn.2) (by rw [hlen]; exact hnm) hn.1
            rw [hlen, ← hsp] at this
            exact this
        · cases h'
      · cases h'
    · cases h'
  split at h'
  · rename_i hf; subst hf
    split at h'
    · rename_i s sep
      split at h'
      · rename_i hn
        cases h'
        refine ⟨⟨_, Tryd.func45, by kernel_rfl, by intro e; exact absurd e (by decide +kernel)⟩, rfl, fun β S D w us hd hG hS => ?_⟩
        obtain rfl : us = [.string s, .string sep] := by simpa [denL, den] using hd
        obtain ⟨m, hm⟩ := maxLen_at hG
        refine (Tryd.strings_Cut s sep m w hn hm).mono ?_
        rintro e w' ⟨rfl, k, rfl⟩
        exact ⟨_, S, rfl, drewN_below w k, by simp only [den, denL]; exact ⟨_, rfl, _, _, rfl, rfl, _, _, rfl, rfl, _, _, rfl, rfl, rfl⟩, fun _ h => h, fun _ h => .inl h⟩
      · cases h'
    · cases h'
  split at h'
  · rename_i hf; subst hf
    split at h'
    · rename_i s sep
      split at h'
      · rename_i hn
        cases h'
        refine ⟨⟨_, Tryd.func47, by kernel_rfl, by intro e; exact absurd e (by decide +kernel)⟩, rfl, fun β S D w us hd hG hS => ?_⟩
        obtain rfl : us = [.string s, .string sep] := by simpa [denL, den] using hd
        obtain ⟨m, hm⟩ := maxLen_at hG
        refine (Tryd.strings_Split s sep m w hn.1 hm hn.2).mono ?_
        rintro e w' ⟨rfl, rfl⟩
        have hlen : (Lib.splitB sep 0 (Lib.countB s sep) s).length = Lib.countB s sep + 1 := Lib.splitB_all sep hn.2 0 _ s rfl
        have hcnt : Lib.countB s sep ≤ s.size := Lib.countB_le sep hn.2 s.size s (Nat.le_refl _)
        refine ⟨_, fun b => S b ∨ b = w.heap.size, rfl, (Below.refl _ w).alloc (Nat.le_refl _) _, ?_, fun _ h => .inl h, fun b hb => hb.elim .inl fun e => .inr ⟨by omega, by subst e; simp⟩⟩
        simp only [den]
        refine ⟨by unfold Go.maxLen; omega, _, _, ⟨w.heap.size, 0, none⟩, fun j => match (Lib.splitB sep 0 (Lib.countB s sep) s)[j]? with | some x => [.string x] | none => [], rfl, Nat.le_refl _, fun _ => ⟨rfl, .inr rfl⟩, fun j hj => ?_⟩
        have hj' : j < (Lib.splitB sep 0 (Lib.countB s sep) s).length := by omega
        simp only [List.getElem?_eq_getElem hj']
        refine ⟨by simp only [denL, den]; exact ⟨_, _, rfl, rfl, rfl⟩, rfl, rfl, rfl, fun i x hi => ?_⟩
        cases i with
        | succ i => simp at hi
        | zero =>
          simp only [List.getElem?_cons_zero, Option.some.injEq] at hi
          subst hi
          rw [add_lit]
          simp only [World.cell?, World.alloc, Nat.zero_add, Nat.mul_one, Nat.add_zero, Array.getElem?_push_size, Option.isSome_none, Bool.false_eq_true, if_false]
          simp [hj']
      · cases h'
    · cases h'
  split at h'
  · rename_i hf; subst hf
    split at h'
    · rename_i s p
      cases h'
      refine ⟨⟨_, Tryd.func63, by kernel_rfl, by intro e; exact absurd e (by decide +kernel)⟩, rfl, fun β S D w us hd hG hS => ?_⟩
      obtain rfl : us = [.string s, .string p] := by simpa [denL, den] using hd
      refine (Tryd.strings_CutPrefix s p w).mono ?_
      rintro e w' ⟨rfl, rfl⟩
      exact ⟨_, S, rfl, Below.refl _ _, by simp only [den, denL]; exact ⟨_, rfl, _, _, rfl, rfl, _, _, rfl, rfl, rfl⟩, fun _ h => h, fun _ h => .inl h⟩
    · cases h'
  cases h'
end Go.Proofs.YtnjpgkaignfcaaaDoor
