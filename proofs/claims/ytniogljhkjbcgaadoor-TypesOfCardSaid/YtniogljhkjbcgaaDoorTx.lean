/- The library's contracts, as the environment has them; the examples hold. -/
import Derived.Test.YtniogljhkjbcgaaDoorTe
import Derived.Test.YtniogljhkjbcgaaDoorShelf
set_option linter.unusedSimpArgs false
set_option linter.unusedVariables false
namespace Go.Proofs.YtniogljhkjbcgaaDoor
open Go Go.Am Go.RowKit
set_option linter.unusedVariables false
theorem maxLen_at {S : Pr} {w : World} (hG : Glob E S w) : ∃ m, w.cell? ⟨2, 0, none⟩ = some (.int .i64 m) := by
  obtain ⟨_, x, h1, h2⟩ := hG.inv (2, intCell .i64) (by simp [E])
  exact intCell_cell h1 h2
theorem hX : SoundX E := by
  intro f args v h
  have h' : extF f args = some v := h
  unfold extF at h'
  split at h'
  · rename_i hf; subst hf
    split at h'
    · rename_i s sub
      split at h'
      · rename_i hn
        cases h'
        refine ⟨⟨_, Tryd.func95, by kernel_rfl, by intro e; exact absurd e (by decide +kernel)⟩, rfl, fun β S D w us hd hG hS => ?_⟩
        obtain rfl : us = [.string s, .string sub] := by simpa [denL, den] using hd
        obtain ⟨m, hm⟩ := maxLen_at hG
        refine (Tryd.strings_Contains s sub m w hn hm).mono ?_
        rintro e w' ⟨rfl, rfl⟩
        exact ⟨_, S, rfl, Below.refl _ _, by simp only [den], fun _ h => h, fun _ h => .inl h⟩
      · cases h'
    · cases h'
  split at h'
  · rename_i hf; subst hf
    split at h'
    · rename_i s c
      cases h'
      refine ⟨⟨_, Tryd.func87, by kernel_rfl, by intro e; exact absurd e (by decide +kernel)⟩, rfl, fun β S D w us hd hG hS => ?_⟩
      obtain rfl : us = [.string s, .int .u8 c] := by simpa [denL, den] using hd
      refine (Tryd.strings_IndexByte s c w).mono ?_
      rintro e w' ⟨rfl, rfl⟩
      exact ⟨_, S, rfl, Below.refl _ _, by simp only [den], fun _ h => h, fun _ h => .inl h⟩
    · cases h'
  · cases h'
end Go.Proofs.YtniogljhkjbcgaaDoor
