/- UnitSum. -/
import Derived.Test.YtnjpgkaignfcaaaDoorUu
namespace Go.Proofs.YtnjpgkaignfcaaaDoor
open Go Go.Am
theorem unitSum : ∀ (v0 v1 : V) (h0 : WTV E.P 29 v0) (h1 : WTV E.P 29 v1), ∃ l', LeL [v0, v1] l' ∧ SC E 11 l' [] (.ret (bo true) []) := law_of fun n a b c d e n' a' b' c' d' e' => by
  refine (law11 n a b c d e n' a' b' c' d' e').trans ?_
  simp only [beq_self_eq_true, Bool.and_true, if_true, Bool.false_eq_true, if_false, ite_self]
end Go.Proofs.YtnjpgkaignfcaaaDoor
