/- Plain: two sources joined; a comment at the end; parts of a row of tokens. -/
import Derived.Test.YtphncipfcekilaaO2
import Derived.Test.YtphncipfcekilaaU
import Derived.Test.YtphncipfcekilaaR2
namespace Go.Proofs
open Go Lx Go.Sx
set_option linter.unusedSimpArgs false
set_option linter.unusedVariables false
abbrev endTok (n : Nat) : Tok := ⟨0, n, ⟨#[]⟩, 0⟩
theorem tok_join {a b s : ByteArray} {l m : List Tok} {x y : Nat} (hs : s.data.toList = a.data.toList ++ 10 :: b.data.toList) (hsz : s.size ≤ 4000) (ha : TokensR a (l, x, 0)) (hb : TokensR b (m, y, 0)) :
    ∃ ts, l = ts ++ [endTok a.size] ∧ TokensR s (ts ++ m.map (mv (a.size + 1)), 0, 0) := by
  rcases ha with ⟨_, h⟩ | ⟨_, ha⟩
  · simp at h
  rcases hb with ⟨_, h⟩ | ⟨_, hb⟩
  · simp at h
  obtain ⟨ts, h1, h2⟩ := lex_cat ha (Nat.zero_le _) rfl
  have h3 := lex_shift hb rfl s (a.data.toList ++ [10]) ts (by rw [hs]; simp)
  have e : (a.data.toList ++ [10]).length = a.size + 1 := by rw [List.length_append, size_list]; rfl
  rw [e, List.map_nil, List.append_nil, Nat.add_zero] at h3
  have hlt : a.size < s.size := by
    have := congrArg List.length hs
    rw [List.length_append, size_list, size_list, List.length_cons] at this
    omega
  have hg : s.get! a.size = 10 := by
    rw [get_hd hlt, hs, ← size_list, List.drop_left]
    rfl
  simp only [Prod.mk.injEq] at h1
  exact ⟨ts, h1.1, .inr ⟨hsz, h2 s _ hs _ (.white hlt (by rw [hg]; decide) h3)⟩⟩
theorem span_all (g : Int → Bool) (l : List UInt8) (h : ∀ c ∈ l, g c.toNat = true) : spanL g l = l.length := by
  induction l with
  | nil => rfl
  | cons b l ih =>
    have e2 : spanL g (b :: l) = spanL g l + 1 := by simp [spanL, h b (.head _)]
    rw [e2, ih (fun c hc => h c (.tail _ hc)), List.length_cons]
theorem lex_comment (t : List UInt8) (ht : ∀ c ∈ t, c ≠ 10) : Lex (mkB (35 :: t)) 0 [] ([endTok (mkB (35 :: t)).size], 0, 0) := by
  have h0 : 0 < (mkB (35 :: t)).size := by rw [mkB_size]; simp
  have hsp : spanL ne10 (35 :: t) = (35 :: t).length := by
    refine span_all _ _ fun c hc => ?_
    cases hc with
    | head => decide
    | tail _ hc =>
      have := ht c hc
      simp only [ne10, Bool.not_eq_true', beq_eq_false_iff_ne, ne_eq]
      intro e
      refine this (UInt8.toNat_inj.1 ?_)
      exact_mod_cast e
  refine .hash h0 (by rw [get_hd h0, mkB_list]; rfl) ?_
  rw [mkB_list, List.drop_zero, hsp]
  exact .fin (acc := []) (by rw [mkB_size]; simp)
theorem flat_take {l : List Tok} (k : Nat) : (l.flatMap Tok.cells).take (k * 4) = (l.take k).flatMap Tok.cells := by
  induction l generalizing k with
  | nil => simp
  | cons x l ih =>
    cases k with
    | zero => simp
    | succ k =>
      rw [List.take_succ_cons, List.flatMap_cons, List.flatMap_cons, ← ih k, show (k + 1) * 4 = 4 + k * 4 by omega, List.take_append]
      rw [show x.cells.length = 4 from rfl, show 4 + k * 4 - 4 = k * 4 by omega, List.take_of_length_le (by show 4 ≤ 4 + k * 4; omega)]
theorem flat_drop {l : List Tok} (k : Nat) : (l.flatMap Tok.cells).drop (k * 4) = (l.drop k).flatMap Tok.cells := by
  induction l generalizing k with
  | nil => simp
  | cons x l ih =>
    cases k with
    | zero => simp
    | succ k =>
      rw [List.drop_succ_cons, List.flatMap_cons, ← ih k, show (k + 1) * 4 = 4 + k * 4 by omega, ← List.drop_drop]
      rfl
theorem RdT.take {B : Nat} {w : World} {v : Value} {l t : List Tok} {j : Nat} (h : Rd B w v 4 j ((l.flatMap Tok.cells).take (j * 4))) (hj : j ≤ l.length) (e : l.take j = t) : Rd B w v 4 t.length (t.flatMap Tok.cells) := by
  subst e
  rw [flat_take] at h
  rwa [List.length_take, Nat.min_eq_left hj]
theorem RdT.drop {B : Nat} {w : World} {v : Value} {l t : List Tok} {j : Nat} (h : Rd B w v 4 (l.length - j) ((l.flatMap Tok.cells).drop (j * 4))) (e : l.drop j = t) : Rd B w v 4 t.length (t.flatMap Tok.cells) := by
  subst e
  rw [flat_drop] at h
  rwa [List.length_drop]
theorem same_mv (d : Nat) (by_ : Int) (hd : by_ = (d : Int)) (l : List Tok) : sameB by_ l (l.map (mv d)) = true := by
  subst hd
  induction l with
  | nil => rfl
  | cons x l ih => simp [sameB, mv, ih]
end Go.Proofs
