/- What the old walk says of Tokens, as a fact of the executor. -/
import Derived.Test.YtphncipfcekilaaAmZ
import Derived.Test.YtphncipfcekilaaF
import Derived.Test.YtphncipfcekilaaSp
namespace Go.Proofs.Ytphncipfcekilaa
open Go Go.Am Go.Proofs Lx
set_option linter.unusedSimpArgs false
set_option linter.unusedVariables false
abbrev i64 (n : Int) : V := .sc (.int .i64 n)
abbrev bo (b : Bool) : V := .sc (.bool b)
abbrev st (s : ByteArray) : V := .sc (.string s)
def jk (n : Nat) : List V := List.replicate n .junk
noncomputable def tokR (s : ByteArray) : List Tok × Nat × Int := (tokensR_total s).choose
theorem tokR_spec (s : ByteArray) : TokensR s (tokR s) := (tokensR_total s).choose_spec
def tokRow (l : List Tok) (j : Nat) : Tok := l.getD j noTok
def tokV (l : List Tok) : Nat → List V := fun j => [i64 (tokRow l j).k, i64 (tokRow l j).a, st (tokRow l j).t, i64 (tokRow l j).n]
noncomputable def tkV (s : ByteArray) : V := .tup [.ro 4 (tokR s).1.length (tokV (tokR s).1), i64 (((tokR s).2.1 : Nat) : Int), i64 (tokR s).2.2]
theorem flat_idx : ∀ (l : List Tok) (j i : Nat), j < l.length → i < 4 → (l.flatMap Tok.cells)[j * 4 + i]? = (tokRow l j).cells[i]?
  | [], j, i, hj, _ => by simp at hj
  | x :: l, 0, i, _, hi => by
    rw [List.flatMap_cons, List.getElem?_append_left (by show 0 * 4 + i < 4; omega), Nat.zero_mul, Nat.zero_add]
    rfl
  | x :: l, j + 1, i, hj, hi => by
    rw [List.flatMap_cons, List.getElem?_append_right (by show 4 ≤ (j + 1) * 4 + i; omega)]
    have e : (j + 1) * 4 + i - x.cells.length = j * 4 + i := by show (j + 1) * 4 + i - 4 = _; omega
    rw [e, flat_idx l j i (by simpa using hj) hi]
    rfl
theorem ro_owns {w : World} {base : Nat} {v : Value} {l : List Tok} {β : Bt} {S : Pr} {D : Pr} (h : w.ownsRow base tokT 4 v l.length (l.flatMap Tok.cells)) (hS : ∀ b, v.ownBlock = some b → S b) : den β S w D (.ro 4 l.length (tokV l)) v := by
  obtain ⟨hx, ⟨rfl, h0⟩ | ⟨g, cap, cur, rfl, hg, hb, hle, hcap, hcs, htk⟩⟩ := h
  · simp only [den]
    exact ⟨by rw [h0]; exact Nat.zero_le _, none, 0, ⟨0, 0, none⟩, fun _ => [], by rw [h0], by omega, fun h => by omega, fun j hj => by omega⟩
  · simp only [den]
    refine ⟨by omega, some ⟨g, 0, none⟩, cap, ⟨g, 0, none⟩, fun j => (tokRow l j).cells, rfl, hle, fun _ => ⟨rfl, hS g rfl⟩, fun j hj => ?_⟩
    refine ⟨?_, rfl, rfl, rfl, fun i x hi => ?_⟩
    · simp only [tokV, Tok.cells, denL, den]
      exact ⟨_, _, rfl, rfl, _, _, rfl, rfl, _, _, rfl, rfl, _, _, rfl, rfl, rfl⟩
    · have hi4 : i < 4 := by
        have := (List.getElem?_eq_some_iff.1 hi).1
        exact this
      rw [← flat_idx l j i hj hi4, ← htk, List.getElem?_take_of_lt (by omega)] at hi
      rw [add_lit]
      simp only [World.cell?, hb, Nat.zero_add, Option.isSome_none, Bool.false_eq_true, if_false]
      simpa using hi
theorem owns_lt {w : World} {base : Nat} {v : Value} {n : Nat} {xs : List Value} (h : w.ownsRow base tokT 4 v n xs) {b : Nat} (hb : v.ownBlock = some b) : base ≤ b ∧ b < w.heap.size := by
  obtain ⟨_, ⟨rfl, _⟩ | ⟨g, cap, cur, rfl, hg, hh, _⟩⟩ := h
  · cases hb
  · simp only [Value.ownBlock, Option.some.injEq] at hb
    subst hb
    exact ⟨hg, (Array.getElem?_eq_some_iff.1 hh).1⟩
open Classical in
noncomputable def extT (f : FuncId) (args : List V) : Option V :=
  if f = 10 then match args with
    | [.sc (.string s)] => if s.size ≤ Go.maxLen then some (tkV s) else none
    | _ => none
  else none
noncomputable def ET : Env := { P := Try.prog, glob := fun _ => none, ext := extT, way := fun _ _ => .plain, lit := fun _ => false, code := fun f => (Try.prog.funcs[f]?).bind annF }
noncomputable def E13 : Env := { P := Try.prog, glob := fun _ => none, ext := fun _ _ => none, way := fun _ _ => .plain, lit := fun _ => false, code := fun f => (Try.prog.funcs[f]?).bind annF }
set_option maxRecDepth 100000 in
theorem hW : WF E13 := WF.of E13 (fun _ => rfl) (by kernel_rfl)
theorem hX : SoundX E13 := SoundX.none fun _ _ => rfl
theorem packed : packB Try.prog = true := by kernel_rfl
theorem scT {f : FuncId} {args : List V} {L : List (Option Chunk)} {cr : CRes} (h : SC ET f args L cr) : SC E13 f args L cr :=
  ⟨h.1, fun β S w us h1 h2 h3 => h.2 β S w us h1 h2 ⟨h3.rd, h3.inv⟩⟩
theorem hXT : SoundX ET := by
  intro f args v h
  have h' : extT f args = some v := h
  unfold extT at h'
  split at h'
  · rename_i hf; subst hf
    split at h'
    · rename_i s
      split at h'
      · rename_i hs
        cases h'
        refine ⟨⟨_, Try.func10, by kernel_rfl, by intro e; exact absurd e (by decide +kernel)⟩, rfl, fun β S D w us hd hG hS => ?_⟩
        obtain rfl : us = [.string s] := by simpa [denL, den] using hd
        refine (tokens_any s w hs).mono ?_
        rintro e w' ⟨v, toks, at_, err, rfl, hR, hrow, hbel⟩
        have e1 := tokR_det hR (tokR_spec s)
        have e2 : (tokR s).1 = toks := by rw [← e1]
        have e3 : (tokR s).2.1 = at_ := by rw [← e1]
        have e4 : (tokR s).2.2 = err := by rw [← e1]
        refine ⟨_, fun b => S b ∨ v.ownBlock = some b, rfl, hbel, ?_, fun _ h => .inl h, fun b hb => hb.elim .inl fun e => .inr (owns_lt hrow e)⟩
        unfold tkV
        rw [e2, e3, e4]
        have hro := ro_owns (β := fun _ => none) (S := fun b => S b ∨ v.ownBlock = some b) (D := fun _ => False) hrow (fun b hb => .inr hb)
        rw [den]
        exact ⟨_, rfl, by rw [denL]; exact ⟨_, _, rfl, hro, by simp only [denL, den]; exact ⟨_, _, rfl, rfl, _, _, rfl, rfl, rfl⟩⟩⟩
      · cases h'
    · cases h'
  · cases h'
noncomputable def tkN (s : ByteArray) : Nat := (tokR s).1.length
noncomputable def tkk (s : ByteArray) (j : Nat) : Int := (tokRow (tokR s).1 j).k
noncomputable def tka (s : ByteArray) (j : Nat) : Int := (tokRow (tokR s).1 j).a
noncomputable def tkt (s : ByteArray) (j : Nat) : ByteArray := (tokRow (tokR s).1 j).t
noncomputable def tkn (s : ByteArray) (j : Nat) : Int := (tokRow (tokR s).1 j).n
noncomputable def tkA (s : ByteArray) : Nat := (tokR s).2.1
noncomputable def tkE (s : ByteArray) : Int := (tokR s).2.2
noncomputable def vTok : List V → V
  | [.sc (.string s)] => .tup [.ro 4 (tkN s) (fun j => [i64 (tkk s j), i64 (tka s j), st (tkt s j), i64 (tkn s j)]), i64 (tkA s), i64 (tkE s)]
  | _ => .junk
def QTok (args : List V) : Prop := ∃ s, args = [st s] ∧ s.size ≤ Go.maxLen
theorem tok_sc : ∀ args, QTok args → SC E13 10 args [] (.ret (vTok args) []) := by
  rintro _ ⟨s, rfl, hs⟩
  refine scT (SC.ext hXT ?_)
  show extT 10 [st s] = _
  simp only [extT]
  rw [if_pos trivial, if_pos hs]
  rfl
/-! ### The examples -/
def c1 : ByteArray := ⟨#[120, 60, 61, 49, 48, 32, 35, 32, 121]⟩
def c2 : ByteArray := ⟨#[97, 38, 98]⟩
def c3 : ByteArray := ⟨#[48, 48, 55]⟩
def c4 : ByteArray := ⟨#[49, 32, 50, 49, 52, 55, 52, 56, 51, 54, 52, 56]⟩
def rowW : Nat → List V := fun j => ([[i64 1, i64 0, st ⟨#[120]⟩, i64 0], [i64 3, i64 1, st ⟨#[60, 61]⟩, i64 0], [i64 2, i64 3, st ⟨#[49, 48]⟩, i64 10], [i64 0, i64 9, st ⟨#[]⟩, i64 0]] : List (List V)).getD j []
def vLiv : List V → V
  | [.sc (.string s)] => if s.data.toList = c1.data.toList then .tup [.ro 4 4 rowW, i64 0, i64 0]
    else if s.data.toList = c2.data.toList then .tup [.ro 4 0 rowW, i64 1, i64 11]
    else if s.data.toList = c3.data.toList then .tup [.ro 4 0 rowW, i64 0, i64 11]
    else .tup [.ro 4 0 rowW, i64 2, i64 5]
  | _ => .junk
def QLiv (args : List V) : Prop := args = [st c1] ∨ args = [st c2] ∨ args = [st c3] ∨ args = [st c4]
theorem tokR_of {s : ByteArray} {r : List Tok × Nat × Int} (h : TokensR s r) : tokR s = r := tokR_det (tokR_spec s) h
theorem tokV_le {s : ByteArray} {l : List Tok} {a : Nat} {e : Int} (hs : s.size ≤ 4000) (h : TokensR s (l, a, e)) (f : Nat → List V) (hf : ∀ j, j < l.length → tokV l j = f j) : SC E13 10 [st s] [] (.ret (.tup [.ro 4 l.length f, i64 (a : Int), i64 e]) []) := by
  have h1 := tok_sc [st s] ⟨s, rfl, by unfold Go.maxLen; omega⟩
  have hr := tokR_of h
  refine h1.le ?_
  show Le (tkV s) _
  unfold tkV
  rw [hr]
  exact Le.tup (LeL.cons (Le.ro_eq fun j hj => ⟨hf j hj, by rw [← hf j hj]; rfl⟩) (LeL.refl _))
theorem liv_sc : ∀ args, QLiv args → SC E13 10 args [] (.ret (vLiv args) []) := by
  rintro _ (rfl | rfl | rfl | rfl)
  · exact tokV_le (by decide) r_ex1 rowW (fun j hj => by
      have hj' : j < 4 := hj
      match j, hj' with
      | 0, _ => rfl
      | 1, _ => rfl
      | 2, _ => rfl
      | 3, _ => rfl)
  · exact tokV_le (by decide) r_ex2 rowW (fun j hj => by simp at hj)
  · exact tokV_le (by decide) r_ex3 rowW (fun j hj => by simp at hj)
  · exact tokV_le (by decide) r_ex4 rowW (fun j hj => by simp at hj)
end Go.Proofs.Ytphncipfcekilaa
