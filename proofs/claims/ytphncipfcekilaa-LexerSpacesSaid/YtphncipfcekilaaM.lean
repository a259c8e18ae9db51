/- Plain: the tokens of a source, as a relation. -/
import Derived.Test.YtphncipfcekilaaS
namespace Go.Proofs.Lx
open Go
structure Tok where
  k : Int
  a : Int
  t : ByteArray
  n : Int
def Tok.cells (x : Tok) : List Value := [.int .i64 x.k, .int .i64 x.a, .string x.t, .int .i64 x.n]
def letterI (c : Int) : Bool := decide (97 ≤ c ∧ c ≤ 122) || decide (65 ≤ c ∧ c ≤ 90)
def digitI (c : Int) : Bool := decide (48 ≤ c ∧ c ≤ 57)
def whiteI (c : Int) : Bool := decide (c = 32 ∨ c = 9 ∨ c = 10 ∨ c = 13)
def wordI (c : Int) : Bool := letterI c || digitI c
def noTok : Tok := ⟨0, 0, ⟨#[]⟩, 0⟩
/-- The value of a list of digits, counted on from n. -/
def valI (n : Int) (l : List UInt8) : Int := l.foldl (fun n b => 10 * n + ((b.toNat : Int) - 48)) n
def wordP (r : ByteArray) : Tok × Int := if 12 < spanL wordI r.data.toList then (noTok, 2) else (⟨1, 0, r.extract 0 (spanL wordI r.data.toList), 0⟩, 0)
def numberP (t : ByteArray) : Tok × Int :=
  if 1 < t.size ∧ t.data.toList[0]? = some 48 then (noTok, 11)
  else if valI 0 t.data.toList > 2147483647 then (noTok, 5)
  else (⟨2, 0, t, valI 0 t.data.toList⟩, 0)
def symbolP (r : ByteArray) : Tok × Int := if symN r.data.toList = 0 then (noTok, 11) else (⟨3, 0, r.extract 0 (symN r.data.toList), 0⟩, 0)
def tokP (s : ByteArray) (p : Nat) : Tok × Int :=
  if letterI (s.get! p).toNat then wordP (s.extract p s.size)
  else if digitI (s.get! p).toNat then numberP ((s.extract p s.size).extract 0 (spanL digitI (s.extract p s.size).data.toList))
  else symbolP (s.extract p s.size)
def ne10 (c : Int) : Bool := !(c == 10)
/-- From place p on, with acc read, the tokens (or the place and the code of the first error) are the last. -/
inductive Lex (s : ByteArray) : Nat → List Tok → List Tok × Nat × Int → Prop where
  | fin {p : Nat} {acc : List Tok} : s.size ≤ p → Lex s p acc (acc ++ [⟨0, s.size, ⟨#[]⟩, 0⟩], 0, 0)
  | white {p : Nat} {acc : List Tok} {r : List Tok × Nat × Int} : p < s.size → whiteI (s.get! p).toNat = true → Lex s (p + 1) acc r → Lex s p acc r
  | hash {p : Nat} {acc : List Tok} {r : List Tok × Nat × Int} : p < s.size → (s.get! p).toNat = 35 → Lex s (p + spanL ne10 (s.data.toList.drop p)) acc r → Lex s p acc r
  | tok {p : Nat} {acc : List Tok} {r : List Tok × Nat × Int} {x : Tok} : p < s.size → whiteI (s.get! p).toNat = false → (s.get! p).toNat ≠ 35 → tokP s p = (x, 0) → Lex s (p + x.t.size) (acc ++ [{ x with a := p }]) r → Lex s p acc r
  | err {p : Nat} {acc : List Tok} {x : Tok} {e : Int} : p < s.size → whiteI (s.get! p).toNat = false → (s.get! p).toNat ≠ 35 → tokP s p = (x, e) → e ≠ 0 → Lex s p acc ([], p, e)

/-- The runes from p on do not pass over d. -/
def Bd (s : ByteArray) (p d : Nat) : Prop := (∀ j, p ≤ j → j < d → (s.get! j).toNat < 128) ∨ d = s.size ∨ (d < s.size ∧ (s.get! d).toNat < 128)
theorem Bd.step {s : ByteArray} {p d : Nat} (h : Bd s p d) (hp : p < d) (hd : d ≤ s.size) : p + (Utf8.decode s p).2 ≤ d ∧ Bd s (p + (Utf8.decode s p).2) d := by
  have hl := decode_len s p (by omega)
  refine ⟨?_, ?_⟩
  · rcases h with h | h | ⟨h1, h2⟩
    · have h0 := h p (Nat.le_refl _) hp
      have e := get_at s p (by omega)
      simp only [Nat.add_zero] at e
      rw [decode_ascii s p (by omega) (by rw [← e]; exact h0)]
      exact hp
    · omega
    · rcases Nat.lt_or_ge d (p + (Utf8.decode s p).2) with hlt | hge
      · have := hl.2.2 d hp hlt
        omega
      · exact hge
  · exact h.imp (fun h j hj1 hj2 => h j (by omega) hj2) id
theorem Bd.refl (s : ByteArray) (p d : Nat) (h : d ≤ p) : Bd s p d := .inl fun j h1 h2 => by omega
end Go.Proofs.Lx
