/- Texts joined. -/
import Derived.Test.YtcljccpddodckaaGreatDoorQC
import Derived.Test.YtcljccpddodckaaGreatDoorQB
import Derived.Test.YtcljccpddodckaaGreatDoorQD
import Derived.Test.YtcljccpddodckaaGreatDoorRows
/- Numbers in groups of seven bits, code as bytes: plain. -/
namespace Go.Wire
set_option linter.unusedSimpArgs false
set_option linter.unusedVariables false
def enc (v : Nat) : List Nat := if h : v < 128 then [v] else (v % 128 + 128) :: enc (v / 128)
termination_by v
decreasing_by omega
theorem enc_lt {v : Nat} (h : v < 128) : enc v = [v] := by rw [enc, dif_pos h]
theorem enc_ge {v : Nat} (h : 128 ≤ v) : enc v = (v % 128 + 128) :: enc (v / 128) := by rw [enc, dif_neg (by omega)]
theorem enc_byte (v : Nat) : ∀ c ∈ enc v, c < 256 := by
  induction v using Nat.strongRecOn with
  | _ v ih =>
    intro c hc
    by_cases h : v < 128
    · rw [enc_lt h] at hc; simp at hc; omega
    · rw [enc_ge (by omega)] at hc
      rcases List.mem_cons.1 hc with rfl | hc
      · omega
      · exact ih (v / 128) (by omega) c hc
theorem enc_len : ∀ (k v : Nat), v < 128 ^ (k + 1) → (enc v).length ≤ k + 1 ∧ 1 ≤ (enc v).length
  | 0, v, h => by rw [enc_lt (by simpa using h)]; simp
  | k + 1, v, h => by
    by_cases hv : v < 128
    · rw [enc_lt hv]; simp
    · rw [enc_ge (by omega)]
      have h1 : v / 128 < 128 ^ (k + 1) := by
        rw [Nat.div_lt_iff_lt_mul (by decide)]
        rw [Nat.pow_succ] at h; exact h
      have := enc_len k (v / 128) h1
      simp only [List.length_cons]
      omega
theorem enc_len64 {v : Nat} (h : v < 18446744073709551616) : (enc v).length ≤ 10 := (enc_len 9 v (by omega)).1
abbrev Sx := Int ⊕ List Nat
def ru : Nat → List Nat → Int ⊕ (Nat × List Nat)
  | _, [] => .inl 6
  | k, c :: l => if (k = 9 ∧ c ≠ 1) ∨ (0 < k ∧ c = 0) then .inl 7 else if c < 128 then .inr (c, l) else match ru (k + 1) l with
    | .inl e => .inl e
    | .inr (v, r) => .inr (c % 128 + 128 * v, r)
theorem ru_pos {k : Nat} {l : List Nat} {e : Int} (h : ru k l = .inl e) : e = 6 ∨ e = 7 := by
  induction l generalizing k with
  | nil => cases h; exact .inl rfl
  | cons c l ih =>
    rw [ru] at h
    split at h
    · cases h; exact .inr rfl
    · split at h
      · cases h
      · split at h
        · rename_i e' he; cases h; exact ih he
        · cases h
theorem ru_enc : ∀ (l : List Nat) (k v : Nat) (r : List Nat), k ≤ 9 → (∀ c ∈ l, c < 256) → ru k l = .inr (v, r) → l = enc v ++ r ∧ (0 < k → v ≠ 0) ∧ v < 2 * 128 ^ (9 - k)
  | [], k, v, r, hk, hl, h => by cases h
  | c :: l, k, v, r, hk, hl, h => by
    have hc := hl c (.head _)
    rw [ru] at h
    split at h
    · cases h
    · rename_i hn
      split at h
      · rename_i h1
        cases h
        refine ⟨by rw [enc_lt h1]; rfl, fun h0 h2 => hn (.inr ⟨h0, h2⟩), ?_⟩
        by_cases h9 : k = 9
        · subst h9
          have : c = 1 := Classical.not_not.1 fun hc => hn (.inl ⟨rfl, hc⟩)
          subst this; decide
        · obtain ⟨d, hd⟩ : ∃ d, 9 - k = d + 1 := ⟨8 - k, by omega⟩
          rw [hd, Nat.pow_succ]
          have : 0 < 128 ^ d := Nat.pow_pos (by decide)
          omega
      · rename_i h1
        split at h
        · cases h
        · rename_i v' r' hr
          cases h
          have h9 : k ≠ 9 := by
            intro h9
            have : c = 1 := Classical.not_not.1 fun hc => hn (.inl ⟨h9, hc⟩)
            omega
          obtain ⟨e1, e2, e3⟩ := ru_enc l (k + 1) v' _ (by omega) (fun c hc => hl c (.tail _ hc)) hr
          have h0 := e2 (by omega)
          refine ⟨?_, fun _ => by omega, ?_⟩
          · rw [enc_ge (by omega), show (c % 128 + 128 * v') % 128 + 128 = c by omega, show (c % 128 + 128 * v') / 128 = v' by omega, List.cons_append, ← e1]
          · obtain ⟨d, hd⟩ : ∃ d, 9 - k = d + 1 := ⟨8 - k, by omega⟩
            rw [show 9 - (k + 1) = d by omega] at e3
            rw [hd, Nat.pow_succ]
            omega
theorem enc_ru (v : Nat) : ∀ (k : Nat) (r : List Nat), k ≤ 9 → (0 < k → v ≠ 0) → v < 2 * 128 ^ (9 - k) → ru k (enc v ++ r) = .inr (v, r) := by
  induction v using Nat.strongRecOn with
  | _ v ih =>
    intro k r hk h0 hv
    by_cases h : v < 128
    · rw [enc_lt h]
      show ru k (v :: r) = _
      rw [ru, if_neg, if_pos h]
      rintro (⟨h9, h1⟩ | ⟨h2, h3⟩)
      · subst h9
        have := h0 (by decide)
        have : v < 2 := by simpa using hv
        omega
      · exact h0 h2 h3
    · have h9 : k ≠ 9 := by
        intro h9
        subst h9
        have : v < 2 := by simpa using hv
        omega
      rw [enc_ge (by omega), List.cons_append, ru, if_neg (by omega), if_neg (by omega)]
      have h1 : v / 128 < 2 * 128 ^ (9 - (k + 1)) := by
        obtain ⟨d, hd⟩ : ∃ d, 9 - k = d + 1 := ⟨8 - k, by omega⟩
        rw [hd, Nat.pow_succ] at hv
        rw [show 9 - (k + 1) = d by omega]
        omega
      rw [ih (v / 128) (by omega) (k + 1) r (by omega) (fun _ => by omega) h1]
      simp only
      congr 2
      omega
theorem enc_ru0 {v : Nat} (h : v < 18446744073709551616) (r : List Nat) : ru 0 (enc v ++ r) = .inr (v, r) := enc_ru v 0 r (by decide) (fun h => absurd h (by decide)) (by simpa using h)
def zig (n : Int) : Nat := if 0 ≤ n then (2 * n).toNat else (-2 * n - 1).toNat
def zag (u : Nat) : Int := if u % 2 = 0 then ((u / 2 : Nat) : Int) else -((u / 2 : Nat) : Int) - 1
theorem zag_zig (n : Int) : zag (zig n) = n := by
  unfold zig zag
  split <;> split <;> omega
theorem zig_zag (u : Nat) : zig (zag u) = u := by
  unfold zag
  split
  · unfold zig; split <;> omega
  · unfold zig; split <;> omega
def in64 (n : Int) : Prop := -9223372036854775808 ≤ n ∧ n ≤ 9223372036854775807
theorem zig_lt {n : Int} (h : in64 n) : zig n < 18446744073709551616 := by
  unfold in64 at h
  unfold zig
  split <;> omega
theorem zag_in {u : Nat} (h : u < 18446744073709551616) : in64 (zag u) := by
  unfold zag in64
  split <;> omega
def encI (n : Int) : List Nat := enc (zig n)
def encP (l : List (Int × Int)) : List Nat := l.flatMap fun p => encI p.1 ++ encI p.2
def encC (nm : List Nat) (ps vs : Int) (l : List (Int × Int)) : List Nat := enc nm.length ++ nm ++ encI ps ++ encI vs ++ enc l.length ++ encP l
def rdU : Sx → Nat × Sx
  | .inl e => (0, .inl e)
  | .inr l => match ru 0 l with
    | .inl e => (0, .inl e)
    | .inr (v, r) => (v, .inr r)
def rdI (s : Sx) : Int × Sx := (zag (rdU s).1, (rdU s).2)
def rdB (most : Nat) (s : Sx) : List Nat × Sx :=
  match (rdU s).2 with
  | .inl e => ([], .inl e)
  | .inr l => if most < (rdU s).1 then ([], .inl 2) else if l.length < (rdU s).1 then ([], .inl 6) else (l.take (rdU s).1, .inr (l.drop (rdU s).1))
def rdL : Nat → Sx → List (Int × Int) × Sx
  | 0, s => ([], s)
  | k + 1, s => match s with
    | .inl e => ([], .inl e)
    | .inr l => (((rdI (.inr l)).1, (rdI (rdI (.inr l)).2).1) :: (rdL k (rdI (rdI (.inr l)).2).2).1, (rdL k (rdI (rdI (.inr l)).2).2).2)
def capS (n : Nat) (s : Sx) : Sx := if 300 < n then (match s with | .inl e => .inl e | .inr _ => .inl 2) else s
def decC (l : List Nat) : Int ⊕ (List Nat × Int × Int × List (Int × Int)) :=
  let a := rdB 64 (.inr l)
  let b := rdI a.2
  let c := rdI b.2
  let d := rdU c.2
  let f := rdL d.1 (capS d.1 d.2)
  match f.2 with
  | .inl e => .inl e
  | .inr r => if r = [] then .inr (a.1, b.1, c.1, f.1) else .inl 7
theorem rdU_inr {s : Sx} {v : Nat} {r : List Nat} (h : rdU s = (v, .inr r)) (hb : ∀ l, s = .inr l → ∀ c ∈ l, c < 256) : ∃ l, s = .inr l ∧ l = enc v ++ r ∧ v < 18446744073709551616 := by
  cases s with
  | inl e => cases h
  | inr l =>
    rw [rdU] at h
    split at h
    · cases h
    · rename_i v' r' hr
      cases h
      obtain ⟨e1, _, e3⟩ := ru_enc l 0 v r (by decide) (hb l rfl) hr
      exact ⟨l, rfl, e1, by simpa using e3⟩
theorem rdI_inr {s : Sx} {v : Int} {r : List Nat} (h : rdI s = (v, .inr r)) (hb : ∀ l, s = .inr l → ∀ c ∈ l, c < 256) : ∃ l, s = .inr l ∧ l = encI v ++ r ∧ in64 v := by
  have h1 : (rdU s).2 = .inr r := congrArg Prod.snd h
  have h2 : zag (rdU s).1 = v := congrArg Prod.fst h
  obtain ⟨l, e1, e2, e3⟩ := rdU_inr (v := (rdU s).1) (r := r) (by rw [← h1]) hb
  refine ⟨l, e1, ?_, ?_⟩
  · rw [← h2, encI, zig_zag]; exact e2
  · rw [← h2]; exact zag_in e3
theorem rdL_inr : ∀ (k : Nat) (s : Sx) (l : List (Int × Int)) (r : List Nat), rdL k s = (l, .inr r) → (∀ l, s = .inr l → ∀ c ∈ l, c < 256) → ∃ l0, s = .inr l0 ∧ l0 = encP l ++ r ∧ l.length = k ∧ ∀ p ∈ l, in64 p.1 ∧ in64 p.2
  | 0, s, l, r, h, hb => by
    cases h
    exact ⟨r, rfl, rfl, rfl, fun p hp => by cases hp⟩
  | k + 1, .inl e, l, r, h, hb => by cases h
  | k + 1, .inr l0, l, r, h, hb => by
    rw [rdL] at h
    have h1 := congrArg Prod.fst h
    have h2 := congrArg Prod.snd h
    simp only at h1 h2
    have hb2 : ∀ (s : Sx) (v : Int) (s' : Sx), rdI s = (v, s') → (∀ l, s = .inr l → ∀ c ∈ l, c < 256) → ∀ l, s' = .inr l → ∀ c ∈ l, c < 256 := by
      intro s v s' hr hs l hl c hc
      subst hl
      obtain ⟨l1, e1, e2, _⟩ := rdI_inr hr hs
      exact hs l1 e1 c (by rw [e2]; exact List.mem_append_right _ hc)
    have hba := hb2 _ _ _ (rfl : rdI (.inr l0) = (_, _)) hb
    have hbb := hb2 _ _ _ (rfl : rdI (rdI (.inr l0)).2 = (_, _)) hba
    obtain ⟨l2, e1, e2, e3, e4⟩ := rdL_inr k (rdI (rdI (.inr l0)).2).2 (rdL k (rdI (rdI (.inr l0)).2).2).1 r (by rw [← h2]) hbb
    obtain ⟨l3, e5, e6, e7⟩ := rdI_inr (s := (rdI (.inr l0)).2) (v := (rdI (rdI (.inr l0)).2).1) (r := l2) (by rw [← e1]) hba
    obtain ⟨l4, e8, e9, e10⟩ := rdI_inr (s := .inr l0) (v := (rdI (.inr l0)).1) (r := l3) (by rw [← e5]) hb
    cases e8
    refine ⟨l0, rfl, ?_, ?_, ?_⟩
    · rw [e9, e6, e2, ← h1]
      simp [encP]
    · rw [← h1]; simp [e3]
    · rw [← h1]
      intro p hp
      rcases List.mem_cons.1 hp with rfl | hp
      · exact ⟨e10, e7⟩
      · exact e4 p hp
theorem rdB_inr {most : Nat} {s : Sx} {b r : List Nat} (h : rdB most s = (b, .inr r)) (hb : ∀ l, s = .inr l → ∀ c ∈ l, c < 256) : ∃ l, s = .inr l ∧ l = enc b.length ++ b ++ r ∧ b.length ≤ most := by
  unfold rdB at h
  split at h
  · cases h
  · rename_i l hl
    obtain ⟨l1, e1, e2, e3⟩ := rdU_inr (v := (rdU s).1) (r := l) (by rw [← hl]) hb
    split at h
    · cases h
    · split at h
      · cases h
      · rename_i h1 h2
        cases h
        have h3 : (l.take (rdU s).1).length = (rdU s).1 := by rw [List.length_take]; omega
        refine ⟨l1, e1, ?_, by omega⟩
        rw [h3, List.append_assoc, List.take_append_drop]
        exact e2
theorem decC_enc {l nm : List Nat} {ps vs : Int} {ins : List (Int × Int)} (hb : ∀ c ∈ l, c < 256) (h : decC l = .inr (nm, ps, vs, ins)) : l = encC nm ps vs ins ∧ nm.length ≤ 64 ∧ ins.length ≤ 300 ∧ in64 ps ∧ in64 vs ∧ (∀ p ∈ ins, in64 p.1 ∧ in64 p.2) := by
  unfold decC at h
  simp only at h
  have hb0 : ∀ l', (Sum.inr l : Sx) = .inr l' → ∀ c ∈ l', c < 256 := fun l' e => by cases e; exact hb
  have hba : ∀ l', (rdB 64 (.inr l)).2 = .inr l' → ∀ c ∈ l', c < 256 := by
    intro l' e c hc
    obtain ⟨l1, e1, e2, _⟩ := rdB_inr (b := (rdB 64 (.inr l)).1) (r := l') (by rw [← e]) hb0
    cases e1
    exact hb c (by rw [e2]; exact List.mem_append_right _ hc)
  have hb2 : ∀ (s : Sx), (∀ l, s = .inr l → ∀ c ∈ l, c < 256) → ∀ l, (rdI s).2 = .inr l → ∀ c ∈ l, c < 256 := by
    intro s hs l hl c hc
    obtain ⟨l1, e1, e2, _⟩ := rdI_inr (v := (rdI s).1) (r := l) (by rw [← hl]) hs
    exact hs l1 e1 c (by rw [e2]; exact List.mem_append_right _ hc)
  have hbb := hb2 _ hba
  have hbc := hb2 _ hbb
  generalize hd : rdU (rdI (rdI (rdB 64 (.inr l)).2).2).2 = d at h
  have hbd : ∀ l, d.2 = .inr l → ∀ c ∈ l, c < 256 := by
    intro l hl c hc
    obtain ⟨l1, e1, e2, _⟩ := rdU_inr (v := d.1) (r := l) (by rw [hd, ← hl]) hbc
    exact hbc l1 e1 c (by rw [e2]; exact List.mem_append_right _ hc)
  have hbe : ∀ l, capS d.1 d.2 = .inr l → d.2 = .inr l ∧ d.1 ≤ 300 := by
    intro l hl
    unfold capS at hl
    split at hl
    · split at hl <;> cases hl
    · exact ⟨hl, by omega⟩
  split at h
  · cases h
  · rename_i r hr
    split at h
    · rename_i hr0
      subst hr0
      cases h
      obtain ⟨l2, e1, e2, e3, e4⟩ := rdL_inr d.1 (capS d.1 d.2) (rdL d.1 (capS d.1 d.2)).1 [] (by rw [← hr]) (fun l hl => hbd l (hbe l hl).1)
      obtain ⟨e5, e6⟩ := hbe l2 e1
      obtain ⟨l3, e7, e8, _⟩ := rdU_inr (v := d.1) (r := l2) (by rw [hd, ← e5]) hbc
      obtain ⟨l4, e9, e10, e11⟩ := rdI_inr (v := (rdI (rdI (rdB 64 (.inr l)).2).2).1) (r := l3) (by rw [← e7]) hbb
      obtain ⟨l5, e12, e13, e14⟩ := rdI_inr (v := (rdI (rdB 64 (.inr l)).2).1) (r := l4) (by rw [← e9]) hba
      obtain ⟨l6, e15, e16, e17⟩ := rdB_inr (b := (rdB 64 (.inr l)).1) (r := l5) (by rw [← e12]) hb0
      cases e15
      refine ⟨?_, e17, by omega, e14, e11, e4⟩
      unfold encC
      refine e16.trans ?_
      rw [e13, e10, e8, e2, e3]
      simp only [List.append_assoc, List.append_nil]
    · cases h
theorem rdU_enc {v : Nat} (h : v < 18446744073709551616) (r : List Nat) : rdU (.inr (enc v ++ r)) = (v, .inr r) := by
  rw [rdU, enc_ru0 h]
theorem rdI_enc {v : Int} (h : in64 v) (r : List Nat) : rdI (.inr (encI v ++ r)) = (v, .inr r) := by
  rw [rdI, encI, rdU_enc (zig_lt h), zag_zig]
theorem rdL_enc : ∀ (l : List (Int × Int)) (r : List Nat), (∀ p ∈ l, in64 p.1 ∧ in64 p.2) → rdL l.length (.inr (encP l ++ r)) = (l, .inr r)
  | [], r, _ => rfl
  | p :: l, r, h => by
    have h1 := h p (.head _)
    have e : encP (p :: l) ++ r = encI p.1 ++ (encI p.2 ++ (encP l ++ r)) := by simp [encP]
    rw [e, List.length_cons, rdL, rdI_enc h1.1]
    simp only
    rw [rdI_enc h1.2]
    simp only
    rw [rdL_enc l r fun p hp => h p (.tail _ hp)]
theorem decC_of {nm : List Nat} {ps vs : Int} {ins : List (Int × Int)} (h1 : nm.length ≤ 64) (h2 : ins.length ≤ 300) (h3 : in64 ps) (h4 : in64 vs) (h5 : ∀ p ∈ ins, in64 p.1 ∧ in64 p.2) : decC (encC nm ps vs ins) = .inr (nm, ps, vs, ins) := by
  have e0 : encC nm ps vs ins = enc nm.length ++ (nm ++ (encI ps ++ (encI vs ++ (enc ins.length ++ (encP ins ++ []))))) := by simp [encC]
  have eb : rdB 64 (.inr (encC nm ps vs ins)) = (nm, .inr (encI ps ++ (encI vs ++ (enc ins.length ++ (encP ins ++ []))))) := by
    rw [e0]
    unfold rdB
    rw [rdU_enc (by omega)]
    simp only
    rw [if_neg (by omega), if_neg (by simp), List.take_left, List.drop_left]
  unfold decC
  simp only
  rw [eb]
  simp only
  rw [rdI_enc h3]
  simp only
  rw [rdI_enc h4]
  simp only
  rw [rdU_enc (by omega)]
  simp only
  rw [capS, if_neg (by omega), rdL_enc ins [] h5]
  simp
end Go.Wire
/- Numbers of the machine, as the wire has them: plain. -/
namespace Go.Wire
open Go Go.Am
set_option linter.unusedSimpArgs false
set_option linter.unusedVariables false
theorem wrap8 (x : Int) : IntKind.wrap .u8 x = x % 256 := by simp [IntKind.wrap, IntKind.bits, IntKind.signed]
theorem wrap64 (x : Int) : IntKind.wrap .u64 x = x % 18446744073709551616 := by simp [IntKind.wrap, IntKind.bits, IntKind.signed]
theorem wrapI {x : Int} (h : in64 x) : IntKind.wrap .i64 x = x := by
  unfold in64 at h
  simp [IntKind.wrap, IntKind.bits, IntKind.signed, IntKind.i64]
  all_goals omega
theorem wrapI' (x : Int) : IntKind.wrap .i64 x = (x + 9223372036854775808) % 18446744073709551616 - 9223372036854775808 := by
  simp [IntKind.wrap, IntKind.bits, IntKind.signed]
  all_goals omega
theorem natI64 (x : Int) : natI .u64 x = (x % 18446744073709551616).toNat := rfl
theorem natIi (x : Int) : natI .i64 x = (x % 18446744073709551616).toNat := rfl
theorem natI8 (x : Int) : natI .u8 x = (x % 256).toNat := rfl
theorem shr7 (v : Nat) : shrI .u64 (v : Int) 7 = ((v / 128 : Nat) : Int) := by
  show (v : Int).fdiv 128 = _
  rw [Int.fdiv_eq_ediv_of_nonneg _ (by decide)]
  rfl
theorem shr1 (v : Nat) : shrI .u64 (v : Int) 1 = ((v / 2 : Nat) : Int) := by
  show (v : Int).fdiv 2 = _
  rw [Int.fdiv_eq_ediv_of_nonneg _ (by decide)]
  rfl
theorem or128 : ∀ a : Fin 256, orN 8 a.val 128 = a.val % 128 + 128 := by decide +kernel
theorem or8 (v : Nat) : orI .u8 (IntKind.wrap .u8 (v : Int)) 128 = ((v % 128 + 128 : Nat) : Int) := by
  rw [wrap8]
  unfold orI
  have e : ((v : Int) % 256 % 2 ^ IntKind.u8.bits).toNat = v % 256 := by
    show ((v : Int) % 256 % 256).toNat = _
    omega
  rw [e, show ((128 : Int) % 2 ^ IntKind.u8.bits).toNat = 128 from rfl, show IntKind.u8.bits = 8 from rfl]
  have := or128 ⟨v % 256, by omega⟩
  simp only at this
  rw [this, wrap8]
  omega
theorem and127 : ∀ a : Fin 256, Nat.land a.val 127 = a.val % 128 := by decide +kernel
theorem and8 {c : Nat} (h : c < 256) : andI .u8 (c : Int) 127 = ((c % 128 : Nat) : Int) := by
  unfold andI
  rw [natI8, natI8]
  have e : ((c : Int) % 256).toNat = c := by omega
  have := and127 ⟨c, h⟩
  simp only at this
  rw [e, show ((127 : Int) % 256).toNat = 127 from rfl, this, wrap8]
  omega
theorem and1 (u : Nat) (h : u < 18446744073709551616) : andI .u64 (u : Int) 1 = ((u % 2 : Nat) : Int) := by
  unfold andI
  rw [natI64, natI64]
  have e : ((u : Int) % 18446744073709551616).toNat = u := by omega
  have e2 : Nat.land u 1 = u % 2 := Nat.and_one_is_mod u
  rw [e, show ((1 : Int) % 18446744073709551616).toNat = 1 from rfl, e2, wrap64]
  omega
theorem xor_ones (a : Nat) (h : a < 18446744073709551616) : Nat.xor a 18446744073709551615 = 18446744073709551615 - a := by
  have h1 : (BitVec.ofNat 64 a ^^^ BitVec.allOnes 64).toNat = (~~~ BitVec.ofNat 64 a).toNat := by rw [BitVec.xor_allOnes]
  rw [BitVec.toNat_xor, BitVec.toNat_not, BitVec.toNat_ofNat, Nat.mod_eq_of_lt (by simpa using h)] at h1
  exact h1
theorem zig_eq {v : Int} (h : in64 v) : xorI .u64 (shlI .u64 (IntKind.wrap .u64 v) 1) (IntKind.wrap .u64 (shrI .i64 v 63)) = (zig v : Int) := by
  unfold in64 at h
  have e1 : shlI .u64 (IntKind.wrap .u64 v) 1 = (2 * v) % 18446744073709551616 := by
    show IntKind.wrap .u64 (IntKind.wrap .u64 v * 2) = _
    rw [wrap64, wrap64]; omega
  have e2 : shrI .i64 v 63 = v / 9223372036854775808 := by
    show v.fdiv 9223372036854775808 = _
    exact Int.fdiv_eq_ediv_of_nonneg _ (by decide)
  rw [e1, e2, wrap64]
  unfold xorI zig
  rw [natI64, natI64]
  by_cases hv : 0 ≤ v
  · rw [if_pos hv]
    have : ((v / 9223372036854775808 % 18446744073709551616 % 18446744073709551616).toNat) = 0 := by omega
    rw [this]
    have e3 : Nat.xor ((2 * v % 18446744073709551616 % 18446744073709551616).toNat) 0 = ((2 * v % 18446744073709551616 % 18446744073709551616).toNat) := Nat.xor_zero _
    rw [e3, wrap64]
    omega
  · rw [if_neg hv]
    have : ((v / 9223372036854775808 % 18446744073709551616 % 18446744073709551616).toNat) = 18446744073709551615 := by omega
    rw [this, xor_ones _ (by omega), wrap64]
    omega
theorem zag_eq {u : Nat} (h : u < 18446744073709551616) : xorI .i64 (IntKind.wrap .i64 (shrI .u64 (u : Int) 1)) (IntKind.wrap .i64 ((0 : Int) - IntKind.wrap .i64 (andI .u64 (u : Int) 1))) = zag u := by
  rw [shr1, and1 u h, wrapI (x := ((u / 2 : Nat) : Int)) (by unfold in64; omega), wrapI (x := ((u % 2 : Nat) : Int)) (by unfold in64; omega), wrapI (x := (0 : Int) - ((u % 2 : Nat) : Int)) (by unfold in64; omega)]
  unfold xorI zag
  rw [natIi, natIi]
  have e0 : (((u / 2 : Nat) : Int) % 18446744073709551616).toNat = u / 2 := by omega
  rw [e0]
  by_cases hv : u % 2 = 0
  · rw [if_pos hv, hv]
    rw [show (((0 : Int) - ((0 : Nat) : Int)) % 18446744073709551616).toNat = 0 from rfl]
    have e3 : Nat.xor (u / 2) 0 = u / 2 := Nat.xor_zero _
    rw [e3]
    exact wrapI (by unfold in64; omega)
  · have : u % 2 = 1 := by omega
    rw [if_neg hv, this]
    rw [show (((0 : Int) - ((1 : Nat) : Int)) % 18446744073709551616).toNat = 18446744073709551615 from rfl, xor_ones _ (by omega), wrapI']
    omega
theorem pow128 (k : Nat) : 2 ^ (7 * k) = 128 ^ k := by rw [Nat.pow_mul]
theorem acc_eq {a c k : Nat} (ha : a < 128 ^ k) (hc : c < 256) (hk : k ≤ 9) (h9 : k = 9 → c = 1) :
    orI .u64 (a : Int) (shlI .u64 (IntKind.wrap .u64 (andI .u8 (c : Int) 127)) (IntKind.wrap .i64 ((7 : Int) * (k : Int)))) = ((a + c % 128 * 128 ^ k : Nat) : Int) := by
  have hp : 128 ^ k ≤ 9223372036854775808 := by
    have : (128 : Nat) ^ k ≤ 128 ^ 9 := Nat.pow_le_pow_right (by decide) hk
    simpa using this
  have hb : c % 128 * 128 ^ k < 18446744073709551616 - 128 ^ k + 128 ^ k ∧ a + c % 128 * 128 ^ k < 18446744073709551616 := by
    by_cases h : k = 9
    · subst h
      have := h9 rfl
      subst this
      simp at ha ⊢
      omega
    · have h8 : (128 : Nat) ^ k ≤ 128 ^ 8 := Nat.pow_le_pow_right (by decide) (by omega)
      have h8' : (128 : Nat) ^ k ≤ 72057594037927936 := by simpa using h8
      have h10 : c % 128 * 128 ^ k ≤ 127 * 128 ^ k := Nat.mul_le_mul_right _ (by omega)
      omega
  have e1 : IntKind.wrap .i64 ((7 : Int) * (k : Int)) = ((7 * k : Nat) : Int) := by rw [wrapI (by unfold in64; omega)]; simp
  rw [and8 hc, e1, wrap64]
  have e2 : (((c % 128 : Nat) : Int) % 18446744073709551616) = ((c % 128 : Nat) : Int) := by omega
  rw [e2]
  have e3 : shlI .u64 ((c % 128 : Nat) : Int) ((7 * k : Nat) : Int) = ((c % 128 * 128 ^ k : Nat) : Int) := by
    unfold shlI
    have : min ((7 * k : Nat) : Int).toNat IntKind.u64.bits = 7 * k := by
      show min ((7 * k : Nat) : Int).toNat 64 = _
      simp only [Int.toNat_natCast]
      omega
    rw [this, wrap64]
    have e4 : ((c % 128 : Nat) : Int) * 2 ^ (7 * k) = ((c % 128 * 128 ^ k : Nat) : Int) := by
      rw [← pow128]; simp
    rw [e4]
    omega
  rw [e3]
  unfold orI
  have e5 : ∀ z : Nat, z < 18446744073709551616 → ((z : Int) % 2 ^ IntKind.u64.bits).toNat = z := by
    intro z hz
    show ((z : Int) % 18446744073709551616).toNat = z
    omega
  rw [e5 a (by omega), e5 _ (by omega), show IntKind.u64.bits = 64 from rfl, orN_eq 64 _ _ (by omega) (by omega)]
  have e6 : a ||| c % 128 * 128 ^ k = c % 128 * 128 ^ k + a := by
    have := Nat.shiftLeft_add_eq_or_of_lt (b := a) (i := 7 * k) (by rw [pow128]; exact ha) (c % 128)
    rw [Nat.shiftLeft_eq, pow128] at this
    rw [Nat.or_comm, ← this]
  rw [e6, wrap64]
  omega
end Go.Wire
/- What is written: the program's bytes and the reference's. -/
namespace Go.Proofs.YtcljccpddodckaaGreatDoor
open Go Go.Am Go.Wire
set_option linter.unusedSimpArgs false
set_option linter.unusedVariables false
set_option maxRecDepth 100000
def RL (n : Nat) (f : Nat → Int) (l : List Nat) : Prop := n = l.length ∧ ∀ j, j < n → f j = ((l.getD j 0 : Nat) : Int)
theorem getD_app {α : Type} (l l' : List α) (d : α) (j : Nat) : (l ++ l').getD j d = if j < l.length then l.getD j d else l'.getD (j - l.length) d := by
  simp only [List.getD_eq_getElem?_getD, List.getElem?_append]
  split <;> rfl
theorem RL.app {n m : Nat} {f g k : Nat → Int} {l l' : List Nat} (h : RL n f l) (h' : RL m g l') (hk : ∀ j, j < n + m → k j = if j < n then f j else g (j - n)) : RL (n + m) k (l ++ l') := by
  refine ⟨by rw [List.length_append, h.1, h'.1], fun j hj => ?_⟩
  rw [hk j hj, getD_app, ← h.1]
  split
  · rename_i hn; exact h.2 j hn
  · exact h'.2 (j - n) (by omega)
theorem RL.one {f : Nat → Int} {c : Nat} (h : f 0 = (c : Int)) : RL 1 f [c] := by
  refine ⟨rfl, fun j hj => ?_⟩
  obtain rfl : j = 0 := by omega
  exact h
theorem RL.snoc {n : Nat} {f k : Nat → Int} {l : List Nat} {c : Nat} (h : RL n f l) (hk : ∀ j, j < n + 1 → k j = if j < n then f j else (c : Int)) : RL (n + 1) k (l ++ [c]) :=
  h.app (RL.one (f := fun _ => (c : Int)) rfl) hk
def room (n : Nat) : Prop := n ≤ 70368744177664
theorem room_ok {n a : Nat} (h : n ≤ 70368744177664) : (n * 1 ≤ roomBound ∧ n ≤ maxLen ∧ a ≤ a) := by
  unfold roomBound maxLen
  omega
abbrev W64 (v : Nat) : Prop := v < 18446744073709551616
theorem putA_loop (x : a_putA) : ∀ (k q v n : Nat) (f : Nat → Int) (l : List Nat), v < 128 ^ (k + 1) → RL n f l → n + k + 1 ≤ 70368744177664 → k < q →
    Rs (putA_l0 q x ((v : Int), n, f)) (fun z => ∃ (c : Nat) (l' : List Nat), z.1 = (c : Int) ∧ c < 128 ∧ RL z.2.1 z.2.2 l' ∧ l ++ enc v = l' ++ [c] ∧ l'.length ≤ l.length + k) := by
  intro k
  induction k with
  | zero =>
    intro q v n f l hv hl hn hq
    obtain ⟨q, rfl⟩ : ∃ q', q = q' + 1 := ⟨q - 1, by omega⟩
    have hv : v < 128 := by simpa using hv
    refine Rs.step3 fun Q hQ => ?_
    unfold putA_l0_t
    refine Rs.neg (by simp; omega) (Rs.some ?_)
    exact ⟨v, l, rfl, hv, hl, by rw [enc_lt hv], by omega⟩
  | succ k ih =>
    intro q v n f l hv hl hn hq
    obtain ⟨q, rfl⟩ : ∃ q', q = q' + 1 := ⟨q - 1, by omega⟩
    refine Rs.step3 fun Q hQ => ?_
    unfold putA_l0_t
    refine Rs.ite (fun h => ?_) (fun h => ?_)
    · have h128 : 128 ≤ v := by simp at h; omega
      refine Rs.pos (room_ok (by first | omega | (dsimp only; omega))) (Rs.some (hQ _ ?_))
      have h1 : v / 128 < 128 ^ (k + 1) := by
        rw [Nat.div_lt_iff_lt_mul (by decide)]
        rw [Nat.pow_succ] at hv; exact hv
      have := ih q (v / 128) (n + 1) (fun j => if j < n then f j else orI IntKind.u8 (IntKind.wrap IntKind.u8 (v : Int)) 128) (l ++ [v % 128 + 128]) h1 (hl.snoc fun j _ => by rw [or8]) (by omega) (by omega)
      rw [← shr7] at this
      refine this.mono ?_
      rintro z ⟨c, l', e1, e2, e3, e4, e5⟩
      refine ⟨c, l', e1, e2, e3, ?_, ?_⟩
      · rw [← e4, enc_ge h128, List.append_assoc]; rfl
      · rw [List.length_append] at e5; simp at e5; omega
    · have hlt : v < 128 := by simp at h; omega
      refine Rs.some ?_
      exact ⟨v, l, rfl, hlt, hl, by rw [enc_lt hlt], by omega⟩
theorem wrap8_lt {c : Nat} (h : c < 128) : IntKind.wrap .u8 (c : Int) = (c : Int) := by rw [wrap8]; omega
theorem putA_runs {v n q : Nat} {f : Nat → Int} {l : List Nat} (hv : W64 v) (hl : RL n f l) (hn : n + 12 ≤ 70368744177664) (hq : 10 < q) :
    Rs (putA q ((v : Int), n, f)) (fun z => RL z.1 z.2 (l ++ enc v)) := by
  unfold putA t_putA
  refine Rs.bind (putA_loop _ 9 q v n f l (by omega) hl (by omega) (by omega)) ?_
  rintro ⟨zc, zn, zf⟩ ⟨c, l', e1, e2, e3, e4, e5⟩
  simp only at e1 e3 ⊢
  subst e1
  have := e3.1
  have := hl.1
  refine Rs.pos (room_ok (by first | omega | (dsimp only; omega))) (Rs.some ?_)
  rw [e4]
  exact e3.snoc fun j _ => by rw [wrap8_lt e2]
theorem putZ_loop (x : a_putZ) : ∀ (k q v n : Nat) (f : Nat → Int) (l : List Nat), v < 128 ^ (k + 1) → RL n f l → n + k + 1 ≤ 70368744177664 → k < q →
    Rs (putZ_l0 q x (.inr ((v : Int), n, f))) (fun z => ∃ (c : Nat) (l' : List Nat) (n' : Nat) (f' : Nat → Int), z = .inr ((c : Int), n', f') ∧ c < 128 ∧ RL n' f' l' ∧ l ++ enc v = l' ++ [c] ∧ l'.length ≤ l.length + k) := by
  intro k
  induction k with
  | zero =>
    intro q v n f l hv hl hn hq
    obtain ⟨q, rfl⟩ : ∃ q', q = q' + 1 := ⟨q - 1, by omega⟩
    have hv : v < 128 := by simpa using hv
    refine Rs.step3 fun Q hQ => ?_
    simp only [Sum.elim_inr]
    unfold putZ_l0_t1
    refine Rs.neg (by simp; omega) (Rs.some ?_)
    exact ⟨v, l, n, f, rfl, hv, hl, by rw [enc_lt hv], by omega⟩
  | succ k ih =>
    intro q v n f l hv hl hn hq
    obtain ⟨q, rfl⟩ : ∃ q', q = q' + 1 := ⟨q - 1, by omega⟩
    refine Rs.step3 fun Q hQ => ?_
    simp only [Sum.elim_inr]
    unfold putZ_l0_t1
    refine Rs.ite (fun h => ?_) (fun h => ?_)
    · have h128 : 128 ≤ v := by simp at h; omega
      refine Rs.pos (room_ok (by first | omega | (dsimp only; omega))) (Rs.some (hQ _ ?_))
      have h1 : v / 128 < 128 ^ (k + 1) := by
        rw [Nat.div_lt_iff_lt_mul (by decide)]
        rw [Nat.pow_succ] at hv; exact hv
      have := ih q (v / 128) (n + 1) (fun j => if j < n then f j else orI IntKind.u8 (IntKind.wrap IntKind.u8 (v : Int)) 128) (l ++ [v % 128 + 128]) h1 (hl.snoc fun j _ => by rw [or8]) (by omega) (by omega)
      rw [← shr7] at this
      refine this.mono ?_
      rintro z ⟨c, l', n', f', e1, e2, e3, e4, e5⟩
      refine ⟨c, l', n', f', e1, e2, e3, ?_, ?_⟩
      · rw [← e4, enc_ge h128, List.append_assoc]; rfl
      · rw [List.length_append] at e5; simp at e5; omega
    · have hlt : v < 128 := by simp at h; omega
      refine Rs.some ?_
      exact ⟨v, l, n, f, rfl, hlt, hl, by rw [enc_lt hlt], by omega⟩
theorem dge {v : Nat} (h : 128 ≤ v) : decide ((v : Int) ≥ 128) = true := by rw [decide_eq_true_eq]; omega
theorem dgt {v : Nat} (h : 128 ≤ v) : decide ((v : Int) > 127) = true := by rw [decide_eq_true_eq]; omega
theorem putZ_runs {v q : Nat} (hv : W64 v) (hq : 12 < q) : Rs (putZ q (v : Int)) (fun z => RL z.2 z.1 (enc v)) := by
  unfold putZ t_putZ
  by_cases h : v < 128
  · refine Rs.bind (P := fun z => z = .inl ()) ?_ ?_
    · obtain ⟨q, rfl⟩ : ∃ q', q = q' + 1 := ⟨q - 1, by omega⟩
      refine Rs.step3 fun Q hQ => ?_
      simp only [Sum.elim_inl]
      unfold putZ_l0_t0
      exact Rs.neg (by simp; omega) (Rs.some rfl)
    · rintro z rfl
      refine Rs.some ?_
      rw [enc_lt h]
      exact RL.one (wrap8_lt h)
  · refine Rs.bind (P := fun z => ∃ (c : Nat) (l' : List Nat) (n' : Nat) (f' : Nat → Int), z = .inr ((c : Int), n', f') ∧ c < 128 ∧ RL n' f' l' ∧ enc v = l' ++ [c] ∧ l'.length ≤ 11) ?_ ?_
    · obtain ⟨q, rfl⟩ : ∃ q', q = q' + 1 := ⟨q - 1, by omega⟩
      refine Rs.step3 fun Q hQ => ?_
      simp only [Sum.elim_inl]
      unfold putZ_l0_t0
      refine Rs.pos (dge (by omega)) (Rs.some (hQ _ ?_))
      have := putZ_loop (v : Int) 9 q (v / 128) 1 (fun _ => orI IntKind.u8 (IntKind.wrap IntKind.u8 (v : Int)) 128) [v % 128 + 128] (by omega) (RL.one (or8 v)) (by omega) (by omega)
      rw [← shr7] at this
      refine this.mono ?_
      rintro z ⟨c, l', n', f', e1, e2, e3, e4, e5⟩
      exact ⟨c, l', n', f', e1, e2, e3, by rw [← e4, enc_ge (by omega)]; rfl, by simp at e5; omega⟩
    · rintro z ⟨c, l', n', f', rfl, e2, e3, e4, e5⟩
      have := e3.1
      refine Rs.pos (room_ok (by simp only; omega)) (Rs.some ?_)
      rw [e4]
      exact e3.snoc fun j _ => by rw [wrap8_lt e2]
theorem rstep (v : Nat) (h : W64 v) : IntKind.wrap .u64 (Int.tdiv (v : Int) 128) = ((v / 128 : Nat) : Int) := by
  have : Int.tdiv (v : Int) 128 = ((v / 128 : Nat) : Int) := rfl
  rw [this, wrap64]; omega
theorem rbyte (v : Nat) : IntKind.wrap .u8 (IntKind.wrap .u8 (Int.tmod (v : Int) 128) + 128) = ((v % 128 + 128 : Nat) : Int) := by
  have : Int.tmod (v : Int) 128 = ((v % 128 : Nat) : Int) := rfl
  rw [this, wrap8, wrap8]; omega
theorem rUint_loop (x : a_rUint) : ∀ (k q v n : Nat) (f : Nat → Int) (l : List Nat), v < 128 ^ (k + 1) → W64 v → RL n f l → n + k + 1 ≤ 70368744177664 → k < q →
    Rs (rUint_l0 q x (.inr ((v : Int), n, f))) (fun z => ∃ (c : Nat) (l' : List Nat) (n' : Nat) (f' : Nat → Int), z = .inr ((c : Int), n', f') ∧ c < 128 ∧ RL n' f' l' ∧ l ++ enc v = l' ++ [c] ∧ l'.length ≤ l.length + k) := by
  intro k
  induction k with
  | zero =>
    intro q v n f l hv hw hl hn hq
    obtain ⟨q, rfl⟩ : ∃ q', q = q' + 1 := ⟨q - 1, by omega⟩
    have hv : v < 128 := by simpa using hv
    refine Rs.step3 fun Q hQ => ?_
    simp only [Sum.elim_inr]
    unfold rUint_l0_t1
    refine Rs.neg (by simp; omega) (Rs.some ?_)
    exact ⟨v, l, n, f, rfl, hv, hl, by rw [enc_lt hv], by omega⟩
  | succ k ih =>
    intro q v n f l hv hw hl hn hq
    obtain ⟨q, rfl⟩ : ∃ q', q = q' + 1 := ⟨q - 1, by omega⟩
    refine Rs.step3 fun Q hQ => ?_
    simp only [Sum.elim_inr]
    unfold rUint_l0_t1
    refine Rs.ite (fun h => ?_) (fun h => ?_)
    · have h128 : 128 ≤ v := by simp at h; omega
      refine Rs.pos (room_ok (by first | omega | (dsimp only; omega))) (Rs.some (hQ _ ?_))
      have h1 : v / 128 < 128 ^ (k + 1) := by
        rw [Nat.div_lt_iff_lt_mul (by decide)]
        rw [Nat.pow_succ] at hv; exact hv
      have := ih q (v / 128) (n + 1) (fun j => if j < n then f j else IntKind.wrap IntKind.u8 (IntKind.wrap IntKind.u8 (Int.tmod (v : Int) 128) + 128)) (l ++ [v % 128 + 128]) h1 (by unfold W64 at hw ⊢; omega) (hl.snoc fun j _ => by rw [rbyte]) (by omega) (by omega)
      rw [← rstep v hw] at this
      refine this.mono ?_
      rintro z ⟨c, l', n', f', e1, e2, e3, e4, e5⟩
      refine ⟨c, l', n', f', e1, e2, e3, ?_, ?_⟩
      · rw [← e4, enc_ge h128, List.append_assoc]; rfl
      · rw [List.length_append] at e5; simp at e5; omega
    · have hlt : v < 128 := by simp at h; omega
      refine Rs.some ?_
      exact ⟨v, l, n, f, rfl, hlt, hl, by rw [enc_lt hlt], by omega⟩
theorem rUint_runs {v q : Nat} (hv : W64 v) (hq : 12 < q) : Rs (rUint q (v : Int)) (fun z => RL z.2 z.1 (enc v)) := by
  unfold rUint t_rUint
  by_cases h : v < 128
  · refine Rs.bind (P := fun z => z = .inl ()) ?_ ?_
    · obtain ⟨q, rfl⟩ : ∃ q', q = q' + 1 := ⟨q - 1, by omega⟩
      refine Rs.step3 fun Q hQ => ?_
      simp only [Sum.elim_inl]
      unfold rUint_l0_t0
      exact Rs.neg (by simp; omega) (Rs.some rfl)
    · rintro z rfl
      refine Rs.some ?_
      rw [enc_lt h]
      exact RL.one (wrap8_lt h)
  · refine Rs.bind (P := fun z => ∃ (c : Nat) (l' : List Nat) (n' : Nat) (f' : Nat → Int), z = .inr ((c : Int), n', f') ∧ c < 128 ∧ RL n' f' l' ∧ enc v = l' ++ [c] ∧ l'.length ≤ 11) ?_ ?_
    · obtain ⟨q, rfl⟩ : ∃ q', q = q' + 1 := ⟨q - 1, by omega⟩
      refine Rs.step3 fun Q hQ => ?_
      simp only [Sum.elim_inl]
      unfold rUint_l0_t0
      refine Rs.pos (dgt (by omega)) (Rs.some (hQ _ ?_))
      have := rUint_loop (v : Int) 9 q (v / 128) 1 (fun _ => IntKind.wrap IntKind.u8 (IntKind.wrap IntKind.u8 (Int.tmod (v : Int) 128) + 128)) [v % 128 + 128] (by omega) (by unfold W64 at hv ⊢; omega) (RL.one (rbyte v)) (by omega) (by omega)
      rw [← rstep v hv] at this
      refine this.mono ?_
      rintro z ⟨c, l', n', f', e1, e2, e3, e4, e5⟩
      exact ⟨c, l', n', f', e1, e2, e3, by rw [← e4, enc_ge (by omega)]; rfl, by simp at e5; omega⟩
    · rintro z ⟨c, l', n', f', rfl, e2, e3, e4, e5⟩
      have := e3.1
      refine Rs.pos (room_ok (by simp only; omega)) (Rs.some ?_)
      rw [e4]
      exact e3.snoc fun j _ => by rw [wrap8_lt e2]
def RI (n : Nat) (op ar : Nat → Int) (l : List (Int × Int)) : Prop := n = l.length ∧ ∀ j, j < n → op j = (l.getD j (0, 0)).1 ∧ ar j = (l.getD j (0, 0)).2
abbrev nmF (s : ByteArray) : Nat → Int := fun (j : Nat) => ((UInt8.toNat (List.getD (Array.toList (ByteArray.data s)) j (0 : UInt8)) : Nat) : Int)
def nmL (s : ByteArray) : List Nat := s.data.toList.map UInt8.toNat
theorem nm_RL (s : ByteArray) : RL s.size (nmF s) (nmL s) := by
  refine ⟨by show s.data.size = (s.data.toList.map UInt8.toNat).length; rw [List.length_map, Array.length_toList], fun j hj => ?_⟩
  show ((UInt8.toNat (s.data.toList.getD j 0) : Nat) : Int) = (((s.data.toList.map UInt8.toNat).getD j 0 : Nat) : Int)
  congr 1
  rw [List.getD_eq_getElem?_getD, List.getD_eq_getElem?_getD, List.getElem?_map]
  cases s.data.toList[j]? <;> rfl
theorem w_nat {n : Nat} (h : n ≤ 281474976710656) : IntKind.wrap .u64 ((n : Nat) : Int) = (n : Int) := by rw [wrap64]; omega
theorem WInt_runs {v : Int} {n q : Nat} {f : Nat → Int} {l : List Nat} (hv : in64 v) (hl : RL n f l) (hn : n + 12 ≤ 70368744177664) (hq : 10 < q) :
    Rs (WIntA q (v, n, f)) (fun z => RL z.1 z.2 (l ++ encI v)) := by
  unfold WIntA t_WIntA
  simp only
  rw [zig_eq hv]
  exact Rs.bind (putA_runs (zig_lt hv) hl hn hq) fun z hz => Rs.some hz
theorem WUint_runs {v n q : Nat} {f : Nat → Int} {l : List Nat} (hv : W64 v) (hl : RL n f l) (hn : n + 12 ≤ 70368744177664) (hq : 10 < q) :
    Rs (WUintA q ((v : Int), n, f)) (fun z => RL z.1 z.2 (l ++ enc v)) := by
  unfold WUintA t_WUintA
  exact Rs.bind (putA_runs hv hl hn hq) fun z hz => Rs.some hz
theorem WBytes_runs {n q : Nat} {f : Nat → Int} {l : List Nat} (hl : RL n f l) (hn : n + 12 ≤ 70368744177664) (hq : 12 < q) :
    Rs (WBytesZ q (n, f)) (fun z => RL z.1 z.2 (enc l.length ++ l)) := by
  unfold WBytesZ t_WBytesZ
  simp only
  have h1 := hl.1
  rw [w_nat (by omega)]
  refine Rs.bind (putZ_runs (by unfold W64; omega) hq) fun z hz => ?_
  have h2 := hz.1
  have h3 := enc_len64 (v := n) (by omega)
  refine Rs.pos (room_ok (by first | omega | (dsimp only; omega))) (Rs.some ?_)
  rw [← h1]
  exact hz.app hl fun j _ => rfl
theorem enc_lenI {v : Int} (h : in64 v) : (encI v).length ≤ 10 := enc_len64 (zig_lt h)
theorem encP_drop {ins : List (Int × Int)} {i : Nat} (hi : i < ins.length) : encP (ins.drop i) = encI (ins.getD i (0, 0)).1 ++ encI (ins.getD i (0, 0)).2 ++ encP (ins.drop (i + 1)) := by
  have e : ins.getD i (0, 0) = ins[i] := by simp [List.getD_eq_getElem?_getD, hi]
  rw [e, List.drop_eq_getElem_cons hi]
  rfl
theorem Encode_loop {nm : ByteArray} {ps vs : Int} {N : Nat} {op ar : Nat → Int} {ins : List (Int × Int)} {q : Nat} (hI : RI N op ar ins) (hN : N ≤ 17592186044416) (h64 : ∀ j, j < N → in64 (op j) ∧ in64 (ar j)) (hq : 12 < q)
    {ca : a_WBytesZ → Option g_WBytesZ} {cb : a_WUintA → Option g_WUintA} {cc : a_Done → Option g_Done} : ∀ (r q' i n : Nat) (f : Nat → Int) (l : List Nat), i + r = N → RL n f l → n + 20 * r + 12 ≤ 70368744177664 → r < q' →
    Rs (Encode_l0 ca (WIntA q) cb cc q' (nm, ps, vs, N, op, ar) (n, f, (i : Int))) (fun z => RL z.1 z.2 (l ++ encP (ins.drop i)) ∧ z.1 ≤ n + 20 * r) := by
  intro r
  induction r with
  | zero =>
    intro q' i n f l hi hl hn hq'
    obtain ⟨q', rfl⟩ : ∃ q, q' = q + 1 := ⟨q' - 1, by omega⟩
    refine Rs.step3 fun Q hQ => ?_
    unfold Encode_l0_t
    refine Rs.neg (by simp; omega) (Rs.some ?_)
    have : ins.drop i = [] := List.drop_eq_nil_of_le (by have := hI.1; omega)
    rw [this]
    exact ⟨by simpa [encP] using hl, by simp⟩
  | succ r ih =>
    intro q' i n f l hi hl hn hq'
    obtain ⟨q', rfl⟩ : ∃ q, q' = q + 1 := ⟨q' - 1, by omega⟩
    refine Rs.step3 fun Q hQ => ?_
    unfold Encode_l0_t
    refine Rs.pos (by simp; omega) (Rs.pos (by simp; omega) ?_)
    simp only [Int.toNat_natCast]
    have hiN : i < N := by omega
    obtain ⟨e1, e2⟩ := hI.2 i hiN
    obtain ⟨h1, h2⟩ := h64 i hiN
    refine Rs.bind (WInt_runs h1 hl (by omega) (by omega)) fun z hz => ?_
    have g1 := hz.1
    rw [List.length_append] at g1
    have g2 := enc_lenI h1
    have g0 := hl.1
    refine Rs.bind (WInt_runs h2 (n := z.1) (f := z.2) hz (by omega) (by omega)) fun z2 hz2 => ?_
    have g3 := hz2.1
    rw [List.length_append, List.length_append] at g3
    have g4 := enc_lenI h2
    refine Rs.some (hQ _ ?_)
    have e3 : IntKind.wrap .i64 ((i : Int) + 1) = ((i + 1 : Nat) : Int) := by rw [wrapI (by unfold in64; omega)]; simp
    have := ih q' (i + 1) z2.1 z2.2 _ (by omega) hz2 (by omega) (by omega)
    rw [← e3] at this
    refine this.mono ?_
    rintro z3 ⟨k1, k2⟩
    refine ⟨?_, by omega⟩
    rw [encP_drop (by rw [← hI.1]; exact hiN), ← e1, ← e2]
    simpa only [List.append_assoc] using k1
theorem Done_runs {n q : Nat} {f : Nat → Int} {l : List Nat} (hl : RL n f l) (hn : n ≤ 70368744177664) : Rs (Done q (n, f)) (fun z => RL z.1 z.2.2.2.2 l) := by
  unfold Done t_Done cloneO
  simp only
  rw [if_pos (by unfold roomBound; omega)]
  refine Rs.some ?_
  exact ⟨hl.1, fun j hj => by simpa using hl.2 j hj⟩
theorem Encode_runs {nm : ByteArray} {ps vs : Int} {N : Nat} {op ar : Nat → Int} {ins : List (Int × Int)} {q : Nat} (hI : RI N op ar ins) (hs : nm.size ≤ 17592186044416) (hN : N ≤ 1099511627776) (hps : in64 ps) (hvs : in64 vs) (h64 : ∀ j, j < N → in64 (op j) ∧ in64 (ar j)) (hq : N + 12 < q) :
    Rs (Encode q (nm, ps, vs, N, op, ar)) (fun z => RL z.1 z.2 (encC (nmL nm) ps vs ins)) := by
  unfold Encode t_Encode
  have hnm := nm_RL nm
  have hl : (nmL nm).length = nm.size := hnm.1.symm
  refine Rs.pos (by show nm.size ≤ maxLen; unfold maxLen; omega) ?_
  simp only
  refine Rs.bind (WBytes_runs hnm (by omega) (by omega)) fun z hz => ?_
  have k1 := hz.1
  have k2 := enc_len64 (v := (nmL nm).length) (by omega)
  rw [List.length_append] at k1
  refine Rs.bind (WInt_runs hps (n := z.1) (f := z.2) hz (by omega) (by omega)) fun z2 hz2 => ?_
  have k3 := hz2.1
  have k4 := enc_lenI hps
  rw [List.length_append, List.length_append] at k3
  refine Rs.bind (WInt_runs hvs (n := z2.1) (f := z2.2) hz2 (by omega) (by omega)) fun z3 hz3 => ?_
  have k5 := hz3.1
  have k6 := enc_lenI hvs
  rw [List.length_append, List.length_append, List.length_append] at k5
  rw [w_nat (by omega)]
  refine Rs.bind (WUint_runs (v := N) (n := z3.1) (f := z3.2) (by unfold W64; omega) hz3 (by omega) (by omega)) fun z4 hz4 => ?_
  have k7 := hz4.1
  have k8 := enc_len64 (v := N) (by omega)
  rw [List.length_append, List.length_append, List.length_append, List.length_append] at k7
  refine Rs.bind (Encode_loop (nm := nm) (ps := ps) (vs := vs) hI (by omega) h64 (by omega) N q 0 z4.1 z4.2 _ (by omega) hz4 (by omega) (by omega)) ?_
  rintro z5 ⟨hz5, k9⟩
  refine Rs.bind (Done_runs (n := z5.1) (f := z5.2) hz5 (by omega)) fun z6 hz6 => Rs.some ?_
  rw [hI.1, List.drop_zero] at hz6
  simpa only [encC, List.append_assoc] using hz6
end Go.Proofs.YtcljccpddodckaaGreatDoor
/- What is written by the reference; byte slices and code compared. -/
namespace Go.Proofs.YtcljccpddodckaaGreatDoor
open Go Go.Am Go.Wire
set_option linter.unusedSimpArgs false
set_option linter.unusedVariables false
set_option maxRecDepth 100000
theorem rZig_runs {v : Int} {q : Nat} (h : in64 v) : Rs (rZig q v) (fun z => z = (zig v : Int)) := by
  unfold in64 at h
  unfold rZig t_rZig
  refine Rs.ite (fun h0 => Rs.some ?_) (fun h0 => Rs.some ?_)
  · have h0 : 0 ≤ v := by simpa using h0
    rw [wrap64, wrap64, zig, if_pos h0]
    show (2 * (v % 18446744073709551616) % 18446744073709551616 : Int) = ((2 * v).toNat : Int)
    omega
  · have h0 : ¬ 0 ≤ v := by simpa using h0
    show IntKind.u64.wrap (IntKind.u64.wrap (2 * IntKind.u64.wrap (IntKind.wrap .i64 (0 - IntKind.wrap .i64 (v + 1)))) + 1) = (zig v : Int)
    rw [wrapI (x := v + 1) (by unfold in64; omega), wrapI (x := (0 : Int) - (v + 1)) (by unfold in64; omega), wrap64, wrap64, wrap64, zig, if_neg h0]; omega
theorem rInt_runs {v : Int} {q : Nat} (h : in64 v) (hq : 12 < q) : Rs (rInt q v) (fun z => RL z.1 z.2 (encI v)) := by
  unfold rInt t_rInt
  refine Rs.bind (rZig_runs h) ?_
  rintro z rfl
  exact Rs.bind (rUint_runs (zig_lt h) hq) fun z hz => Rs.some hz
theorem rBytes_runs {n q : Nat} {f : Nat → Int} {l : List Nat} (hl : RL n f l) (hn : n + 12 ≤ 70368744177664) (hq : 12 < q) :
    Rs (rBytes q (n, f)) (fun z => RL z.1 z.2 (enc l.length ++ l)) := by
  unfold rBytes t_rBytes
  simp only
  have h1 := hl.1
  rw [w_nat (by omega)]
  refine Rs.bind (rUint_runs (by unfold W64; omega) hq) fun z hz => ?_
  have h2 := hz.1
  have h3 := enc_len64 (v := n) (by omega)
  refine Rs.pos (room_ok (by omega)) (Rs.some ?_)
  rw [← h1]
  exact hz.app hl fun j _ => rfl
theorem RL.app0 {n m : Nat} {f g k : Nat → Int} {l l' : List Nat} (h : RL n f l) (h' : RL m g l') (hk : ∀ j, j < n + m → k j = if j < n then f j else g (0 + (j - n))) : RL (n + m) k (l ++ l') :=
  h.app h' fun j hj => by rw [hk j hj, Nat.zero_add]
theorem rEncode_loop {nm : ByteArray} {ps vs : Int} {N : Nat} {op ar : Nat → Int} {ins : List (Int × Int)} {q : Nat} (hI : RI N op ar ins) (hN : N ≤ 17592186044416) (h64 : ∀ j, j < N → in64 (op j) ∧ in64 (ar j)) (hq : 12 < q)
    {ca : a_rBytes → Option g_rBytes} {cb : a_rUint → Option g_rUint} : ∀ (r q' i n : Nat) (f : Nat → Int) (l : List Nat), i + r = N → RL n f l → n + 20 * r + 12 ≤ 70368744177664 → r < q' →
    Rs (rEncode_l0 ca (rInt q) cb q' (nm, ps, vs, N, op, ar) (n, f, (i : Int))) (fun z => RL z.1 z.2 (l ++ encP (ins.drop i))) := by
  intro r
  induction r with
  | zero =>
    intro q' i n f l hi hl hn hq'
    obtain ⟨q', rfl⟩ : ∃ q, q' = q + 1 := ⟨q' - 1, by omega⟩
    refine Rs.step3 fun Q hQ => ?_
    unfold rEncode_l0_t
    refine Rs.neg (by simp; omega) (Rs.some ?_)
    have : ins.drop i = [] := List.drop_eq_nil_of_le (by have := hI.1; omega)
    rw [this]
    simpa [encP] using hl
  | succ r ih =>
    intro q' i n f l hi hl hn hq'
    obtain ⟨q', rfl⟩ : ∃ q, q' = q + 1 := ⟨q' - 1, by omega⟩
    refine Rs.step3 fun Q hQ => ?_
    unfold rEncode_l0_t
    refine Rs.pos (by simp; omega) (Rs.pos (by simp; omega) ?_)
    simp only [Int.toNat_natCast]
    have hiN : i < N := by omega
    obtain ⟨e1, e2⟩ := hI.2 i hiN
    obtain ⟨h1, h2⟩ := h64 i hiN
    refine Rs.bind (rInt_runs h1 (by omega)) fun z hz => ?_
    have g1 := hz.1
    have g2 := enc_lenI h1
    have g0 := hl.1
    refine Rs.pos (by constructor <;> first | omega | trivial) (Rs.pos (room_ok (by omega)) (Rs.pos (by omega) ?_))
    refine Rs.bind (rInt_runs h2 (by omega)) fun z2 hz2 => ?_
    have g3 := hz2.1
    have g4 := enc_lenI h2
    refine Rs.pos (by constructor <;> first | omega | trivial) (Rs.pos (room_ok (by omega)) ?_)
    refine Rs.some (hQ _ ?_)
    have e3 : IntKind.wrap .i64 ((i : Int) + 1) = ((i + 1 : Nat) : Int) := by rw [wrapI (by unfold in64; omega)]; simp
    have := ih q' (i + 1) (n + z.1 + z2.1) _ _ (by omega) (RL.app0 (RL.app0 (k := fun j => if j < n then f j else z.2 (0 + (j - n))) hl hz fun j _ => rfl) hz2 fun j _ => rfl) (by omega) (by omega)
    rw [← e3] at this
    refine this.mono fun z3 k1 => ?_
    rw [encP_drop (by rw [← hI.1]; exact hiN), ← e1, ← e2]
    simpa only [List.append_assoc] using k1
theorem rEncode_runs {nm : ByteArray} {ps vs : Int} {N : Nat} {op ar : Nat → Int} {ins : List (Int × Int)} {q : Nat} (hI : RI N op ar ins) (hs : nm.size ≤ 17592186044416) (hN : N ≤ 1099511627776) (hps : in64 ps) (hvs : in64 vs) (h64 : ∀ j, j < N → in64 (op j) ∧ in64 (ar j)) (hq : N + 12 < q) :
    Rs (rEncode q (nm, ps, vs, N, op, ar)) (fun z => RL z.1 z.2 (encC (nmL nm) ps vs ins)) := by
  unfold rEncode t_rEncode
  have hnm := nm_RL nm
  have hl : (nmL nm).length = nm.size := hnm.1.symm
  refine Rs.pos (by show nm.size ≤ maxLen; unfold maxLen; omega) ?_
  simp only
  refine Rs.bind (rBytes_runs hnm (by omega) (by omega)) fun z hz => ?_
  have k1 := hz.1
  have k2 := enc_len64 (v := (nmL nm).length) (by omega)
  rw [List.length_append] at k1
  refine Rs.bind (rInt_runs hps (by omega)) fun z2 hz2 => ?_
  have k3 := hz2.1
  have k4 := enc_lenI hps
  refine Rs.pos (by constructor <;> first | omega | trivial) (Rs.pos (room_ok (by omega)) ?_)
  refine Rs.bind (rInt_runs hvs (by omega)) fun z3 hz3 => ?_
  have k5 := hz3.1
  have k6 := enc_lenI hvs
  refine Rs.pos (by constructor <;> first | omega | trivial) (Rs.pos (room_ok (by omega)) ?_)
  rw [w_nat (by omega)]
  refine Rs.bind (rUint_runs (v := N) (by unfold W64; omega) (by omega)) fun z4 hz4 => ?_
  have k7 := hz4.1
  have k8 := enc_len64 (v := N) (by omega)
  refine Rs.pos (by constructor <;> first | omega | trivial) (Rs.pos (room_ok (by omega)) ?_)
  have hall := RL.app0 (k := fun j => if j < z.1 + z2.1 + z3.1 then if j < z.1 + z2.1 then if j < z.1 then z.2 j else z2.2 (0 + (j - z.1)) else z3.2 (0 + (j - (z.1 + z2.1))) else z4.1 (0 + (j - (z.1 + z2.1 + z3.1)))) (RL.app0 (k := fun j => if j < z.1 + z2.1 then if j < z.1 then z.2 j else z2.2 (0 + (j - z.1)) else z3.2 (0 + (j - (z.1 + z2.1)))) (RL.app0 (k := fun j => if j < z.1 then z.2 j else z2.2 (0 + (j - z.1))) hz hz2 fun j _ => rfl) hz3 fun j _ => rfl) hz4 fun j _ => rfl
  refine Rs.bind (rEncode_loop (nm := nm) (ps := ps) (vs := vs) hI (by omega) h64 (by omega) N q 0 _ _ _ (by omega) hall (by omega) (by omega)) ?_
  intro z5 hz5
  refine Rs.some ?_
  rw [hI.1, List.drop_zero] at hz5
  simpa only [encC, List.append_assoc] using hz5
def bytesOf (l : List Nat) : ByteArray := ⟨(l.map UInt8.ofNat).toArray⟩
theorem strOfV_RL {n : Nat} {f : Nat → Int} {l : List Nat} (h : RL n f l) : strOfV n (fun j => [u8 (f j)]) = bytesOf l := by
  unfold strOfV strOfNums bytesOf
  congr 2
  rw [List.map_map]
  apply List.ext_getElem?
  intro i
  simp only [List.getElem?_map]
  by_cases hi : i < n
  · have hi' : i < l.length := by rw [← h.1]; exact hi
    rw [List.getElem?_range hi, List.getElem?_eq_getElem hi']
    have := h.2 i hi
    simp only [Option.map_some, Function.comp, u8I, this, List.getD_eq_getElem?_getD, List.getElem?_eq_getElem hi', Option.getD_some, Int.toNat_natCast]
  · have hi' : ¬ i < l.length := by rw [← h.1]; exact hi
    rw [List.getElem?_eq_none (by simp; omega), List.getElem?_eq_none (by omega)]
    rfl
theorem all_u8 {n : Nat} {f : Nat → Int} : (List.all (List.range n) fun (j : Nat) => u8c [u8 (f j)]) = true := by
  rw [List.all_eq_true]
  intro j _
  rfl
theorem SameB_runs {n m q : Nat} {f g : Nat → Int} {l : List Nat} (h : RL n f l) (h' : RL m g l) : Rs (SameB q (n, f, m, g)) (fun z => z = true) := by
  unfold SameB t_SameB
  refine Rs.pos all_u8 (Rs.pos all_u8 (Rs.some ?_))
  simp only
  rw [strOfV_RL h, strOfV_RL h']
  exact beq_self_eq_true _
theorem nm_bytes (s : ByteArray) : bytesOf (nmL s) = s := by
  unfold bytesOf nmL
  rw [List.map_map]
  have : (UInt8.ofNat ∘ UInt8.toNat) = id := by
    funext x
    show UInt8.ofNat x.toNat = x
    exact UInt8.ofNat_toNat
  rw [this, List.map_id]
theorem bytes_nm {l : List Nat} (h : ∀ c ∈ l, c < 256) : nmL (bytesOf l) = l := by
  unfold bytesOf nmL
  simp only [List.map_map]
  conv => rhs; rw [← List.map_id l]
  refine List.map_congr_left fun c hc => ?_
  have := h c hc
  simp only [Function.comp, id]
  rw [UInt8.toNat_ofNat']
  omega
theorem Same_loop {nm nm' : ByteArray} {ps vs ps' vs' : Int} {n n' : Nat} {op ar op' ar' : Nat → Int} (hn : n = n') (he : ∀ j, j < n → op j = op' j ∧ ar j = ar' j) (hb : n ≤ 281474976710656) : ∀ (r q i : Nat), i + r = n → r < q →
    Rs (Same_l0 q (nm, ps, vs, n, op, ar, nm', ps', vs', n', op', ar') (i : Int)) (fun z => z = .inr ()) := by
  intro r
  induction r with
  | zero =>
    intro q i hi hq
    obtain ⟨q, rfl⟩ : ∃ q', q = q' + 1 := ⟨q - 1, by omega⟩
    refine Rs.step3 fun Q hQ => ?_
    unfold Same_l0_t
    exact Rs.neg (by simp; omega) (Rs.some rfl)
  | succ r ih =>
    intro q i hi hq
    obtain ⟨q, rfl⟩ : ∃ q', q = q' + 1 := ⟨q - 1, by omega⟩
    refine Rs.step3 fun Q hQ => ?_
    unfold Same_l0_t
    obtain ⟨h1, h2⟩ := he i (by omega)
    refine Rs.pos (by simp; omega) (Rs.pos (by simp; omega) (Rs.pos (by simp; omega) (Rs.neg ?_ (Rs.some (hQ _ ?_)))))
    · simp [h1, h2]
    · have e3 : IntKind.wrap .i64 ((i : Int) + 1) = ((i + 1 : Nat) : Int) := by rw [wrapI (by unfold in64; omega)]; simp
      have := ih q (i + 1) (by omega) (by omega)
      rw [← e3] at this
      exact this
theorem Same_runs {nm : ByteArray} {ps vs : Int} {n n' q : Nat} {op ar op' ar' : Nat → Int} (hn : n = n') (he : ∀ j, j < n → op j = op' j ∧ ar j = ar' j) (hb : n ≤ 281474976710656) (hq : n < q) : Rs (Same q (nm, ps, vs, n, op, ar, nm, ps, vs, n', op', ar')) (fun z => z = true) := by
  unfold Same t_Same
  refine Rs.neg (by simp) (Rs.neg (by simp) (Rs.neg (by simp) (Rs.neg (by simp [hn]) ?_)))
  refine Rs.bind (Same_loop hn he hb n q 0 (by omega) (by omega)) ?_
  rintro z rfl
  exact Rs.some rfl
end Go.Proofs.YtcljccpddodckaaGreatDoor
/- What is read: the program. -/
namespace Go.Proofs.YtcljccpddodckaaGreatDoor
open Go Go.Am Go.Wire
set_option linter.unusedSimpArgs false
set_option linter.unusedVariables false
set_option maxRecDepth 100000
abbrev Bys (l : List Nat) : Prop := ∀ c ∈ l, c < 256
theorem Bys.drop {l : List Nat} (h : Bys l) (k : Nat) : Bys (l.drop k) := fun c hc => h c (List.mem_of_mem_drop hc)
def PS (L : List Nat) (s : Sx) (p e : Int) : Prop := match s with
  | .inl er => e = er ∧ er ≠ 0
  | .inr l => e = 0 ∧ ∃ k : Nat, p = (k : Int) ∧ k ≤ L.length ∧ l = L.drop k
theorem getD_mem {l : List Nat} {j : Nat} (h : j < l.length) : l.getD j 0 ∈ l := by
  rw [List.getD_eq_getElem?_getD, List.getElem?_eq_getElem h]
  exact List.getElem_mem h
theorem drop_cons {l : List Nat} {j : Nat} (h : j < l.length) : l.drop j = l.getD j 0 :: l.drop (j + 1) := by
  rw [List.drop_eq_getElem_cons h, List.getD_eq_getElem?_getD, List.getElem?_eq_getElem h]
  rfl
theorem pair2 {α β : Type} {a a' : α} {b b' : β} (h : a = a') (h' : b = b') : (a, b) = (a', b') := by subst h h'; rfl
def UZ (k a : Nat) (L : List Nat) (r : Int ⊕ (Nat × List Nat)) (z : RUint_l0_g) : Prop := match r with
  | .inl er => ∃ p', z = .inl (p', er)
  | .inr (v, rest) => ∃ p' : Nat, z = .inr (((a + 128 ^ k * v : Nat) : Int), (p' : Int)) ∧ p' ≤ L.length ∧ rest = L.drop p'
theorem RUint_loop {n : Nat} {f : Nat → Int} {L : List Nat} (hL : RL n f L) (hB : Bys L) (hn : n ≤ 140737488355328) (p0 e0 : Int) : ∀ (r q k a p : Nat), k + r = 9 → r < q → a < 128 ^ k → p ≤ n →
    Rs (RUint_l0 q (p0, e0, n, f) ((a : Int), (k : Int), (p : Int))) (UZ k a L (ru k (L.drop p))) := by
  have hLn := hL.1
  intro r
  induction r with
  | zero =>
    intro q k a p hk hq ha hp
    obtain ⟨q, rfl⟩ : ∃ q', q = q' + 1 := ⟨q - 1, by omega⟩
    obtain rfl : k = 9 := by omega
    refine Rs.step3 fun Q hQ => ?_
    unfold RUint_l0_t
    by_cases hpn : p = n
    · subst hpn
      refine Rs.pos (by simp) (Rs.some ?_)
      rw [List.drop_eq_nil_of_le (by omega), ru]
      exact ⟨_, rfl⟩
    · have hpl : p < L.length := by omega
      refine Rs.neg (by simp; omega) (Rs.pos (by simp; omega) (Rs.pos ⟨by simp; omega, rfl⟩ ?_))
      have hc := hL.2 p (by omega)
      have hcb := hB _ (getD_mem hpl)
      rw [drop_cons hpl] at hQ ⊢
      generalize L.getD p 0 = c at hc hcb hQ ⊢
      simp only [Int.toNat_natCast, Nat.zero_add, hc]
      refine Rs.pos (by simp) (Rs.ite (fun h => Rs.some ?_) (fun h => ?_))
      · have h1 : c ≠ 1 := by intro h1; subst h1; simp at h
        rw [ru, if_pos (.inl ⟨rfl, h1⟩)]
        exact ⟨_, rfl⟩
      · have h1 : c = 1 := by simp at h; omega
        refine Rs.pos (by simp) (Rs.neg (by simp; omega) (Rs.neg (by show ¬ IntKind.wrap .i64 ((7 : Int) * ((9 : Nat) : Int)) < 0; rw [wrapI (by unfold in64; omega)]; omega) (Rs.pos (by simp; omega) (Rs.some ?_))))
        rw [ru, if_neg (by omega), if_pos (by omega)]
        refine ⟨p + 1, ?_, by omega, rfl⟩
        have e1 := acc_eq ha hcb (by decide) (fun _ => h1)
        have e2 : IntKind.wrap .i64 ((p : Int) + 1) = ((p + 1 : Nat) : Int) := by rw [wrapI (by unfold in64; omega)]; simp
        have e3 : c % 128 * 128 ^ 9 = 128 ^ 9 * c := by rw [Nat.mod_eq_of_lt (by omega), Nat.mul_comm]
        rw [e3] at e1
        exact congrArg Sum.inr (pair2 e1 e2)
  | succ r ih =>
    intro q k a p hk hq ha hp
    obtain ⟨q, rfl⟩ : ∃ q', q = q' + 1 := ⟨q - 1, by omega⟩
    refine Rs.step3 fun Q hQ => ?_
    unfold RUint_l0_t
    by_cases hpn : p = n
    · subst hpn
      refine Rs.pos (by simp) (Rs.some ?_)
      rw [List.drop_eq_nil_of_le (by omega), ru]
      exact ⟨_, rfl⟩
    · have hpl : p < L.length := by omega
      refine Rs.neg (by simp; omega) (Rs.pos (by simp; omega) (Rs.pos ⟨by simp; omega, rfl⟩ ?_))
      have hc := hL.2 p (by omega)
      have hcb := hB _ (getD_mem hpl)
      rw [drop_cons hpl] at hQ ⊢
      generalize L.getD p 0 = c at hc hcb hQ ⊢
      simp only [Int.toNat_natCast, Nat.zero_add, hc]
      have e2 : IntKind.wrap .i64 ((p : Int) + 1) = ((p + 1 : Nat) : Int) := by rw [wrapI (by unfold in64; omega)]; simp
      have e4 : IntKind.wrap .i64 ((k : Int) + 1) = ((k + 1 : Nat) : Int) := by rw [wrapI (by unfold in64; omega)]; simp
      have e5 : ¬ (IntKind.wrap .i64 ((7 : Int) * (k : Int)) < 0) := by rw [wrapI (by unfold in64; omega)]; omega
      have e1 := acc_eq ha hcb (by omega) (fun h => by omega)
      have leaf : ¬ (0 < k ∧ c = 0) → Rs (if decide ((c : Int) < 128) = true then (some (.inr (.inr (orI IntKind.u64 (a : Int) (shlI IntKind.u64 (IntKind.wrap IntKind.u64 (andI IntKind.u8 (c : Int) 127)) (w ((7 : Int) * (k : Int)))), w ((p : Int) + 1)))) : Option (RUint_l0_a ⊕ RUint_l0_g)) else some (.inl (orI IntKind.u64 (a : Int) (shlI IntKind.u64 (IntKind.wrap IntKind.u64 (andI IntKind.u8 (c : Int) 127)) (w ((7 : Int) * (k : Int)))), w ((k : Int) + 1), w ((p : Int) + 1)))) (Sum.elim Q (UZ k a L (ru k (c :: L.drop (p + 1))))) := by
        intro hg
        refine Rs.ite (fun h => Rs.some ?_) (fun h => Rs.some ?_)
        · have h1 : c < 128 := by simp at h; omega
          rw [ru, if_neg (by omega), if_pos h1]
          refine ⟨p + 1, ?_, by omega, rfl⟩
          have e3 : c % 128 * 128 ^ k = 128 ^ k * c := by rw [Nat.mod_eq_of_lt h1, Nat.mul_comm]
          rw [e3] at e1
          exact congrArg Sum.inr (pair2 e1 e2)
        · have h1 : ¬ c < 128 := by simp at h; omega
          refine hQ _ ?_
          have ha' : a + c % 128 * 128 ^ k < 128 ^ (k + 1) := by
            have : c % 128 * 128 ^ k ≤ 127 * 128 ^ k := Nat.mul_le_mul_right _ (by omega)
            rw [Nat.pow_succ]; omega
          have := ih q (k + 1) (a + c % 128 * 128 ^ k) (p + 1) (by omega) (by omega) ha' (by omega)
          rw [← e1, ← e2, ← e4] at this
          refine this.mono fun z hz => ?_
          rw [ru, if_neg (by omega), if_neg h1]
          cases hr : ru (k + 1) (L.drop (p + 1)) with
          | inl er => rw [hr] at hz; exact hz
          | inr vr =>
            obtain ⟨v, rest⟩ := vr
            rw [hr] at hz
            obtain ⟨p', hz1, hz2, hz3⟩ := hz
            refine ⟨p', ?_, hz2, hz3⟩
            rw [hz1]
            congr 2
            have : a + c % 128 * 128 ^ k + 128 ^ (k + 1) * v = a + 128 ^ k * (c % 128 + 128 * v) := by
              rw [Nat.pow_succ, Nat.mul_add, Nat.mul_comm (c % 128), Nat.mul_assoc]; omega
            rw [this]
      refine Rs.neg (by simp; omega) (Rs.ite (fun h => Rs.ite (fun h0 => Rs.some ?_) (fun h0 => Rs.neg e5 (leaf ?_))) (fun h => Rs.neg e5 (leaf ?_)))
      · have h1 : 0 < k := by simp at h; omega
        have h2 : c = 0 := by simp at h0; omega
        rw [ru, if_pos (.inr ⟨h1, h2⟩)]
        exact ⟨_, rfl⟩
      · intro hh; rw [hh.2] at h0; simp at h0
      · intro hh; simp at h; omega
theorem rdU_lt {s : Sx} (hB : ∀ l, s = .inr l → Bys l) : W64 (rdU s).1 := by
  cases s with
  | inl e => show (0 : Nat) < 18446744073709551616; decide
  | inr l =>
    cases hr : ru 0 l with
    | inl e => simp only [rdU, hr]; show (0 : Nat) < 18446744073709551616; decide
    | inr vr =>
      obtain ⟨v, r⟩ := vr
      simp only [rdU, hr]
      have := (ru_enc l 0 v r (by decide) (hB l rfl) hr).2.2
      simpa using this
theorem PS.bys {L : List Nat} {s : Sx} {p e : Int} (h : PS L s p e) (hB : Bys L) : ∀ l, s = .inr l → Bys l := by
  intro l hl
  subst hl
  obtain ⟨_, k, _, _, rfl⟩ := h
  exact hB.drop k
section
variable {n q : Nat} {f : Nat → Int} {L : List Nat} {s : Sx} {p e : Int} (hL : RL n f L) (hB : Bys L) (hn : n ≤ 140737488355328) (hq : 10 < q)
include hL hB hn hq
theorem RUint_runs (h : PS L s p e) : Rs (RUint q (p, e, n, f)) (fun z => ∃ p' e', z = (n, p', e', f, ((rdU s).1 : Int)) ∧ PS L (rdU s).2 p' e') := by
  unfold RUint t_RUint
  cases s with
  | inl er =>
    obtain ⟨rfl, h0⟩ := h
    exact Rs.pos (by simpa using h0) (Rs.some ⟨_, _, rfl, rfl, h0⟩)
  | inr l =>
    obtain ⟨rfl, k, rfl, hk, rfl⟩ := h
    refine Rs.neg (by simp) ?_
    refine Rs.bind (RUint_loop hL hB hn k 0 9 q 0 0 k (by decide) (by omega) (by decide) (by have := hL.1; omega)) fun z hz => ?_
    cases hr : ru 0 (L.drop k) with
    | inl er =>
      rw [hr] at hz
      obtain ⟨p', rfl⟩ := hz
      refine Rs.some ⟨p', er, ?_, ?_⟩
      · simp only [rdU, hr]; rfl
      · simp only [rdU, hr]
        have := ru_pos hr
        exact ⟨rfl, by omega⟩
    | inr vr =>
      obtain ⟨v, rest⟩ := vr
      rw [hr] at hz
      obtain ⟨p', rfl, h2, h3⟩ := hz
      refine Rs.some ⟨(p' : Int), 0, ?_, ?_⟩
      · simp only [rdU, hr]
        have : 0 + 128 ^ 0 * v = v := by simp
        rw [this]
      · simp only [rdU, hr]
        exact ⟨rfl, p', rfl, h2, h3⟩
theorem RInt_runs (h : PS L s p e) : Rs (RInt q (p, e, n, f)) (fun z => ∃ p' e', z = ((rdI s).1, n, p', e', f) ∧ PS L (rdI s).2 p' e') := by
  unfold RInt t_RInt
  refine Rs.bind (RUint_runs hL hB hn hq h) ?_
  rintro z ⟨p', e', rfl, hp⟩
  refine Rs.some ⟨p', e', ?_, hp⟩
  simp only
  rw [zag_eq (rdU_lt (h.bys hB))]
  rfl
theorem RBytes_runs (h : PS L s p e) : Rs (RBytes1 q (64, p, e, n, f)) (fun z => ∃ p' e' l g, z = (p', e', n, f, l, g) ∧ PS L (rdB 64 s).2 p' e' ∧ RL l g (rdB 64 s).1) := by
  have hLn := hL.1
  unfold RBytes1 RBytes t_RBytes RSize t_RSize
  have hu := rdU_lt (h.bys hB)
  have nil : ∀ (er : Int) (p' : Int), er ≠ 0 → rdB 64 s = ([], .inl er) → ∃ p'' e' l g, ((p', er, n, f, 0, fun _ => 0) : g_RBytes1) = (p'', e', n, f, l, g) ∧ PS L (rdB 64 s).2 p'' e' ∧ RL l g (rdB 64 s).1 := by
    intro er p' h0 hb
    refine ⟨p', er, 0, fun _ => 0, rfl, ?_, ?_⟩
    · rw [hb]; exact ⟨rfl, h0⟩
    · rw [hb]; exact ⟨rfl, fun j hj => absurd hj (Nat.not_lt_zero j)⟩
  have hR := RUint_runs hL hB hn hq h
  cases hs2 : (rdU s).2 with
  | inl er =>
    have hb : rdB 64 s = ([], .inl er) := by unfold rdB; rw [hs2]
    refine Rs.bind (P := fun z => ∃ p', z = .inl (n, p', f, er) ∧ er ≠ 0) (Rs.bind (P := fun z => ∃ u p', z = (u, n, p', f, false, er) ∧ er ≠ 0) (Rs.bind hR ?_) ?_) ?_
    · rintro z ⟨p', e', rfl, hp⟩
      rw [hs2] at hp
      obtain ⟨rfl, h0⟩ := hp
      refine Rs.neg (by simpa using h0) (Rs.some ⟨w ((rdU s).1 : Int), p', ?_, h0⟩)
      have : (e' == (0 : Int)) = false := by simpa using h0
      simp only [this]
    · rintro z ⟨u, p', rfl, h0⟩
      exact Rs.neg (by simp) (Rs.pos (by simpa using h0) (Rs.some ⟨p', rfl, h0⟩))
    · rintro z ⟨p', rfl, h0⟩
      exact Rs.some (nil er p' h0 hb)
  | inr l =>
    by_cases h64 : 64 < (rdU s).1
    · have hb : rdB 64 s = ([], .inl 2) := by unfold rdB; rw [hs2]; simp only; rw [if_pos h64]
      refine Rs.bind (P := fun z => ∃ p', z = .inl (n, p', f, 2)) (Rs.bind (P := fun z => ∃ u p', z = (u, n, p', f, false, 2)) (Rs.bind hR ?_) ?_) ?_
      · rintro z ⟨p', e', rfl, hp⟩
        rw [hs2] at hp
        obtain ⟨rfl, _⟩ := hp
        refine Rs.pos (by simp) (Rs.neg (by simp) (Rs.pos ?_ (Rs.some ⟨_, p', rfl⟩)))
        rw [wrap64, decide_eq_true_eq]
        simp only
        omega
      · rintro z ⟨u, p', rfl⟩
        exact Rs.neg (by simp) (Rs.pos (by simp) (Rs.some ⟨p', rfl⟩))
      · rintro z ⟨p', rfl⟩
        exact Rs.some (nil 2 p' (by decide) hb)
    · refine Rs.bind (P := fun z => ∃ k : Nat, k ≤ n ∧ l = L.drop k ∧ if l.length < (rdU s).1 then z = .inl (n, (k : Int), f, 6) else z = .inr ((rdU s).1, n, ((k + (rdU s).1 : Nat) : Int), 0, n, f, fun j => f (k + j))) (Rs.bind (P := fun z => ∃ k : Nat, k ≤ n ∧ l = L.drop k ∧ z = (((rdU s).1 : Int), n, (k : Int), f, true, 0)) (Rs.bind hR ?_) ?_) ?_
      · rintro z ⟨p', e', rfl, hp⟩
        rw [hs2] at hp
        obtain ⟨rfl, k, rfl, hk, hl⟩ := hp
        refine Rs.pos (by simp) (Rs.neg (by simp) (Rs.neg ?_ (Rs.some ⟨k, by omega, hl, ?_⟩)))
        · rw [wrap64, decide_eq_true_eq]
          simp only
          omega
        · simp only [beq_self_eq_true]
          have : IntKind.wrap .i64 ((rdU s).1 : Int) = ((rdU s).1 : Int) := wrapI (by unfold in64; omega)
          show (IntKind.wrap .i64 ((rdU s).1 : Int), _) = _
          rw [this]
      · rintro z ⟨k, hk, hl, rfl⟩
        have hll : l.length = n - k := by rw [hl, List.length_drop]; omega
        have e1 : IntKind.wrap .i64 (((n : Nat) : Int) - (k : Int)) = ((n - k : Nat) : Int) := by rw [wrapI (by unfold in64; omega)]; omega
        refine Rs.pos rfl ?_
        by_cases h6 : l.length < (rdU s).1
        · refine Rs.pos ?_ (Rs.some ⟨k, hk, hl, ?_⟩)
          · show decide (((rdU s).1 : Int) > IntKind.wrap .i64 (((n : Nat) : Int) - (k : Int))) = true
            rw [e1, decide_eq_true_eq]; omega
          · rw [if_pos h6]
        · refine Rs.neg ?_ (Rs.neg (by simp) ?_)
          · show ¬ decide (((rdU s).1 : Int) > IntKind.wrap .i64 (((n : Nat) : Int) - (k : Int))) = true
            rw [e1, decide_eq_true_eq]; omega
          · have e2 : IntKind.wrap .i64 ((k : Int) + ((rdU s).1 : Int)) = ((k + (rdU s).1 : Nat) : Int) := by rw [wrapI (by unfold in64; omega)]; omega
            have e3 : IntKind.wrap .i64 (((k + (rdU s).1 : Nat) : Int) - ((rdU s).1 : Int)) = (k : Int) := by rw [wrapI (by unfold in64; omega)]; omega
            simp only [e2, e3]
            refine Rs.pos (by omega) ?_
            unfold cloneO
            simp only [Int.toNat_natCast, Nat.zero_add]
            have e4 : k + (rdU s).1 - k = (rdU s).1 := by omega
            rw [e4, if_pos (by unfold roomBound; omega)]
            refine Rs.some ⟨k, hk, hl, ?_⟩
            rw [if_neg h6]
      · rintro z ⟨k, hk, hl, hz⟩
        have hll : l.length = n - k := by rw [hl, List.length_drop]; omega
        by_cases h6 : l.length < (rdU s).1
        · rw [if_pos h6] at hz
          subst hz
          have hb : rdB 64 s = ([], .inl 6) := by unfold rdB; rw [hs2]; simp only; rw [if_neg h64, if_pos h6]
          exact Rs.some (nil 6 k (by decide) hb)
        · rw [if_neg h6] at hz
          subst hz
          have hb : rdB 64 s = (l.take (rdU s).1, .inr (l.drop (rdU s).1)) := by unfold rdB; rw [hs2]; simp only; rw [if_neg h64, if_neg h6]
          simp only [Sum.elim_inr]
          refine Rs.pos (by trivial) (Rs.some ⟨_, _, _, _, rfl, ?_, ?_⟩)
          · rw [hb]
            exact ⟨rfl, k + (rdU s).1, rfl, by omega, by rw [hl, List.drop_drop]⟩
          · rw [hb]
            refine ⟨by rw [List.length_take]; omega, fun j hj => ?_⟩
            show f (k + j) = (((l.take (rdU s).1).getD j 0 : Nat) : Int)
            rw [hL.2 (k + j) (by omega), hl]
            congr 1
            simp only [List.getD_eq_getElem?_getD]
            rw [List.getElem?_take_of_lt hj, List.getElem?_drop]
end
end Go.Proofs.YtcljccpddodckaaGreatDoor
/- Code read: the program. -/
namespace Go.Proofs.YtcljccpddodckaaGreatDoor
open Go Go.Am Go.Wire
set_option linter.unusedSimpArgs false
set_option linter.unusedVariables false
set_option maxRecDepth 100000
theorem RI.snoc {m : Nat} {op ar op' ar' : Nat → Int} {l : List (Int × Int)} {a b : Int} (h : RI m op ar l) (h1 : ∀ j, j < m + 1 → op' j = if j < m then op j else a) (h2 : ∀ j, j < m + 1 → ar' j = if j < m then ar j else b) : RI (m + 1) op' ar' (l ++ [(a, b)]) := by
  refine ⟨by rw [List.length_append, h.1]; rfl, fun j hj => ?_⟩
  rw [h1 j hj, h2 j hj, getD_app, ← h.1]
  by_cases hm : j < m
  · rw [if_pos hm, if_pos hm, if_pos hm]; exact h.2 j hm
  · rw [if_neg hm, if_neg hm, if_neg hm]
    have : j - m = 0 := by omega
    rw [this]; exact ⟨rfl, rfl⟩
theorem RI.one {a b : Int} : RI 1 (fun _ => a) (fun _ => b) [(a, b)] := by
  refine ⟨rfl, fun j hj => ?_⟩
  obtain rfl : j = 0 := by omega
  exact ⟨rfl, rfl⟩
theorem RI.nil {op ar : Nat → Int} : RI 0 op ar [] := ⟨rfl, fun j hj => absurd hj (Nat.not_lt_zero j)⟩
theorem rdL_err (k : Nat) (e : Int) : rdL k (.inl e) = ([], .inl e) := by cases k <;> rfl
def EndP (s : Sx) (r : Int) : Prop := match s with
  | .inl er => r = er ∧ er ≠ 0
  | .inr l => if l = [] then r = 0 else r = 7
theorem REnd_runs {n q : Nat} {f : Nat → Int} {L : List Nat} (hL : RL n f L) {s : Sx} {p e : Int} (hP : PS L s p e) : Rs (REnd q (p, e, n, f)) (fun z => ∃ r, z = (n, p, e, f, r) ∧ EndP s r) := by
  have hLn := hL.1
  unfold REnd t_REnd
  cases s with
  | inl er =>
    obtain ⟨rfl, h0⟩ := hP
    exact Rs.neg (by simpa using h0) (Rs.some ⟨_, rfl, rfl, h0⟩)
  | inr l =>
    obtain ⟨rfl, k, rfl, hk, rfl⟩ := hP
    refine Rs.pos (by simp) (Rs.ite (fun h => Rs.some ⟨_, rfl, ?_⟩) (fun h => Rs.some ⟨_, rfl, ?_⟩))
    · have h1 : k < n := by simp at h; omega
      show (if L.drop k = [] then (7 : Int) = 0 else (7 : Int) = 7)
      rw [if_neg (by rw [List.drop_eq_nil_iff]; omega)]
    · have h1 : ¬ k < n := by simp at h; omega
      show (if L.drop k = [] then (0 : Int) = 0 else (0 : Int) = 7)
      rw [if_pos (by rw [List.drop_eq_nil_iff]; omega)]
def DT (n : Nat) (f : Nat → Int) (L : List Nat) (nm : ByteArray) (ps vs : Int) (fr : List (Int × Int) × Sx) (z : Decode_l0_g) : Prop :=
  (∃ p e, z = .inl (n, p, e, f, nm, ps, vs) ∧ PS L fr.2 p e ∧ fr.1 = []) ∨ (∃ p e m op ar, z = .inr (n, p, e, f, nm, ps, vs, m, op, ar) ∧ PS L fr.2 p e ∧ RI m op ar fr.1)
def DR (r : Int ⊕ (List Nat × Int × Int × List (Int × Int))) (z : ByteArray × Int × Int × Int × Nat × (Nat → Int) × (Nat → Int)) : Prop := match r with
  | .inl e => e ≠ 0 ∧ z.1 = ⟨#[]⟩ ∧ z.2.1 = 0 ∧ z.2.2.1 = 0 ∧ z.2.2.2.1 = e ∧ z.2.2.2.2.1 = 0
  | .inr (nm, ps, vs, ins) => z.1 = bytesOf nm ∧ z.2.1 = ps ∧ z.2.2.1 = vs ∧ z.2.2.2.1 = 0 ∧ RI z.2.2.2.2.1 z.2.2.2.2.2.1 z.2.2.2.2.2.2 ins
abbrev mapD : g_Decode → ByteArray × Int × Int × Int × Nat × (Nat → Int) × (Nat → Int) := Sum.elim (fun z => (z.2.1, z.2.2.1, z.2.2.2, z.1, 0, fun _ => 0, fun _ => 0)) (fun z => (z.1, z.2.1, z.2.2.1, 0, z.2.2.2.1, z.2.2.2.2.1, z.2.2.2.2.2))
def endD (nm : List Nat) (ps vs : Int) (fr : List (Int × Int) × Sx) : Int ⊕ (List Nat × Int × Int × List (Int × Int)) := match fr.2 with
  | .inl e => .inl e
  | .inr r => if r = [] then .inr (nm, ps, vs, fr.1) else .inl 7
theorem Dleaf {n q : Nat} {f : Nat → Int} {L : List Nat} (hL : RL n f L) {nm : List Nat} {ps vs : Int} {fr : List (Int × Int) × Sx} {z : Decode_l0_g} (h : DT n f L (bytesOf nm) ps vs fr z) :
    Rs (Sum.elim (fun (z297a : Nat × Int × Int × (Nat → Int) × ByteArray × Int × Int) =>
           (REnd q ((z297a.2.1, z297a.2.2.1, z297a.1, z297a.2.2.2.1))).bind fun z302 =>
            if (z302.2.2.2.2 != (0 : Int)) = true then
             some (.inl ((z302.2.2.2.2, { data := #[] }, (0 : Int), (0 : Int))))
            else
             some (.inl (((0 : Int), z297a.2.2.2.2)))) (fun z297b =>
           (REnd q ((z297b.2.1, z297b.2.2.1, z297b.1, z297b.2.2.2.1))).bind fun z308 =>
            if (z308.2.2.2.2 != (0 : Int)) = true then
             some (.inl ((z308.2.2.2.2, { data := #[] }, (0 : Int), (0 : Int))))
            else
             some (.inr (z297b.2.2.2.2))) z : Option g_Decode) (fun r => DR (endD nm ps vs fr) (mapD r)) := by
  rcases h with ⟨p, e, rfl, hP, h0⟩ | ⟨p, e, m, op, ar, rfl, hP, hI⟩
  all_goals
    simp only [Sum.elim_inl, Sum.elim_inr]
    refine Rs.bind (REnd_runs hL hP) ?_
    rintro z ⟨r, rfl, hr⟩
    simp only
    unfold endD
    cases hs : fr.2 with
    | inl er =>
      rw [hs] at hr
      obtain ⟨rfl, h1⟩ := hr
      exact Rs.pos (by simpa using h1) (Rs.some ⟨h1, rfl, rfl, rfl, rfl, rfl⟩)
    | inr l =>
      rw [hs] at hr
      simp only [EndP] at hr ⊢
      by_cases hl : l = []
      · rw [if_pos hl] at hr ⊢
        subst hr
        refine Rs.neg (by simp) (Rs.some ?_)
        first | exact ⟨rfl, rfl, rfl, rfl, hI⟩ | exact ⟨rfl, rfl, rfl, rfl, by rw [h0]; exact RI.nil⟩
      · rw [if_neg hl] at hr ⊢
        subst hr
        exact Rs.pos (by decide) (Rs.some ⟨by decide, rfl, rfl, rfl, rfl, rfl⟩)
section
variable {n q : Nat} {f : Nat → Int} {L : List Nat} (hL : RL n f L) (hB : Bys L) (hn : n ≤ 140737488355328) (hq : 310 < q)
include hL hB hn hq
theorem Decode_loop1 {ca : a_NewReader → Option g_NewReader} {cb : a_RBytes1 → Option g_RBytes1} {cd : a_RUint → Option g_RUint} {ce : a_RFail → Option g_RFail} {cf : a_REnd → Option g_REnd} {N : Nat} {nm : ByteArray} {ps vs : Int} :
    ∀ (r q' m : Nat) (op ar : Nat → Int) (l0 : List (Int × Int)) (s : Sx) (p e : Int), RI m op ar l0 → PS L s p e → ((∃ l, s = .inr l) → m + r = N ∧ N ≤ 300) → r < q' →
      Rs (Decode_l0 ca cb (RInt q) cd ce (RErr q) cf q' (n, f) (.inr ((N : Int), n, p, e, f, nm, ps, vs, op, ar, m))) (fun z => ∃ p' e' m' op' ar', z = .inr (n, p', e', f, nm, ps, vs, m', op', ar') ∧ PS L (rdL r s).2 p' e' ∧ RI m' op' ar' (l0 ++ (rdL r s).1)) := by
  intro r
  induction r with
  | zero =>
    intro q' m op ar l0 s p e hI hP hs hq'
    obtain ⟨q', rfl⟩ : ∃ q, q' = q + 1 := ⟨q' - 1, by omega⟩
    refine Rs.step3 fun Q hQ => ?_
    simp only [Sum.elim_inr]
    unfold Decode_l0_t1 RErr t_RErr
    simp only [Option.bind_some]
    have fin : (∃ p' e' m' op' ar', (Sum.inr (n, p, e, f, nm, ps, vs, m, op, ar) : Decode_l0_g) = .inr (n, p', e', f, nm, ps, vs, m', op', ar') ∧ PS L (rdL 0 s).2 p' e' ∧ RI m' op' ar' (l0 ++ (rdL 0 s).1)) := ⟨p, e, m, op, ar, rfl, hP, by simpa [rdL] using hI⟩
    cases s with
    | inl er =>
      obtain ⟨rfl, h0⟩ := hP
      exact Rs.neg (by simpa using h0) (Rs.some fin)
    | inr l =>
      obtain ⟨h1, h2⟩ := hs ⟨l, rfl⟩
      refine Rs.ite (fun _ => Rs.neg ?_ (Rs.some fin)) (fun _ => Rs.some fin)
      rw [w_nat (by omega)]; simp; omega
  | succ r ih =>
    intro q' m op ar l0 s p e hI hP hs hq'
    obtain ⟨q', rfl⟩ : ∃ q, q' = q + 1 := ⟨q' - 1, by omega⟩
    refine Rs.step3 fun Q hQ => ?_
    simp only [Sum.elim_inr]
    unfold Decode_l0_t1 RErr t_RErr
    simp only [Option.bind_some]
    cases s with
    | inl er =>
      obtain ⟨rfl, h0⟩ := hP
      refine Rs.neg (by simpa using h0) (Rs.some ⟨p, e, m, op, ar, rfl, ?_, ?_⟩)
      · rw [rdL_err]; exact ⟨rfl, h0⟩
      · rw [rdL_err]; simpa using hI
    | inr l =>
      obtain ⟨h1, h2⟩ := hs ⟨l, rfl⟩
      have he : e = 0 := hP.1
      refine Rs.pos (by simp [he]) (Rs.pos (by rw [w_nat (by omega)]; simp; omega) ?_)
      refine Rs.bind (RInt_runs hL hB hn (by omega) hP) ?_
      rintro z ⟨p1, e1, rfl, hP1⟩
      refine Rs.bind (RInt_runs hL hB hn (by omega) hP1) ?_
      rintro z ⟨p2, e2, rfl, hP2⟩
      refine Rs.pos (by unfold roomBound maxLen; omega) (Rs.some (hQ _ ?_))
      refine (ih q' (m + 1) _ _ (l0 ++ [((rdI (.inr l)).1, (rdI (rdI (.inr l)).2).1)]) (rdI (rdI (.inr l)).2).2 p2 e2 (hI.snoc (fun j _ => rfl) (fun j _ => rfl)) hP2 (fun _ => ⟨by omega, h2⟩) (by omega)).mono ?_
      rintro z ⟨p', e', m', op', ar', h3, h4, h5⟩
      refine ⟨p', e', m', op', ar', h3, h4, ?_⟩
      rw [List.append_assoc] at h5
      exact h5
theorem Decode_loop0 {ca : a_NewReader → Option g_NewReader} {cb : a_RBytes1 → Option g_RBytes1} {cd : a_RUint → Option g_RUint} {ce : a_RFail → Option g_RFail} {cf : a_REnd → Option g_REnd} {N : Nat} {nm : ByteArray} {ps vs : Int} {s : Sx} {p e : Int}
    (hP : PS L s p e) (hs : (∃ l, s = .inr l) → N ≤ 300) : Rs (Decode_l0 ca cb (RInt q) cd ce (RErr q) cf q (n, f) (.inl ((N : Int), n, p, e, f, nm, ps, vs))) (DT n f L nm ps vs (rdL N s)) := by
  obtain ⟨q', hq'⟩ : ∃ q', q = q' + 1 := ⟨q - 1, by omega⟩
  have key : Rs (Decode_l0 ca cb (RInt q) cd ce (RErr q) cf (q' + 1) (n, f) (.inl ((N : Int), n, p, e, f, nm, ps, vs))) (DT n f L nm ps vs (rdL N s)) := by
    refine Rs.step3 fun Q hQ => ?_
    simp only [Sum.elim_inl]
    unfold Decode_l0_t0 RErr t_RErr
    simp only [Option.bind_some]
    cases s with
    | inl er =>
      obtain ⟨rfl, h0⟩ := hP
      refine Rs.neg (by simpa using h0) (Rs.some (.inl ⟨p, e, rfl, ?_, ?_⟩))
      · rw [rdL_err]; exact ⟨rfl, h0⟩
      · rw [rdL_err]
    | inr l =>
      have h2 := hs ⟨l, rfl⟩
      have he : e = 0 := hP.1
      refine Rs.pos (by simp [he]) ?_
      cases N with
      | zero => exact Rs.neg (by simp) (Rs.some (.inl ⟨p, e, rfl, hP, rfl⟩))
      | succ N =>
        refine Rs.pos (by rw [decide_eq_true_eq]; omega) ?_
        refine Rs.bind (RInt_runs hL hB hn (by omega) hP) ?_
        rintro z ⟨p1, e1, rfl, hP1⟩
        refine Rs.bind (RInt_runs hL hB hn (by omega) hP1) ?_
        rintro z ⟨p2, e2, rfl, hP2⟩
        refine Rs.some (hQ _ ?_)
        refine (Decode_loop1 hL hB hn hq N q' 1 (fun _ => (rdI (.inr l)).1) (fun _ => (rdI (rdI (.inr l)).2).1) [((rdI (.inr l)).1, (rdI (rdI (.inr l)).2).1)] (rdI (rdI (.inr l)).2).2 p2 e2 RI.one hP2 (fun _ => ⟨by omega, h2⟩) (by omega)).mono ?_
        rintro z ⟨p', e', m', op', ar', h3, h4, h5⟩
        exact .inr ⟨p', e', m', op', ar', h3, h4, h5⟩
  rw [← hq'] at key
  exact key
theorem Decode_runs : Rs (Decode1 q (n, f)) (DR (decC L)) := by
  unfold Decode1
  refine Rs.map (P := fun r => DR (decC L) (mapD r)) ?_ (fun z hz => hz)
  unfold Decode t_Decode NewReader t_NewReader cloneR
  simp only
  rw [if_pos (by unfold roomBound; omega)]
  simp only [Option.bind_some]
  have hP0 : PS L (.inr L) 0 0 := ⟨rfl, 0, rfl, Nat.zero_le _, by simp⟩
  refine Rs.bind (RBytes_runs hL hB hn (by omega) hP0) ?_
  rintro z ⟨p1, e1, l1, g1, rfl, hP1, hg⟩
  refine Rs.pos (by simp) (Rs.pos all_u8 ?_)
  have hname : strOfV l1 (fun j => [u8 (g1 (0 + j))]) = bytesOf (rdB 64 (.inr L)).1 := by
    refine strOfV_RL (f := fun j => g1 (0 + j)) ⟨hg.1, fun j hj => ?_⟩
    show g1 (0 + j) = _
    rw [Nat.zero_add]; exact hg.2 j hj
  simp only [hname]
  refine Rs.bind (RInt_runs hL hB hn (by omega) hP1) ?_
  rintro z ⟨p2, e2, rfl, hP2⟩
  refine Rs.bind (RInt_runs hL hB hn (by omega) hP2) ?_
  rintro z ⟨p3, e3, rfl, hP3⟩
  refine Rs.bind (RUint_runs hL hB hn (by omega) hP3) ?_
  rintro z ⟨p4, e4, rfl, hP4⟩
  have hdec : decC L = endD (rdB 64 (.inr L)).1 (rdI (rdB 64 (.inr L)).2).1 (rdI (rdI (rdB 64 (.inr L)).2).2).1 (rdL (rdU (rdI (rdI (rdB 64 (.inr L)).2).2).2).1 (capS (rdU (rdI (rdI (rdB 64 (.inr L)).2).2).2).1 (rdU (rdI (rdI (rdB 64 (.inr L)).2).2).2).2)) := rfl
  rw [hdec]
  generalize rdU (rdI (rdI (rdB 64 (.inr L)).2).2).2 = d at hP4 ⊢
  simp only
  refine Rs.ite (fun h => ?_) (fun h => ?_)
  · have h300 : 300 < d.1 := by simp at h; omega
    refine Rs.bind (P := fun z => ∃ p e, z = (n, p, e, f) ∧ PS L (capS d.1 d.2) p e) ?_ ?_
    · unfold RFail t_RFail capS
      rw [if_pos h300]
      cases hd : d.2 with
      | inl er =>
        rw [hd] at hP4
        obtain ⟨rfl, h0⟩ := hP4
        exact Rs.neg (by simpa using h0) (Rs.some ⟨_, _, rfl, rfl, h0⟩)
      | inr l =>
        rw [hd] at hP4
        obtain ⟨rfl, _⟩ := hP4
        exact Rs.pos (by simp) (Rs.some ⟨_, _, rfl, rfl, by decide⟩)
    · rintro z ⟨p5, e5, rfl, hP5⟩
      refine Rs.bind (Decode_loop0 hL hB hn hq hP5 (fun ⟨l, hl⟩ => ?_)) fun z hz => Dleaf hL hz
      unfold capS at hl
      rw [if_pos h300] at hl
      split at hl <;> cases hl
  · have h300 : ¬ 300 < d.1 := by simp at h; omega
    have hc : capS d.1 d.2 = d.2 := by unfold capS; rw [if_neg h300]
    rw [hc]
    exact Rs.bind (Decode_loop0 hL hB hn hq hP4 (fun _ => by omega)) fun z hz => Dleaf hL hz
end
end Go.Proofs.YtcljccpddodckaaGreatDoor
/- Code read: the reference. -/
namespace Go.Proofs.YtcljccpddodckaaGreatDoor
open Go Go.Am Go.Wire
set_option linter.unusedSimpArgs false
set_option linter.unusedVariables false
set_option maxRecDepth 100000
def RS (s : Sx) (n : Nat) (f : Nat → Int) (e : Int) : Prop := match s with
  | .inl er => e = er ∧ er ≠ 0
  | .inr l => e = 0 ∧ RL n f l ∧ Bys l ∧ n ≤ 140737488355328
theorem RS.bys {s : Sx} {n : Nat} {f : Nat → Int} {e : Int} (h : RS s n f e) : ∀ l, s = .inr l → Bys l := by
  intro l hl
  subst hl
  exact h.2.2.1
theorem RL.drop {n m : Nat} {f g : Nat → Int} {l : List Nat} {k : Nat} (h : RL n f l) (hk : k ≤ n) (hm : m = n - k) (hg : ∀ j, g j = f (k + j)) : RL m g (l.drop k) := by
  subst hm
  refine ⟨by rw [List.length_drop, h.1], fun j hj => ?_⟩
  rw [hg, h.2 (k + j) (by omega)]
  simp only [List.getD_eq_getElem?_getD, List.getElem?_drop]
theorem radd {a c k : Nat} (ha : a < 128 ^ k) (hc : c < 256) (hk : k ≤ 9) (h9 : k = 9 → c = 1) :
    IntKind.wrap .u64 ((a : Int) + IntKind.wrap .u64 (IntKind.wrap .u64 (Int.tmod (c : Int) 128) * ((128 ^ k : Nat) : Int))) = ((a + c % 128 * 128 ^ k : Nat) : Int) := by
  have hp : 128 ^ k ≤ 9223372036854775808 := by
    have : (128 : Nat) ^ k ≤ 128 ^ 9 := Nat.pow_le_pow_right (by decide) hk
    simpa using this
  have hb : a + c % 128 * 128 ^ k < 18446744073709551616 := by
    by_cases h : k = 9
    · subst h
      have := h9 rfl
      subst this
      simp at ha ⊢
      omega
    · have h8 : (128 : Nat) ^ k ≤ 128 ^ 8 := Nat.pow_le_pow_right (by decide) (by omega)
      have h8' : (128 : Nat) ^ k ≤ 72057594037927936 := by simpa using h8
      have h10 : c % 128 * 128 ^ k ≤ 127 * 128 ^ k := Nat.mul_le_mul_right _ (by omega)
      omega
  have e1 : Int.tmod (c : Int) 128 = ((c % 128 : Nat) : Int) := rfl
  rw [e1, wrap64, wrap64, wrap64]
  have e2 : (((c % 128 : Nat) : Int) % 18446744073709551616) = ((c % 128 : Nat) : Int) := by omega
  rw [e2]
  have e4 : ((c % 128 : Nat) : Int) * ((128 ^ k : Nat) : Int) = ((c % 128 * 128 ^ k : Nat) : Int) := (Int.natCast_mul _ _).symm
  rw [e4]
  omega
theorem rpow {k : Nat} (hk : k < 9) : IntKind.wrap .u64 (((128 ^ k : Nat) : Int) * 128) = ((128 ^ (k + 1) : Nat) : Int) := by
  have hp : (128 : Nat) ^ (k + 1) ≤ 128 ^ 9 := Nat.pow_le_pow_right (by decide) (by omega)
  have hp' : (128 : Nat) ^ (k + 1) ≤ 9223372036854775808 := by simpa using hp
  rw [wrap64]
  have : ((128 ^ k : Nat) : Int) * 128 = ((128 ^ (k + 1) : Nat) : Int) := by rw [Nat.pow_succ]; simp
  rw [this]
  generalize (128 : Nat) ^ (k + 1) = y at hp' ⊢
  omega
def UR (n : Nat) (f : Nat → Int) (k a : Nat) (r : Int ⊕ (Nat × List Nat)) (z : rRUint_l0_g) : Prop := match r with
  | .inl er => z = .inl (n, f, er, 0)
  | .inr (v, rest) => ∃ n' f', z = .inl (n', f', 0, ((a + 128 ^ k * v : Nat) : Int)) ∧ RL n' f' rest ∧ n' ≤ n
theorem rRUint_loop {n q0 : Nat} {f : Nat → Int} {L : List Nat} (hL : RL n f L) (hB : Bys L) (hn : n ≤ 140737488355328) : ∀ (r q k a : Nat), k + r = 9 → r < q → a < 128 ^ k →
    Rs (rRUint_l0 (rRfail q0) q (0, n, f) ((a : Int), ((128 ^ k : Nat) : Int), (k : Int))) (UR n f k a (ru k (L.drop k))) := by
  have hLn := hL.1
  intro r
  induction r with
  | zero =>
    intro q k a hk hq ha
    obtain ⟨q, rfl⟩ : ∃ q', q = q' + 1 := ⟨q - 1, by omega⟩
    obtain rfl : k = 9 := by omega
    refine Rs.step3 fun Q hQ => ?_
    unfold rRUint_l0_t rRfail t_rRfail
    refine Rs.pos (by simp) ?_
    by_cases hpn : n ≤ 9
    · refine Rs.pos (by simp; omega) (Rs.bind (Rs.pos (by simp) (Rs.some rfl)) ?_)
      rintro z rfl
      refine Rs.some ?_
      rw [List.drop_eq_nil_of_le (by omega), ru]
      rfl
    · have hpl : 9 < L.length := by omega
      refine Rs.neg (by simp; omega) (Rs.pos (by simp; omega) ?_)
      have hc := hL.2 9 (by omega)
      have hcb := hB _ (getD_mem hpl)
      rw [drop_cons hpl] at hQ ⊢
      generalize L.getD 9 0 = c at hc hcb hQ ⊢
      simp only [Int.toNat_natCast, hc]
      refine Rs.pos (by simp) (Rs.ite (fun h => Rs.bind (Rs.pos (by simp) (Rs.some rfl)) ?_) (fun h => ?_))
      · rintro z rfl
        refine Rs.some ?_
        have h1 : c ≠ 1 := by intro h1; subst h1; simp at h
        rw [ru, if_pos (.inl ⟨rfl, h1⟩)]
        rfl
      · have h1 : c = 1 := by simp at h; omega
        have e1 := radd ha hcb (by decide) (fun _ => h1)
        have e2 : IntKind.wrap .i64 (((9 : Nat) : Int) + 1) = 10 := rfl
        refine Rs.pos (by simp) (Rs.neg (by simp; omega) (Rs.pos (by simp; omega) (Rs.pos ?_ (Rs.some ?_))))
        · show (0 : Int) ≤ IntKind.wrap .i64 (((9 : Nat) : Int) + 1) ∧ IntKind.wrap .i64 (((9 : Nat) : Int) + 1) ≤ _ ∧ _
          rw [e2]; omega
        · rw [ru, if_neg (by omega), if_pos (by omega)]
          have e3 : c % 128 * 128 ^ 9 = 128 ^ 9 * c := by rw [Nat.mod_eq_of_lt (by omega), Nat.mul_comm]
          rw [e3] at e1
          refine ⟨_, _, congrArg Sum.inl (pair2 rfl (pair2 rfl (pair2 rfl e1))), RL.drop hL (k := 10) (by omega) ?_ (fun j => rfl), ?_⟩
          · rw [show w (((9 : Nat) : Int) + 1) = 10 from rfl]; simp
          · simp
  | succ r ih =>
    intro q k a hk hq ha
    obtain ⟨q, rfl⟩ : ∃ q', q = q' + 1 := ⟨q - 1, by omega⟩
    refine Rs.step3 fun Q hQ => ?_
    unfold rRUint_l0_t rRfail t_rRfail
    refine Rs.pos (by simp; omega) ?_
    by_cases hpn : n ≤ k
    · refine Rs.pos (by simp; omega) (Rs.bind (Rs.pos (by simp) (Rs.some rfl)) ?_)
      rintro z rfl
      refine Rs.some ?_
      rw [List.drop_eq_nil_of_le (by omega), ru]
      rfl
    · have hpl : k < L.length := by omega
      refine Rs.neg (by simp; omega) (Rs.pos (by simp; omega) ?_)
      have hc := hL.2 k (by omega)
      have hcb := hB _ (getD_mem hpl)
      rw [drop_cons hpl] at hQ ⊢
      generalize L.getD k 0 = c at hc hcb hQ ⊢
      simp only [Int.toNat_natCast, hc]
      have e2 : IntKind.wrap .i64 ((k : Int) + 1) = ((k + 1 : Nat) : Int) := by rw [wrapI (by unfold in64; omega)]; simp
      have e1 := radd ha hcb (by omega) (fun h => by omega)
      have e6 := rpow (k := k) (by omega)
      refine Rs.neg (by simp; omega) ?_
      by_cases hg : 0 < k ∧ c = 0
      · refine Rs.pos (by simp; omega) (Rs.pos (by simp [hg.2]) (Rs.bind (Rs.pos (by simp) (Rs.some rfl)) ?_))
        rintro z rfl
        refine Rs.some ?_
        rw [ru, if_pos (.inr hg)]
        rfl
      · have leaf : Rs (if decide ((c : Int) < 128) = true then (if (0 : Int) ≤ w ((k : Int) + 1) ∧ w ((k : Int) + 1) ≤ (n : Int) ∧ (n : Int) ≤ (n : Int) then (some (.inr (.inl ((n : Int).toNat - Int.toNat (w ((k : Int) + 1)), fun (j : Nat) => f (Int.toNat (w ((k : Int) + 1)) + j), 0, IntKind.wrap .u64 ((a : Int) + IntKind.wrap .u64 (IntKind.wrap .u64 (Int.tmod (c : Int) 128) * ((128 ^ k : Nat) : Int)))))) : Option (rRUint_l0_a ⊕ rRUint_l0_g)) else none)
            else some (.inl (IntKind.wrap .u64 ((a : Int) + IntKind.wrap .u64 (IntKind.wrap .u64 (Int.tmod (c : Int) 128) * ((128 ^ k : Nat) : Int))), IntKind.wrap .u64 (((128 ^ k : Nat) : Int) * 128), w ((k : Int) + 1)))) (Sum.elim Q (UR n f k a (ru k (c :: L.drop (k + 1))))) := by
          refine Rs.ite (fun h => Rs.pos (by show (0 : Int) ≤ IntKind.wrap .i64 ((k : Int) + 1) ∧ IntKind.wrap .i64 ((k : Int) + 1) ≤ _ ∧ _; rw [e2]; omega) (Rs.some ?_)) (fun h => Rs.some (hQ _ ?_))
          · have h1 : c < 128 := by simp at h; omega
            rw [ru, if_neg (by omega), if_pos h1]
            have e3 : c % 128 * 128 ^ k = 128 ^ k * c := by rw [Nat.mod_eq_of_lt h1, Nat.mul_comm]
            rw [e3] at e1
            have e7 : Int.toNat (w ((k : Int) + 1)) = k + 1 := by show Int.toNat (IntKind.wrap .i64 ((k : Int) + 1)) = _; rw [e2]; rfl
            refine ⟨_, _, congrArg Sum.inl (pair2 rfl (pair2 rfl (pair2 rfl e1))), RL.drop hL (k := k + 1) (by omega) ?_ (fun j => ?_), ?_⟩
            · rw [e7]; simp
            · rw [e7]
            · simp
          · have h1 : ¬ c < 128 := by simp at h; omega
            have ha' : a + c % 128 * 128 ^ k < 128 ^ (k + 1) := by
              have : c % 128 * 128 ^ k ≤ 127 * 128 ^ k := Nat.mul_le_mul_right _ (by omega)
              rw [Nat.pow_succ]; omega
            have := ih q (k + 1) (a + c % 128 * 128 ^ k) (by omega) (by omega) ha'
            rw [← e1, ← e2, ← e6] at this
            refine this.mono fun z hz => ?_
            rw [ru, if_neg (by omega), if_neg h1]
            cases hr : ru (k + 1) (L.drop (k + 1)) with
            | inl er => rw [hr] at hz; exact hz
            | inr vr =>
              obtain ⟨v, rest⟩ := vr
              rw [hr] at hz
              obtain ⟨n', f', hz1, hz2, hz3⟩ := hz
              refine ⟨n', f', ?_, hz2, hz3⟩
              rw [hz1]
              have : a + c % 128 * 128 ^ k + 128 ^ (k + 1) * v = a + 128 ^ k * (c % 128 + 128 * v) := by
                rw [Nat.pow_succ, Nat.mul_add, Nat.mul_comm (c % 128), Nat.mul_assoc]; omega
              rw [this]
        refine Rs.ite (fun h => Rs.neg ?_ leaf) (fun h => leaf)
        have h1 : 0 < k := by simp at h; omega
        simp; omega
theorem rZag_runs {q u : Nat} (hu : W64 u) : Rs (rZag q (u : Int)) (fun z => z = zag u) := by
  unfold W64 at hu
  have e1 : Int.tmod (u : Int) 2 = ((u % 2 : Nat) : Int) := rfl
  have e2 : Int.tdiv (u : Int) 2 = ((u / 2 : Nat) : Int) := rfl
  have e3 : IntKind.wrap .u64 ((u / 2 : Nat) : Int) = ((u / 2 : Nat) : Int) := by rw [wrap64]; omega
  have e4 : IntKind.wrap .i64 ((u / 2 : Nat) : Int) = ((u / 2 : Nat) : Int) := wrapI (by unfold in64; omega)
  unfold rZag t_rZag
  rw [e1, e2, e3]
  refine Rs.ite (fun h => Rs.some ?_) (fun h => Rs.some ?_)
  · have h0 : u % 2 = 0 := by simp at h; omega
    unfold zag
    rw [if_pos h0]
    exact e4
  · have h0 : ¬ u % 2 = 0 := by simp at h; omega
    show IntKind.wrap .i64 (IntKind.wrap .i64 ((0 : Int) - IntKind.wrap .i64 ((u / 2 : Nat) : Int)) - 1) = zag u
    unfold zag
    rw [if_neg h0, e4, wrapI (x := (0 : Int) - ((u / 2 : Nat) : Int)) (by unfold in64; omega), wrapI (by unfold in64; omega)]
    omega
theorem rREnd_runs {n q : Nat} {f : Nat → Int} {s : Sx} {e : Int} (h : RS s n f e) : Rs (rREnd q (e, n, f)) (fun z => EndP s z) := by
  unfold rREnd t_rREnd
  cases s with
  | inl er =>
    obtain ⟨rfl, h0⟩ := h
    exact Rs.neg (by simpa using h0) (Rs.some ⟨rfl, h0⟩)
  | inr l =>
    obtain ⟨rfl, h1, h2, h3⟩ := h
    have hl := h1.1
    refine Rs.pos (by simp) (Rs.ite (fun h => Rs.some ?_) (fun h => Rs.some ?_))
    · have hn : 0 < n := by simp at h; omega
      show (if l = [] then (7 : Int) = 0 else (7 : Int) = 7)
      rw [if_neg (by intro h; subst h; simp at hl; omega)]
    · have hn : n = 0 := by simp at h; omega
      show (if l = [] then (0 : Int) = 0 else (0 : Int) = 7)
      rw [if_pos (by cases l with
        | nil => rfl
        | cons a l => simp at hl; omega)]
section
variable {n q : Nat} {f : Nat → Int} {s : Sx} {e : Int} (hq : 310 < q)
include hq
theorem rRUint_runs (h : RS s n f e) : Rs (rRUint q (e, n, f)) (fun z => ∃ n' f' e', z = (n', f', e', ((rdU s).1 : Int)) ∧ RS (rdU s).2 n' f' e') := by
  unfold rRUint t_rRUint
  cases s with
  | inl er =>
    obtain ⟨rfl, h0⟩ := h
    exact Rs.pos (by simpa using h0) (Rs.some ⟨_, _, _, rfl, rfl, h0⟩)
  | inr l =>
    obtain ⟨rfl, hL, hB, hn⟩ := h
    refine Rs.neg (by simp) ?_
    refine Rs.bind (rRUint_loop (q0 := q) hL hB hn 9 q 0 0 (by decide) (by omega) (by decide)) fun z hz => ?_
    rw [List.drop_zero] at hz
    cases hr : ru 0 l with
    | inl er =>
      rw [hr] at hz
      obtain rfl := hz
      refine Rs.some ⟨n, f, er, ?_, ?_⟩
      · simp only [rdU, hr]; rfl
      · simp only [rdU, hr]
        have := ru_pos hr
        exact ⟨rfl, by omega⟩
    | inr vr =>
      obtain ⟨v, rest⟩ := vr
      rw [hr] at hz
      obtain ⟨n', f', rfl, h2, h3⟩ := hz
      have hb : Bys rest := by
        obtain ⟨e1, _, _⟩ := ru_enc l 0 v rest (by decide) hB hr
        intro c hc
        exact hB c (by rw [e1]; exact List.mem_append_right _ hc)
      refine Rs.some ⟨n', f', 0, ?_, ?_⟩
      · simp only [rdU, hr]
        have : 0 + 128 ^ 0 * v = v := by simp
        rw [this]
      · simp only [rdU, hr]
        exact ⟨rfl, h2, hb, by omega⟩
theorem rRInt_runs (h : RS s n f e) : Rs (rRInt q (e, n, f)) (fun z => ∃ n' f' e', z = (n', f', e', (rdI s).1) ∧ RS (rdI s).2 n' f' e') := by
  unfold rRInt t_rRInt
  refine Rs.bind (rRUint_runs hq h) ?_
  rintro z ⟨n', f', e', rfl, hp⟩
  refine Rs.bind (rZag_runs (rdU_lt h.bys)) ?_
  rintro z rfl
  exact Rs.some ⟨n', f', e', rfl, hp⟩
theorem rRBytes_runs (h : RS s n f e) : Rs (rRBytes1 q (64, e, n, f)) (fun z => ∃ n' f' e' l g, z = (n', f', e', l, g) ∧ RS (rdB 64 s).2 n' f' e' ∧ RL l g (rdB 64 s).1) := by
  unfold rRBytes1
  have nil : ∀ (er : Int) (n' : Nat) (f' : Nat → Int), er ≠ 0 → rdB 64 s = ([], .inl er) → ∃ n'' f'' e' l g, ((n', f', er, 0, fun _ => 0) : g_rRBytes1) = (n'', f'', e', l, g) ∧ RS (rdB 64 s).2 n'' f'' e' ∧ RL l g (rdB 64 s).1 := by
    intro er n' f' h0 hb
    refine ⟨n', f', er, 0, fun _ => 0, rfl, ?_, ?_⟩
    · rw [hb]; exact ⟨rfl, h0⟩
    · rw [hb]; exact ⟨rfl, fun j hj => absurd hj (Nat.not_lt_zero j)⟩
  have hu := rdU_lt h.bys
  have hR := rRUint_runs hq h
  unfold rRBytes t_rRBytes rRSize t_rRSize rRfail t_rRfail
  cases hs2 : (rdU s).2 with
  | inl er =>
    have hb : rdB 64 s = ([], .inl er) := by unfold rdB; rw [hs2]
    refine Rs.map (P := fun z => ∃ n' f', z = .inl (n', f', er) ∧ er ≠ 0) (Rs.bind (P := fun z => ∃ n' f', z = (n', f', er, 0) ∧ er ≠ 0) (Rs.bind hR ?_) ?_) ?_
    · rintro z ⟨n', f', e', rfl, hp⟩
      rw [hs2] at hp
      obtain ⟨rfl, h0⟩ := hp
      exact Rs.neg (by simpa using h0) (Rs.pos (by simpa using h0) (Rs.some ⟨n', f', rfl, h0⟩))
    · rintro z ⟨n', f', rfl, h0⟩
      exact Rs.neg (by simpa using h0) (Rs.pos (by simpa using h0) (Rs.some ⟨n', f', rfl, h0⟩))
    · rintro z ⟨n', f', rfl, h0⟩
      exact nil er n' f' h0 hb
  | inr l =>
    by_cases h64 : 64 < (rdU s).1
    · have hb : rdB 64 s = ([], .inl 2) := by unfold rdB; rw [hs2]; simp only; rw [if_pos h64]
      refine Rs.map (P := fun z => ∃ n' f', z = .inl (n', f', 2)) (Rs.bind (P := fun z => ∃ n' f', z = (n', f', 2, 0)) (Rs.bind hR ?_) ?_) ?_
      · rintro z ⟨n', f', e', rfl, hp⟩
        rw [hs2] at hp
        obtain ⟨rfl, _⟩ := hp
        refine Rs.pos (by simp) (Rs.neg (by simp) (Rs.pos ?_ (Rs.bind (Rs.pos (by simp) (Rs.some rfl)) ?_)))
        · rw [wrap64, decide_eq_true_eq]
          simp only
          omega
        · rintro z rfl
          exact Rs.pos (by simp) (Rs.some ⟨n', f', rfl⟩)
      · rintro z ⟨n', f', rfl⟩
        exact Rs.neg (by simp) (Rs.pos (by simp) (Rs.some ⟨n', f', rfl⟩))
      · rintro z ⟨n', f', rfl⟩
        exact nil 2 n' f' (by decide) hb
    · have e0 : IntKind.wrap .i64 ((rdU s).1 : Int) = ((rdU s).1 : Int) := wrapI (by unfold in64; omega)
      refine Rs.map (P := fun z => ∃ n' f', RL n' f' l ∧ Bys l ∧ n' ≤ 140737488355328 ∧ if l.length < (rdU s).1 then z = .inl (n', f', 6) else z = .inr (n' - (rdU s).1, fun j => f' ((rdU s).1 + j), 0, (rdU s).1, f')) (Rs.bind (P := fun z => ∃ n' f', RL n' f' l ∧ Bys l ∧ n' ≤ 140737488355328 ∧ z = (n', f', 0, ((rdU s).1 : Int))) (Rs.bind hR ?_) ?_) ?_
      · rintro z ⟨n', f', e', rfl, hp⟩
        rw [hs2] at hp
        obtain ⟨rfl, h1, h2, h3⟩ := hp
        refine Rs.pos (by simp) (Rs.neg (by simp) (Rs.neg ?_ (Rs.neg (by simp) (Rs.some ⟨n', f', h1, h2, h3, ?_⟩))))
        · rw [wrap64, decide_eq_true_eq]
          simp only
          omega
        · show (n', f', _, IntKind.wrap .i64 ((rdU s).1 : Int)) = _
          rw [e0]
      · rintro z ⟨n', f', h1, h2, h3, rfl⟩
        have hl := h1.1
        refine Rs.pos (by simp) ?_
        by_cases h6 : l.length < (rdU s).1
        · refine Rs.pos (by simp; omega) (Rs.bind (Rs.pos (by simp) (Rs.some rfl)) ?_)
          rintro z rfl
          refine Rs.pos (by simp) (Rs.some ⟨n', f', h1, h2, h3, ?_⟩)
          rw [if_pos h6]
        · refine Rs.neg (by simp; omega) (Rs.neg (by simp) (Rs.pos (by simp; omega) (Rs.pos ?_ (Rs.pos (by simp; omega) (Rs.some ⟨n', f', h1, h2, h3, ?_⟩)))))
          · simp only [Int.toNat_natCast]
            unfold roomBound maxLen
            omega
          · rw [if_neg h6]
            simp only [Int.toNat_natCast, Nat.zero_add, Nat.sub_zero]
      · rintro z ⟨n', f', h1, h2, h3, hz⟩
        have hl := h1.1
        by_cases h6 : l.length < (rdU s).1
        · rw [if_pos h6] at hz
          subst hz
          have hb : rdB 64 s = ([], .inl 6) := by unfold rdB; rw [hs2]; simp only; rw [if_neg h64, if_pos h6]
          exact nil 6 n' f' (by decide) hb
        · rw [if_neg h6] at hz
          subst hz
          have hb : rdB 64 s = (l.take (rdU s).1, .inr (l.drop (rdU s).1)) := by unfold rdB; rw [hs2]; simp only; rw [if_neg h64, if_neg h6]
          refine ⟨_, _, _, _, _, rfl, ?_, ?_⟩
          · rw [hb]
            exact ⟨rfl, h1.drop (by omega) rfl (fun j => rfl), h2.drop _, by omega⟩
          · rw [hb]
            refine ⟨by rw [List.length_take]; omega, fun j hj => ?_⟩
            show f' j = (((l.take (rdU s).1).getD j 0 : Nat) : Int)
            rw [h1.2 j (by omega)]
            congr 1
            simp only [List.getD_eq_getElem?_getD]
            rw [List.getElem?_take_of_lt hj]
end
end Go.Proofs.YtcljccpddodckaaGreatDoor
/- CompileDecode, CompileEncode: the laws. -/
namespace Go.Proofs.YtcljccpddodckaaGreatDoor
open Go Go.Am Go.Wire
set_option linter.unusedSimpArgs false
set_option linter.unusedVariables false
set_option maxRecDepth 100000
def DTr (nm : ByteArray) (ps vs : Int) (fr : List (Int × Int) × Sx) (z : rDecode_l0_g) : Prop :=
  (∃ n f e, z = .inl (nm, ps, vs, n, f, e) ∧ RS fr.2 n f e ∧ fr.1 = []) ∨ (∃ n f e m op ar, z = .inr (nm, ps, vs, m, op, ar, n, f, e) ∧ RS fr.2 n f e ∧ RI m op ar fr.1)
theorem rDleaf {q : Nat} {nm : List Nat} {ps vs : Int} {fr : List (Int × Int) × Sx} {z : rDecode_l0_g} (h : DTr (bytesOf nm) ps vs fr z) :
    Rs (Sum.elim (fun (z237a : ByteArray × Int × Int × Nat × (Nat → Int) × Int) =>
          (rREnd q ((z237a.2.2.2.2.2, z237a.2.2.2.1, z237a.2.2.2.2.1))).bind fun z241 =>
           if (z241 != (0 : Int)) = true then
            some (.inl ((z241, { data := #[] }, (0 : Int), (0 : Int))))
           else
            some (.inl (((0 : Int), z237a.1, z237a.2.1, z237a.2.2.1)))) (fun z237b =>
          (rREnd q ((z237b.2.2.2.2.2.2.2.2, z237b.2.2.2.2.2.2.1, z237b.2.2.2.2.2.2.2.1))).bind fun z246 =>
           if (z246 != (0 : Int)) = true then
            some (.inl ((z246, { data := #[] }, (0 : Int), (0 : Int))))
           else
            some (.inr ((z237b.1, z237b.2.1, z237b.2.2.1, z237b.2.2.2.1, z237b.2.2.2.2.1, z237b.2.2.2.2.2.1)))) z : Option g_rDecode) (fun r => DR (endD nm ps vs fr) (mapD r)) := by
  rcases h with ⟨n, f, e, rfl, hP, h0⟩ | ⟨n, f, e, m, op, ar, rfl, hP, hI⟩
  all_goals
    simp only [Sum.elim_inl, Sum.elim_inr]
    refine Rs.bind (rREnd_runs hP) ?_
    intro r hr
    unfold endD
    cases hs : fr.2 with
    | inl er =>
      rw [hs] at hr
      obtain ⟨rfl, h1⟩ := hr
      exact Rs.pos (by simpa using h1) (Rs.some ⟨h1, rfl, rfl, rfl, rfl, rfl⟩)
    | inr l =>
      rw [hs] at hr
      simp only [EndP] at hr ⊢
      by_cases hl : l = []
      · rw [if_pos hl] at hr ⊢
        subst hr
        refine Rs.neg (by simp) (Rs.some ?_)
        first | exact ⟨rfl, rfl, rfl, rfl, hI⟩ | exact ⟨rfl, rfl, rfl, rfl, by rw [h0]; exact RI.nil⟩
      · rw [if_neg hl] at hr ⊢
        subst hr
        exact Rs.pos (by decide) (Rs.some ⟨by decide, rfl, rfl, rfl, rfl, rfl⟩)
section
variable {q : Nat} (hq : 310 < q)
include hq
theorem rDecode_loop1 {ca : a_rRBytes1 → Option g_rRBytes1} {cd : a_rRUint → Option g_rRUint} {ce : a_rRFail → Option g_rRFail} {cf : a_rREnd → Option g_rREnd} {N : Nat} {nm : ByteArray} {ps vs : Int} {x : a_rDecode} :
    ∀ (r q' m n : Nat) (op ar f : Nat → Int) (l0 : List (Int × Int)) (s : Sx) (e : Int), RI m op ar l0 → RS s n f e → ((∃ l, s = .inr l) → m + r = N ∧ N ≤ 300) → r < q' → ∀ (i : Int), i = (m : Int) →
      Rs (rDecode_l0 ca (rRInt q) cd ce cf q' x (.inr ((N : Int), nm, ps, vs, op, ar, n, f, e, i, m))) (fun z => ∃ n' f' e' m' op' ar', z = .inr (nm, ps, vs, m', op', ar', n', f', e') ∧ RS (rdL r s).2 n' f' e' ∧ RI m' op' ar' (l0 ++ (rdL r s).1)) := by
  intro r
  induction r with
  | zero =>
    intro q' m n op ar f l0 s e hI hP hs hq' i hi
    subst hi
    obtain ⟨q', rfl⟩ : ∃ q, q' = q + 1 := ⟨q' - 1, by omega⟩
    refine Rs.step3 fun Q hQ => ?_
    simp only [Sum.elim_inr]
    unfold rDecode_l0_t1
    have fin : (∃ n' f' e' m' op' ar', (Sum.inr (nm, ps, vs, m, op, ar, n, f, e) : rDecode_l0_g) = .inr (nm, ps, vs, m', op', ar', n', f', e') ∧ RS (rdL 0 s).2 n' f' e' ∧ RI m' op' ar' (l0 ++ (rdL 0 s).1)) := ⟨n, f, e, m, op, ar, rfl, hP, by simpa [rdL] using hI⟩
    cases s with
    | inl er =>
      obtain ⟨rfl, h0⟩ := hP
      exact Rs.ite (fun _ => Rs.neg (by simpa using h0) (Rs.some fin)) (fun _ => Rs.some fin)
    | inr l =>
      obtain ⟨h1, h2⟩ := hs ⟨l, rfl⟩
      refine Rs.neg ?_ (Rs.some fin)
      show ¬ decide ((m : Int) < IntKind.wrap .i64 (N : Int)) = true
      rw [wrapI (by unfold in64; omega)]; simp; omega
  | succ r ih =>
    intro q' m n op ar f l0 s e hI hP hs hq' i hi
    subst hi
    obtain ⟨q', rfl⟩ : ∃ q, q' = q + 1 := ⟨q' - 1, by omega⟩
    refine Rs.step3 fun Q hQ => ?_
    simp only [Sum.elim_inr]
    unfold rDecode_l0_t1
    cases s with
    | inl er =>
      obtain ⟨rfl, h0⟩ := hP
      have fin : (∃ n' f' e' m' op' ar', (Sum.inr (nm, ps, vs, m, op, ar, n, f, e) : rDecode_l0_g) = .inr (nm, ps, vs, m', op', ar', n', f', e') ∧ RS (rdL (r + 1) (.inl e)).2 n' f' e' ∧ RI m' op' ar' (l0 ++ (rdL (r + 1) (.inl e)).1)) := ⟨n, f, e, m, op, ar, rfl, by rw [rdL_err]; exact ⟨rfl, h0⟩, by rw [rdL_err]; simpa using hI⟩
      exact Rs.ite (fun _ => Rs.neg (by simpa using h0) (Rs.some fin)) (fun _ => Rs.some fin)
    | inr l =>
      obtain ⟨h1, h2⟩ := hs ⟨l, rfl⟩
      have he : e = 0 := hP.1
      refine Rs.pos ?_ (Rs.pos (by simp [he]) ?_)
      · show decide ((m : Int) < IntKind.wrap .i64 (N : Int)) = true
        rw [wrapI (by unfold in64; omega)]; simp; omega
      refine Rs.bind (rRInt_runs hq hP) ?_
      rintro z ⟨n1, f1, e1, rfl, hP1⟩
      refine Rs.bind (rRInt_runs hq hP1) ?_
      rintro z ⟨n2, f2, e2, rfl, hP2⟩
      refine Rs.pos (by dsimp only; unfold roomBound maxLen; omega) (Rs.some (hQ _ ?_))
      refine (ih q' (m + 1) n2 _ _ f2 (l0 ++ [((rdI (.inr l)).1, (rdI (rdI (.inr l)).2).1)]) (rdI (rdI (.inr l)).2).2 e2 (hI.snoc (fun j _ => rfl) (fun j _ => rfl)) hP2 (fun _ => ⟨by omega, h2⟩) (by omega) _ ?_).mono ?_
      · show IntKind.wrap .i64 ((m : Int) + 1) = ((m + 1 : Nat) : Int)
        rw [wrapI (by unfold in64; omega)]; simp
      · rintro z ⟨n', f', e', m', op', ar', h3, h4, h5⟩
        refine ⟨n', f', e', m', op', ar', h3, h4, ?_⟩
        rw [List.append_assoc] at h5
        exact h5
theorem rDecode_loop0 {ca : a_rRBytes1 → Option g_rRBytes1} {cd : a_rRUint → Option g_rRUint} {ce : a_rRFail → Option g_rRFail} {cf : a_rREnd → Option g_rREnd} {N n : Nat} {nm : ByteArray} {ps vs e : Int} {s : Sx} {f : Nat → Int} {x : a_rDecode}
    (hP : RS s n f e) (hs : (∃ l, s = .inr l) → N ≤ 300) : Rs (rDecode_l0 ca (rRInt q) cd ce cf q x (.inl ((N : Int), nm, ps, vs, n, f, e))) (DTr nm ps vs (rdL N s)) := by
  obtain ⟨q', hq'⟩ : ∃ q', q = q' + 1 := ⟨q - 1, by omega⟩
  have key : Rs (rDecode_l0 ca (rRInt q) cd ce cf (q' + 1) x (.inl ((N : Int), nm, ps, vs, n, f, e))) (DTr nm ps vs (rdL N s)) := by
    refine Rs.step3 fun Q hQ => ?_
    simp only [Sum.elim_inl]
    unfold rDecode_l0_t0
    cases s with
    | inl er =>
      obtain ⟨rfl, h0⟩ := hP
      have fin : DTr nm ps vs (rdL N (.inl e)) (.inl (nm, ps, vs, n, f, e)) := .inl ⟨n, f, e, rfl, by rw [rdL_err]; exact ⟨rfl, h0⟩, by rw [rdL_err]⟩
      exact Rs.ite (fun _ => Rs.neg (by simpa using h0) (Rs.some fin)) (fun _ => Rs.some fin)
    | inr l =>
      have h2 := hs ⟨l, rfl⟩
      have he : e = 0 := hP.1
      have ew : w (N : Int) = (N : Int) := wrapI (by unfold in64; omega)
      cases N with
      | zero => exact Rs.neg (by simp only [ew]; simp) (Rs.some (.inl ⟨n, f, e, rfl, hP, rfl⟩))
      | succ N =>
        refine Rs.pos (by simp only [ew]; rw [decide_eq_true_eq]; omega) (Rs.pos (by simp [he]) ?_)
        refine Rs.bind (rRInt_runs hq hP) ?_
        rintro z ⟨n1, f1, e1, rfl, hP1⟩
        refine Rs.bind (rRInt_runs hq hP1) ?_
        rintro z ⟨n2, f2, e2, rfl, hP2⟩
        refine Rs.some (hQ _ ?_)
        refine (rDecode_loop1 hq N q' 1 n2 (fun _ => (rdI (.inr l)).1) (fun _ => (rdI (rdI (.inr l)).2).1) f2 [((rdI (.inr l)).1, (rdI (rdI (.inr l)).2).1)] (rdI (rdI (.inr l)).2).2 e2 RI.one hP2 (fun _ => ⟨by omega, h2⟩) (by omega) 1 rfl).mono ?_
        rintro z ⟨n', f', e', m', op', ar', h3, h4, h5⟩
        exact .inr ⟨n', f', e', m', op', ar', h3, h4, h5⟩
  rw [← hq'] at key
  exact key
theorem rDecode_runs {n : Nat} {f : Nat → Int} {L : List Nat} (hL : RL n f L) (hB : Bys L) (hn : n ≤ 140737488355328) : Rs (rDecode1 q (n, f)) (DR (decC L)) := by
  unfold rDecode1
  refine Rs.map (P := fun r => DR (decC L) (mapD r)) ?_ (fun z hz => hz)
  unfold rDecode t_rDecode
  have hP0 : RS (.inr L) n f 0 := ⟨rfl, hL, hB, hn⟩
  refine Rs.bind (rRBytes_runs hq hP0) ?_
  rintro z ⟨n1, f1, e1, l1, g1, rfl, hP1, hg⟩
  refine Rs.pos (by simp) (Rs.pos all_u8 ?_)
  have hname : strOfV l1 (fun j => [u8 (g1 (0 + j))]) = bytesOf (rdB 64 (.inr L)).1 := by
    refine strOfV_RL (f := fun j => g1 (0 + j)) ⟨hg.1, fun j hj => ?_⟩
    show g1 (0 + j) = _
    rw [Nat.zero_add]; exact hg.2 j hj
  simp only [hname]
  refine Rs.bind (rRInt_runs hq hP1) ?_
  rintro z ⟨n2, f2, e2, rfl, hP2⟩
  refine Rs.bind (rRInt_runs hq hP2) ?_
  rintro z ⟨n3, f3, e3, rfl, hP3⟩
  refine Rs.bind (rRUint_runs hq hP3) ?_
  rintro z ⟨n4, f4, e4, rfl, hP4⟩
  have hdec : decC L = endD (rdB 64 (.inr L)).1 (rdI (rdB 64 (.inr L)).2).1 (rdI (rdI (rdB 64 (.inr L)).2).2).1 (rdL (rdU (rdI (rdI (rdB 64 (.inr L)).2).2).2).1 (capS (rdU (rdI (rdI (rdB 64 (.inr L)).2).2).2).1 (rdU (rdI (rdI (rdB 64 (.inr L)).2).2).2).2)) := rfl
  rw [hdec]
  generalize rdU (rdI (rdI (rdB 64 (.inr L)).2).2).2 = d at hP4 ⊢
  simp only
  refine Rs.ite (fun h => ?_) (fun h => ?_)
  · have h300 : 300 < d.1 := by simp at h; omega
    refine Rs.bind (P := fun z => ∃ n f e, z = (n, f, e) ∧ RS (capS d.1 d.2) n f e) ?_ ?_
    · unfold rRFail t_rRFail rRfail t_rRfail capS
      rw [if_pos h300]
      cases hd : d.2 with
      | inl er =>
        rw [hd] at hP4
        obtain ⟨rfl, h0⟩ := hP4
        exact Rs.bind (Rs.neg (by simpa using h0) (Rs.some rfl)) (fun z hz => by subst hz; exact Rs.some ⟨_, _, _, rfl, rfl, h0⟩)
      | inr l =>
        rw [hd] at hP4
        obtain ⟨rfl, _⟩ := hP4
        exact Rs.bind (Rs.pos (by simp) (Rs.some rfl)) (fun z hz => by subst hz; exact Rs.some ⟨_, _, _, rfl, rfl, by decide⟩)
    · rintro z ⟨n5, f5, e5, rfl, hP5⟩
      refine Rs.bind (rDecode_loop0 hq hP5 (fun ⟨l, hl⟩ => ?_)) fun z hz => rDleaf hz
      unfold capS at hl
      rw [if_pos h300] at hl
      split at hl <;> cases hl
  · have h300 : ¬ 300 < d.1 := by simp at h; omega
    have hc : capS d.1 d.2 = d.2 := by unfold capS; rw [if_neg h300]
    rw [hc]
    exact Rs.bind (rDecode_loop0 hq hP4 (fun _ => by omega)) fun z hz => rDleaf hz
end
theorem RI.shift {n : Nat} {op ar : Nat → Int} {l : List (Int × Int)} (h : RI n op ar l) : RI n (fun j => op (0 + j)) (fun j => ar (0 + j)) l :=
  ⟨h.1, fun j hj => by simpa using h.2 j hj⟩
theorem RL.shift {n : Nat} {f : Nat → Int} {l : List Nat} (h : RL n f l) : RL n (fun j => f (0 + j)) l :=
  ⟨h.1, fun j hj => by simpa using h.2 j hj⟩
theorem bytesOf_size (l : List Nat) : (bytesOf l).size = l.length := by show (l.map UInt8.ofNat).toArray.size = _; simp
theorem RI.in64 {n : Nat} {op ar : Nat → Int} {l : List (Int × Int)} (h : RI n op ar l) (hl : ∀ p ∈ l, Wire.in64 p.1 ∧ Wire.in64 p.2) : ∀ j, j < n → Wire.in64 (op j) ∧ Wire.in64 (ar j) := by
  intro j hj
  obtain ⟨h1, h2⟩ := h.2 j hj
  rw [h1, h2]
  have hjl : j < l.length := by rw [← h.1]; exact hj
  have : l.getD j (0, 0) ∈ l := by
    rw [List.getD_eq_getElem?_getD, List.getElem?_eq_getElem hjl]
    exact List.getElem_mem hjl
  exact hl _ this
theorem lawD_runs {n : Nat} {f : Nat → Int} {L : List Nat} (hL : RL n f L) (hB : Bys L) (hn : n ≤ 140737488355328) : Rs (lawD 400 (n, f)) (fun z => z = true) := by
  unfold lawD t_lawD
  have hle : ∀ k : Nat, 0 + k ≤ k ∧ 2 = 2 := fun k => by omega
  refine Rs.bind (Decode_runs hL hB hn (by decide)) ?_
  intro z hz
  refine Rs.pos (hle _) ?_
  refine Rs.bind (rDecode_runs (by decide) hL hB hn) ?_
  intro z2 hz2
  refine Rs.pos (hle _) ?_
  cases hd : decC L with
  | inl er =>
    rw [hd] at hz hz2
    obtain ⟨h0, a1, a2, a3, a4, a5⟩ := hz
    obtain ⟨_, b1, b2, b3, b4, b5⟩ := hz2
    refine Rs.neg (by rw [a4, b4]; simp) ?_
    rw [a1, a2, a3, a5, b1, b2, b3, b5]
    refine Rs.bind (Same_runs rfl (fun j hj => absurd hj (Nat.not_lt_zero j)) (by decide) (by decide)) ?_
    rintro z rfl
    refine Rs.neg (by decide) (Rs.neg (by rw [a4]; simpa using h0) ?_)
    exact Rs.bind (Rs.some (P := fun z => z = true) rfl) (fun z hz => Rs.some hz)
  | inr c =>
    obtain ⟨nm, ps, vs, ins⟩ := c
    rw [hd] at hz hz2
    obtain ⟨a1, a2, a3, a4, a5⟩ := hz
    obtain ⟨b1, b2, b3, b4, b5⟩ := hz2
    obtain ⟨k1, k2, k3, k4, k5, k6⟩ := decC_enc hB hd
    have k7 := a5.1
    have k8 := b5.1
    refine Rs.neg (by rw [a4, b4]; simp) ?_
    rw [a1, a2, a3, b1, b2, b3]
    refine Rs.bind (Same_runs (by omega) (fun j hj => ?_) (by omega) (by omega)) ?_
    · obtain ⟨u1, u2⟩ := a5.shift.2 j hj
      obtain ⟨v1, v2⟩ := b5.shift.2 j (by omega)
      exact ⟨u1.trans v1.symm, u2.trans v2.symm⟩
    rintro z3 rfl
    refine Rs.neg (by decide) (Rs.pos (by rw [a4]; rfl) ?_)
    have hnb : Bys nm := by
      intro c hc
      exact hB c (by rw [k1]; simp [encC, hc])
    have hE := Encode_runs (nm := bytesOf nm) (ps := ps) (vs := vs) (q := 400) a5.shift (by rw [bytesOf_size]; omega) (by omega) k4 k5 (a5.shift.in64 k6) (by omega)
    rw [bytes_nm hnb, ← k1] at hE
    refine Rs.bind hE ?_
    intro z4 hz4
    refine Rs.pos (by omega) (Rs.bind (SameB_runs hz4.shift hL) ?_)
    rintro z5 rfl
    exact Rs.neg (by decide) (Rs.bind (Rs.some (P := fun z => z = true) rfl) (fun z hz => Rs.some hz))
theorem encP_bys (l : List (Int × Int)) : Bys (encP l) := by
  intro c hc
  unfold encP at hc
  obtain ⟨p, _, hp⟩ := List.mem_flatMap.1 hc
  rcases List.mem_append.1 hp with h | h <;> exact enc_byte _ c h
theorem nmL_bys (s : ByteArray) : Bys (nmL s) := by
  intro c hc
  obtain ⟨x, _, rfl⟩ := List.mem_map.1 hc
  exact x.toNat_lt
theorem lawE_runs {nm : ByteArray} {ps vs : Int} {N : Nat} {op ar : Nat → Int} (hs : nm.size ≤ 17592186044416) (hN : N ≤ 1099511627776) (hps : in64 ps) (hvs : in64 vs) (h64 : ∀ j, j < N → in64 (op j) ∧ in64 (ar j)) : Rs (lawE (N + 400) (nm, ps, vs, N, op, ar)) (fun z => z = true) := by
  have hI : RI N op ar ((List.range N).map fun j => (op j, ar j)) := by
    refine ⟨by simp, fun j hj => ?_⟩
    simp [List.getD_eq_getElem?_getD, hj]
  have hins : ∀ p ∈ ((List.range N).map fun j => (op j, ar j)), in64 p.1 ∧ in64 p.2 := by
    intro p hp
    obtain ⟨j, hj, rfl⟩ := List.mem_map.1 hp
    exact h64 j (List.mem_range.1 hj)
  generalize (List.range N).map (fun j => (op j, ar j)) = ins at hI hins
  unfold lawE t_lawE
  have hnl : (nmL nm).length = nm.size := (nm_RL nm).1.symm
  refine Rs.bind (Encode_runs hI hs hN hps hvs h64 (by omega)) ?_
  intro z hz
  refine Rs.pos (by omega) ?_
  refine Rs.bind (rEncode_runs hI hs hN hps hvs h64 (by omega)) ?_
  intro z2 hz2
  refine Rs.pos (by omega) ?_
  refine Rs.bind (SameB_runs hz.shift hz2.shift) ?_
  rintro z3 rfl
  have hlv : Rs ((lives (N + 400) ()).bind fun z => (some z : Option Bool)) (fun z => z = true) := Rs.bind (Rs.some (P := fun z => z = true) rfl) (fun z hz => Rs.some hz)
  refine Rs.neg (by decide) (Rs.ite (fun _ => hlv) (fun h1 => Rs.ite (fun _ => hlv) (fun h2 => ?_)))
  have h1 : nm.size ≤ 64 := by simp at h1; omega
  have h2 : N ≤ 300 := by simp at h2; omega
  have hB : Bys (encC (nmL nm) ps vs ins) := by
    intro c hc
    unfold encC at hc
    simp only [List.mem_append] at hc
    rcases hc with ((((h | h) | h) | h) | h) | h
    · exact enc_byte _ c h
    · exact nmL_bys nm c h
    · exact enc_byte _ c h
    · exact enc_byte _ c h
    · exact enc_byte _ c h
    · exact encP_bys _ c h
  have hlen : (encC (nmL nm) ps vs ins).length ≤ 10000 := by
    have g1 := enc_len64 (v := (nmL nm).length) (by omega)
    have g2 := enc_lenI hps
    have g3 := enc_lenI hvs
    have g4 := enc_len64 (v := ins.length) (by have := hI.1; omega)
    have g5 : ∀ l : List (Int × Int), (∀ p ∈ l, in64 p.1 ∧ in64 p.2) → (encP l).length ≤ 20 * l.length := by
      intro l
      induction l with
      | nil => intro _; simp [encP]
      | cons p l ih =>
        intro h
        have e : encP (p :: l) = encI p.1 ++ encI p.2 ++ encP l := rfl
        rw [e, List.length_append, List.length_append, List.length_cons]
        have := enc_lenI (h p (.head _)).1
        have := enc_lenI (h p (.head _)).2
        have := ih fun p hp => h p (.tail _ hp)
        omega
    have g6 := g5 ins hins
    have := hI.1
    simp only [encC, List.length_append]
    omega
  have hzl := hz.1
  refine Rs.bind (Decode_runs hz.shift hB (by omega) (by omega)) ?_
  intro z4 hz4
  rw [decC_of (by omega) (by have := hI.1; omega) hps hvs hins] at hz4
  obtain ⟨a1, a2, a3, a4, a5⟩ := hz4
  have := a5.1
  have := hI.1
  refine Rs.pos (by omega) (Rs.pos (by rw [a4]; rfl) ?_)
  rw [a1, a2, a3, nm_bytes]
  refine Rs.bind (Same_runs (n := N) (by omega) (fun j hj => ?_) (by omega) (by omega)) ?_
  · obtain ⟨u1, u2⟩ := hI.2 j hj
    obtain ⟨v1, v2⟩ := a5.shift.2 j (by omega)
    exact ⟨u1.trans v1.symm, u2.trans v2.symm⟩
  rintro z5 rfl
  exact Rs.pos rfl hlv
end Go.Proofs.YtcljccpddodckaaGreatDoor
/- CompileDecode, CompileEncode: the walks. -/
namespace Go.Proofs.YtcljccpddodckaaGreatDoor
open Go Go.Am Go.Proofs Go.Wire
set_option linter.unusedSimpArgs false
set_option linter.unusedVariables false
set_option maxRecDepth 100000
theorem wf_u8 {n : Int} (h : (Lit.int .u8 n).wf = true) : ∃ c : Nat, n = (c : Int) ∧ c < 256 := by
  simp [Lit.wf, IntKind.min, IntKind.max, IntKind.bits, IntKind.signed] at h
  exact ⟨n.toNat, by omega, by omega⟩
theorem compileDecode (v0 : V) (h0 : WTV E.P 36 v0) (m0 : SmP reachBytes v0) : ∃ l', LeL [v0] l' ∧ SC E 6 l' [] (.ret (bo true) []) := by
  obtain ⟨n, f, rfl, hn, d, h⟩ := h0.slice (e := 5) (c := 1) (by kernel_rfl) (by kernel_rfl) (by kernel_rfl) (by omega)
  have hr : n ≤ reachBytes := by
    obtain ⟨d, hd⟩ := m0
    exact (hd.row' (c := 1) (n := n) (f := f) (by simp)).1
  have key : ∀ j, ∃ x : Nat, j < n → f j = [u8 (x : Int)] ∧ x < 256 := fun j => by
    by_cases hj : j < n
    · obtain ⟨m, hm, hw⟩ := (h j hj).int (k := .u8) (by kernel_rfl)
      obtain ⟨c, rfl, hc⟩ := wf_u8 hw
      exact ⟨c, fun _ => ⟨hm, hc⟩⟩
    · exact ⟨0, fun h => absurd h hj⟩
  obtain ⟨g, hg⟩ := Classical.axiomOfChoice key
  refine ⟨_, LeL.cons (Le.ro_eq (g := fun j => [u8 (g j : Int)]) fun j hj => ⟨(hg j hj).1, rfl⟩) LeL.nil, ?_⟩
  have hL : RL n (fun j => (g j : Int)) ((List.range n).map g) := by
    refine ⟨by simp, fun j hj => ?_⟩
    simp [List.getD_eq_getElem?_getD, hj]
  have hB : Bys ((List.range n).map g) := by
    intro c hc
    obtain ⟨j, hj, rfl⟩ := List.mem_map.1 hc
    exact (hg j (List.mem_range.1 hj)).2
  have hb : n ≤ 140737488355328 := by unfold reachBytes at hr; omega
  obtain ⟨z, h1, h2⟩ := lawD_runs hL hB hb
  subst h2
  exact sc9.1 (sc_lawD 400 (n, fun j => (g j : Int)) true h1)
theorem wt3' {d : Nat} {vs : List V} (h : WT E.P d 3 vs) : ∃ a, vs = [i64 a] ∧ in64 a := h.i64 (by kernel_rfl)
theorem in_code9 {v : V} (h : WTV E.P 24 v) {B : Nat} (hs : SmP B v) : ∃ (nm : ByteArray) (ps vs : Int) (n : Nat) (op ar : Nat → Int), Le v (.agg [st nm, i64 ps, i64 vs, .ro 2 n (fun j => [i64 (op j), i64 (ar j)])]) ∧ n ≤ B ∧ nm.size ≤ B ∧ in64 ps ∧ in64 vs ∧ ∀ j, j < n → in64 (op j) ∧ in64 (ar j) := by
  obtain ⟨d, vs, rfl, g⟩ := h.struct (l := [9, 3, 3, 22]) (by kernel_rfl)
  obtain ⟨e, hs⟩ := hs.agg
  obtain ⟨d, c1, r1, rfl, g1, c2, r2, rfl, g2, c3, r3, rfl, g3, c4, r4, rfl, g4, rfl⟩ := g.struct (l := [9, 3, 3, 22]) (by kernel_rfl)
  obtain ⟨s, rfl, _⟩ := g1.str (by kernel_rfl)
  obtain ⟨u, rfl, ru⟩ := wt3' g2
  obtain ⟨w, rfl, rw⟩ := wt3' g3
  obtain ⟨n, f, rfl, hn, d, h⟩ := g4.slice (e := 34) (c := 2) (by kernel_rfl) (by kernel_rfl) (by omega)
  have hnB : n ≤ B := (hs.row' (c := 2) (n := n) (f := f) (by simp)).1
  have hsB : s.size ≤ B := hs.str (by simp)
  have key : ∀ j, ∃ x : Int × Int, j < n → f j = [i64 x.1, i64 x.2] ∧ in64 x.1 ∧ in64 x.2 := fun j => by
    by_cases hj : j < n
    · obtain ⟨d, c1, r1, hf, g1, c2, r2, rfl, g2, rfl⟩ := (h j hj).struct (l := [3, 3]) (by kernel_rfl)
      obtain ⟨a, rfl, ha⟩ := wt3' g1
      obtain ⟨b, rfl, hb⟩ := wt3' g2
      exact ⟨(a, b), fun _ => ⟨hf, ha, hb⟩⟩
    · exact ⟨(0, 0), fun h => absurd h hj⟩
  obtain ⟨g, hg⟩ := Classical.axiomOfChoice key
  exact ⟨s, u, w, n, fun j => (g j).1, fun j => (g j).2, Le.agg (LeL.cons (Le.refl _) (LeL.cons (Le.refl _) (LeL.cons (Le.refl _) (LeL.cons (Le.ro_eq fun j hj => ⟨(hg j hj).1, rfl⟩) LeL.nil)))), hnB, hsB, ru, rw, fun j hj => ⟨(hg j hj).2.1, (hg j hj).2.2⟩⟩
theorem compileEncode (v0 : V) (h0 : WTV E.P 24 v0) (m0 : SmP 4294967296 v0) : ∃ l', LeL [v0] l' ∧ SC E 5 l' [] (.ret (bo true) []) := by
  obtain ⟨nm, ps, vs, n, op, ar, g, hn, hnm, hps, hvs, h64⟩ := in_code9 h0 m0
  refine ⟨_, LeL.cons g LeL.nil, ?_⟩
  obtain ⟨z, h1, h2⟩ := lawE_runs (nm := nm) (ps := ps) (vs := vs) (N := n) (op := op) (ar := ar) (by omega) (by omega) hps hvs h64
  subst h2
  exact sc9.1 (sc_lawE (n + 400) (nm, ps, vs, n, op, ar) true h1)
end Go.Proofs.YtcljccpddodckaaGreatDoor
/- Where what is read is of bulk at most 1048576. -/
set_option linter.unusedSimpArgs false
set_option linter.unusedVariables false
namespace Go.Proofs.YtcljccpddodckaaGreatDoor
open Go Go.Am
theorem bulk_one {H : Type} (d : DataW H) : 1 ≤ Rows.uptoBulk d := by
  cases d with
  | lit l => cases l <;> simp [Rows.uptoBulk]
  | _ => simp [Rows.uptoBulk]
theorem bulk_part {H : Type} {d : DataW H} : ∀ {l : List (DataW H)}, d ∈ l → Rows.uptoBulk d ≤ Rows.uptoBulkAll l
  | [], h => by cases h
  | x :: r, h => by
    rw [Rows.uptoBulkAll]
    rcases List.mem_cons.1 h with rfl | h
    · omega
    · have := bulk_part h; omega
theorem bulk_len {H : Type} : ∀ l : List (DataW H), l.length ≤ Rows.uptoBulkAll l
  | [] => by simp [Rows.uptoBulkAll]
  | x :: r => by
    rw [Rows.uptoBulkAll, List.length_cons]
    have := bulk_one x
    have := bulk_len r
    omega
def slB (P : Program) : Bool := (List.range P.types.size).all fun t => decide (P.bytesOf t ≤ 4096)
def UpQ (P : Program) (H : Type) (t : TypeId) (d : DataW H) : Prop := t < P.types.size ∧ Rows.uptoBulk d ≤ 1048576
theorem packL_lt {P : Program} : ∀ {fs : List Field} {o m : Nat}, packL P fs o = some m → ∀ f ∈ fs, f.type < P.types.size
  | [], _, _, _, f, hf => by cases hf
  | g :: fs, o, m, h, f, hf => by
    simp only [packL] at h
    split at h
    · rename_i hc
      rcases List.mem_cons.1 hf with rfl | hf
      · exact hc.2
      · exact packL_lt h f hf
    · cases h
theorem szUp {P : Program} {H : Type} (hp : packB P = true) (hP : slB P = true) : SzOk P 4294967296 (UpQ P H) where
  str := fun t l h => by
    have h := h.2
    simp only [Rows.uptoBulk] at h
    omega
  sl := fun t e es r hu h => by
    have ht := List.all_eq_true.1 hp t (by simpa using h.1)
    rw [hu] at ht
    have he : e < P.types.size := of_decide_eq_true ht
    have h := h.2
    simp only [Rows.uptoBulk] at h
    have h1 := bulk_len es
    have h2 : P.bytesOf e ≤ 4096 := of_decide_eq_true (List.all_eq_true.1 hP e (by simpa using he))
    refine ⟨?_, fun d hd => ⟨he, ?_⟩⟩
    · exact Nat.le_trans (Nat.mul_le_mul (by omega : es.length ≤ 1048576) h2) (by decide)
    · have := bulk_part hd
      omega
  st := fun t fs l hu h i f d h1 h2 => by
    have ht := List.all_eq_true.1 hp t (by simpa using h.1)
    rw [hu] at ht
    refine ⟨?_, ?_⟩
    · have hk : ∃ m, packL P fs.toList 0 = some m := by
        cases hpl : packL P fs.toList 0 with
        | some m => exact ⟨m, rfl⟩
        | none => simp [hpl] at ht
      obtain ⟨m, hm⟩ := hk
      exact packL_lt hm f (List.mem_of_getElem? h1)
    · have h := h.2
      simp only [Rows.uptoBulk] at h
      have := bulk_part (List.mem_of_getElem? h2)
      omega
  ar := fun t n e l hu h d hd => by
    have ht := List.all_eq_true.1 hp t (by simpa using h.1)
    rw [hu] at ht
    simp only [Bool.and_eq_true, decide_eq_true_eq] at ht
    refine ⟨ht.2, ?_⟩
    have h := h.2
    simp only [Rows.uptoBulk] at h
    have := bulk_part hd
    omega
theorem up_args {P : Program} {H : Type} {l : List (DataW H)} (h : Rows.uptoSmall H l = true) {t : TypeId} (ht : t < P.types.size) {d : DataW H} (hd : d ∈ l) : UpQ P H t d := by
  have h1 : Rows.uptoBulkAll l ≤ 1048576 := of_decide_eq_true h
  have := bulk_part hd
  exact ⟨ht, by omega⟩
end Go.Proofs.YtcljccpddodckaaGreatDoor
