/- Decimal: the reference's decimal text is Itoa's. -/
import Derived.Test.YtnjpgkaignfcaaaDoorUu
import Derived.Test.YtnjpgkaignfcaaaDoorAmV
namespace Go.Proofs.YtnjpgkaignfcaaaDoor
open Go Go.Am
/-- The environment without contracts: what is known of callees stands in tables. -/
noncomputable def E1 : Env := { P := Tryd.prog, glob := globF, ext := fun _ _ => none, way := way, lit := fun _ => false, code := fun f => (Tryd.prog.funcs[f]?).bind annF, inv := [(1, intCell .i64), (2, allCells (Lib.pow10Tab.map fun z => Value.int .u64 z).toArray)] }
set_option maxRecDepth 100000 in
theorem hW1 : WF E1 := WF.of E1 (fun _ => rfl) (by kernel_rfl)
theorem hX1 : SoundX E1 := SoundX.none fun _ _ => rfl
theorem sc1 {f : FuncId} {args : List V} {L : List (Option Chunk)} {cr : CRes} : SC E1 f args L cr ↔ SC E f args L cr :=
  ⟨fun h => ⟨h.1, fun β S w us h1 h2 h3 => h.2 β S w us h1 h2 ⟨h3.rd, h3.inv⟩⟩, fun h => ⟨h.1, fun β S w us h1 h2 h3 => h.2 β S w us h1 h2 ⟨h3.rd, h3.inv⟩⟩⟩
def jk (n : Nat) : List V := List.replicate n .junk
def dgs : ByteArray := ⟨#[48, 49, 50, 51, 52, 53, 54, 55, 56, 57]⟩
def SD (n : Int) (s : ByteArray) (m : Int) : St := { fr := [i64 n, .junk, .junk, st dgs, st s, i64 m] ++ jk 26, H := hp [], nx := 0, rt := 0, me := 26 }
def SDe (n : Int) (s : ByteArray) : St := { fr := [i64 n, .junk, .junk, .junk, st s] ++ jk 27, H := hp [], nx := 0, rt := 0, me := 26 }
theorem sT0 : SoundC E1 T0 := sound_none E1
theorem d26 (n : Int) (T : ByteArray) (S1 : St) : callK E1 T0 (ltab [⟨bodyOf E1 26 0, S1, .exit 0, SDe n T⟩]) 26 [i64 n] [] K =
  if (n == (0 : Int)) = true then
   some (Ans.c (CRes.ret (V.sc (Value.string { data := #[(48 : UInt8)] })) []))
  else
   cl ((bodyOf E1 26 0) = (bodyOf E1 26 0) ∧ LeSt ({ fr := [i64 n, V.junk, V.junk, V.sc (Value.string { data := #[(48 : UInt8), (49 : UInt8), (50 : UInt8), (51 : UInt8), (52 : UInt8), (53 : UInt8), (54 : UInt8), (55 : UInt8), (56 : UInt8), (57 : UInt8)] }), V.sc (Value.string { data := #[] }), i64 n] ++ jk 26, H := hp [], nx := 0, rt := 0, me := 26 }) (S1)) (
    if decide (n < (0 : Int)) = true then
     if 1 + ByteArray.size T ≤ maxLen then
      some (Ans.c (CRes.ret (V.sc (Value.string ({ data := #[(45 : UInt8)] } ++ T))) []))
     else
      none
    else
     some (Ans.c (CRes.ret (V.sc (Value.string T)) []))) (
    none) := by kernel_rfl
theorem r26 (n m : Int) (s T : ByteArray) (S1 : St) : loopK E1 T0 (ltab [⟨bodyOf E1 26 0, S1, .exit 0, SDe n T⟩]) 0 57 (bodyOf E1 26 0) (SD n s m) (KC 17) =
  if (m != (0 : Int)) = true then
   if decide (Int.tmod m (10 : Int) < (0 : Int)) = true then
    if (0 : Int) ≤ w ((0 : Int) - Int.tmod m (10 : Int)) ∧ w ((0 : Int) - Int.tmod m (10 : Int)) ≤ w (w ((0 : Int) - Int.tmod m (10 : Int)) + (1 : Int)) ∧ w (w ((0 : Int) - Int.tmod m (10 : Int)) + (1 : Int)) ≤ (10 : Int) then
     if ByteArray.size (ByteArray.extract dgs (Int.toNat (w ((0 : Int) - Int.tmod m (10 : Int)))) (Int.toNat (w (w ((0 : Int) - Int.tmod m (10 : Int)) + (1 : Int))))) + ByteArray.size s ≤ maxLen then
      cl ((bodyOf E1 26 0) = (bodyOf E1 26 0) ∧ LeSt ({ fr := [i64 n, V.junk, V.junk, V.sc (Value.string dgs), V.sc (Value.string (ByteArray.extract dgs (Int.toNat (w ((0 : Int) - Int.tmod m (10 : Int)))) (Int.toNat (w (w ((0 : Int) - Int.tmod m (10 : Int)) + (1 : Int)))) ++ s)), i64 (w (Int.tdiv m (10 : Int)))] ++ jk 26, H := hp [], nx := 0, rt := 0, me := 26 }) (S1)) (
       some (Ans.l (Ex.exit 0) { fr := [i64 n, V.junk, V.junk, V.junk, V.sc (Value.string T)] ++ jk 27, H := hp [], nx := 0, rt := 0, me := 26 })) (
       none)
     else
      none
    else
     none
   else
    if (0 : Int) ≤ Int.tmod m (10 : Int) ∧ Int.tmod m (10 : Int) ≤ w (Int.tmod m (10 : Int) + (1 : Int)) ∧ w (Int.tmod m (10 : Int) + (1 : Int)) ≤ (10 : Int) then
     if ByteArray.size (ByteArray.extract dgs (Int.toNat (Int.tmod m (10 : Int))) (Int.toNat (w (Int.tmod m (10 : Int) + (1 : Int))))) + ByteArray.size s ≤ maxLen then
      cl ((bodyOf E1 26 0) = (bodyOf E1 26 0) ∧ LeSt ({ fr := [i64 n, V.junk, V.junk, V.sc (Value.string dgs), V.sc (Value.string (ByteArray.extract dgs (Int.toNat (Int.tmod m (10 : Int))) (Int.toNat (w (Int.tmod m (10 : Int) + (1 : Int)))) ++ s)), i64 (w (Int.tdiv m (10 : Int)))] ++ jk 26, H := hp [], nx := 0, rt := 0, me := 26 }) (S1)) (
       some (Ans.l (Ex.exit 0) { fr := [i64 n, V.junk, V.junk, V.junk, V.sc (Value.string T)] ++ jk 27, H := hp [], nx := 0, rt := 0, me := 26 })) (
       none)
     else
      none
    else
     none
  else
   some (Ans.l (Ex.exit 0) { fr := [i64 n, V.junk, V.junk, V.junk, V.sc (Value.string s)] ++ jk 27, H := hp [], nx := 0, rt := 0, me := 26 }) := by kernel_rfl
theorem r26_e (n m : Int) (s : ByteArray) : loopK E1 T0 (ltab []) 0 57 (bodyOf E1 26 0) (SD n s m) (KC 17) =
  if (m != (0 : Int)) = true then
   if decide (Int.tmod m (10 : Int) < (0 : Int)) = true then
    if (0 : Int) ≤ w ((0 : Int) - Int.tmod m (10 : Int)) ∧ w ((0 : Int) - Int.tmod m (10 : Int)) ≤ w (w ((0 : Int) - Int.tmod m (10 : Int)) + (1 : Int)) ∧ w (w ((0 : Int) - Int.tmod m (10 : Int)) + (1 : Int)) ≤ (10 : Int) then
     if ByteArray.size (ByteArray.extract dgs (Int.toNat (w ((0 : Int) - Int.tmod m (10 : Int)))) (Int.toNat (w (w ((0 : Int) - Int.tmod m (10 : Int)) + (1 : Int))))) + ByteArray.size s ≤ maxLen then
      none
     else
      none
    else
     none
   else
    if (0 : Int) ≤ Int.tmod m (10 : Int) ∧ Int.tmod m (10 : Int) ≤ w (Int.tmod m (10 : Int) + (1 : Int)) ∧ w (Int.tmod m (10 : Int) + (1 : Int)) ≤ (10 : Int) then
     if ByteArray.size (ByteArray.extract dgs (Int.toNat (Int.tmod m (10 : Int))) (Int.toNat (w (Int.tmod m (10 : Int) + (1 : Int))))) + ByteArray.size s ≤ maxLen then
      none
     else
      none
    else
     none
  else
   some (Ans.l (Ex.exit 0) { fr := [i64 n, V.junk, V.junk, V.junk, V.sc (Value.string s)] ++ jk 27, H := hp [], nx := 0, rt := 0, me := 26 }) := by kernel_rfl

def decL (m : Int) : List UInt8 := if m = 0 then [] else Lib.decDigits m.natAbs
def dig (m : Int) (s : ByteArray) : ByteArray := ⟨(decL m).toArray⟩ ++ s
theorem ba_app (x y : Array UInt8) : (⟨x⟩ : ByteArray) ++ ⟨y⟩ = ⟨x ++ y⟩ := by
  apply ByteArray.ext; simp
theorem dig_zero (s : ByteArray) : dig 0 s = s := by
  unfold dig decL; apply ByteArray.ext; simp
theorem dec_step {m : Int} (hm : m ≠ 0) : decL (Int.tdiv m 10) ++ [UInt8.ofNat (48 + m.natAbs % 10)] = decL m := by
  have h1 : (Int.tdiv m 10).natAbs = m.natAbs / 10 := by rw [Int.natAbs_tdiv]; rfl
  unfold decL
  rw [if_neg hm, Lib.decDigits.eq_def m.natAbs]
  by_cases h : m.natAbs < 10
  · have h0 : Int.tdiv m 10 = 0 := by
      have : (Int.tdiv m 10).natAbs = 0 := by rw [h1]; omega
      omega
    rw [dif_pos h, if_pos h0, Nat.mod_eq_of_lt h]; rfl
  · have h0 : Int.tdiv m 10 ≠ 0 := by
      intro e
      have : (Int.tdiv m 10).natAbs = 0 := by rw [e]; rfl
      omega
    rw [dif_neg h, if_neg h0, h1]
theorem ext_d {d : Nat} (hd : d < 10) : dgs.extract d (d + 1) = ⟨#[UInt8.ofNat (48 + d)]⟩ := by
  have : d = 0 ∨ d = 1 ∨ d = 2 ∨ d = 3 ∨ d = 4 ∨ d = 5 ∨ d = 6 ∨ d = 7 ∨ d = 8 ∨ d = 9 := by omega
  rcases this with rfl | rfl | rfl | rfl | rfl | rfl | rfl | rfl | rfl | rfl <;> rfl
theorem dig_step {m : Int} (hm : m ≠ 0) (s : ByteArray) {d : Nat} (hd : d = m.natAbs % 10) : dig (Int.tdiv m 10) (dgs.extract d (d + 1) ++ s) = dig m s := by
  unfold dig
  rw [ext_d (by omega), ← dec_step hm, ← hd]
  apply ByteArray.ext
  simp
set_option maxRecDepth 100000 in
theorem dec_loop (n : Int) : ∀ (k : Nat) (m : Int) (s : ByteArray), m.natAbs < 10 ^ k → s.size + k ≤ 40 → inR m → SL E1 (bodyOf E1 26 0) (SD n s m) (.exit 0) (SDe n (dig m s)) := by
  intro k
  induction k with
  | zero =>
    intro m s hk hs hr
    have hm : m = 0 := by simp at hk; exact hk
    subst hm
    rw [dig_zero]
    exact SL.by (m := 17) sT0 hX1 ltab_nil ((r26_e n 0 s).trans (by rfl))
  | succ k ih =>
    intro m s hk hs hr
    by_cases hm : m = 0
    · subst hm
      rw [dig_zero]
      exact SL.by (m := 17) sT0 hX1 ltab_nil ((r26_e n 0 s).trans (by rfl))
    · have hna : (Int.tdiv m 10).natAbs = m.natAbs / 10 := by rw [Int.natAbs_tdiv]; rfl
      have hmo : (Int.tmod m 10).natAbs = m.natAbs % 10 := by rw [Int.natAbs_tmod]; rfl
      have hq : w (Int.tdiv m 10) = Int.tdiv m 10 := w_in (by unfold inR at hr ⊢; omega)
      have hd10 : m.natAbs % 10 < 10 := Nat.mod_lt _ (by omega)
      have hk' : (Int.tdiv m 10).natAbs < 10 ^ k := by rw [hna]; rw [Nat.pow_succ] at hk; omega
      have hml : Go.maxLen = 9223372036854775807 := by decide
      have hsz : (dgs.extract (m.natAbs % 10) (m.natAbs % 10 + 1) ++ s).size = 1 + s.size := by rw [ByteArray.size_append, ext_d hd10]; rfl
      have hsz' : (dgs.extract (m.natAbs % 10) (m.natAbs % 10 + 1)).size = 1 := by rw [ext_d hd10]; rfl
      have key := ih (Int.tdiv m 10) (dgs.extract (m.natAbs % 10) (m.natAbs % 10 + 1) ++ s) hk' (by omega) (by unfold inR at hr ⊢; omega)
      rw [dig_step hm s rfl] at key
      refine SL.by (m := 17) sT0 hX1 (ltab_cons (x := ⟨bodyOf E1 26 0, _, .exit 0, SDe n (dig m s)⟩) key ltab_nil) ((r26 n m s (dig m s) _).trans ?_)
      rw [if_pos (by simpa using hm)]
      by_cases hneg : Int.tmod m 10 < 0
      · have e1 : w (0 - Int.tmod m 10) = ((m.natAbs % 10 : Nat) : Int) := by rw [w_in (by unfold inR; omega)]; omega
        have e2 : w (((m.natAbs % 10 : Nat) : Int) + 1) = ((m.natAbs % 10 + 1 : Nat) : Int) := by rw [w_in (by unfold inR; omega)]; omega
        rw [if_pos (by simpa using hneg), e1, e2, Int.toNat_natCast, Int.toNat_natCast, if_pos (by omega), if_pos (by omega), cl_pos]
        · rfl
        · rw [hq]; exact ⟨rfl, LeSt.refl _⟩
      · have e1 : Int.tmod m 10 = ((m.natAbs % 10 : Nat) : Int) := by omega
        have e2 : w (((m.natAbs % 10 : Nat) : Int) + 1) = ((m.natAbs % 10 + 1 : Nat) : Int) := by rw [w_in (by unfold inR; omega)]; omega
        rw [if_neg (by simpa using hneg), e1, e2, Int.toNat_natCast, Int.toNat_natCast, if_pos (by omega), if_pos (by omega), cl_pos]
        · rfl
        · rw [hq]; exact ⟨rfl, LeSt.refl _⟩
/-- The decimal text of a number. -/
def itS (n : Int) : ByteArray := ⟨(Lib.itoa n).toArray⟩
theorem decLen : ∀ (k u : Nat), u < 10 ^ (k + 1) → (Lib.decDigits u).length ≤ k + 1
  | 0, u, h => by rw [Lib.decDigits, dif_pos (by simpa using h)]; simp
  | k + 1, u, h => by
    rw [Lib.decDigits]
    split
    · simp
    · rw [List.length_append]
      have := decLen k (u / 10) (by rw [Nat.pow_succ] at h; omega)
      simp only [List.length_cons, List.length_nil]; omega
set_option maxRecDepth 100000 in
theorem itS_size {n : Int} (h : inR n) : (itS n).size ≤ 20 := by
  have : n.natAbs < 10 ^ 19 := by unfold inR at h; omega
  have h1 := decLen 18 n.natAbs this
  unfold itS Lib.itoa
  show (Array.size _) ≤ 20
  rw [List.size_toArray]
  split
  · simp only [List.length_cons]; omega
  · rename_i h0
    have : n.toNat = n.natAbs := by omega
    rw [this]; omega
set_option maxRecDepth 100000 in
theorem decimal {n : Int} (h : inR n) : SC E1 26 [i64 n] [] (.ret (st (itS n)) []) := by
  by_cases h0 : n = 0
  · subst h0
    exact SC.of hW1 hX1 sT0 ltab_nil (by refine (show callK E1 T0 (ltab []) 26 [i64 0] [] (fun r => some (.c r)) = _ from ?_); kernel_rfl)
  · have hk : n.natAbs < 10 ^ 19 := by unfold inR at h; omega
    refine SC.of hW1 hX1 sT0 (ltab_cons (x := ⟨bodyOf E1 26 0, _, .exit 0, SDe n (dig n ByteArray.empty)⟩) (dec_loop n 19 n ByteArray.empty hk (by decide) h) ltab_nil) ((d26 n (dig n ByteArray.empty) _).trans ?_)
    rw [if_neg (by simpa using h0), cl_pos]
    · have hd : dig n ByteArray.empty = ⟨(Lib.decDigits n.natAbs).toArray⟩ := by
        unfold dig decL; rw [if_neg h0]; apply ByteArray.ext; simp
      rw [hd]
      have hl := decLen 18 n.natAbs hk
      by_cases hn : n < 0
      · rw [if_pos (by simpa using hn), if_pos]
        · have : (⟨#[45]⟩ : ByteArray) ++ ⟨(Lib.decDigits n.natAbs).toArray⟩ = itS n := by
            unfold itS Lib.itoa; rw [if_pos hn, ba_app]; simp
          rw [this]
        · show 1 + (Array.size _) ≤ _
          rw [List.size_toArray]
          have hml : Go.maxLen = 9223372036854775807 := by decide
          omega
      · rw [if_neg (by simpa using hn)]
        have : itS n = ⟨(Lib.decDigits n.natAbs).toArray⟩ := by
          unfold itS Lib.itoa; rw [if_neg hn]
          have : n.toNat = n.natAbs := by omega
          rw [this]
        rw [this]
    · exact ⟨rfl, LeSt.refl _⟩
end Go.Proofs.YtnjpgkaignfcaaaDoor
