/- More rules: strings joined, slices of slices. -/
import Derived.Test.YtphncipfcekilaaR
import Derived.Laws.Concat
namespace Go.Sx
open Go.RowKit
set_option linter.unusedSimpArgs false
set_option linter.unusedVariables false
section
variable {P : Program} {ops : Array Oper} {rest : List Oper} {o : Oper} {a : Act} {w0 w : World} {L L' : List Chunk} {Q : Exit → Act → World → Prop}
theorem wpList_add_str {T T' : TypeId} {x y : Operand} (ho : o.op = .binOp .add T x y T') (hg : Region.wanted o (yielded ops a.tmps) = true) {s s' : ByteArray} [hx : Ev a x (.string s)] [hy : Ev a y (.string s')]
    (hk : s.size + s'.size ≤ 9223372036854775807) (h : ∀ t, Hid (t = s ++ s') → wpList P ops Q rest (a.put o.dst (.string t)) w) : wpList P ops Q (o :: rest) a w :=
  BigFrame.wpList_want hg fun K hK => by
    unfold Oper.wp execOp
    simp only [ho, hx.h, hy.h, eqGuard, binOp_string_add, Sem.run_bind, Sem.run_pure, Result.andThen_ok, run_string_add_sum _ _ _ hk]
    exact hK _ _ (h _ (Lib.hid rfl))
theorem Rd.part {B : Nat} {v : Value} {A : Option Addr} {k n cap i m c' : Nat} {xs : List Value} (h : Rd B w (.slice A n cap) k n xs) (him : i + m ≤ n) (hc : m ≤ c') (hne : 0 < m → v = .slice (A.map (·.add (i * k))) m c') (hv : ∃ A', v = .slice A' m c') :
    Rd B w v k m ((xs.drop (i * k)).take (m * k)) := by
  have hl := h.len
  have hle : i * k + m * k ≤ n * k := by rw [← Nat.add_mul]; exact Nat.mul_le_mul_right _ him
  have hlen : ((xs.drop (i * k)).take (m * k)).length = m * k := by rw [List.length_take, List.length_drop, hl]; omega
  have hmx := h.max
  by_cases h0 : 0 < m
  · obtain ⟨A2, cap2, hv2, _, hA⟩ := h.form
    simp only [Value.slice.injEq] at hv2
    obtain ⟨rfl, _, _⟩ := hv2
    obtain ⟨ad, rfl⟩ := hA (by omega)
    have e := hne h0
    subst e
    refine ⟨hlen, by omega, ⟨_, _, rfl, hc, fun _ => ⟨_, rfl⟩⟩, fun _ => ?_, fun j u hu => ?_⟩
    · show (ad.add (i * k)).block < B
      rw [addr_block]
      exact h.low (by omega)
    · show w.cell? ((ad.add (i * k)).add j) = some u
      rw [addr_add_add]
      refine h.cells (i * k + j) u ?_
      rw [List.getElem?_take] at hu
      split at hu
      · rw [List.getElem?_drop] at hu; exact hu
      · cases hu
  · obtain rfl : m = 0 := by omega
    obtain ⟨A', rfl⟩ := hv
    refine ⟨hlen, by omega, ⟨_, _, rfl, hc, fun h => absurd h (by omega)⟩, fun h => absurd h (by omega), fun j u hu => ?_⟩
    simp at hu
theorem wpList_slice_rd_hi {T e : TypeId} {x z : Operand} (ho : o.op = .slice T x none (some z) none) (hg : Region.wanted o (yielded ops a.tmps) = true) {k by_ : Nat} [hE : Elem P T e k by_] {v : Value} [hx : Ev a x v] {k' : IntKind} {h : Int} [hz : Ev a z (.int k' h)]
    {B n : Nat} {xs : List Value} (hr : Rd B w v k n xs) (h0 : 0 ≤ h ∧ h ≤ n) (hk : ∀ v', Rd B w v' k h.toNat (xs.take (h.toNat * k)) → wpList P ops Q rest (a.put o.dst v') w) : wpList P ops Q (o :: rest) a w :=
  BigFrame.wpList_want hg fun K hK => by
    obtain ⟨A, cap, rfl, hnc, _⟩ := hr.form
    have e1 : 0 ≤ h ∧ h ≤ (cap : Int) := by omega
    have hrun : (Instr.sliceAt T (.slice A n cap) none (some (.int k' h)) none).run P w = .ok (.slice (if cap = 0 then A else A.map (·.add (0 * k))) (h.toNat - 0) (cap - 0)) w := by
      simp only [Instr.sliceAt, Instr.slice, Sem.run_bind, run_underlying hE.under, Result.andThen_ok, if_true, Sem.run_pure, Instr.sliceBounds, Instr.sliceBound, asIntOf, e1, and_self, hE.sizeOf]
    unfold Oper.wp execOp
    simp only [ho, hx.h, hz.h, Option.map_some, Option.map_none, Sem.run_bind, Sem.run_pure, Result.andThen_ok, hrun]
    refine hK _ _ (hk _ ?_)
    have := hr.part (v := .slice (if cap = 0 then A else A.map (·.add (0 * k))) (h.toNat - 0) (cap - 0)) (i := 0) (m := h.toNat) (c' := cap) (by omega) (by omega) (fun h1 => by rw [if_neg (by omega)]; rfl) ⟨_, rfl⟩
    rw [show (xs.drop (0 * k)).take (h.toNat * k) = xs.take (h.toNat * k) by rw [Nat.zero_mul, List.drop_zero]] at this
    exact this
theorem wpList_slice_rd_lo {T e : TypeId} {x y : Operand} (ho : o.op = .slice T x (some y) none none) (hg : Region.wanted o (yielded ops a.tmps) = true) {k by_ : Nat} [hE : Elem P T e k by_] {v : Value} [hx : Ev a x v] {k' : IntKind} {l : Int} [hy : Ev a y (.int k' l)]
    {B n : Nat} {xs : List Value} (hr : Rd B w v k n xs) (h0 : 0 ≤ l ∧ l ≤ n) (hk : ∀ v', Rd B w v' k (n - l.toNat) (xs.drop (l.toNat * k)) → wpList P ops Q rest (a.put o.dst v') w) : wpList P ops Q (o :: rest) a w :=
  BigFrame.wpList_want hg fun K hK => by
    obtain ⟨A, cap, rfl, hnc, _⟩ := hr.form
    have hrun : (Instr.sliceAt T (.slice A n cap) (some (.int k' l)) none none).run P w = .ok (.slice (if cap = l.toNat then A else A.map (·.add (l.toNat * k))) (n - l.toNat) (cap - l.toNat)) w := by
      simp only [Instr.sliceAt, Instr.slice, Sem.run_bind, run_underlying hE.under, Result.andThen_ok, if_true, Sem.run_pure, Instr.sliceBounds, Instr.sliceBound, asIntOf, h0, and_self, hE.sizeOf]
    unfold Oper.wp execOp
    simp only [ho, hx.h, hy.h, Option.map_some, Option.map_none, Sem.run_bind, Sem.run_pure, Result.andThen_ok, hrun]
    refine hK _ _ (hk _ ?_)
    have := hr.part (v := .slice (if cap = l.toNat then A else A.map (·.add (l.toNat * k))) (n - l.toNat) (cap - l.toNat)) (i := l.toNat) (m := n - l.toNat) (c' := cap - l.toNat) (by omega) (by omega) (fun h1 => by rw [if_neg (by omega)]) ⟨_, rfl⟩
    rwa [List.take_of_length_le (by rw [List.length_drop, hr.len, Nat.sub_mul]; omega)] at this
end
end Go.Sx
