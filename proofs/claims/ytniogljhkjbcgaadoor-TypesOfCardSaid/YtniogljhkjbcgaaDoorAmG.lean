/- Slices made and grown; ranges over strings. -/
import Derived.Test.YtniogljhkjbcgaaDoorAmF
namespace Go.Am
open Go Go.RowKit
set_option linter.unusedSimpArgs false
set_option linter.unusedVariables false

theorem flatten_len {α : Type} {k : Nat} : ∀ {vss : List (List α)}, (∀ vs ∈ vss, vs.length = k) → vss.flatten.length = vss.length * k
  | [], _ => by simp
  | v :: vss, h => by rw [List.flatten_cons, List.length_append, h v (.head _), flatten_len (fun x hx => h x (.tail _ hx)), List.length_cons, Nat.add_mul]; omega
theorem flatten_get {α : Type} {k : Nat} : ∀ {vss : List (List α)}, (∀ vs ∈ vss, vs.length = k) → ∀ (j : Nat) (vs : List α), vss[j]? = some vs → ∀ i, i < k → vss.flatten[j * k + i]? = vs[i]?
  | [], _, j, vs, h, _, _ => by simp at h
  | v :: vss, hk, j, vs, h, i, hi => by
    have hv := hk v (.head _)
    rw [List.flatten_cons, List.getElem?_append]
    cases j with
    | zero =>
      simp only [List.getElem?_cons_zero, Option.some.injEq] at h
      subst h
      rw [Nat.zero_mul, Nat.zero_add, if_pos (by omega)]
    | succ j =>
      rw [if_neg (by rw [Nat.add_mul]; omega), hv, show (j + 1) * k + i - k = j * k + i by rw [Nat.add_mul]; omega]
      exact flatten_get (fun x hx => hk x (.tail _ hx)) j vs (by simpa using h) i hi
theorem fill_parts (k : Nat) : ∀ (ps : List (Nat × Value)) (vss : List (List Value)) (j : Nat) (pre post : List Value), vss.length = ps.length → (∀ vs ∈ vss, vs.length = k) → pre.length = j * k → post.length = ps.length * k →
    (∀ i p, ps[i]? = some p → p.1 = j + i ∧ ∃ vs, vss[i]? = some vs ∧ p.2.cells = vs.toArray) → Instr.fill (fun i => some (i * k, k)) (pre ++ post).toArray ps = some (pre ++ vss.flatten).toArray
  | [], vss, j, pre, post, h1, _, _, h4, _ => by
    have : vss = [] := List.eq_nil_of_length_eq_zero h1
    subst this
    have : post = [] := List.eq_nil_of_length_eq_zero (by simpa using h4)
    subst this
    simp [Instr.fill]
  | (i, v) :: ps, vss, j, pre, post, h1, h2, h3, h4, h5 => by
    cases vss with
    | nil => simp at h1
    | cons vs vss =>
      obtain ⟨e1, u, e2, e3⟩ := h5 0 (i, v) rfl
      simp only [List.getElem?_cons_zero, Option.some.injEq] at e2
      subst e2
      simp only [Nat.add_zero] at e1 e3
      subst e1
      have hl := h2 vs (.head _)
      have h4' : post.length = ps.length * k + k := by rw [h4, List.length_cons, Nat.add_mul]; omega
      rw [fill_step (o := i * k) (n := k) rfl e3 hl (by rw [List.length_append]; omega)]
      rw [List.take_left' h3, List.drop_append, List.drop_of_length_le (by omega), List.nil_append, show i * k + vs.length - pre.length = k by omega]
      rw [fill_parts k ps vss (i + 1) (pre ++ vs) (post.drop k) (by simpa using h1) (fun x hx => h2 x (.tail _ hx)) (by rw [List.length_append, h3, hl, Nat.add_mul]; omega) (by rw [List.length_drop]; omega)
        (fun i' p' hp' => by
          obtain ⟨g1, u', g2, g3⟩ := h5 (i' + 1) p' (by simpa using hp')
          exact ⟨by omega, u', by simpa using g2, g3⟩)]
      simp

section
variable {P : Program} {β : Bt} {S D : Pr} {H : Hp} {w : World} {new : Nat} {o : Oper} {a : Act} {k : KR} {r : Ans}

theorem allOk_spec {c n : Nat} {f : Nat → List V} (h : allOk c n f = true) (j : Nat) (hj : j < n) : (f j).length = c ∧ pureL (f j) = true ∧ (f j).all V.one = true := by
  unfold allOk at h
  rw [List.all_eq_true] at h
  have := h j (by simpa using hj)
  simp only [Bool.and_eq_true, beq_iff_eq] at this
  exact ⟨this.1.1, this.1.2, this.2⟩
/-- A row made anew. -/
theorem good_row (hM : Mem β S D H w) (hn : ¬ D new) {e c n m : Nat} {f : Nat → List V} {cur : Array Value} {w' : World} {b : Nat} (hc : 0 < c) (hnm : n ≤ m) (hm : m ≤ maxLen) (hs : cur.size = m * c) (hev : Below w.heap.size w w') (hb : w.heap.size ≤ b) (hb' : b < w'.heap.size)
    (hh : w'.heap[b]? = some (.cells cur e (0, 0))) (hrow : rowOK β S w D c n f cur)
    (hrun : (execOp a.eval o).run P w = .ok (.value (.slice (some ⟨b, 0, none⟩) n m)) w') : GoodR P β S D H new o a w (.val (.sl new c 0 n) [(new, some (.row e c n f))]) := by
  obtain ⟨g1, g2, g3⟩ := hM.new (m := m) (c := .row e c n f) (b := b) hn (span_sub D new) (span_new D new) hev hb hb' (by
    simp only [chunkRel]
    exact ⟨hnm, hm, hc, cur, hh, hs, rowOK_later (fun _ h => h) (fun x hx => hev.block x (hM.st x hx)) hrow⟩)
  refine ⟨_, _, _, _, .inl hrun, g1, ?_, g2, g3, fun i b' m' hi _ => hev.block b' (hM.own i b' m' hi).1⟩
  simp only [den]
  refine ⟨⟨span_new D new, rfl⟩, fun b' m' h => ?_⟩
  rw [upd_same] at h
  cases h
  exact ⟨by omega, ⟨b, 0, none⟩, rfl, fun _ => by simp⟩

theorem makeSlice_sound (hM : Mem β S D H w) (hn : ¬ D new) {t : TypeId} {x y : Operand} {vx vy : V} (ho : o.op = .makeSlice t x y) (hx : den β S w D vx (a.eval x)) (hy : den β S w D vy (a.eval y))
    (h : effMakeSlice P t vx vy new k = some r) : Good P β S D H new o a w k r := by
  unfold effMakeSlice at h
  split at h
  · rename_i n m hnx hny
    obtain ⟨kx, hx'⟩ := intV_den hx hnx
    obtain ⟨ky, hy'⟩ := intV_den hy hny
    split at h
    · rename_i e he
      split at h
      · rename_i c z by_ hc hz hby
        split at h
        · rename_i hcond
          obtain ⟨rfl, h0, hc0, hzl, hbytes, hmax, hok⟩ := hcond
          obtain ⟨q, rfl⟩ := Int.eq_ofNat_of_zero_le h0
          simp only [Int.toNat_natCast] at hbytes hmax h
          cases hi : P.info? e with
          | none => simp [szP, hi] at hc
          | some i =>
            have hc1 : i.size = c := by simpa [szP, hi] using hc
            have hb1 : i.bytes = by_ := by simpa [bytesP, hi] using hby
            simp only [zeroP, hi, Option.bind_some, Option.map_eq_some_iff] at hz
            obtain ⟨zv, hzv, rfl⟩ := hz
            have hzs : zv.cells.size = c := by simpa using hzl
            unfold maxLen at hmax
            have hrun := run_make (P := P) w t e i zv (elem_under he) hi hzv kx ky (q : Int) (q : Int) (by omega) (Int.le_refl _) (by rw [hb1, ← Int.natCast_mul, Nat.mul_comm]; omega) (by omega)
            simp only [Int.toNat_natCast, hc1] at hrun
            refine ⟨_, h, good_row hM hn (m := q) (cur := madeCells zv.cells (q * c)) (b := w.heap.size) hc0 (Nat.le_refl _) (by unfold maxLen; omega) (size_madeCells _ _) (alloc_below w _) (Nat.le_refl _) (by show w.heap.size < (w.heap.push _).size; simp) (heap_alloc_new w _) ?_ ?_⟩
            · intro j hj
              obtain ⟨_, o2, o3⟩ := allOk_spec hok 0 (by omega)
              refine ⟨zv.cells.toList, denL_sc _, o2, by simpa using hzs, denL_one (β := β) (S := S) (w := w) (D := D) o3 (denL_sc _), fun i x hx => ?_⟩
              have hil : i < c := by have := (List.getElem?_eq_some_iff.1 hx).1; simp at this; omega
              have hlt : j * c + i < q * c := by
                have : (j + 1) * c ≤ q * c := Nat.mul_le_mul_right c (by omega)
                rw [Nat.add_mul] at this
                omega
              have hi' : i < zv.cells.size := by omega
              have hmd : (j * c + i) % c = i := by rw [Nat.mul_comm, Nat.mul_add_mod]; exact Nat.mod_eq_of_lt hil
              rw [Array.getElem?_eq_getElem (by rw [size_madeCells]; exact hlt)]
              simp only [madeCells, Array.getElem_map, Array.getElem_range, hzs, hmd]
              rw [getElem!_pos zv.cells i hi']
              rw [List.getElem?_eq_getElem (by simpa using hi')] at hx
              simpa using hx
            · simp only [execOp, ho, hx', hy', Sem.run_bind, hrun, Result.andThen_ok, Sem.run_pure]
        · cases h
      · cases h
    · cases h
  · cases h
end
end Go.Am
