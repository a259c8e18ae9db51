/- Operations that make memory or write it. -/
import Derived.Test.YtniogljhkjbcgaaDoorAmD
namespace Go.Am
open Go Go.RowKit
set_option linter.unusedSimpArgs false
set_option linter.unusedVariables false

/-! ### Cells filled in -/
theorem fold_set (o : Nat) : ∀ (vs : List Value) (j : Nat) (cs : List Value), o + j + vs.length ≤ cs.length →
    (vs.zipIdx j).foldl (fun (cs : Array Value) (x : Value × Nat) => cs.setIfInBounds (o + x.2) x.1) cs.toArray = (cs.take (o + j) ++ vs ++ cs.drop (o + j + vs.length)).toArray
  | [], j, cs, h => by simp
  | v :: vs, j, cs, h => by
    simp only [List.zipIdx_cons, List.foldl_cons]
    have e1 : cs.toArray.setIfInBounds (o + j) v = (cs.set (o + j) v).toArray := by simp
    rw [e1, fold_set o vs (j + 1) _ (by simp at h ⊢; omega)]
    congr 1
    have hlt : o + j < cs.length := by simp at h; omega
    rw [show o + (j + 1) = o + j + 1 by omega, List.take_succ_eq_append_getElem (by simpa using hlt)]
    simp only [List.getElem_set_self, List.append_assoc, List.cons_append, List.nil_append, List.length_cons]
    rw [List.take_set_of_le (by omega), List.drop_set_of_lt (by omega)]
    rw [show o + j + 1 + vs.length = o + j + (vs.length + 1) by omega]
theorem fill_step {place : Nat → Option (Nat × Nat)} {cs : List Value} {i o n : Nat} {v : Value} {us : List Value} {rest : List (Nat × Value)} (hp : place i = some (o, n)) (hv : v.cells = us.toArray) (hl : us.length = n) (hle : o + n ≤ cs.length) :
    Instr.fill place cs.toArray ((i, v) :: rest) = Instr.fill place (cs.take o ++ us ++ cs.drop (o + us.length)).toArray rest := by
  simp only [Instr.fill, hp, hv, List.size_toArray, hl]
  have c1 : ¬ ((decide (n ≠ n) || decide (o + n > cs.length)) = true) := by simp; omega
  rw [if_neg c1]
  have := fold_set o us 0 cs (by omega)
  simp only [Nat.add_zero] at this
  rw [hl] at this
  subst hl
  rw [← this]
  simp

section
variable {P : Program} {β : Bt} {S D : Pr} {H : Hp} {w : World}
theorem fillA_sound {ev : Operand → V} {a : Act} (hev : ∀ x, den β S w D (ev x) (a.eval x)) {place : Nat → Option (Nat × Nat)} : ∀ {ps : List (Nat × Operand)} {z cs : List V} {us : List Value}, denL β S w D z us → us.all Value.oneCell' = true →
    fillA P z place ev ps = some cs → ∃ us' : List Value, Instr.fill place us.toArray (ps.map fun p => (p.1, a.eval p.2)) = some us'.toArray ∧ denL β S w D cs us' ∧ us'.all Value.oneCell' = true
  | [], z, cs, us, hz, h1, h => by
    simp only [fillA, Option.some.injEq] at h
    subst h
    exact ⟨us, rfl, hz, h1⟩
  | (i, x) :: ps, z, cs, us, hz, h1, h => by
    simp only [fillA] at h
    split at h
    · rename_i o n hp
      split at h
      · rename_i hc
        obtain ⟨hl, hle, ho⟩ := hc
        obtain ⟨xs, hx1, hx2, hx3⟩ := cells_den ho (hev x)
        have hlz := denL_len hz
        have hlx := denL_len hx2
        simp only [List.map_cons]
        rw [fill_step hp hx1 (by omega) (by omega)]
        refine fillA_sound hev (denL_append (denL_append (denL_take o hz) hx2) ?_) ?_ h
        · rw [hlx]; exact denL_drop _ hz
        · simp only [List.all_append, all_take o h1, hx3, all_drop _ h1, Bool.and_true]
      · cases h
    · cases h
theorem zero_run {t : TypeId} {z : List V} (h : zeroP P t = some z) : ∃ y : Value, (zeroValue t).run P w = .ok y w ∧ z = y.cells.toList.map .sc := by
  unfold zeroP at h
  cases hi : P.info? t with
  | none => rw [hi] at h; cases h
  | some i =>
    rw [hi] at h
    simp only [Option.bind_some, Option.map_eq_some_iff] at h
    obtain ⟨y, hy, rfl⟩ := h
    exact ⟨y, by simp [zeroValue, typeInfo, hi, hy], rfl⟩
end

def span (D : Pr) (new : Nat) : Pr := fun i => D i ∨ (new ≤ i ∧ i < new + wide)
theorem span_sub (D : Pr) (new : Nat) : ∀ i, D i → span D new i := fun i h => .inl h
theorem span_new (D : Pr) (new : Nat) : span D new new := .inr ⟨Nat.le_refl _, by simp [wide]⟩

/-- Of one's own blocks only those that are named have changed. -/
def Same (β : Bt) (w : World) (us : List (Nat × Option Chunk)) (w' : World) : Prop := ∀ i b m, β i = some (b, m) → i ∉ us.map (·.1) → w'.heap[b]? = w.heap[b]?
theorem Same.refl (β : Bt) (w : World) (us : List (Nat × Option Chunk)) : Same β w us w := fun _ _ _ _ _ => rfl
/-- The operation hands back u and leaves the world w'. -/
def Ran (P : Program) (o : Oper) (a : Act) (w : World) (u : Value) (w' : World) : Prop :=
  (execOp a.eval o).run P w = .ok (.value u) w' ∨ ((execOp a.eval o).run P w = .ok .skip w' ∧ u = undef)
def callable (P : Program) (f : FuncId) : Prop := ∃ fn, P.funcs[f]? = some fn ∧ fn.body.isSome = true ∧ fn.name ≠ "runtime.NumGoroutine"
/-- What an operation's effect says of the model. -/
def GoodR (P : Program) (β : Bt) (S D : Pr) (H : Hp) (new : Nat) (o : Oper) (a : Act) (w : World) : Res → Prop
  | .val v us => ∃ u w' β' S', Ran P o a w u w' ∧ Mem β' S' (span D new) (updL H us) w' ∧ den β' S' w' (span D new) v u ∧ Evo β S w β' S' w' ∧ Hb β β' D ∧ Same β w us w'
  | .call f args => ∃ us : List Value, (callable P f → (execOp a.eval o).run P w = .ok (.enter f us.toArray) w) ∧ denL β S w D args us
  | .dfr f cs => ∃ us : List Value, (execOp a.eval o).run P w = .ok (.defer { target := .fn (.func f) us.toArray, args := #[] }) w ∧ us.length = cs.length
  | .pan v us => us = [] ∧ ∃ u, (execOp a.eval o).run P w = .halt (.panic u) w ∧ v.pure = true ∧ den β S w D v u
def Good (P : Program) (β : Bt) (S D : Pr) (H : Hp) (new : Nat) (o : Oper) (a : Act) (w : World) (k : KR) (r : Ans) : Prop := ∃ res, k res = some r ∧ GoodR P β S D H new o a w res

section
variable {P : Program} {β : Bt} {S D : Pr} {H : Hp} {w : World} {new : Nat} {o : Oper} {a : Act} {k : KR} {r : Ans}

theorem good_same (hM : Mem β S D H w) {v : V} {u : Value} (hrun : (execOp a.eval o).run P w = .ok (.value u) w) (hd : den β S w D v u) : GoodR P β S D H new o a w (.val v []) :=
  ⟨u, w, β, S, .inl hrun, hM.mono (span_sub D new), den_later (fun _ _ => .inl rfl) (fun _ h => h) (span_sub D new) (fun _ _ => rfl) _ _ hd, Evo.refl _ _ _, Hb.refl _ _, Same.refl _ _ _⟩
theorem good_reads (hM : Mem β S D H w) {s : Sem Value} (hs : execOp a.eval o = (do pure (.value (← s)) : Sem Next)) (h : Reads P β S w D k r s) : Good P β S D H new o a w k r := by
  obtain ⟨v, hk, y, hy, hd⟩ := h
  exact ⟨_, hk, good_same hM (by rw [hs]; simp [Sem.run_bind, hy]) hd⟩

theorem alloc_below (w : World) (o : Obj) : Below w.heap.size w (w.alloc o) := (Below.refl _ _).alloc (Nat.le_refl _) _
/-- A block made anew. -/
theorem good_new (hM : Mem β S D H w) (hn : ¬ D new) {cs : List V} {us : List Value} {T : TypeId} (hd : denL β S w D cs us) (h1 : us.all Value.oneCell' = true)
    (hrun : (execOp a.eval o).run P w = .ok (.value (.pointer (some ⟨w.heap.size, 0, none⟩))) (w.alloc (.cells us.toArray T))) :
    GoodR P β S D H new o a w (.val (.ptr new 0) [(new, some (.blk cs))]) := by
  have hb := alloc_below w (.cells us.toArray T)
  have hHb : Hb β (upd β new (some (w.heap.size, 0))) D := fun i hi => .inl (upd_ne _ _ (fun e => hn (e ▸ hi)))
  obtain ⟨g1, g2, g3⟩ := hM.new (m := 0) (c := .blk cs) (b := w.heap.size) hn (span_sub D new) (span_new D new) hb (Nat.le_refl _) (by show w.heap.size < (w.heap.push _).size; simp) (by
    simp only [chunkRel]
    exact ⟨us, T, heap_alloc_new w _, denL_later hHb (fun _ h => h) (span_sub D new) (fun x hx => hb.block x (hM.st x hx)) _ _ hd, h1⟩)
  refine ⟨_, _, _, _, .inl hrun, g1, ?_, g2, g3, fun i b m hi _ => hb.block b (hM.own i b m hi).1⟩
  simp only [den]
  refine ⟨⟨span_new D new, rfl⟩, fun b m h => ?_⟩
  rw [upd_same] at h
  cases h
  rfl
theorem alloc_sound (hM : Mem β S D H w) (hn : ¬ D new) {t : TypeId} (ho : o.op = .alloc t) (h : effAlloc P t new k = some r) : Good P β S D H new o a w k r := by
  unfold effAlloc at h
  split at h
  · rename_i cs hz
    obtain ⟨y, hy, rfl⟩ := zero_run (w := w) hz
    split at h
    · rename_i ho1
      refine ⟨_, h, good_new hM hn (denL_sc _) (denL_one (β := β) (S := S) (w := w) (D := D) ho1 (denL_sc _)) (T := t) ?_⟩
      simp only [execOp, ho, Instr.alloc, Sem.run_bind, hy, newVar, newRow, newObj, Sem.run, Result.andThen_ok, Sem.run_pure, World.alloc, Array.toArray_toList]
    · cases h
  · cases h
theorem box_sound (hM : Mem β S D H w) (hn : ¬ D new) {t : TypeId} {x : Operand} {v : V} (ho : o.op = .box t x) (hx : den β S w D v (a.eval x)) (h : effBox v new k = some r) : Good P β S D H new o a w k r := by
  unfold effBox at h
  split at h
  · rename_i h1
    obtain ⟨us, e1, e2, e3⟩ := cells_den h1 hx
    refine ⟨_, h, good_new hM hn e2 e3 (T := t) ?_⟩
    simp only [execOp, ho, Instr.box, Sem.run_bind, newVar, newRow, newObj, Sem.run, Result.andThen_ok, Sem.run_pure, World.alloc, e1]
  · cases h
theorem grown_alloc (w : World) (o : Obj) (row : Option Nat) : w.grownBy (w.alloc o) row := World.grownBy_alloc w o row
end
end Go.Am
