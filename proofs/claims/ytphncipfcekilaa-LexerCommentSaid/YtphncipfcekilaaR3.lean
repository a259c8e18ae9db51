/- Rules for regions that draw their order and hold calls. -/
import Derived.Test.YtphncipfcekilaaR2
namespace Go.Sx
open Go.RowKit
set_option linter.unusedSimpArgs false
set_option linter.unusedVariables false
class Enter (P : Program) (f : FuncId) : Prop where
  h : ∀ (args : Array Value) (w : World), (callFunc f args).run P w = .ok (.enter f args) w
theorem exec_call {a : Act} {o : Oper} {f : FuncId} {as : Array Operand} {ats : Array TypeId} (hop : o.op = .call { callee := .value (.func f), args := as, argTypes := ats }) : execOp a.eval o = callFunc f (as.map a.eval) := by
  have ef : a.eval (.func f) = .func (.func f) #[] #[] := rfl
  unfold execOp
  simp [hop, resolve, Deferred.ofValue, invoke, ef]
theorem enter_of {P : Program} {f : FuncId} {fn : Func} {c : Code} (hf : P.funcs[f]? = some fn) (hname : (fn.name == "runtime.NumGoroutine") = false) (hb : fn.body = some c) : Enter P f :=
  ⟨fun args w => by
    have h1 : fn.name ≠ "runtime.NumGoroutine" := by simpa using hname
    simp [callFunc, hf, h1, hb]⟩
section
variable {P : Program} {ops : Array Oper} {rest : List Oper} {o : Oper} {a : Act} {w0 w : World} {L L' : List Chunk} {Q : Exit → Act → World → Prop} {Qq : Act → Prop}
theorem q_call0 {f : FuncId} {ts : Array TypeId} (ho : o.op = .call { callee := .value (.func f), args := #[], argTypes := ts }) [hE : Enter P f] {v : Value} (hg : Region.wanted o (yielded ops a.tmps) = true)
    (hc : ∀ w, St w0 w L → Calls P f #[] w fun e w' => e = .returned v ∧ Below w.heap.size w w') (h : wpQuiet P ops (fun w => St w0 w L) Qq rest (a.put o.dst v)) : wpQuiet P ops (fun w => St w0 w L) Qq (o :: rest) a :=
  q_call (f := f) (args := #[]) (fun w => by rw [exec_call ho, List.map_toArray, List.map_nil, hE.h]) hg hc h
theorem q_call3 {f : FuncId} {ts : Array TypeId} {x y z : Operand} (ho : o.op = .call { callee := .value (.func f), args := #[x, y, z], argTypes := ts }) [hE : Enter P f] {vx vy vz : Value} [hx : Ev a x vx] [hy : Ev a y vy] [hz : Ev a z vz] {v : Value} (hg : Region.wanted o (yielded ops a.tmps) = true)
    (hc : ∀ w, St w0 w L → Calls P f #[vx, vy, vz] w fun e w' => e = .returned v ∧ Below w.heap.size w w') (h : wpQuiet P ops (fun w => St w0 w L) Qq rest (a.put o.dst v)) : wpQuiet P ops (fun w => St w0 w L) Qq (o :: rest) a :=
  q_call (f := f) (args := #[vx, vy, vz]) (fun w => by rw [exec_call ho, List.map_toArray, List.map_cons, List.map_cons, List.map_cons, List.map_nil, hx.h, hy.h, hz.h, hE.h]) hg hc h
theorem q_pick {c x y : Operand} (ho : o.op = .pick c x y) {b : Bool} [hc : Ev a c (.bool b)] {vx vy : Value} [hx : Ev a x vx] [hy : Ev a y vy] (hg : Region.wanted o (yielded ops a.tmps) = true)
    (h : wpQuiet P ops (fun w => St w0 w L) Qq rest (a.put o.dst (if b then vx else vy))) : wpQuiet P ops (fun w => St w0 w L) Qq (o :: rest) a :=
  q_val (fun w _ => by unfold Gives execOp; simp only [ho, hc.h, hx.h, hy.h, asBool, Sem.run_bind, Sem.run_pure, Result.andThen_ok]) hg h
theorem q_len_str {t : TypeId} {x : Operand} (ho : o.op = .call { callee := .builtin .len, args := #[x], argTypes := #[t] }) [hT : IsStr P t] {s : ByteArray} [hx : Ev a x (.string s)] (hg : Region.wanted o (yielded ops a.tmps) = true)
    (h : wpQuiet P ops (fun w => St w0 w L) Qq rest (a.put o.dst (.int .i64 s.size))) : wpQuiet P ops (fun w => St w0 w L) Qq (o :: rest) a :=
  q_val (v := .int .i64 s.size) (fun w _ => by
    have hrun : (Builtin.len_ #[t] o.type #[.string s]).run P w = .ok (.int .i64 s.size) w := by
      simp [Builtin.len_, run_underlying hT.h, goInt]
    unfold Gives execOp
    simp only [ho, resolve, invoke, builtin, Sem.run_bind, Sem.run_pure, Result.andThen_ok, List.map_toArray, List.map_cons, List.map_nil, hx.h, hrun]) hg h
theorem q_add_int {T T' : TypeId} {x y : Operand} (ho : o.op = .binOp .add T x y T') {n m : Int} [hx : Ev a x (.int .i64 n)] [hy : Ev a y (.int .i64 m)] (hb : -9223372036854775808 ≤ n + m ∧ n + m ≤ 9223372036854775807) (hg : Region.wanted o (yielded ops a.tmps) = true)
    (h : wpQuiet P ops (fun w => St w0 w L) Qq rest (a.put o.dst (.int .i64 (n + m)))) : wpQuiet P ops (fun w => St w0 w L) Qq (o :: rest) a :=
  q_val (v := .int .i64 (n + m)) (fun w _ => by
    have e : IntKind.i64.wrap (n + m) = n + m := by simp [IntKind.wrap, IntKind.bits, IntKind.signed]; omega
    unfold Gives execOp
    simp [ho, hx.h, hy.h, eqGuard, binOp, Op.intArith, e]) hg h
theorem q_slice_hi {T e : TypeId} {x z : Operand} (ho : o.op = .slice T x none (some z) none) {k by_ : Nat} [hE : Elem P T e k by_] {v : Value} [hx : Ev a x v] {k' : IntKind} {h : Int} [hz : Ev a z (.int k' h)]
    (hst : St w0 w L) {n : Nat} {xs : List Value} (hr : ∀ w, St w0 w L → Rd w.heap.size w v k n xs) (h0 : 0 ≤ h ∧ h ≤ n) (hg : Region.wanted o (yielded ops a.tmps) = true)
    (hk : ∀ v', (∀ w, St w0 w L → Rd w.heap.size w v' k h.toNat (xs.take (h.toNat * k))) → wpQuiet P ops (fun w => St w0 w L) Qq rest (a.put o.dst v')) : wpQuiet P ops (fun w => St w0 w L) Qq (o :: rest) a := by
  obtain ⟨A, cap, rfl, hnc, _⟩ := (hr w hst).form
  have e1 : 0 ≤ h ∧ h ≤ (cap : Int) := by omega
  have hrun : ∀ w, (Instr.sliceAt T (.slice A n cap) none (some (.int k' h)) none).run P w = .ok (.slice (if cap = 0 then A else A.map (·.add (0 * k))) (h.toNat - 0) (cap - 0)) w := by
    intro w
    simp only [Instr.sliceAt, Instr.slice, Sem.run_bind, run_underlying hE.under, Result.andThen_ok, if_true, Sem.run_pure, Instr.sliceBounds, Instr.sliceBound, asIntOf, e1, and_self, hE.sizeOf]
  refine q_val (v := .slice (if cap = 0 then A else A.map (·.add (0 * k))) (h.toNat - 0) (cap - 0)) (fun w _ => ?_) hg (hk _ fun w hw => ?_)
  · unfold Gives execOp
    simp only [ho, hx.h, hz.h, Option.map_some, Option.map_none, Sem.run_bind, Sem.run_pure, Result.andThen_ok, hrun]
  · have := (hr w hw).part (v := .slice (if cap = 0 then A else A.map (·.add (0 * k))) (h.toNat - 0) (cap - 0)) (i := 0) (m := h.toNat) (c' := cap) (by omega) (by omega) (fun h1 => by rw [if_neg (by omega)]; rfl) ⟨_, rfl⟩
    rw [show (xs.drop (0 * k)).take (h.toNat * k) = xs.take (h.toNat * k) by rw [Nat.zero_mul, List.drop_zero]] at this
    exact this
theorem q_slice_lo {T e : TypeId} {x y : Operand} (ho : o.op = .slice T x (some y) none none) {k by_ : Nat} [hE : Elem P T e k by_] {v : Value} [hx : Ev a x v] {k' : IntKind} {l : Int} [hy : Ev a y (.int k' l)]
    (hst : St w0 w L) {n : Nat} {xs : List Value} (hr : ∀ w, St w0 w L → Rd w.heap.size w v k n xs) (h0 : 0 ≤ l ∧ l ≤ n) (hg : Region.wanted o (yielded ops a.tmps) = true)
    (hk : ∀ v', (∀ w, St w0 w L → Rd w.heap.size w v' k (n - l.toNat) (xs.drop (l.toNat * k))) → wpQuiet P ops (fun w => St w0 w L) Qq rest (a.put o.dst v')) : wpQuiet P ops (fun w => St w0 w L) Qq (o :: rest) a := by
  obtain ⟨A, cap, rfl, hnc, _⟩ := (hr w hst).form
  have hrun : ∀ w, (Instr.sliceAt T (.slice A n cap) (some (.int k' l)) none none).run P w = .ok (.slice (if cap = l.toNat then A else A.map (·.add (l.toNat * k))) (n - l.toNat) (cap - l.toNat)) w := by
    intro w
    simp only [Instr.sliceAt, Instr.slice, Sem.run_bind, run_underlying hE.under, Result.andThen_ok, if_true, Sem.run_pure, Instr.sliceBounds, Instr.sliceBound, asIntOf, h0, and_self, hE.sizeOf]
  refine q_val (v := .slice (if cap = l.toNat then A else A.map (·.add (l.toNat * k))) (n - l.toNat) (cap - l.toNat)) (fun w _ => ?_) hg (hk _ fun w hw => ?_)
  · unfold Gives execOp
    simp only [ho, hx.h, hy.h, Option.map_some, Option.map_none, Sem.run_bind, Sem.run_pure, Result.andThen_ok, hrun]
  · have := (hr w hw).part (v := .slice (if cap = l.toNat then A else A.map (·.add (l.toNat * k))) (n - l.toNat) (cap - l.toNat)) (i := l.toNat) (m := n - l.toNat) (c' := cap - l.toNat) (by omega) (by omega) (fun h1 => by rw [if_neg (by omega)]) ⟨_, rfl⟩
    rwa [List.take_of_length_le (by rw [List.length_drop, (hr w hw).len, Nat.sub_mul]; omega)] at this
end
end Go.Sx
