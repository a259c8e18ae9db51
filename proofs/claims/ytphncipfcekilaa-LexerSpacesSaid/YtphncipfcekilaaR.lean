/- Rules of the walk over a symbolic heap. Generic: no program is named. -/
import Derived.Test.YtphncipfcekilaaH
import Derived.Deep.Quiet
import Derived.Deep.QuietTactic
import Derived.KernelRfl
import Derived.Laws.StructEq
namespace Go.Sx
open Go Go.RowKit
set_option linter.unusedSimpArgs false
set_option linter.unusedVariables false

/-! ### Segments of a list that is written out: found by instances -/
/-- vs are the n cells of l from place i on. -/
inductive SegP : List Value → Nat → Nat → List Value → Prop where
  | nil {l : List Value} : SegP l 0 0 []
  | here {x : Value} {n : Nat} {l vs : List Value} : SegP l 0 n vs → SegP (x :: l) 0 (n + 1) (x :: vs)
  | there {x : Value} {i n : Nat} {l vs : List Value} : SegP l i n vs → SegP (x :: l) (i + 1) n vs
/-- l' is l with vs from place i on. -/
inductive PutP : List Value → Nat → List Value → List Value → Prop where
  | nil {l : List Value} : PutP l 0 [] l
  | here {x v : Value} {l vs l' : List Value} : PutP l 0 vs l' → PutP (x :: l) 0 (v :: vs) (v :: l')
  | there {x : Value} {i : Nat} {l vs l' : List Value} : PutP l i vs l' → PutP (x :: l) (i + 1) vs (x :: l')
class Seg (l : List Value) (i n : Nat) (vs : outParam (List Value)) : Prop where
  h : SegP l i n vs
class Put (l : List Value) (i : Nat) (vs : List Value) (l' : outParam (List Value)) : Prop where
  h : PutP l i vs l'
instance {l : List Value} : Seg l 0 0 [] := ⟨.nil⟩
instance {x : Value} {n : Nat} {l vs : List Value} [h : Seg l 0 n vs] : Seg (x :: l) 0 (n + 1) (x :: vs) := ⟨.here h.h⟩
instance {x : Value} {i n : Nat} {l vs : List Value} [h : Seg l i n vs] : Seg (x :: l) (i + 1) n vs := ⟨.there h.h⟩
instance {l : List Value} : Put l 0 [] l := ⟨.nil⟩
instance {x v : Value} {l vs l' : List Value} [h : Put l 0 vs l'] : Put (x :: l) 0 (v :: vs) (v :: l') := ⟨.here h.h⟩
instance {x : Value} {i : Nat} {l vs l' : List Value} [h : Put l i vs l'] : Put (x :: l) (i + 1) vs (x :: l') := ⟨.there h.h⟩

theorem SegP.get {l vs : List Value} {i n : Nat} (h : SegP l i n vs) : vs.length = n ∧ ∀ j v, vs[j]? = some v → l[i + j]? = some v := by
  induction h with
  | nil => exact ⟨rfl, fun j v h => by simp at h⟩
  | here _ ih =>
    refine ⟨by simp [ih.1], fun j v h => ?_⟩
    cases j with
    | zero => simpa using h
    | succ j =>
      have := ih.2 j v (by simpa using h)
      rw [show 0 + (j + 1) = (0 + j) + 1 by omega, List.getElem?_cons_succ]
      exact this
  | @there x i n l vs _ ih =>
    refine ⟨ih.1, fun j v h => ?_⟩
    rw [show i + 1 + j = (i + j) + 1 by omega, List.getElem?_cons_succ]
    exact ih.2 j v h

theorem PutP.eq {l l' vs : List Value} {i : Nat} (h : PutP l i vs l') : i + vs.length ≤ l.length ∧ l' = l.take i ++ vs ++ l.drop (i + vs.length) := by
  induction h with
  | nil => simp
  | here _ ih => obtain ⟨h1, h2⟩ := ih; refine ⟨by simp at *; omega, ?_⟩; rw [h2]; simp
  | @there x i l vs l' _ ih =>
    obtain ⟨h1, h2⟩ := ih
    refine ⟨by simp only [List.length_cons]; omega, ?_⟩
    rw [h2, show i + 1 + vs.length = (i + vs.length) + 1 by omega]
    simp

/-! ### What the program's tables say of a type: closed facts -/
class IsStr (P : Program) (T : TypeId) : Prop where
  h : P.underlying T = some .string
class IsOne (P : Program) (T : TypeId) : Prop where
  agg : ∀ w, (isAgg T).run P w = .ok false w
class IsAgg (P : Program) (T : TypeId) : Prop where
  agg : ∀ w, (isAgg T).run P w = .ok true w
class Size (P : Program) (T : TypeId) (n : outParam Nat) : Prop where
  size : ∀ w, (sizeOf T).run P w = .ok n w
class Zero (P : Program) (T : TypeId) (cs : outParam (List Value)) : Prop where
  run : ∀ w, (Instr.alloc T true (.tuple #[])).run P w = .ok (.pointer (some ⟨w.heap.size, 0, none⟩)) (w.alloc (.cells cs.toArray T))
class Fld (P : Program) (T : TypeId) (f : Nat) (off : outParam Nat) : Prop where
  run : ∀ w a, (Instr.fieldAt T (.pointer (some a)) f).run P w = .ok (.pointer (some (a.add off))) w
/-- The program's order of evaluation is open. -/
class Mixed (P : Program) : Prop where
  h : P.follows .mixedOrders = true
theorem toList_inj (a b : ByteArray) : (a.toList = b.toList) = (a = b) := by
  refine propext ⟨fun h => ?_, fun h => by rw [h]⟩
  rw [ByteArray.toList_eq, ByteArray.toList_eq] at h
  obtain ⟨⟨la⟩⟩ := a
  obtain ⟨⟨lb⟩⟩ := b
  simp at h
  rw [h]
/-- Two structs of type T compared. -/
class AggEq (P : Program) (T : TypeId) (xs ys : List Value) (b : outParam Bool) : Prop where
  guard : P.eqGuardType P.depth T = false
  run : ∀ w, (Op.equalIn 10000 T (.agg xs.toArray) (.agg ys.toArray)).run P w = .ok b w
/-- A slice type and its elements: the zero of k cells, so many bytes. -/
class Elem (P : Program) (t : TypeId) (e : outParam TypeId) (k bytes : outParam Nat) : Prop where
  under : P.underlying t = some (.slice e)
  info : (P.info? e).map (fun i => (i.size, i.bytes)) = some (k, bytes)
  zero : ∃ z : Value, (P.info? e).bind (·.zero) = some z ∧ z.cells.size = k
  pos : 0 < k

theorem Elem.get {P : Program} {t e : TypeId} {k bytes : Nat} (h : Elem P t e k bytes) : ∃ i z, P.info? e = some i ∧ i.zero = some z ∧ i.size = k ∧ i.bytes = bytes ∧ z.cells.size = k := by
  obtain ⟨z, hz, hk⟩ := h.zero
  have hi := h.info
  cases hq : P.info? e with
  | none => rw [hq] at hi; cases hi
  | some i =>
    rw [hq] at hi hz
    simp only [Option.map_some, Option.some.injEq, Prod.mk.injEq] at hi
    exact ⟨i, z, rfl, by simpa using hz, hi.1, hi.2, hk⟩
theorem Elem.sizeOf {P : Program} {t e : TypeId} {k bytes : Nat} (h : Elem P t e k bytes) (w : World) : (Go.sizeOf e).run P w = .ok k w := by
  obtain ⟨i, z, hi, _, hk, _, _⟩ := h.get
  simp [Go.sizeOf, typeInfo, hi, hk]

def one' (vs : List Value) : Bool := vs.all (·.oneCell')

/-! ### Slices that read as lists -/
def rowAddr : Value → Addr
  | .slice (some a) _ _ => a
  | _ => ⟨0, 0, none⟩
/-- v is a slice of n elements of k cells each; its cells are xs; they lie below B. -/
structure Rd (B : Nat) (w : World) (v : Value) (k n : Nat) (xs : List Value) : Prop where
  len : xs.length = n * k
  max : n ≤ maxLen
  form : ∃ A cap, v = .slice A n cap ∧ n ≤ cap ∧ (0 < n → ∃ ad, A = some ad)
  low : 0 < n → (rowAddr v).block < B
  cells : ∀ j u, xs[j]? = some u → w.cell? ((rowAddr v).add j) = some u

theorem addr_add_add (a : Addr) (i j : Nat) : (a.add i).add j = a.add (i + j) := by
  unfold Addr.add
  by_cases hi : i = 0 <;> by_cases hj : j = 0 <;> simp [hi, hj, Nat.add_assoc]
theorem addr_block (a : Addr) (n : Nat) : (a.add n).block = a.block := by unfold Addr.add; split <;> rfl
theorem addr_lit (g i n : Nat) : (⟨g, i, none⟩ : Addr).add n = ⟨g, i + n, none⟩ := by unfold Addr.add; split <;> simp_all

theorem Rd.step {B : Nat} {w w' : World} {v : Value} {k n : Nat} {xs : List Value} (h : Rd B w v k n xs) (hb : Below B w w') : Rd B w' v k n xs :=
  ⟨h.len, h.max, h.form, h.low, fun j u hu => by
    have hn : 0 < n := by
      have hl := h.len
      rcases Nat.eq_zero_or_pos n with rfl | hn
      · rw [Nat.zero_mul] at hl
        rw [List.eq_nil_of_length_eq_zero hl] at hu
        simp at hu
      · exact hn
    rw [hb.cell (by rw [addr_block]; exact h.low hn)]
    exact h.cells j u hu⟩
theorem Rd.mono {B B' : Nat} {w : World} {v : Value} {k n : Nat} {xs : List Value} (h : Rd B w v k n xs) (hB : B ≤ B') : Rd B' w v k n xs :=
  ⟨h.len, h.max, h.form, fun hn => Nat.lt_of_lt_of_le (h.low hn) hB, h.cells⟩
theorem Rd.nil (B : Nat) (w : World) (k : Nat) : Rd B w (.slice none 0 0) k 0 [] :=
  ⟨by simp, by simp [maxLen], ⟨none, 0, rfl, Nat.le_refl _, fun h => absurd h (by omega)⟩, fun h => absurd h (by omega), fun j u h => by simp at h⟩
theorem Rd.of_own {w : World} {base : Nat} {v : Value} {e : TypeId} {k n : Nat} {xs : List Value} (h : w.ownsRow base e k v n xs) : Rd w.heap.size w v k n xs := by
  have hc := fun g hg => World.ownsRow.cells h (g := g) hg
  have hl := fun g hg => (World.ownsRow.lt h g hg).2
  rcases h.2 with ⟨rfl, rfl⟩ | ⟨g, cap, cur, rfl, hb, hh, hn, hm, hs, ht⟩
  · have : xs = [] := List.eq_nil_of_length_eq_zero (by simpa using h.1)
    subst this
    exact Rd.nil _ _ _
  · exact ⟨h.1, Nat.le_trans hn hm, ⟨_, _, rfl, hn, fun _ => ⟨_, rfl⟩⟩, fun _ => hl g rfl, fun j u hu => hc g rfl j u hu⟩
theorem Rd.of_blk {w : World} {g m cap : Nat} {e : TypeId} {k : Nat} {xs : List Value} {fr : Nat × Nat} (h : w.heap[g]? = some (.cells xs.toArray e fr)) (hl : xs.length = m * k) (hm : m ≤ maxLen) (hc : m ≤ cap) :
    Rd w.heap.size w (.slice (some ⟨g, 0, none⟩) m cap) k m xs := by
  have hlt : g < w.heap.size := by
    rcases Nat.lt_or_ge g w.heap.size with hl | hl
    · exact hl
    · rw [Array.getElem?_eq_none hl] at h; cases h
  refine ⟨hl, hm, ⟨_, _, rfl, hc, fun _ => ⟨_, rfl⟩⟩, fun _ => hlt, fun j u hu => ?_⟩
  rw [show (rowAddr (.slice (some ⟨g, 0, none⟩) m cap)).add j = ⟨g, j, none⟩ by rw [rowAddr, addr_lit, Nat.zero_add], cell_of_row w g j _ _ _ h]
  simpa using hu
theorem St.rd {w0 w : World} {L : List Chunk} {v : Value} {e : TypeId} {k n : Nat} {xs : List Value} (h : St w0 w L) (hm : Chunk.row v e k n xs ∈ L) : Rd w.heap.size w v k n xs := Rd.of_own (h.has _ hm)
theorem Rd.st {w0 w : World} {L : List Chunk} {v : Value} {k n : Nat} {xs : List Value} (h : Rd w0.heap.size w0 v k n xs) (hst : St w0 w L) : Rd w0.heap.size w v k n xs := h.step hst.below

theorem Rd.elem {B : Nat} {w : World} {v : Value} {k n i : Nat} {xs : List Value} (h : Rd B w v k n xs) {vs : List Value} (hv : (xs.drop (i * k)).take k = vs) :
    ∀ j u, vs[j]? = some u → w.cell? (((rowAddr v).add (i * k)).add j) = some u := by
  intro j u hu
  subst hv
  rw [addr_add_add]
  apply h.cells
  rw [List.getElem?_take] at hu
  split at hu
  · rwa [List.getElem?_drop] at hu
  · cases hu

/-! ### Chunks found by instances -/
/-- In L a block g holds the cells l of type t. -/
class BlkAt (L : List Chunk) (g : Nat) (l : outParam (List Value)) (t : outParam TypeId) (fr : outParam (Nat × Nat)) : Prop where
  mem : Chunk.blk g (.cells l.toArray t fr) ∈ L
instance {B : List Chunk} {g : Nat} {l : List Value} {t : TypeId} {fr : Nat × Nat} : BlkAt (.blk g (.cells l.toArray t fr) :: B) g l t fr := ⟨.head _⟩
instance (priority := low) {B : List Chunk} {c : Chunk} {g : Nat} {l : List Value} {t : TypeId} {fr : Nat × Nat} [h : BlkAt B g l t fr] : BlkAt (c :: B) g l t fr := ⟨.tail _ h.mem⟩
/-- L' is L with vs stored into block g from place i on. -/
class StoreAt (L : List Chunk) (g i : Nat) (vs : List Value) (L' : outParam (List Chunk)) : Prop where
  upd : ∃ l l' t, Upd L (.blk g (.cells l.toArray t)) (.blk g (.cells l'.toArray t)) L' ∧ PutP l i vs l'
instance {B : List Chunk} {g i : Nat} {l l' vs : List Value} {t : TypeId} [h : Put l i vs l'] : StoreAt (.blk g (.cells l.toArray t) :: B) g i vs (.blk g (.cells l'.toArray t) :: B) := ⟨_, _, _, .here, h.h⟩
instance (priority := low) {B B' : List Chunk} {c : Chunk} {g i : Nat} {vs : List Value} [h : StoreAt B g i vs B'] : StoreAt (c :: B) g i vs (c :: B') :=
  ⟨let ⟨l, l', t, hu, hp⟩ := h.upd; ⟨l, l', t, .there hu, hp⟩⟩
/-- In L stands a row behind v; Lf is L with another in its place. -/
class RowAt (L : List Chunk) (v : Value) (e : outParam TypeId) (k n : outParam Nat) (xs : outParam (List Value)) (Lf : outParam (Value → Nat → List Value → List Chunk)) : Prop where
  upd : ∀ v' m ys, Upd L (.row v e k n xs) (.row v' e k m ys) (Lf v' m ys)
instance {B : List Chunk} {v : Value} {e : TypeId} {k n : Nat} {xs : List Value} : RowAt (.row v e k n xs :: B) v e k n xs (fun v' m ys => .row v' e k m ys :: B) := ⟨fun _ _ _ => .here⟩
instance (priority := low) {B : List Chunk} {c : Chunk} {v : Value} {e : TypeId} {k n : Nat} {xs : List Value} {Lf : Value → Nat → List Value → List Chunk} [h : RowAt B v e k n xs Lf] :
    RowAt (c :: B) v e k n xs (fun v' m ys => c :: Lf v' m ys) := ⟨fun v' m ys => .there (h.upd v' m ys)⟩
/-- In L stands an iterator over a string. -/
class IterAt (L : List Chunk) (g : Nat) (s : outParam ByteArray) (p : outParam Nat) (Lf : outParam (Nat → List Chunk)) : Prop where
  upd : ∀ q, Upd L (.blk g (.stringIter s p)) (.blk g (.stringIter s q)) (Lf q)
instance {B : List Chunk} {g : Nat} {s : ByteArray} {p : Nat} : IterAt (.blk g (.stringIter s p) :: B) g s p (fun q => .blk g (.stringIter s q) :: B) := ⟨fun _ => .here⟩
instance (priority := low) {B : List Chunk} {c : Chunk} {g : Nat} {s : ByteArray} {p : Nat} {Lf : Nat → List Chunk} [h : IterAt B g s p Lf] : IterAt (c :: B) g s p (fun q => c :: Lf q) := ⟨fun q => .there (h.upd q)⟩

/-! ### Operands and values read by instances -/
class EvL (l : List Value) (i : Nat) (v : outParam Value) : Prop where
  h : l.getD i undef = v
instance EvL.zero {v : Value} {l : List Value} : EvL (v :: l) 0 v := ⟨rfl⟩
instance (priority := low) EvL.succ {x v : Value} {l : List Value} {i : Nat} [h : EvL l i v] : EvL (x :: l) (i + 1) v := ⟨by simpa using h.h⟩
instance EvL.eight {x0 x1 x2 x3 x4 x5 x6 x7 v : Value} {l : List Value} {i : Nat} [h : EvL l i v] : EvL (x0 :: x1 :: x2 :: x3 :: x4 :: x5 :: x6 :: x7 :: l) (i + 8) v := ⟨by simpa using h.h⟩
/-- In the frame a the operand x is v. -/
class Ev (a : Act) (x : Operand) (v : outParam Value) : Prop where
  h : a.eval x = v
instance {l : List Value} {ds : List Deferred} {i : Nat} {v : Value} [h : EvL l i v] : Ev ⟨l.toArray, ds⟩ (.tmp i) v := ⟨by simpa [Act.eval] using h.h⟩
instance {a : Act} {v : Value} : Ev a (.const v) v := ⟨rfl⟩
instance {a : Act} {f : FuncId} : Ev a (.func f) (.func (.func f) #[] #[]) := ⟨rfl⟩
instance {a : Act} {g : Nat} : Ev a (.global g) (.pointer (some ⟨g, 0, none⟩)) := ⟨rfl⟩

/-- A value of one cell. -/
class OneV (v : Value) : Prop where
  one : v.oneCell' = true
  cells : v.cells = #[v]
instance {b : Bool} : OneV (.bool b) := ⟨rfl, rfl⟩
instance {k : IntKind} {n : Int} : OneV (.int k n) := ⟨rfl, rfl⟩
instance {s : ByteArray} : OneV (.string s) := ⟨rfl, rfl⟩
instance {a : Option Addr} : OneV (.pointer a) := ⟨rfl, rfl⟩
instance {a : Option Addr} {n c : Nat} : OneV (.slice a n c) := ⟨rfl, rfl⟩
instance {r : Option Nat} : OneV (.map r) := ⟨rfl, rfl⟩
instance {f : Fn} {a b : Array Value} : OneV (.func f a b) := ⟨rfl, rfl⟩
instance : OneV .nilFunc := ⟨rfl, rfl⟩
instance {t : TypeId} {v : Value} : OneV (.iface t v) := ⟨rfl, rfl⟩
instance : OneV .nilIface := ⟨rfl, rfl⟩
class AllOne (l : List Value) : Prop where
  h : one' l = true
instance : AllOne [] := ⟨rfl⟩
instance {v : Value} {l : List Value} [h : OneV v] [h' : AllOne l] : AllOne (v :: l) := ⟨by have := h.one; have := h'.h; simp_all [one']⟩
/-- The cells of a value. -/
class Cells (v : Value) (vs : outParam (List Value)) : Prop where
  cells : v.cells = vs.toArray
  one : one' vs = true
instance {l : List Value} [h : AllOne l] : Cells (.agg l.toArray) l := ⟨rfl, h.h⟩
instance (priority := low) {v : Value} [h : OneV v] : Cells v [v] := ⟨h.cells, by simp [one', h.one]⟩
/-- An integer that is a natural number, written out as one. -/
class NatI (i : Int) (m : outParam Nat) : Prop where
  h : i = (m : Int)
instance {m : Nat} : NatI (m : Int) m := ⟨rfl⟩
instance {n : Nat} : NatI (@OfNat.ofNat Int n _) n := ⟨rfl⟩
instance {a b : Int} {x y : Nat} [h : NatI a x] [h' : NatI b y] : NatI (a + b) (x + y) := ⟨by rw [h.h, h'.h]; rfl⟩

theorem St.nilRow {w0 w : World} {L : List Chunk} (h : St w0 w L) (e : TypeId) (k : Nat) : St w0 w (.row (.slice none 0 0) e k 0 [] :: L) :=
  h.add (Below.refl _ _) (World.ownsRow_nil w _ e k)

/-- An element of a list laid out cell by cell. -/
theorem flat_get {α : Type} (f : α → List Value) (k : Nat) (hk : ∀ x, (f x).length = k) : ∀ (l : List α) (i : Nat) (x : α), l[i]? = some x → ((l.flatMap f).drop (i * k)).take k = f x := by
  intro l
  induction l with
  | nil => intro i x h; simp at h
  | cons y l ih =>
    intro i x h
    cases i with
    | zero =>
      simp only [List.getElem?_cons_zero, Option.some.injEq] at h
      subst h
      simp [List.flatMap_cons, ← hk y]
    | succ i =>
      have h' := ih i x (by simpa using h)
      rw [List.flatMap_cons, show (i + 1) * k = (f y).length + i * k by rw [hk y, Nat.add_mul]; omega, List.drop_append, List.drop_of_length_le (by omega), List.nil_append, Nat.add_sub_cancel_left]
      exact h'
/-- One cell of it. -/
theorem flat_cell {α : Type} (f : α → List Value) (k : Nat) (hk : ∀ x, (f x).length = k) (l : List α) (i : Nat) (x : α) (h : l[i]? = some x) (j : Nat) (u : Value) (hj : (f x)[j]? = some u) : (l.flatMap f)[i * k + j]? = some u := by
  have := flat_get f k hk l i x h
  rw [← this, List.getElem?_take] at hj
  split at hj
  · rwa [List.getElem?_drop] at hj
  · cases hj

/-! ### Rules -/
section
variable {P : Program} {ops : Array Oper} {rest : List Oper} {o : Oper} {a : Act} {w0 w : World} {L L' : List Chunk} {Q : Exit → Act → World → Prop}

theorem wpList_alloc_st {T : TypeId} (ho : o.op = .alloc T) (hst : St w0 w L) (hg : Region.wanted o (yielded ops a.tmps) = true) {cs : List Value} [hz : Zero P T cs]
    (h : ∀ g w', St w0 w' (.blk g (.cells cs.toArray T) :: L) → wpList P ops Q rest (a.put o.dst (.pointer (some ⟨g, 0, none⟩))) w') : wpList P ops Q (o :: rest) a w :=
  BigFrame.wpList_want hg fun K hK => by
    unfold Oper.wp execOp
    simp only [ho, Sem.run_bind, Sem.run_pure, Result.andThen_ok, hz.run w]
    exact hK _ _ (h _ _ (hst.alloc _))

theorem wpList_box_st {T : TypeId} {x : Operand} (ho : o.op = .box T x) (hst : St w0 w L) (hg : Region.wanted o (yielded ops a.tmps) = true) {v : Value} [hv : Ev a x v] {cs : List Value} [hc : Cells v cs]
    (h : ∀ g w', St w0 w' (.blk g (.cells cs.toArray T) :: L) → wpList P ops Q rest (a.put o.dst (.pointer (some ⟨g, 0, none⟩))) w') : wpList P ops Q (o :: rest) a w :=
  BigFrame.wpList_want hg fun K hK => by
    have hx : (a.eval x).cells = cs.toArray := by rw [hv.h, hc.cells]
    have hrun : (Instr.box T (a.eval x)).run P w = .ok (.pointer (some ⟨w.heap.size, 0, none⟩)) (w.alloc (.cells cs.toArray T)) := by
      simp only [Instr.box, newVar, newRow, newObj, hx, Sem.run_bind, Sem.run, Result.andThen_ok, Sem.run_pure, World.alloc]
    unfold Oper.wp execOp
    simp only [ho, Sem.run_bind, Sem.run_pure, Result.andThen_ok, hrun]
    exact hK _ _ (h _ _ (hst.alloc _))

theorem run_load_agg {T : TypeId} {n : Nat} [hT : IsAgg P T] [hS : Size P T n] {ad : Addr} {vs : List Value} (hn : vs.length = n) (hc : ∀ j u, vs[j]? = some u → w.cell? (ad.add j) = some u) :
    (loadVar T ad).run P w = .ok (.agg vs.toArray) w := by
  have hl := run_loadCells_list (P := P) w ad vs hc
  rw [hn] at hl
  simp [loadVar, Sem.run_bind, hT.agg, hS.size, hl]
theorem run_load_one {T : TypeId} [hT : IsOne P T] {ad : Addr} {u : Value} (hc : w.cell? ad = some u) : (loadVar T ad).run P w = .ok u w := by
  simp [loadVar, Sem.run_bind, hT.agg, load, Sem.run, hc]

theorem wpList_load_agg {T : TypeId} {x : Operand} (ho : o.op = .load T x) (hg : Region.wanted o (yielded ops a.tmps) = true) {n : Nat} [IsAgg P T] [Size P T n] {ad : Addr} [hx : Ev a x (.pointer (some ad))] {vs : List Value} (hn : vs.length = n)
    (hc : ∀ j u, vs[j]? = some u → w.cell? (ad.add j) = some u) (h : wpList P ops Q rest (a.put o.dst (.agg vs.toArray)) w) : wpList P ops Q (o :: rest) a w :=
  BigFrame.wpList_want hg fun K hK => by
    unfold Oper.wp execOp
    simp only [ho, hx.h, Instr.loadAt, Instr.sureAddr, Sem.run_bind, Sem.run_pure, Result.andThen_ok, run_load_agg hn hc]
    exact hK _ _ h
theorem wpList_load_one {T : TypeId} {x : Operand} (ho : o.op = .load T x) (hg : Region.wanted o (yielded ops a.tmps) = true) [IsOne P T] {ad : Addr} [hx : Ev a x (.pointer (some ad))] {u : Value}
    (hc : w.cell? ad = some u) (h : wpList P ops Q rest (a.put o.dst u) w) : wpList P ops Q (o :: rest) a w :=
  BigFrame.wpList_want hg fun K hK => by
    unfold Oper.wp execOp
    simp only [ho, hx.h, Instr.loadAt, Instr.sureAddr, Sem.run_bind, Sem.run_pure, Result.andThen_ok, run_load_one hc]
    exact hK _ _ h

theorem St.cells (hst : St w0 w L) {g : Nat} {l : List Value} {t : TypeId} {fr : Nat × Nat} (hm : Chunk.blk g (.cells l.toArray t fr) ∈ L) {i n : Nat} {vs : List Value} (hs : SegP l i n vs) :
    ∀ j u, vs[j]? = some u → w.cell? ((⟨g, i, none⟩ : Addr).add j) = some u := by
  intro j u hu
  rw [addr_lit, cell_of_row w g (i + j) _ _ _ (hst.has _ hm).1]
  simpa using hs.get.2 j u hu

/-- A struct, or a part of one, out of a block of one's own. -/
theorem wpList_load_agg_st {T : TypeId} {x : Operand} (ho : o.op = .load T x) (hst : St w0 w L) (hg : Region.wanted o (yielded ops a.tmps) = true) {n : Nat} [IsAgg P T] [Size P T n] {g i : Nat} [hx : Ev a x (.pointer (some ⟨g, i, none⟩))]
    {l : List Value} {t : TypeId} {fr : Nat × Nat} [hm : BlkAt L g l t fr] {vs : List Value} [hs : Seg l i n vs]
    (h : wpList P ops Q rest (a.put o.dst (.agg vs.toArray)) w) : wpList P ops Q (o :: rest) a w :=
  wpList_load_agg ho hg hs.h.get.1 (hst.cells hm.mem hs.h) h
theorem wpList_load_one_st {T : TypeId} {x : Operand} (ho : o.op = .load T x) (hst : St w0 w L) (hg : Region.wanted o (yielded ops a.tmps) = true) [IsOne P T] {g i : Nat} [hx : Ev a x (.pointer (some ⟨g, i, none⟩))]
    {l : List Value} {t : TypeId} {fr : Nat × Nat} [hm : BlkAt L g l t fr] {u : Value} [hs : Seg l i 1 [u]]
    (h : wpList P ops Q rest (a.put o.dst u) w) : wpList P ops Q (o :: rest) a w :=
  wpList_load_one ho hg (by simpa [Addr.add] using hst.cells hm.mem hs.h 0 u rfl) h

theorem run_store_st {T : TypeId} {n : Nat} [hT : Size P T n] {g i : Nat} {vs : List Value} {v : Value} (hv : v.cells = vs.toArray) (hn : vs.length = n) (h1 : one' vs = true)
    (hst : St w0 w L) [hU : StoreAt L g i vs L'] :
    ∃ w', (storeVar T ⟨g, i, none⟩ v).run P w = .ok () w' ∧ St w0 w' L' := by
  obtain ⟨l, l', t, hU, hp⟩ := hU.upd
  have hh := (hst.has _ hU.mem).1
  have hB := (hst.has _ hU.mem).2
  obtain ⟨hlen, he⟩ := hp.eq
  have hrun := run_storeCells_at (P := P) g i t vs 0 l.toArray w hh (by simpa using hlen) (by simpa [one'] using h1)
  simp only [Nat.add_zero] at hrun
  refine ⟨w.setRow g (l.take i ++ vs ++ l.drop (i + vs.length)).toArray, ?_, ?_⟩
  · simp only [storeVar, Sem.run_bind, hT.size, Result.andThen_ok, hv]
    simp [hn, hrun]
  · rw [← he]
    refine hst.put hU ⟨rfl, rfl, rfl, by simp, fun k _ hk => setRow_other w g k _ (fun e => hk (by simp [Chunk.foot, e]))⟩ ⟨setRow_heap w g l.toArray l'.toArray t (0, 0) hh, hB⟩ (.inl rfl)

/-- A store into a block of one's own. -/
theorem wpList_store_st {T : TypeId} {x y : Operand} (ho : o.op = .store T x y) (hst : St w0 w L) (hg : Region.wanted o (yielded ops a.tmps) = true) {n : Nat} [Size P T n] {g i : Nat} [hx : Ev a x (.pointer (some ⟨g, i, none⟩))]
    {v : Value} [hy : Ev a y v] {vs : List Value} [hc : Cells v vs] [StoreAt L g i vs L'] (hn : vs.length = n)
    (h : ∀ w', St w0 w' L' → wpList P ops Q rest (a.put o.dst undef) w') : wpList P ops Q (o :: rest) a w :=
  BigFrame.wpList_want hg fun K hK => by
    obtain ⟨w', hrun, hst'⟩ := run_store_st (P := P) (T := T) (g := g) (i := i) hc.cells hn hc.one hst
    unfold Oper.wp execOp
    simp only [ho, hx.h, hy.h, Instr.storeAt, Instr.sureAddr, Sem.run_bind, Sem.run_pure, Result.andThen_ok, hrun]
    exact hK _ _ (h _ hst')

theorem wpList_fieldAddr_st {T : TypeId} {x : Operand} {f : Nat} (ho : o.op = .fieldAddr T x f) (hg : Region.wanted o (yielded ops a.tmps) = true) {off : Nat} [hF : Fld P T f off] {ad : Addr} [hx : Ev a x (.pointer (some ad))]
    (h : wpList P ops Q rest (a.put o.dst (.pointer (some (ad.add off)))) w) : wpList P ops Q (o :: rest) a w :=
  BigFrame.wpList_want hg fun K hK => by
    unfold Oper.wp execOp
    simp only [ho, hx.h, Sem.run_bind, Sem.run_pure, Result.andThen_ok, hF.run w ad]
    exact hK _ _ h
theorem wpList_fieldAddr_blk {T : TypeId} {x : Operand} {f : Nat} (ho : o.op = .fieldAddr T x f) (hg : Region.wanted o (yielded ops a.tmps) = true) {off : Nat} [hF : Fld P T f off] {g i : Nat} [hx : Ev a x (.pointer (some ⟨g, i, none⟩))]
    (h : wpList P ops Q rest (a.put o.dst (.pointer (some ⟨g, i + off, none⟩))) w) : wpList P ops Q (o :: rest) a w :=
  wpList_fieldAddr_st (P := P) (T := T) (f := f) (ad := ⟨g, i, none⟩) ho hg (by rw [addr_lit]; exact h)

theorem run_indexAt_rd {t e : TypeId} {k bytes : Nat} [hE : Elem P t e k bytes] {B n : Nat} {v : Value} {xs : List Value} {i : Int} {kd : IntKind} (hr : Rd B w v k n xs) (hi : 0 ≤ i ∧ i < n) :
    (Instr.indexAt t v (.int kd i)).run P w = .ok (.pointer (some ((rowAddr v).add (i.toNat * k)))) w := by
  obtain ⟨A, cap, rfl, _, hA⟩ := hr.form
  obtain ⟨ad, rfl⟩ := hA (by omega)
  simp [Instr.indexAt, asIntOf, run_underlying hE.under, hE.sizeOf, hi, rowAddr]
theorem wpList_indexAddr_rd {t e : TypeId} {k bytes : Nat} {x y : Operand} (ho : o.op = .indexAddr t x y) (hg : Region.wanted o (yielded ops a.tmps) = true) [hE : Elem P t e k bytes] {v : Value} [hx : Ev a x v] {kd : IntKind} {i : Int} [hy : Ev a y (.int kd i)] {m : Nat} [hN : NatI i m]
    {B n : Nat} {xs : List Value} (hr : Rd B w v k n xs) (hi : m < n)
    (h : wpList P ops Q rest (a.put o.dst (.pointer (some ((rowAddr v).add (m * k))))) w) : wpList P ops Q (o :: rest) a w :=
  BigFrame.wpList_want hg fun K hK => by
    have hrun := run_indexAt_rd (P := P) (t := t) (kd := kd) hr (i := i) (by rw [hN.h]; omega)
    rw [hN.h, Int.toNat_natCast] at hrun
    unfold Oper.wp execOp
    simp only [ho, hx.h, hy.h, hN.h, Sem.run_bind, Sem.run_pure, Result.andThen_ok, hrun]
    exact hK _ _ h
theorem wpList_indexAddr_int {t e : TypeId} {k bytes : Nat} {x y : Operand} (ho : o.op = .indexAddr t x y) (hg : Region.wanted o (yielded ops a.tmps) = true) [hE : Elem P t e k bytes] {v : Value} [hx : Ev a x v] {kd : IntKind} {i : Int} [hy : Ev a y (.int kd i)]
    {B n : Nat} {xs : List Value} (hr : Rd B w v k n xs) (hi : 0 ≤ i ∧ i < n)
    (h : wpList P ops Q rest (a.put o.dst (.pointer (some ((rowAddr v).add (i.toNat * k))))) w) : wpList P ops Q (o :: rest) a w :=
  BigFrame.wpList_want hg fun K hK => by
    unfold Oper.wp execOp
    simp only [ho, hx.h, hy.h, Sem.run_bind, Sem.run_pure, Result.andThen_ok, run_indexAt_rd (P := P) (t := t) (kd := kd) hr hi]
    exact hK _ _ h

theorem wpList_len_rd {t e : TypeId} {x : Operand} (ho : o.op = .call { callee := .builtin .len, args := #[x], argTypes := #[t] }) (hg : Region.wanted o (yielded ops a.tmps) = true) {k' bytes : Nat} [hE : Elem P t e k' bytes] {v : Value} [hx : Ev a x v] {B k n : Nat} {xs : List Value}
    (hr : Rd B w v k n xs) (h : wpList P ops Q rest (a.put o.dst (.int .i64 n)) w) : wpList P ops Q (o :: rest) a w :=
  BigFrame.wpList_want hg fun K hK => by
    obtain ⟨A, cap, rfl, _, _⟩ := hr.form
    have hrun : (Builtin.len_ #[t] o.type #[.slice A n cap]).run P w = .ok (.int .i64 n) w := by
      simp [Builtin.len_, run_underlying hE.under, goInt]
    unfold Oper.wp execOp
    simp only [ho, resolve, invoke, builtin, Sem.run_bind, Sem.run_pure, Result.andThen_ok, List.map_toArray, List.map_cons, List.map_nil, hx.h, hrun]
    exact hK _ _ h

/-- append onto a row of one's own, the source read from wherever. -/
theorem wpList_append_rd {s x : Operand} {t : TypeId} (ho : o.op = .call { callee := .builtin .append, args := #[s, x], argTypes := #[t, t] }) (hst : St w0 w L) (hg : Region.wanted o (yielded ops a.tmps) = true)
    {e : TypeId} {k bytes : Nat} [hE : Elem P t e k bytes] {v : Value} [hs : Ev a s v] {n : Nat} {xs : List Value} {Lf : Value → Nat → List Value → List Chunk} [hU : RowAt L v e k n xs Lf]
    {u : Value} [hx : Ev a x u] {B m : Nat} {news : List Value} (hr : Rd B w u k m news) (hp : 0 < m) [h1 : AllOne news] (h63 : n + m ≤ maxLen) (hb : (n + m) * bytes ≤ 140737488355328)
    (h : ∀ v' w', St w0 w' (Lf v' (n + m) (xs ++ news)) → wpList P ops Q rest (a.put o.dst v') w') : wpList P ops Q (o :: rest) a w :=
  BigFrame.wpList_want hg fun K hK => by
    obtain ⟨A, c, rfl, _, hA⟩ := hr.form
    obtain ⟨ad, rfl⟩ := hA hp
    obtain ⟨i, z, hi, hz, hk, hby, hzs⟩ := hE.get
    have hown : w.ownsRow w0.heap.size e k v n xs := hst.has _ (hU.upd v n xs).mem
    obtain ⟨v', w', hrun, h2, h3, _, h5⟩ := run_append_own_at (P := P) w w0.heap.size t o.type e i z k bytes hE.under hi hz hk hby hzs hE.pos v n xs hown ad m c news hr.len hr.cells (by simpa [one'] using h1.h) h63 hb hst.below.size
    unfold Oper.wp execOp
    simp only [ho, resolve, invoke, builtin, Sem.run_bind, Sem.run_pure, Result.andThen_ok, List.map_toArray, List.map_cons, List.map_nil, hs.h, hx.h, hrun]
    refine hK _ _ (h v' w' (hst.put (hU.upd v' (n + m) (xs ++ news)) h3 h2 ?_))
    rcases h5 with h5 | h5
    · exact .inl h5
    · exact .inr ⟨_, h5, Nat.le_refl _⟩

theorem run_buildSlice_one {t e : TypeId} {k bytes : Nat} [hE : Elem P t e k bytes] {v : Value} {vs : List Value} (hv : v.cells = vs.toArray) (hl : vs.length = k) (hk : k ≤ 16777216) :
    (Instr.buildSlice t 1 #[(0, v)]).run P w = .ok (.slice (some ⟨w.heap.size, 0, none⟩) 1 1) (w.alloc (.cells vs.toArray e)) := by
  obtain ⟨i, z, hi, hz, hik, hby, hzs⟩ := hE.get
  have hp := hE.pos
  have hfill : ∀ (cs : Array Value), cs.size = k → Instr.fill (fun i => some (i * k, k)) cs [(0, v)] = some vs.toArray := by
    intro cs hcs
    simp only [Instr.fill, hv, List.size_toArray, hl, Nat.zero_mul, Nat.zero_add, hcs]
    simp only [ne_eq, not_true_eq_false, decide_false, gt_iff_lt, Nat.lt_irrefl, Bool.or_false, Bool.false_eq_true, if_false]
    congr 1
    obtain ⟨cl⟩ := cs
    have hcl : cl.length = vs.length := by simpa [hl] using hcs
    have key : ∀ (us : List Value) (j : Nat) (pre post : List Value), pre.length = j → post.length = us.length →
        (us.zipIdx j).foldl (fun (cs : Array Value) (x : Value × Nat) => cs.setIfInBounds x.2 x.1) (pre ++ post).toArray = (pre ++ us).toArray := by
      intro us
      induction us with
      | nil => intro j pre post _ hp; simp at hp; simp [hp]
      | cons u us ih =>
        intro j pre post hj hp
        cases post with
        | nil => simp at hp
        | cons p post =>
          simp only [List.zipIdx_cons, List.foldl_cons]
          have e1 : (pre ++ p :: post).toArray.setIfInBounds j u = ((pre ++ [u]) ++ post).toArray := by
            subst hj
            simp
          rw [e1, ih (j + 1) (pre ++ [u]) post (by simp [hj]) (by simpa using hp)]
          simp
    have := key vs 0 [] cl rfl hcl
    simpa using this
  have hsz : ¬ (1 * k > 2 ^ 24) := by omega
  have hk0 : ¬ (1 * k = 0) := by omega
  have hz0 : (zeroValue e).run P w = .ok z w := by simp [zeroValue, typeInfo, hi, hz]
  simp only [Instr.buildSlice, Sem.run_bind, run_underlying hE.under, Result.andThen_ok, hE.sizeOf, hsz, hk0, if_false, hz0, Sem.run_pure]
  rw [hfill _ (by simp)]
  simp only [newRow, newObj, Sem.run_bind, Sem.run, Result.andThen_ok, Sem.run_pure, World.alloc]

/-- A slice literal of one element. -/
theorem wpList_build1_st {t : TypeId} {x : Operand} (ho : o.op = .buildSlice t 1 #[(0, x)]) (hst : St w0 w L) (hg : Region.wanted o (yielded ops a.tmps) = true) {e : TypeId} {k bytes : Nat} [hE : Elem P t e k bytes] {v : Value} [hx : Ev a x v] {vs : List Value} [hc : Cells v vs]
    (hl : vs.length = k) (hk : k ≤ 16777216)
    (h : ∀ g w', St w0 w' (.blk g (.cells vs.toArray e) :: L) → Rd w'.heap.size w' (.slice (some ⟨g, 0, none⟩) 1 1) k 1 vs → wpList P ops Q rest (a.put o.dst (.slice (some ⟨g, 0, none⟩) 1 1)) w') : wpList P ops Q (o :: rest) a w :=
  BigFrame.wpList_want hg fun K hK => by
    unfold Oper.wp execOp
    have hm : (#[(0, x)].map fun (i, x) => (i, a.eval x) : Array (Nat × Value)) = #[(0, a.eval x)] := by simp
    simp only [ho, hm, hx.h, Sem.run_bind, Sem.run_pure, Result.andThen_ok, run_buildSlice_one hc.cells hl hk]
    exact hK _ _ (h _ _ (hst.alloc _) (Rd.of_blk (heap_alloc_new w _) (by simp [hl]) (by simp [maxLen]) (Nat.le_refl _)))

/-! ### A slice literal of several elements -/
class LenIs (l : List Value) (k : Nat) : Prop where
  h : l.length = k
instance : LenIs [] 0 := ⟨rfl⟩
instance {v : Value} {l : List Value} {k : Nat} [h : LenIs l k] : LenIs (v :: l) (k + 1) := ⟨by simp [h.h]⟩
/-- The parts ps, numbered from j on, each of k cells, are these cells. -/
class Parts (a : Act) (j : Nat) (ps : List (Nat × Operand)) (k : Nat) (cs : outParam (List Value)) : Prop where
  h : ∃ vss : List (List Value), cs = vss.flatten ∧ vss.length = ps.length ∧ (∀ vs ∈ vss, vs.length = k) ∧ (∀ vs ∈ vss, one' vs = true) ∧
    ∀ i p, ps[i]? = some p → p.1 = j + i ∧ ∃ vs, vss[i]? = some vs ∧ (a.eval p.2).cells = vs.toArray
instance {a : Act} {j k : Nat} : Parts a j [] k [] := ⟨[], rfl, rfl, by simp, by simp, by simp⟩
instance {a : Act} {j k : Nat} {x : Operand} {ps : List (Nat × Operand)} {v : Value} {vs cs : List Value} [hx : Ev a x v] [hc : Cells v vs] [hl : LenIs vs k] [h : Parts a (j + 1) ps k cs] : Parts a j ((j, x) :: ps) k (vs ++ cs) := ⟨by
  obtain ⟨vss, rfl, h1, h2, h3, h4⟩ := h.h
  refine ⟨vs :: vss, rfl, by simp [h1], ?_, ?_, ?_⟩
  · intro u hu; cases hu with
    | head => exact hl.h
    | tail _ hu => exact h2 u hu
  · intro u hu; cases hu with
    | head => exact hc.one
    | tail _ hu => exact h3 u hu
  · intro i p hp
    cases i with
    | zero =>
      simp only [List.getElem?_cons_zero, Option.some.injEq] at hp
      subst hp
      exact ⟨rfl, vs, rfl, by rw [hx.h, hc.cells]⟩
    | succ i =>
      obtain ⟨e1, u, e2, e3⟩ := h4 i p (by simpa using hp)
      exact ⟨by omega, u, by simpa using e2, e3⟩⟩
theorem fill_one (k : Nat) (v : Value) (vs pre post : List Value) (j : Nat) (hv : v.cells = vs.toArray) (hl : vs.length = k) (hj : pre.length = j * k) (hp : post.length = k) (tl : List Value) :
    (v.cells.zipIdx.foldl (fun cs (c, i) => cs.setIfInBounds (j * k + i) c) (pre ++ post ++ tl).toArray) = (pre ++ vs ++ tl).toArray := by
  rw [hv]
  have key : ∀ (us : List Value) (i : Nat) (pre post : List Value), pre.length = j * k + i → post.length = us.length →
      (us.zipIdx i).foldl (fun (cs : Array Value) (x : Value × Nat) => cs.setIfInBounds (j * k + x.2) x.1) (pre ++ post ++ tl).toArray = (pre ++ us ++ tl).toArray := by
    intro us
    induction us with
    | nil => intro i pre post _ hp; simp at hp; simp [hp]
    | cons u us ih =>
      intro i pre post hj hp
      cases post with
      | nil => simp at hp
      | cons p post =>
        simp only [List.zipIdx_cons, List.foldl_cons]
        have e1 : (pre ++ p :: post ++ tl).toArray.setIfInBounds (j * k + i) u = ((pre ++ [u]) ++ post ++ tl).toArray := by
          rw [← hj]
          simp
        rw [e1, ih (i + 1) (pre ++ [u]) post (by simp [hj]; omega) (by simpa using hp)]
        simp
  have := key vs 0 pre post (by omega) (by omega)
  simpa using this
theorem fill_seq (k : Nat) (hk : 0 < k) : ∀ (ps : List (Nat × Value)) (vss : List (List Value)) (j : Nat) (pre post : List Value), vss.length = ps.length → (∀ vs ∈ vss, vs.length = k) → pre.length = j * k → post.length = ps.length * k →
    (∀ i p, ps[i]? = some p → p.1 = j + i ∧ ∃ vs, vss[i]? = some vs ∧ p.2.cells = vs.toArray) → Instr.fill (fun i => some (i * k, k)) (pre ++ post).toArray ps = some (pre ++ vss.flatten).toArray := by
  intro ps
  induction ps with
  | nil =>
    intro vss j pre post h1 _ _ h4 _
    have : vss = [] := List.eq_nil_of_length_eq_zero h1
    subst this
    have : post = [] := List.eq_nil_of_length_eq_zero (by simpa using h4)
    subst this
    simp [Instr.fill]
  | cons p ps ih =>
    intro vss j pre post h1 h2 h3 h4 h5
    cases vss with
    | nil => simp at h1
    | cons vs vss =>
      obtain ⟨e1, u, e2, e3⟩ := h5 0 p rfl
      simp only [List.getElem?_cons_zero, Option.some.injEq] at e2
      subst e2
      have hlv := h2 vs (.head _)
      obtain ⟨i, v⟩ := p
      simp only [Nat.add_zero] at e1 e3
      subst e1
      have hpl : k ≤ post.length := by rw [h4, List.length_cons, Nat.add_mul]; omega
      have hpost : post = post.take k ++ post.drop k := (List.take_append_drop k post).symm
      have htk : (post.take k).length = k := by simp; omega
      have hc : ¬ (v.cells.size ≠ k || decide (i * k + v.cells.size > (pre ++ post).toArray.size)) = true := by
        rw [e3]
        simp [hlv, h3]
        omega
      simp only [Instr.fill]
      rw [if_neg hc]
      have hf := fill_one k v vs pre (post.take k) i e3 hlv h3 htk (post.drop k)
      rw [List.append_assoc, ← hpost] at hf
      rw [hf]
      rw [ih vss (i + 1) (pre ++ vs) (post.drop k) (by simpa using h1) (fun x hx => h2 x (.tail _ hx)) (by rw [List.length_append, h3, hlv, Nat.add_mul]; omega) (by rw [List.length_drop, h4, List.length_cons, Nat.add_mul]; omega)
        (fun i' p' hp' => by
          obtain ⟨g1, u', g2, g3⟩ := h5 (i' + 1) p' (by simpa using hp')
          exact ⟨by omega, u', by simpa using g2, g3⟩)]
      simp
theorem flatten_len {α : Type} {k : Nat} : ∀ {vss : List (List α)}, (∀ vs ∈ vss, vs.length = k) → vss.flatten.length = vss.length * k := by
  intro vss
  induction vss with
  | nil => intro _; simp
  | cons v vss ih =>
    intro h
    rw [List.flatten_cons, List.length_append, h v (.head _), ih (fun x hx => h x (.tail _ hx)), List.length_cons, Nat.add_mul]
    omega
theorem wpList_buildN_st {t : TypeId} {n : Nat} {ps : List (Nat × Operand)} (ho : o.op = .buildSlice t n ps.toArray) (hst : St w0 w L) (hg : Region.wanted o (yielded ops a.tmps) = true) {e : TypeId} {k bytes : Nat} [hE : Elem P t e k bytes] {cs : List Value}
    [hP : Parts a 0 ps k cs] (hn : ps.length = n) (hk : n * k ≤ 16777216) (hn0 : 0 < n)
    (h : ∀ g w', St w0 w' (.blk g (.cells cs.toArray e) :: L) → Rd w'.heap.size w' (.slice (some ⟨g, 0, none⟩) n n) k n cs → wpList P ops Q rest (a.put o.dst (.slice (some ⟨g, 0, none⟩) n n)) w') : wpList P ops Q (o :: rest) a w :=
  BigFrame.wpList_want hg fun K hK => by
    obtain ⟨vss, rfl, h1, h2, h3, h4⟩ := hP.h
    obtain ⟨i, z, hi, hz, hik, hby, hzs⟩ := hE.get
    have hp := hE.pos
    have hsz : ¬ (n * k > 2 ^ 24) := by omega
    have hnk : 0 < n * k := Nat.mul_pos hn0 hp
    have hk0 : ¬ (n * k = 0) := by omega
    have hz0 : (zeroValue e).run P w = .ok z w := by simp [zeroValue, typeInfo, hi, hz]
    have hlen : vss.flatten.length = n * k := by rw [flatten_len h2, h1, hn]
    have hfill : ∀ (cs : Array Value), cs.size = n * k → Instr.fill (fun i => some (i * k, k)) cs ((ps.map fun p => (p.1, a.eval p.2))) = some vss.flatten.toArray := by
      intro cs hcs
      obtain ⟨cl⟩ := cs
      have := fill_seq k hp (ps.map fun p => (p.1, a.eval p.2)) vss 0 [] cl (by simpa using h1) h2 (by simp) (by simpa [hn] using hcs) (fun i p hp => by
        rw [List.getElem?_map] at hp
        cases hq : ps[i]? with
        | none => rw [hq] at hp; cases hp
        | some q =>
          rw [hq] at hp
          simp only [Option.map_some, Option.some.injEq] at hp
          subst hp
          obtain ⟨e1, vs, e2, e3⟩ := h4 i q hq
          exact ⟨e1, vs, e2, e3⟩)
      simpa using this
    have hrun : (Instr.buildSlice t n (ps.toArray.map fun (i, x) => (i, a.eval x))).run P w = .ok (.slice (some ⟨w.heap.size, 0, none⟩) n n) (w.alloc (.cells vss.flatten.toArray e)) := by
      have hm : (ps.toArray.map fun (i, x) => (i, a.eval x) : Array (Nat × Value)) = (ps.map fun p => (p.1, a.eval p.2)).toArray := by simp
      simp only [hm, Instr.buildSlice, Sem.run_bind, run_underlying hE.under, Result.andThen_ok, hE.sizeOf, hsz, hk0, if_false, hz0, Sem.run_pure]
      rw [hfill _ (by simp)]
      simp only [newRow, newObj, Sem.run_bind, Sem.run, Result.andThen_ok, Sem.run_pure, World.alloc]
    have hnm : n ≤ maxLen := by have := Nat.le_mul_of_pos_right n hp; simp only [maxLen]; omega
    unfold Oper.wp execOp
    simp only [ho, Sem.run_bind, Sem.run_pure, Result.andThen_ok, hrun]
    exact hK _ _ (h _ _ (hst.alloc _) (Rd.of_blk (heap_alloc_new w _) hlen hnm (Nat.le_refl _)))

/-! ### A range over a string -/
theorem wpList_range_str {T : TypeId} {x : Operand} (ho : o.op = .range T x) (hst : St w0 w L) (hg : Region.wanted o (yielded ops a.tmps) = true) [hT : IsStr P T] {s : ByteArray} [hx : Ev a x (.string s)]
    (h : ∀ g w', St w0 w' (.blk g (.stringIter s 0) :: L) → wpList P ops Q rest (a.put o.dst (.pointer (some ⟨g, 0, none⟩))) w') : wpList P ops Q (o :: rest) a w :=
  BigFrame.wpList_want hg fun K hK => by
    unfold Oper.wp execOp
    simp only [ho, hx.h, Sem.run_bind, Sem.run_pure, Result.andThen_ok, run_range_string w T s hT.h]
    exact hK _ _ (h _ _ (hst.alloc _))

theorem run_next_st {g : Nat} {s : ByteArray} {p : Nat} {ty : TypeId} (hst : St w0 w L) {Lf : Nat → List Chunk} [hI : IterAt L g s p Lf] (hp : p < s.size) :
    ∃ w', (Instr.next (.pointer (some ⟨g, 0, none⟩)) true ty).run P w = .ok (.tuple #[.bool true, .int .i64 p, .int .i32 (Utf8.decode s p).1]) w' ∧ St w0 w' (Lf (p + (Utf8.decode s p).2)) := by
  have hU := hI.upd (p + (Utf8.decode s p).2)
  have hh := (hst.has _ hU.mem).1
  have hB := (hst.has _ hU.mem).2
  have hlt := (Chunk.lt (hst.has _ hU.mem) rfl).2
  refine ⟨{ w with heap := w.heap.setIfInBounds g (.stringIter s (p + (Utf8.decode s p).2)) }, ?_, ?_⟩
  · simp [Instr.next, getObj, setObj, Sem.run_bind, Sem.run, hh, hp, goInt]
  · refine hst.put hU ⟨rfl, rfl, rfl, by simp, fun k _ hk => ?_⟩ ⟨?_, hB⟩ (.inl rfl)
    · have : g ≠ k := fun e => hk (by simp [Chunk.foot, e])
      simp [this]
    · simp [hlt]

theorem St.iterPos {g : Nat} {s : ByteArray} {p : Nat} (hst : St w0 w L) {Lf : Nat → List Chunk} [hI : IterAt L g s p Lf] : w.iterPos g = p := by
  simp [World.iterPos, (hst.has _ (hI.upd p).mem).1]

theorem wpList_next_some {x : Operand} (ho : o.op = .next x true) (hst : St w0 w L) (hg : Region.wanted o (yielded ops a.tmps) = true) {g : Nat} [hx : Ev a x (.pointer (some ⟨g, 0, none⟩))] {s : ByteArray} {p : Nat}
    {Lf : Nat → List Chunk} [hI : IterAt L g s p Lf] (hp : p < s.size)
    (h : ∀ w', St w0 w' (Lf (p + (Utf8.decode s p).2)) → wpList P ops Q rest (a.put o.dst (.tuple #[.bool true, .int .i64 p, .int .i32 (Utf8.decode s p).1])) w') : wpList P ops Q (o :: rest) a w :=
  BigFrame.wpList_want hg fun K hK => by
    obtain ⟨w', hrun, hst'⟩ := run_next_st (P := P) (g := g) (ty := o.type) hst hp
    unfold Oper.wp execOp
    simp only [ho, hx.h, Sem.run_bind, Sem.run_pure, Result.andThen_ok, hrun]
    exact hK _ _ (h _ hst')
theorem wpList_next_end {x : Operand} (ho : o.op = .next x true) (hst : St w0 w L) (hg : Region.wanted o (yielded ops a.tmps) = true) {g : Nat} [hx : Ev a x (.pointer (some ⟨g, 0, none⟩))] {s : ByteArray} {p : Nat}
    {Lf : Nat → List Chunk} [hI : IterAt L g s p Lf] (hp : ¬ p < s.size) (h : wpList P ops Q rest (a.put o.dst (.tuple #[.bool false])) w) : wpList P ops Q (o :: rest) a w :=
  BigFrame.wpList_want hg fun K hK => by
    have hh := (hst.has _ (hI.upd p).mem).1
    have hrun : (Instr.next (.pointer (some ⟨g, 0, none⟩)) true o.type).run P w = .ok (.tuple #[.bool false]) w := by
      simp [Instr.next, getObj, Sem.run, hh, hp]
    unfold Oper.wp execOp
    simp only [ho, hx.h, Sem.run_bind, Sem.run_pure, Result.andThen_ok, hrun]
    exact hK _ _ h

/-! ### Integers compared: the two ways -/
theorem run_eql_int (n m : Int) (k : IntKind) (T : TypeId) : (binOp .eql T (.int k n) (.int k m)).run P w = .ok (.bool (decide (n = m))) w := by
  have h : (n == m) = decide (n = m) := by rw [Bool.eq_iff_iff]; simp
  simp [go_sem]
  try exact h
theorem run_neq_int (n m : Int) (k : IntKind) (T : TypeId) : (binOp .neq T (.int k n) (.int k m)).run P w = .ok (.bool (!decide (n = m))) w := by
  have h : (n == m) = decide (n = m) := by rw [Bool.eq_iff_iff]; simp
  simp [go_sem, bne, h]
theorem wpList_eql_int {T T' : TypeId} {x y : Operand} (ho : o.op = .binOp .eql T x y T') (hg : Region.wanted o (yielded ops a.tmps) = true) {k : IntKind} {n m : Int} [hx : Ev a x (.int k n)] [hy : Ev a y (.int k m)]
    (h1 : n ≤ m ∧ m ≤ n → wpList P ops Q rest (a.put o.dst (.bool true)) w) (h2 : n ≠ m → wpList P ops Q rest (a.put o.dst (.bool false)) w) : wpList P ops Q (o :: rest) a w :=
  BigFrame.wpList_want hg fun K hK => by
    unfold Oper.wp execOp
    simp only [ho, hx.h, hy.h, eqGuard, run_eql_int, Sem.run_bind, Sem.run_pure, Result.andThen_ok]
    by_cases h : n = m
    · simp only [h, decide_true]; exact hK _ _ (h1 (by omega))
    · simp only [h, decide_false]; exact hK _ _ (h2 h)
theorem wpList_neq_int {T T' : TypeId} {x y : Operand} (ho : o.op = .binOp .neq T x y T') (hg : Region.wanted o (yielded ops a.tmps) = true) {k : IntKind} {n m : Int} [hx : Ev a x (.int k n)] [hy : Ev a y (.int k m)]
    (h1 : n ≤ m ∧ m ≤ n → wpList P ops Q rest (a.put o.dst (.bool false)) w) (h2 : n ≠ m → wpList P ops Q rest (a.put o.dst (.bool true)) w) : wpList P ops Q (o :: rest) a w :=
  BigFrame.wpList_want hg fun K hK => by
    unfold Oper.wp execOp
    simp only [ho, hx.h, hy.h, eqGuard, run_neq_int, Sem.run_bind, Sem.run_pure, Result.andThen_ok]
    by_cases h : n = m
    · simp only [h, decide_true, Bool.not_true]; exact hK _ _ (h1 (by omega))
    · simp only [h, decide_false, Bool.not_false]; exact hK _ _ (h2 h)

/-! ### Structs compared -/
theorem run_eql_agg {T : TypeId} {x y : Operand} {xs ys : List Value} {b : Bool} [h : AggEq P T xs ys b] : (do eqGuard .eql T x y (.agg xs.toArray) (.agg ys.toArray); binOp .eql T (.agg xs.toArray) (.agg ys.toArray) : Sem Value).run P w = .ok (.bool b) w := by
  rw [Sem.run_bind, run_eqGuard_agg w .eql T x y _ _ h.guard, Result.andThen_ok, run_eql_struct, h.run]; rfl
theorem run_neq_agg {T : TypeId} {x y : Operand} {xs ys : List Value} {b : Bool} [h : AggEq P T xs ys b] : (do eqGuard .neq T x y (.agg xs.toArray) (.agg ys.toArray); binOp .neq T (.agg xs.toArray) (.agg ys.toArray) : Sem Value).run P w = .ok (.bool (!b)) w := by
  rw [Sem.run_bind, run_eqGuard_agg w .neq T x y _ _ h.guard, Result.andThen_ok, run_neq_struct, h.run]; rfl

/-! ### One operation, its value known: in a list of operations, and in a region that draws its order -/
/-- The operation hands back v and leaves the world. -/
def Gives (P : Program) (o : Oper) (a : Act) (w : World) (v : Value) : Prop := (execOp a.eval o).run P w = .ok (.value v) w
theorem wpList_val {v : Value} (hrun : Gives P o a w v) (hg : Region.wanted o (yielded ops a.tmps) = true) (h : wpList P ops Q rest (a.put o.dst v) w) : wpList P ops Q (o :: rest) a w :=
  BigFrame.wpList_want hg fun K hK => by
    unfold Oper.wp
    rw [hrun]
    exact hK _ _ h
section
variable {Qq : Act → Prop}
theorem q_val {v : Value} (hrun : ∀ w, St w0 w L → Gives P o a w v) (hg : Region.wanted o (yielded ops a.tmps) = true) (h : wpQuiet P ops (fun w => St w0 w L) Qq rest (a.put o.dst v)) : wpQuiet P ops (fun w => St w0 w L) Qq (o :: rest) a := by
  refine wpQuiet_step fun K hK => ?_
  rw [if_pos hg]
  refine ⟨v, fun w hw => ?_, hK _ h⟩
  unfold Oper.quietAt
  rw [hrun w hw]
  exact ⟨rfl, rfl⟩
theorem q_call {f : FuncId} {args : Array Value} {v : Value} (hrun : ∀ w, (execOp a.eval o).run P w = .ok (.enter f args) w) (hg : Region.wanted o (yielded ops a.tmps) = true)
    (hc : ∀ w, St w0 w L → Calls P f args w fun e w' => e = .returned v ∧ Below w.heap.size w w') (h : wpQuiet P ops (fun w => St w0 w L) Qq rest (a.put o.dst v)) : wpQuiet P ops (fun w => St w0 w L) Qq (o :: rest) a := by
  refine wpQuiet_step fun K hK => ?_
  rw [if_pos hg]
  refine ⟨v, fun w hw => ?_, hK _ h⟩
  unfold Oper.quietAt
  rw [hrun w]
  exact ⟨rfl, (hc w hw).mono fun e w' ⟨h1, h2⟩ => ⟨h1, hw.call h2⟩⟩
theorem q_skip (hg : Region.wanted o (yielded ops a.tmps) = false) (h : wpQuiet P ops (fun w => St w0 w L) Qq rest (a.put o.dst undef)) : wpQuiet P ops (fun w => St w0 w L) Qq (o :: rest) a := by
  refine wpQuiet_step fun K hK => ?_
  rw [if_neg (by rw [hg]; simp)]
  exact hK _ h
theorem q_nil (h : ∀ w, St w0 w L → Q .normal a w) : wpQuiet P ops (fun w => St w0 w L) (fun a' => ∀ w', St w0 w' L → Q .normal a' w') [] a := wpQuiet_nil h
end
theorem wp_region_st {id : Nat} {l : List Oper} [hm : Mixed P] (hB : Region.lexB .any l.toArray = true) (hst : St w0 w L)
    (h : wpQuiet P l.toArray (fun w => St w0 w L) (fun a' => ∀ w', St w0 w' L → Q .normal a' w') l a) : (Code.region id l.toArray true).wp P Q a w :=
  wp_region_quiet (C := fun w => St w0 w L) hm.h hB hst.drew h

theorem g_move {x : Operand} (ho : o.op = .move x) {v : Value} [hx : Ev a x v] : Gives P o a w v := by unfold Gives execOp; simp only [ho, hx.h, Sem.run_pure]
theorem g_assign {x : Operand} (ho : o.op = .assign x) {v : Value} [hx : Ev a x v] : Gives P o a w v := by unfold Gives execOp; simp only [ho, hx.h, Sem.run_pure]
theorem g_load_agg_st {T : TypeId} {x : Operand} (ho : o.op = .load T x) (hst : St w0 w L) {n : Nat} [IsAgg P T] [Size P T n] {g i : Nat} [hx : Ev a x (.pointer (some ⟨g, i, none⟩))]
    {l : List Value} {t : TypeId} {fr : Nat × Nat} [hm : BlkAt L g l t fr] {vs : List Value} [hs : Seg l i n vs] : Gives P o a w (.agg vs.toArray) := by
  unfold Gives execOp
  simp only [ho, hx.h, Instr.loadAt, Instr.sureAddr, Sem.run_bind, Sem.run_pure, Result.andThen_ok, run_load_agg hs.h.get.1 (hst.cells hm.mem hs.h)]
theorem g_load_one_st {T : TypeId} {x : Operand} (ho : o.op = .load T x) (hst : St w0 w L) [IsOne P T] {g i : Nat} [hx : Ev a x (.pointer (some ⟨g, i, none⟩))]
    {l : List Value} {t : TypeId} {fr : Nat × Nat} [hm : BlkAt L g l t fr] {u : Value} [hs : Seg l i 1 [u]] : Gives P o a w u := by
  have hc : w.cell? ⟨g, i, none⟩ = some u := by simpa [Addr.add] using hst.cells hm.mem hs.h 0 u rfl
  unfold Gives execOp
  simp only [ho, hx.h, Instr.loadAt, Instr.sureAddr, Sem.run_bind, Sem.run_pure, Result.andThen_ok, run_load_one hc]
/-- A whole element of a slice, behind an address that was reckoned. -/
theorem g_load_elem {T : TypeId} {x : Operand} (ho : o.op = .load T x) {k : Nat} [IsAgg P T] [Size P T k] {v : Value} {m : Nat} [hx : Ev a x (.pointer (some ((rowAddr v).add (m * k))))]
    {B n : Nat} {xs vs : List Value} (hr : Rd B w v k n xs) (hv : (xs.drop (m * k)).take k = vs) (hn : vs.length = k) : Gives P o a w (.agg vs.toArray) := by
  unfold Gives execOp
  simp only [ho, hx.h, Instr.loadAt, Instr.sureAddr, Sem.run_bind, Sem.run_pure, Result.andThen_ok, run_load_agg hn (hr.elem hv)]
theorem g_load_cell {T : TypeId} {x : Operand} (ho : o.op = .load T x) [IsOne P T] {v : Value} {j : Nat} [hx : Ev a x (.pointer (some ((rowAddr v).add j)))]
    {B k n : Nat} {xs : List Value} (hr : Rd B w v k n xs) {u : Value} (hv : xs[j]? = some u) : Gives P o a w u := by
  unfold Gives execOp
  simp only [ho, hx.h, Instr.loadAt, Instr.sureAddr, Sem.run_bind, Sem.run_pure, Result.andThen_ok, run_load_one (hr.cells j u hv)]
theorem g_indexAddr {t e : TypeId} {k bytes : Nat} {x y : Operand} (ho : o.op = .indexAddr t x y) [hE : Elem P t e k bytes] {v : Value} [hx : Ev a x v] {kd : IntKind} {i : Int} [hy : Ev a y (.int kd i)] {m : Nat} [hN : NatI i m]
    {B n : Nat} {xs : List Value} (hr : Rd B w v k n xs) (hi : m < n) : Gives P o a w (.pointer (some ((rowAddr v).add (m * k)))) := by
  have hrun := run_indexAt_rd (P := P) (t := t) (kd := kd) hr (i := i) (by rw [hN.h]; omega)
  rw [hN.h, Int.toNat_natCast] at hrun
  unfold Gives execOp
  simp only [ho, hx.h, hy.h, hN.h, Sem.run_bind, Sem.run_pure, Result.andThen_ok, hrun]
theorem g_eql_agg {T T' : TypeId} {x y : Operand} (ho : o.op = .binOp .eql T x y T') {xs ys : List Value} [hx : Ev a x (.agg xs.toArray)] [hy : Ev a y (.agg ys.toArray)] {b : Bool} [h : AggEq P T xs ys b] : Gives P o a w (.bool b) := by
  have hrun := run_eql_agg (P := P) (w := w) (T := T) (x := x) (y := y) (xs := xs) (ys := ys) (b := b)
  simp only [Sem.run_bind] at hrun
  unfold Gives execOp
  simp only [ho, hx.h, hy.h, Sem.run_bind, hrun, Result.andThen_ok, Sem.run_pure]
theorem g_neq_agg {T T' : TypeId} {x y : Operand} (ho : o.op = .binOp .neq T x y T') {xs ys : List Value} [hx : Ev a x (.agg xs.toArray)] [hy : Ev a y (.agg ys.toArray)] {b : Bool} [h : AggEq P T xs ys b] : Gives P o a w (.bool (!b)) := by
  have hrun := run_neq_agg (P := P) (w := w) (T := T) (x := x) (y := y) (xs := xs) (ys := ys) (b := b)
  simp only [Sem.run_bind] at hrun
  unfold Gives execOp
  simp only [ho, hx.h, hy.h, Sem.run_bind, hrun, Result.andThen_ok, Sem.run_pure]

section
variable {Qq : Act → Prop}
theorem q_move {x : Operand} (ho : o.op = .move x) {v : Value} [Ev a x v] (hg : Region.wanted o (yielded ops a.tmps) = true) (h : wpQuiet P ops (fun w => St w0 w L) Qq rest (a.put o.dst v)) : wpQuiet P ops (fun w => St w0 w L) Qq (o :: rest) a := q_val (fun _ _ => g_move ho) hg h
theorem q_assign {x : Operand} (ho : o.op = .assign x) {v : Value} [Ev a x v] (hg : Region.wanted o (yielded ops a.tmps) = true) (h : wpQuiet P ops (fun w => St w0 w L) Qq rest (a.put o.dst v)) : wpQuiet P ops (fun w => St w0 w L) Qq (o :: rest) a := q_val (fun _ _ => g_assign ho) hg h
theorem q_load_agg {T : TypeId} {x : Operand} (ho : o.op = .load T x) {n : Nat} [IsAgg P T] [Size P T n] {g i : Nat} [Ev a x (.pointer (some ⟨g, i, none⟩))]
    {l : List Value} {t : TypeId} {fr : Nat × Nat} [BlkAt L g l t fr] {vs : List Value} [Seg l i n vs] (hg : Region.wanted o (yielded ops a.tmps) = true) (h : wpQuiet P ops (fun w => St w0 w L) Qq rest (a.put o.dst (.agg vs.toArray))) : wpQuiet P ops (fun w => St w0 w L) Qq (o :: rest) a :=
  q_val (fun _ hst => g_load_agg_st ho hst) hg h
theorem q_load_one {T : TypeId} {x : Operand} (ho : o.op = .load T x) [IsOne P T] {g i : Nat} [Ev a x (.pointer (some ⟨g, i, none⟩))]
    {l : List Value} {t : TypeId} {fr : Nat × Nat} [BlkAt L g l t fr] {u : Value} [Seg l i 1 [u]] (hg : Region.wanted o (yielded ops a.tmps) = true) (h : wpQuiet P ops (fun w => St w0 w L) Qq rest (a.put o.dst u)) : wpQuiet P ops (fun w => St w0 w L) Qq (o :: rest) a :=
  q_val (fun _ hst => g_load_one_st ho hst) hg h
theorem q_fieldAddr {T : TypeId} {x : Operand} {f : Nat} (ho : o.op = .fieldAddr T x f) {off : Nat} [hF : Fld P T f off] {ad : Addr} [hx : Ev a x (.pointer (some ad))] (hg : Region.wanted o (yielded ops a.tmps) = true)
    (h : wpQuiet P ops (fun w => St w0 w L) Qq rest (a.put o.dst (.pointer (some (ad.add off))))) : wpQuiet P ops (fun w => St w0 w L) Qq (o :: rest) a :=
  q_val (fun w _ => by unfold Gives execOp; simp only [ho, hx.h, Sem.run_bind, Sem.run_pure, Result.andThen_ok, hF.run w ad]) hg h
theorem q_fieldAddr_blk {T : TypeId} {x : Operand} {f : Nat} (ho : o.op = .fieldAddr T x f) {off : Nat} [hF : Fld P T f off] {g i : Nat} [hx : Ev a x (.pointer (some ⟨g, i, none⟩))] (hg : Region.wanted o (yielded ops a.tmps) = true)
    (h : wpQuiet P ops (fun w => St w0 w L) Qq rest (a.put o.dst (.pointer (some ⟨g, i + off, none⟩)))) : wpQuiet P ops (fun w => St w0 w L) Qq (o :: rest) a :=
  q_fieldAddr (T := T) (f := f) (ad := ⟨g, i, none⟩) ho hg (by rw [addr_lit]; exact h)
theorem q_indexAddr {t e : TypeId} {k bytes : Nat} {x y : Operand} (ho : o.op = .indexAddr t x y) [Elem P t e k bytes] {v : Value} [Ev a x v] {kd : IntKind} {i : Int} [Ev a y (.int kd i)] {m : Nat} [NatI i m]
    {n : Nat} {xs : List Value} (hr : Rd w0.heap.size w0 v k n xs) (hi : m < n) (hg : Region.wanted o (yielded ops a.tmps) = true)
    (h : wpQuiet P ops (fun w => St w0 w L) Qq rest (a.put o.dst (.pointer (some ((rowAddr v).add (m * k)))))) : wpQuiet P ops (fun w => St w0 w L) Qq (o :: rest) a :=
  q_val (fun _ hst => g_indexAddr ho (hr.st hst) hi) hg h
theorem q_load_elem {T : TypeId} {x : Operand} (ho : o.op = .load T x) {k : Nat} [IsAgg P T] [Size P T k] {v : Value} {m : Nat} [Ev a x (.pointer (some ((rowAddr v).add (m * k))))]
    {n : Nat} {xs vs : List Value} (hr : Rd w0.heap.size w0 v k n xs) (hv : (xs.drop (m * k)).take k = vs) (hn : vs.length = k) (hg : Region.wanted o (yielded ops a.tmps) = true)
    (h : wpQuiet P ops (fun w => St w0 w L) Qq rest (a.put o.dst (.agg vs.toArray))) : wpQuiet P ops (fun w => St w0 w L) Qq (o :: rest) a :=
  q_val (fun _ hst => g_load_elem ho (hr.st hst) hv hn) hg h
theorem q_load_cell {T : TypeId} {x : Operand} (ho : o.op = .load T x) [IsOne P T] {v : Value} {j : Nat} [Ev a x (.pointer (some ((rowAddr v).add j)))]
    {k n : Nat} {xs : List Value} (hr : Rd w0.heap.size w0 v k n xs) {u : Value} (hv : xs[j]? = some u) (hg : Region.wanted o (yielded ops a.tmps) = true)
    (h : wpQuiet P ops (fun w => St w0 w L) Qq rest (a.put o.dst u)) : wpQuiet P ops (fun w => St w0 w L) Qq (o :: rest) a :=
  q_val (fun _ hst => g_load_cell ho (hr.st hst) hv) hg h
theorem q_eql_agg {T T' : TypeId} {x y : Operand} (ho : o.op = .binOp .eql T x y T') {xs ys : List Value} [Ev a x (.agg xs.toArray)] [Ev a y (.agg ys.toArray)] {b : Bool} [AggEq P T xs ys b] (hg : Region.wanted o (yielded ops a.tmps) = true)
    (h : wpQuiet P ops (fun w => St w0 w L) Qq rest (a.put o.dst (.bool b))) : wpQuiet P ops (fun w => St w0 w L) Qq (o :: rest) a := q_val (fun _ _ => g_eql_agg ho) hg h
theorem q_neq_agg {T T' : TypeId} {x y : Operand} (ho : o.op = .binOp .neq T x y T') {xs ys : List Value} [Ev a x (.agg xs.toArray)] [Ev a y (.agg ys.toArray)] {b : Bool} [AggEq P T xs ys b] (hg : Region.wanted o (yielded ops a.tmps) = true)
    (h : wpQuiet P ops (fun w => St w0 w L) Qq rest (a.put o.dst (.bool (!b)))) : wpQuiet P ops (fun w => St w0 w L) Qq (o :: rest) a := q_val (fun _ _ => g_neq_agg ho) hg h
end

/-! ### Where a rule should have gone through and did not: the walk stands -/
def Stuck (p : Prop) : Prop := p
theorem isQuiet {C : World → Prop} {q : Act → Prop} (h : wpQuiet P ops C q rest a) : wpQuiet P ops C q rest a := h
theorem isDraw {id : Nat} (h : (Code.region id ops true).wp P Q a w) : (Code.region id ops true).wp P Q a w := h
theorem isList (h : wpList P ops Q (o :: rest) a w) : wpList P ops Q (o :: rest) a w := h
theorem stk_store {T : TypeId} {x y : Operand} (_ : o.op = .store T x y) (h : Stuck (wpList P ops Q (o :: rest) a w)) : wpList P ops Q (o :: rest) a w := h
theorem stk_load {T : TypeId} {x : Operand} (_ : o.op = .load T x) (h : Stuck (wpList P ops Q (o :: rest) a w)) : wpList P ops Q (o :: rest) a w := h
theorem stk_alloc {T : TypeId} (_ : o.op = .alloc T) (h : Stuck (wpList P ops Q (o :: rest) a w)) : wpList P ops Q (o :: rest) a w := h
theorem stk_box {T : TypeId} {x : Operand} (_ : o.op = .box T x) (h : Stuck (wpList P ops Q (o :: rest) a w)) : wpList P ops Q (o :: rest) a w := h
theorem stk_build {T : TypeId} {n : Nat} {xs : Array (Nat × Operand)} (_ : o.op = .buildSlice T n xs) (h : Stuck (wpList P ops Q (o :: rest) a w)) : wpList P ops Q (o :: rest) a w := h
theorem stk_append {s x : Operand} {ts : Array TypeId} (_ : o.op = .call { callee := .builtin .append, args := #[s, x], argTypes := ts }) (h : Stuck (wpList P ops Q (o :: rest) a w)) : wpList P ops Q (o :: rest) a w := h
theorem stk_index {T : TypeId} {x y : Operand} (_ : o.op = .indexAddr T x y) (h : Stuck (wpList P ops Q (o :: rest) a w)) : wpList P ops Q (o :: rest) a w := h
theorem stk_slice {T : TypeId} {x : Operand} {l h m : Option Operand} (_ : o.op = .slice T x l h m) (hh : Stuck (wpList P ops Q (o :: rest) a w)) : wpList P ops Q (o :: rest) a w := hh

/-! ### A part of a string: under a name of its own -/
theorem run_slice_str {T : TypeId} [hT : IsStr P T] {s : ByteArray} {k k' : IntKind} {l h : Int} (h0 : 0 ≤ l) (h1 : l ≤ h) (h2 : h ≤ s.size) :
    (Instr.sliceAt T (.string s) (some (.int k l)) (some (.int k' h)) none).run P w = .ok (.string (s.extract l.toNat h.toNat)) w := by
  have e1 : 0 ≤ h ∧ h ≤ (s.size : Int) := by omega
  have e2 : 0 ≤ l ∧ l ≤ (h.toNat : Int) := by omega
  simp only [Instr.sliceAt, Instr.slice, Sem.run_bind, run_underlying hT.h, Result.andThen_ok, Option.isSome_none, Bool.false_eq_true, if_false, Sem.run_pure, Instr.sliceBounds, Instr.sliceBound, asIntOf, e1, e2, and_self, if_true]
theorem run_slice_str_hi {T : TypeId} [hT : IsStr P T] {s : ByteArray} {k' : IntKind} {h : Int} (h1 : 0 ≤ h) (h2 : h ≤ s.size) :
    (Instr.sliceAt T (.string s) none (some (.int k' h)) none).run P w = .ok (.string (s.extract 0 h.toNat)) w := by
  have e1 : 0 ≤ h ∧ h ≤ (s.size : Int) := by omega
  simp only [Instr.sliceAt, Instr.slice, Sem.run_bind, run_underlying hT.h, Result.andThen_ok, Option.isSome_none, Bool.false_eq_true, if_false, Sem.run_pure, Instr.sliceBounds, Instr.sliceBound, asIntOf, e1, and_self, if_true]
theorem run_slice_str_lo {T : TypeId} [hT : IsStr P T] {s : ByteArray} {k : IntKind} {l : Int} (h0 : 0 ≤ l) (h1 : l ≤ s.size) :
    (Instr.sliceAt T (.string s) (some (.int k l)) none none).run P w = .ok (.string (s.extract l.toNat s.size)) w := by
  have e2 : 0 ≤ l ∧ l ≤ (s.size : Int) := by omega
  simp only [Instr.sliceAt, Instr.slice, Sem.run_bind, run_underlying hT.h, Result.andThen_ok, Option.isSome_none, Bool.false_eq_true, if_false, Sem.run_pure, Instr.sliceBounds, Instr.sliceBound, asIntOf, e2, and_self, if_true]

theorem wpList_slice_str {T : TypeId} {x y z : Operand} (ho : o.op = .slice T x (some y) (some z) none) (hg : Region.wanted o (yielded ops a.tmps) = true) [IsStr P T] {s : ByteArray} [hx : Ev a x (.string s)] {k k' : IntKind} {l h : Int} [hy : Ev a y (.int k l)] [hz : Ev a z (.int k' h)]
    (h0 : 0 ≤ l ∧ l ≤ h ∧ h ≤ s.size) (hk : ∀ t, Hid (t = s.extract l.toNat h.toNat) → wpList P ops Q rest (a.put o.dst (.string t)) w) : wpList P ops Q (o :: rest) a w :=
  BigFrame.wpList_want hg fun K hK => by
    unfold Oper.wp execOp
    simp only [ho, hx.h, hy.h, hz.h, Option.map_some, Option.map_none, Sem.run_bind, Sem.run_pure, Result.andThen_ok, run_slice_str h0.1 h0.2.1 h0.2.2]
    exact hK _ _ (hk _ (Lib.hid rfl))
theorem wpList_slice_str_hi {T : TypeId} {x z : Operand} (ho : o.op = .slice T x none (some z) none) (hg : Region.wanted o (yielded ops a.tmps) = true) [IsStr P T] {s : ByteArray} [hx : Ev a x (.string s)] {k' : IntKind} {h : Int} [hz : Ev a z (.int k' h)]
    (h0 : 0 ≤ h ∧ h ≤ s.size) (hk : ∀ t, Hid (t = s.extract 0 h.toNat) → wpList P ops Q rest (a.put o.dst (.string t)) w) : wpList P ops Q (o :: rest) a w :=
  BigFrame.wpList_want hg fun K hK => by
    unfold Oper.wp execOp
    simp only [ho, hx.h, hz.h, Option.map_some, Option.map_none, Sem.run_bind, Sem.run_pure, Result.andThen_ok, run_slice_str_hi h0.1 h0.2]
    exact hK _ _ (hk _ (Lib.hid rfl))
theorem wpList_slice_str_lo {T : TypeId} {x y : Operand} (ho : o.op = .slice T x (some y) none none) (hg : Region.wanted o (yielded ops a.tmps) = true) [IsStr P T] {s : ByteArray} [hx : Ev a x (.string s)] {k : IntKind} {l : Int} [hy : Ev a y (.int k l)]
    (h0 : 0 ≤ l ∧ l ≤ s.size) (hk : ∀ t, Hid (t = s.extract l.toNat s.size) → wpList P ops Q rest (a.put o.dst (.string t)) w) : wpList P ops Q (o :: rest) a w :=
  BigFrame.wpList_want hg fun K hK => by
    unfold Oper.wp execOp
    simp only [ho, hx.h, hy.h, Option.map_some, Option.map_none, Sem.run_bind, Sem.run_pure, Result.andThen_ok, run_slice_str_lo h0.1 h0.2]
    exact hK _ _ (hk _ (Lib.hid rfl))

/-! ### Strings compared: the two ways -/
theorem bytes_toList_eq (a b : ByteArray) : (a.toList == b.toList) = decide (a = b) := by
  rw [Bool.eq_iff_iff, beq_iff_eq, decide_eq_true_iff]
  refine ⟨fun h => ?_, fun h => by rw [h]⟩
  have h' : a.data.toList = b.data.toList := by rw [← ByteArray.toList_eq, ← ByteArray.toList_eq]; exact h
  obtain ⟨⟨la⟩⟩ := a
  obtain ⟨⟨lb⟩⟩ := b
  simp at h'
  rw [h']
theorem wpList_eql_str {T T' : TypeId} {x y : Operand} (ho : o.op = .binOp .eql T x y T') (hg : Region.wanted o (yielded ops a.tmps) = true) {s s' : ByteArray} [hx : Ev a x (.string s)] [hy : Ev a y (.string s')]
    (h1 : Hid (s = s') → wpList P ops Q rest (a.put o.dst (.bool true)) w) (h2 : Hid (s ≠ s') → wpList P ops Q rest (a.put o.dst (.bool false)) w) : wpList P ops Q (o :: rest) a w :=
  BigFrame.wpList_want hg fun K hK => by
    unfold Oper.wp execOp
    simp only [ho, hx.h, hy.h, eqGuard, binOp_string_eql, Sem.run_bind, Sem.run_pure, Result.andThen_ok, bytes_toList_eq]
    by_cases h : s = s'
    · simp only [h, decide_true]; exact hK _ _ (h1 (Lib.hid h))
    · simp only [h, decide_false]; exact hK _ _ (h2 (Lib.hid h))
theorem wpList_neq_str {T T' : TypeId} {x y : Operand} (ho : o.op = .binOp .neq T x y T') (hg : Region.wanted o (yielded ops a.tmps) = true) {s s' : ByteArray} [hx : Ev a x (.string s)] [hy : Ev a y (.string s')]
    (h1 : Hid (s = s') → wpList P ops Q rest (a.put o.dst (.bool false)) w) (h2 : Hid (s ≠ s') → wpList P ops Q rest (a.put o.dst (.bool true)) w) : wpList P ops Q (o :: rest) a w :=
  BigFrame.wpList_want hg fun K hK => by
    unfold Oper.wp execOp
    simp only [ho, hx.h, hy.h, eqGuard, binOp_string_neq, Sem.run_bind, Sem.run_pure, Result.andThen_ok, bytes_toList_eq]
    by_cases h : s = s'
    · simp only [h, decide_true, Bool.not_true]; exact hK _ _ (h1 (Lib.hid h))
    · simp only [h, decide_false, Bool.not_false]; exact hK _ _ (h2 (Lib.hid h))

/-! ### Results that lie in a cell -/
theorem results_cell2 {fn : Func} {p u : Tmp} {ty : TypeId} (hr : fn.results = #[.cell p ty, .tmp u]) {tmps : Array Value} (hst : St w0 w L) {n : Nat} [IsAgg P ty] [Size P ty n] {g i : Nat} (hp : tmps.getD p undef = .pointer (some ⟨g, i, none⟩))
    {l : List Value} {t : TypeId} {fr : Nat × Nat} [hm : BlkAt L g l t fr] {vs : List Value} [hs : Seg l i n vs] :
    (results fn tmps).run P w = .ok (.tuple #[.agg vs.toArray, tmps.getD u undef]) w := by
  rw [results_cell_tmp hr, hp]
  simp [asAddr, run_load_agg hs.h.get.1 (hst.cells hm.mem hs.h)]
theorem results_cell1 {fn : Func} {p : Tmp} {ty : TypeId} (hr : fn.results = #[.cell p ty]) {tmps : Array Value} (hst : St w0 w L) {n : Nat} [IsAgg P ty] [Size P ty n] {g i : Nat} (hp : tmps.getD p undef = .pointer (some ⟨g, i, none⟩))
    {l : List Value} {t : TypeId} {fr : Nat × Nat} [hm : BlkAt L g l t fr] {vs : List Value} [hs : Seg l i n vs] :
    (results fn tmps).run P w = .ok (.agg vs.toArray) w := by
  have hp' : tmps[p]?.getD undef = .pointer (some ⟨g, i, none⟩) := by simpa using hp
  simp [results, hr, hp', asAddr, run_load_agg hs.h.get.1 (hst.cells hm.mem hs.h)]
end
end Go.Sx
