/- An executor over a small abstract memory. Generic: no program is named. -/
import Derived.WalkKit
import Derived.WalkLawsBesides
import Derived.WalkSpells
import Derived.Maps.AppendAt
import Derived.Deep.Quiet
import Derived.KernelRfl
import Derived.Below
set_option linter.unusedSimpArgs false
set_option linter.unusedVariables false
namespace Go.Am
open Go

/-- Abstract values. Parts of memory of one's own are named by numbers; what is only read stands as it reads. -/
inductive V where
  | junk
  | sc (v : Value)
  | agg (cs : List V)
  | tup (vs : List V)
  | ptr (i o : Nat)
  | ep (i k j o : Nat)
  | rp (cs : List V)
  | sl (i k o l : Nat)
  | ro (k n : Nat) (f : Nat → List V)
  | fn (f : FuncId) (cs : List V)
  | mp (i : Nat)
  | ifc (t : TypeId) (v : V)
  | bf (f : FuncId) (fs cs : List V)
instance : Inhabited V := ⟨.junk⟩

/-- What stands in memory of one's own. -/
inductive Chunk where
  | blk (cs : List V)
  | row (e : TypeId) (k n : Nat) (f : Nat → List V)
  | iter (s : ByteArray) (p : Nat)
  | map (es : List (Int × V))
  | smap (n : Nat) (has : ByteArray → Bool) (f : ByteArray → V)
instance : Inhabited Chunk := ⟨.blk []⟩

abbrev Hp := Nat → Option Chunk
def hp (l : List (Option Chunk)) : Hp := fun i => l.getD i none
def upd {α : Type} (h : Nat → Option α) (i : Nat) (c : Option α) : Nat → Option α := fun j => if j = i then c else h j
def updL (h : Hp) : List (Nat × Option Chunk) → Hp
  | [] => h
  | (i, c) :: l => updL (upd h i c) l

structure St where
  fr : List V
  H : Hp
  nx : Nat
  rt : Nat
  me : FuncId

mutual
def V.ids : V → List Nat
  | .ptr i _ => [i]
  | .ep i _ _ _ => [i]
  | .sl i _ _ _ => [i]
  | .mp i => [i]
  | .agg cs => idsL cs
  | .tup cs => idsL cs
  | .fn _ cs => idsL cs
  | .ifc _ v => v.ids
  | .bf _ fs cs => idsL fs ++ idsL cs
  | _ => []
def idsL : List V → List Nat
  | [] => []
  | v :: l => v.ids ++ idsL l
end
def Chunk.ids : Chunk → List Nat
  | .blk cs => idsL cs
  | _ => []

mutual
def V.ren (r : Nat → Option Nat) : V → V
  | .ptr i o => match r i with | some i => .ptr i o | none => .junk
  | .ep i k j o => match r i with | some i => .ep i k j o | none => .junk
  | .sl i k o l => match r i with | some i => .sl i k o l | none => .junk
  | .mp i => match r i with | some i => .mp i | none => .junk
  | .agg cs => .agg (renL r cs)
  | .tup cs => .tup (renL r cs)
  | .fn f cs => .fn f (renL r cs)
  | .ifc t v => .ifc t (v.ren r)
  | .bf f fs cs => .bf f (renL r fs) (renL r cs)
  | v => v
def renL (r : Nat → Option Nat) : List V → List V
  | [] => []
  | v :: l => v.ren r :: renL r l
end
def Chunk.ren (r : Nat → Option Nat) : Chunk → Chunk
  | .blk cs => .blk (renL r cs)
  | c => c

mutual
/-- No part of it lies in memory of one's own. -/
def V.pure : V → Bool
  | .sc _ => true
  | .agg cs => pureL cs
  | .tup cs => pureL cs
  | .fn _ cs => pureL cs
  | .ifc _ v => v.pure
  | .bf _ fs cs => pureL fs && pureL cs
  | .ro _ _ _ => true
  | .rp _ => true
  | _ => false
def pureL : List V → Bool
  | [] => true
  | v :: l => v.pure && pureL l
end
mutual
def V.toVal : V → Option Value
  | .sc v => some v
  | .agg cs => (toValL cs).map fun l => .agg l.toArray
  | .tup cs => (toValL cs).map fun l => .tuple l.toArray
  | .fn f cs => (toValL cs).map fun l => .func (.func f) #[] l.toArray
  | .ifc t v => v.toVal.map (.iface t)
  | .bf f fs cs => match toValL fs, toValL cs with | some l, some m => some (.func (.func f) l.toArray m.toArray) | _, _ => none
  | _ => none
def toValL : List V → Option (List Value)
  | [] => some []
  | v :: l => match v.toVal, toValL l with | some x, some xs => some (x :: xs) | _, _ => none
end
def ofVal1 : Value → V
  | .agg cs => if cs.toList.all Value.oneCell' = true then .agg (cs.toList.map .sc) else .junk
  | v => .sc v
def ofVal : Value → V
  | .tuple vs => .tup (vs.toList.map ofVal1)
  | v => ofVal1 v
/-- One cell. -/
def V.one : V → Bool
  | .agg _ => false
  | .tup _ => false
  | .junk => false
  | .sc v => v.oneCell'
  | _ => true
def V.cells : V → List V
  | .agg cs => cs
  | v => [v]
def V.sc1 : V → Bool
  | .sc _ => true
  | _ => false
def V.sc2 : V → Bool
  | .sc _ => true
  | .agg cs => cs.all V.sc1
  | _ => false
def V.scal : V → Bool
  | .tup cs => cs.all V.sc2
  | v => v.sc2

def pureRun (P : Program) {α : Type} : Sem α → Option α
  | .pure a => some a
  | .program k => pureRun P (k P)
  | .mark _ k => pureRun P k
  | _ => none

/-! ### Types -/
def aggP (P : Program) (t : TypeId) : Option Bool := match P.underlying t with | some (.struct _) => some true | some (.array _ _) => some true | some _ => some false | none => none
def szP (P : Program) (t : TypeId) : Option Nat := (P.info? t).map (·.size)
def isStrP (P : Program) (t : TypeId) : Bool := match P.underlying t with | some .string => true | _ => false
def elemP (P : Program) (t : TypeId) : Option TypeId := match P.underlying t with | some (.slice e) => some e | _ => none
def arrP (P : Program) (t : TypeId) : Option (Nat × TypeId) := match P.underlying t with | some (.array n e) => some (n, e) | _ => none
/-- A field: its place and its type. -/
def fldP (P : Program) (t : TypeId) (f : Nat) : Option (Nat × TypeId) := match P.underlying t with | some (.struct fs) => (fs[f]?).map fun f => (f.offset, f.type) | _ => none
def zeroP (P : Program) (t : TypeId) : Option (List V) := (P.info? t).bind fun i => i.zero.map fun z => z.cells.toList.map .sc
def bytesP (P : Program) (t : TypeId) : Option Nat := (P.info? t).map (·.bytes)

/-- The value of type t in these cells from o on. -/
def seg (P : Program) (t : TypeId) (cs : List V) (o : Nat) : Option V :=
  match aggP P t with
  | some true => match szP P t with
    | some n => if o + n ≤ cs.length then some (.agg ((cs.drop o).take n)) else none
    | none => none
  | some false => cs[o]?
  | none => none
def splice (cs : List V) (o : Nat) (vs : List V) : List V := cs.take o ++ vs ++ cs.drop (o + vs.length)

/-- What an operation does. -/
inductive Res where
  | val (v : V) (us : List (Nat × Option Chunk))
  | call (f : FuncId) (args : List V)
  | pan (v : V) (us : List (Nat × Option Chunk))
  /-- To be called at the end, with what it holds. -/
  | dfr (f : FuncId) (cs : List V)
inductive Ex where
  | normal
  | exit (id : Nat)
  | ret
  | panic (v : V)
inductive CRes where
  | ret (v : V) (L : List (Option Chunk))
  | pan (v : V)
inductive Ans where
  | c (r : CRes)
  | l (e : Ex) (s : St)

/-! ### Values brought to their form: each of these is 'k' at its argument -/
def fVal (x : Value) (k : Value → Option Ans) : Option Ans :=
  match x with
  | .int a b => k (.int a b)
  | .bool b => k (.bool b)
  | .string s => k (.string s)
  | x => k x
mutual
def fV : V → (V → Option Ans) → Option Ans
  | .junk, k => k .junk
  | .sc x, k => fVal x fun x => k (.sc x)
  | .agg cs, k => fL cs fun cs => k (.agg cs)
  | .tup cs, k => fL cs fun cs => k (.tup cs)
  | .ptr i o, k => k (.ptr i o)
  | .ep i c j o, k => k (.ep i c j o)
  | .rp cs, k => fL cs fun cs => k (.rp cs)
  | .sl i c o l, k => k (.sl i c o l)
  | .ro c n f, k => k (.ro c n f)
  | .fn f cs, k => fL cs fun cs => k (.fn f cs)
  | .mp i, k => k (.mp i)
  | .ifc t v, k => fV v fun v => k (.ifc t v)
  | .bf f fs cs, k => fL fs fun fs => fL cs fun cs => k (.bf f fs cs)
def fL : List V → (List V → Option Ans) → Option Ans
  | [], k => k []
  | v :: l, k => fV v fun v => fL l fun l => k (v :: l)
end
def fLL : List (List V) → (List (List V) → Option Ans) → Option Ans
  | [], k => k []
  | l :: ls, k => fL l fun l => fLL ls fun ls => k (l :: ls)
def fC (c : Option Chunk) (k : Option Chunk → Option Ans) : Option Ans :=
  match c with
  | none => k none
  | some (.blk cs) => fL cs fun cs => k (some (.blk cs))
  | some (.row e c n f) => k (some (.row e c n f))
  | some (.iter s p) => k (some (.iter s p))
  | some (.map es) => k (some (.map es))
  | some (.smap n g f) => k (some (.smap n g f))
def fCL : List (Option Chunk) → (List (Option Chunk) → Option Ans) → Option Ans
  | [], k => k []
  | c :: l, k => fC c fun c => fCL l fun l => k (c :: l)
def fU : List (Nat × Option Chunk) → (List (Nat × Option Chunk) → Option Ans) → Option Ans
  | [], k => k []
  | (i, c) :: l, k => fC c fun c => fU l fun l => k ((i, c) :: l)
def fNL : List Nat → (List Nat → Option Ans) → Option Ans
  | [], k => k []
  | i :: l, k => fNL l fun l => k (i :: l)
/-- A slot written. -/
def setK : List V → Nat → V → (List V → Option Ans) → Option Ans
  | [], _, _, k => k []
  | _ :: l, 0, v, k => k (v :: l)
  | x :: l, t + 1, v, k => setK l t v fun l => k (x :: l)
def putK (fr : List V) (d : Option Tmp) (v : V) (k : List V → Option Ans) : Option Ans :=
  match d with
  | some t => setK fr t v k
  | none => k fr

/-- Own slices read as values. -/
def V.bw1 (get : Hp) : V → V
  | .sl i z o l => match get i with | some (.row _ k n f) => if o + l ≤ n ∧ z = k then .ro k l (fun j => f (o + j)) else .junk | _ => .junk
  | v => v
def V.bw2 (get : Hp) : V → V
  | .agg cs => .agg (cs.map (·.bw1 get))
  | v => v.bw1 get
def V.bw (get : Hp) : V → V
  | .tup cs => .tup (cs.map (·.bw2 get))
  | v => v.bw2 get
def bw1K (get : Hp) (v : V) (k : V → Option Ans) : Option Ans :=
  match v with
  | .sl i z o l => match get i with | some (.row _ c n f) => if o + l ≤ n ∧ z = c then k (.ro c l (fun j => f (o + j))) else none | _ => none
  | v => k v
def bw1LK (get : Hp) : List V → (List V → Option Ans) → Option Ans
  | [], k => k []
  | v :: l, k => bw1K get v fun v => bw1LK get l fun l => k (v :: l)
def bw2K (get : Hp) (v : V) (k : V → Option Ans) : Option Ans :=
  match v with
  | .agg cs => bw1LK get cs fun cs => k (.agg cs)
  | v => bw1K get v k
def bw2LK (get : Hp) : List V → (List V → Option Ans) → Option Ans
  | [], k => k []
  | v :: l, k => bw2K get v fun v => bw2LK get l fun l => k (v :: l)
def bwK (get : Hp) (v : V) (k : V → Option Ans) : Option Ans :=
  match v with
  | .tup cs => bw2LK get cs fun cs => k (.tup cs)
  | v => bw2K get v k
def bwLK (get : Hp) : List V → (List V → Option Ans) → Option Ans
  | [], k => k []
  | v :: l, k => bwK get v fun v => bwLK get l fun l => k (v :: l)
/-- Own slices given up: read from now on only. -/
def gone1 : V → List (Nat × Option Chunk)
  | .sl i _ _ _ => [(i, none)]
  | _ => []
def gone2 : V → List (Nat × Option Chunk)
  | .agg cs => cs.flatMap gone1
  | v => gone1 v
/-- The slices of a value, given up. -/
def goneV : V → List (Nat × Option Chunk)
  | .tup cs => cs.flatMap gone2
  | v => gone2 v
def fzL (get : Hp) (l : List V) : List V := l.map (·.bw1 get)
def fzU (l : List V) : List (Nat × Option Chunk) := l.flatMap gone1

def intV : V → Option Int
  | .sc (.int _ n) => some n
  | _ => none

/-- The elements of a slice literal. -/
def partAt (ev : Operand → V) (ps : List (Nat × Operand)) (i : Nat) : List V :=
  match ps[i]? with
  | some p => (ev p.2).cells
  | none => []
def allOk (k n : Nat) (f : Nat → List V) : Bool := (List.range n).all fun i => (f i).length == k && pureL (f i) && (f i).all V.one

def fillA (P : Program) (z : List V) (place : Nat → Option (Nat × Nat)) (ev : Operand → V) : List (Nat × Operand) → Option (List V)
  | [] => some z
  | (i, x) :: ps =>
    match place i with
    | some (o, n) => if (ev x).cells.length = n ∧ o + n ≤ z.length ∧ (ev x).cells.all V.one = true then fillA P (splice z o (ev x).cells) place ev ps else none
    | none => none

def wide : Nat := 16
def roomBound : Nat := 140737488355328

abbrev KR := Res → Option Ans

/-- The operation is one of the model's that names no memory. -/
def effFall (P : Program) (o : Oper) (ev : Operand → V) (k : KR) : Option Ans :=
  match o.op.operands.toList.all (fun x => ((ev x).toVal).isSome) with
  | true => match pureRun P (execOp (fun x => ((ev x).toVal).getD undef) o) with
    | some (.value v) => k (.val (ofVal v) [])
    | some (.enter f args) => k (.call f (args.toList.map ofVal1))
    | _ => none
  | false => none
def effPick (c a b : V) (k : KR) : Option Ans :=
  match c with
  | .sc (.bool t) => if t then k (.val a []) else k (.val b [])
  | _ => none
def effAlloc (P : Program) (t : TypeId) (new : Nat) (k : KR) : Option Ans :=
  match zeroP P t with
  | some cs => if cs.all V.one then k (.val (.ptr new 0) [(new, some (.blk cs))]) else none
  | none => none
def effBox (x : V) (new : Nat) (k : KR) : Option Ans :=
  if x.cells.all V.one then k (.val (.ptr new 0) [(new, some (.blk x.cells))]) else none
def effLoad (P : Program) (t : TypeId) (x : V) (get : Hp) (k : KR) : Option Ans :=
  match x with
  | .ptr i o => match get i with
    | some (.blk cs) => match seg P t cs o with | some v => k (.val v []) | none => none
    | _ => none
  | .ep i z j o => match get i with
    | some (.row _ c n f) => if j < n ∧ z = c then (match seg P t (f j) o with | some v => k (.val v []) | none => none) else none
    | _ => none
  | .rp cs => match seg P t cs 0 with | some v => k (.val v []) | none => none
  | _ => none
/-- One of two values, the choice pushed to where it is wanted. -/
def mergeV (c : Prop) [Decidable c] (v u : V) : V :=
  match v, u with
  | .sc (.int k a), .sc (.int k' b) => if k = k' then .sc (.int k (ite c a b)) else ite c v u
  | .sc (.bool a), .sc (.bool b) => .sc (.bool (ite c a b))
  | .sc (.string a), .sc (.string b) => .sc (.string (ite c a b))
  | _, _ => ite c v u
def mergeP (c : Prop) [Decidable c] : List V → List V → List V
  | [], m => m
  | v :: l, u :: m => mergeV c v u :: mergeP c l m
  | v :: l, [] => ite c (v :: l) []
theorem mergeV_eq (c : Prop) [Decidable c] (v u : V) : mergeV c v u = if c then v else u := by
  unfold mergeV
  split
  · split
    · rename_i k a k' b h
      subst h
      split <;> rfl
    · rfl
  · split <;> rfl
  · split <;> rfl
  · rfl
theorem mergeP_eq (c : Prop) [Decidable c] : ∀ (l m : List V), mergeP c l m = if c then l ++ m.drop l.length else m
  | [], m => by rw [mergeP]; split <;> simp
  | v :: l, u :: m => by
    rw [mergeP, mergeP_eq c l m, mergeV_eq]
    split <;> simp
  | v :: l, [] => by rw [mergeP]; split <;> simp
/-- Cells put anew from a place on. -/
def putC (c : Prop) [Decidable c] : Nat → List V → List V → List V
  | 0, ys, l => mergeP c ys l
  | o + 1, ys, x :: l => x :: putC c o ys l
  | _ + 1, ys, [] => mergeP c ys []
theorem putC_eq (c : Prop) [Decidable c] : ∀ (o : Nat) (ys l : List V), putC c o ys l = l.take o ++ mergeP c ys (l.drop o)
  | 0, ys, l => by simp [putC]
  | o + 1, ys, x :: l => by rw [putC, putC_eq c o ys l]; simp
  | o + 1, ys, [] => by simp [putC]
/-- A row with some cells of one element put anew. -/
def putF (pb : Bool) (j o : Nat) (ys : List V) (f : Nat → List V) : Nat → List V := match pb with | true => fun h => putC (h = j) o ys (f h) | false => fun h => if h = j then splice (f j) o ys else f h
theorem putF_eq (pb : Bool) (j o : Nat) (ys : List V) (f : Nat → List V) : putF pb j o ys f = fun h => if h = j then splice (f j) o ys else f h := by
  cases pb with
  | false => rfl
  | true =>
  funext h
  show putC (h = j) o ys (f h) = _
  unfold splice
  rw [putC_eq, mergeP_eq]
  by_cases hj : h = j
  · subst hj; rw [if_pos rfl, if_pos rfl, List.drop_drop, List.append_assoc]
  · rw [if_neg hj, if_neg hj, List.take_append_drop]
def effStore (P : Program) (pb : Bool) (t : TypeId) (x y : V) (get : Hp) (k : KR) : Option Ans :=
  match szP P t with
  | some n =>
    if y.cells.length = n ∧ y.cells.all V.one = true then
      match x with
      | .ptr i o => match get i with
        | some (.blk cs) => if o + n ≤ cs.length then k (.val (.sc undef) [(i, some (.blk (splice cs o y.cells)))]) else none
        | _ => none
      | .ep i z j o => match get i with
        | some (.row e kk m f) =>
          if j < m ∧ z = kk then
            if o + n ≤ (f j).length ∧ pureL (fzL get y.cells) = true ∧ (fzU y.cells).all (fun u => u.1 != i) = true then
              fL (fzL get y.cells) fun ys => k (.val (.sc undef) (fzU y.cells ++ [(i, some (.row e kk m (putF pb j o ys f)))]))
            else none
          else none
        | _ => none
      | _ => none
    else none
  | none => none
def lives (get : Hp) (i : Nat) (k : Option Ans) : Option Ans := match get i with | some _ => k | none => none
def effFieldAddr (P : Program) (t : TypeId) (x : V) (f : Nat) (get : Hp) (k : KR) : Option Ans :=
  match fldP P t f with
  | some (p, u) =>
    match szP P u with
    | some (_ + 1) =>
      match x with
      | .ptr i o => lives get i (k (.val (.ptr i (o + p)) []))
      | .ep i z j o => lives get i (k (.val (.ep i z j (o + p)) []))
      | .rp cs => k (.val (.rp (cs.drop p)) [])
      | _ => none
    | _ => none
  | none => none
def effIndexAddr (P : Program) (t : TypeId) (x y : V) (get : Hp) (k : KR) : Option Ans :=
  match intV y with
  | some n =>
    match x with
    | .sl i z o l => match elemP P t with
      | some e => if szP P e = some z then (if 0 ≤ n ∧ n < l then lives get i (k (.val (.ep i z (o + n.toNat) 0) [])) else none) else none
      | none => none
    | .ro z l f => match elemP P t with
      | some e => if szP P e = some z then (if 0 ≤ n ∧ n < l then k (.val (.rp (f n.toNat)) []) else none) else none
      | none => none
    | .ptr i o => match arrP P t with
      | some (l, e) => match szP P e with
        | some z => if 0 ≤ n ∧ n < l then lives get i (k (.val (.ptr i (o + n.toNat * z)) [])) else none
        | none => none
      | none => none
    | .ep i w j o => match arrP P t with
      | some (l, e) => match szP P e with
        | some z => if 0 ≤ n ∧ n < l then lives get i (k (.val (.ep i w j (o + n.toNat * z)) [])) else none
        | none => none
      | none => none
    | .rp cs => match arrP P t with
      | some (l, e) => match szP P e with
        | some z => if 0 ≤ n ∧ n < l then k (.val (.rp (cs.drop (n.toNat * z))) []) else none
        | none => none
      | none => none
    | _ => none
  | none => none
/-- Part of a slice of one's own, or of one that is read. -/
def effSlice (P : Program) (t : TypeId) (x : V) (l h : Option Int) (get : Hp) (k : KR) : Option Ans :=
  match l, h with
  | some l, some h =>
    match x with
    | .sl i z o n => match elemP P t with
      | some e => if szP P e = some z then (if 0 ≤ l ∧ l ≤ h ∧ h ≤ n then lives get i (k (.val (.sl i z (o + l.toNat) (h.toNat - l.toNat)) [])) else none) else none
      | none => none
    | .ro z n f => match elemP P t with
      | some e => if szP P e = some z then (if 0 ≤ l ∧ l ≤ h ∧ h ≤ n then k (.val (.ro z (h.toNat - l.toNat) (fun j => f (l.toNat + j))) []) else none) else none
      | none => none
    | .sc (.string s) => if isStrP P t = true then (if 0 ≤ l ∧ l ≤ h ∧ h ≤ s.size then k (.val (.sc (.string (s.extract l.toNat h.toNat))) []) else none) else none
    | _ => none
  | _, _ => none
def lenV : V → Option Int
  | .sl _ _ _ n => some n
  | .ro _ n _ => some n
  | .sc (.string s) => some s.size
  | .sc (.slice none 0 0) => some 0
  | _ => none
/-- Elements by their number, the choice pushed inward. -/
def selL : List (List V) → Nat → List V
  | [], _ => []
  | [e], _ => e
  | e :: e' :: l, i => mergeP (i = 0) e (selL (e' :: l) (i - 1))
def selF (pr : Bool) (els : List (List V)) : Nat → List V := match pr with | true => selL els | false => fun i => els.getD i []
theorem selL_len {c : Nat} : ∀ {els : List (List V)} (i : Nat), els ≠ [] → (∀ e ∈ els, e.length = c) → (selL els i).length = c
  | [], _, h, _ => absurd rfl h
  | [e], _, _, h => h e (by simp)
  | e :: e' :: l, i, _, h => by
    have h1 := selL_len (els := e' :: l) (i - 1) (by simp) fun x hx => h x (.tail _ hx)
    have h0 := h e (.head _)
    rw [selL, mergeP_eq]
    split
    · rw [List.length_append, List.length_drop]; omega
    · exact h1
theorem selF_eq {pr : Bool} {c : Nat} : ∀ {els : List (List V)} {i : Nat}, i < els.length → (∀ e ∈ els, e.length = c) → selF pr els i = els.getD i [] := by
  cases pr with
  | false => intro els i _ _; rfl
  | true =>
    show ∀ {els : List (List V)} {i : Nat}, i < els.length → (∀ e ∈ els, e.length = c) → selL els i = els.getD i []
    intro els
    induction els with
    | nil => intro i h; simp at h
    | cons e l ih =>
      intro i hi h
      cases l with
      | nil =>
        have : i = 0 := by simp at hi; omega
        subst this; rfl
      | cons e' l =>
        rw [selL, mergeP_eq]
        by_cases h0 : i = 0
        · subst h0
          have h1 := selL_len (c := c) (els := e' :: l) 0 (by simp) fun x hx => h x (.tail _ hx)
          have h2 := h e (.head _)
          simp only [if_true]
          rw [List.drop_of_length_le (by rw [h1, h2]; omega), List.append_nil]
          rfl
        · rw [if_neg h0]
          obtain ⟨k, rfl⟩ : ∃ k, i = k + 1 := ⟨i - 1, by omega⟩
          rw [Nat.add_sub_cancel]
          exact ih (by simpa using hi) fun x hx => h x (.tail _ hx)
def effBuildSlice (P : Program) (pr : Bool) (t : TypeId) (n : Nat) (ps : List (Nat × Operand)) (ev : Operand → V) (get : Hp) (new : Nat) (k : KR) : Option Ans :=
  match elemP P t with
  | some e =>
    match szP P e with
    | some c =>
      if allOk c n (fun i => fzL get (partAt ev ps i)) = true ∧ ps.all (fun p => (ev p.2).cells.all V.one) = true ∧ 0 < c ∧ n * c ≤ 16777216 ∧ ps.map (·.1) = List.range n ∧ (zeroP P e).isSome = true then
        fLL ((List.range n).map fun i => fzL get (partAt ev ps i)) fun els => k (.val (.sl new c 0 n) (fzU (ps.flatMap fun p => (ev p.2).cells) ++ [(new, some (.row e c n (selF pr els)))]))
      else none
    | none => none
  | none => none
def effMakeSlice (P : Program) (t : TypeId) (x y : V) (new : Nat) (k : KR) : Option Ans :=
  match intV x, intV y with
  | some n, some m =>
    match elemP P t with
    | some e =>
      match szP P e, zeroP P e, bytesP P e with
      | some c, some z, some b => if n = m ∧ 0 ≤ n ∧ 0 < c ∧ z.length = c ∧ n.toNat * b ≤ 281474976710656 ∧ n.toNat ≤ maxLen ∧ allOk c 1 (fun _ => z) = true then k (.val (.sl new c 0 n.toNat) [(new, some (.row e c n.toNat (fun _ => z)))]) else none
      | _, _, _ => none
    | none => none
  | _, _ => none
def effNext (x : V) (get : Hp) (k : KR) : Option Ans :=
  match x with
  | .ptr i o => match get i with
    | some (.iter s p) =>
      if o = 0 then
        if p < s.size then k (.val (.tup [.sc (.bool true), .sc (.int .i64 p), .sc (.int .i32 (Utf8.decode s p).1)]) [(i, some (.iter s (p + (Utf8.decode s p).2)))])
        else k (.val (.tup [.sc (.bool false)]) [])
      else none
    | _ => none
  | _ => none
/-- The elements that a slice reads as: how many, and which. -/
def elemsOf (get : Hp) : V → Option (Nat × Nat × (Nat → List V))
  | .sl i z o l => match get i with | some (.row _ c n f) => if o + l ≤ n ∧ z = c then some (c, l, fun j => f (o + j)) else none | _ => none
  | .ro c n f => some (c, n, f)
  | .sc (.slice none 0 0) => some (0, 0, fun _ => [])
  | _ => none
/-- The zero of an element's type has as many cells as the type. -/
def zeroOk (P : Program) (e : TypeId) (c : Nat) : Bool := match P.info? e with | some i => (match i.zero with | some z => z.cells.size == c | none => false) | none => false
/-- One element behind a row, the choice pushed inward. -/
def mergeQ (c : Prop) [Decidable c] : List V → List V → List V
  | [], [] => []
  | [], u :: m => ite c [] (u :: m)
  | v :: l, u :: m => mergeV c v u :: mergeQ c l m
  | v :: l, [] => ite c (v :: l) []
theorem mergeQ_eq (c : Prop) [Decidable c] : ∀ (l m : List V), mergeQ c l m = if c then l else m
  | [], [] => by rw [mergeQ]; split <;> rfl
  | [], u :: m => by rw [mergeQ]
  | v :: l, u :: m => by
    rw [mergeQ, mergeQ_eq c l m, mergeV_eq]
    split <;> rfl
  | v :: l, [] => by rw [mergeQ]
def joinP (n : Nat) (f g : Nat → List V) : Nat → List V := fun j => mergeQ (j < n) (f j) (g (j - n))
def joinF (n : Nat) (f g : Nat → List V) : Nat → List V := fun j => if j < n then f j else g (j - n)
def joinR (pr : Bool) (m n : Nat) (f g : Nat → List V) : Nat → List V := match pr with
  | false => joinF n f g
  | true => match f 0 with
    | [] => g
    | _ :: _ => match g 0 with
      | [] => f
      | _ :: _ => joinP n f g
theorem joinR_eq {pr : Bool} {m n c : Nat} {f g : Nat → List V} (hc : 0 < c) (hf : ∀ j, j < n → (f j).length = c) (hg : ∀ j, j < m → (g j).length = c) {j : Nat} (hj : j < n + m) : joinR pr m n f g j = joinF n f g j := by
  unfold joinR joinF
  cases pr with
  | false => rfl
  | true =>
    simp only
    cases hf0 : f 0 with
    | nil =>
      have : n = 0 := by
        rcases Nat.eq_zero_or_pos n with h0 | h0
        · exact h0
        · have := hf 0 h0; rw [hf0] at this; simp at this; omega
      subst this
      simp
    | cons x l =>
      cases hg0 : g 0 with
      | nil =>
        have : m = 0 := by
          rcases Nat.eq_zero_or_pos m with h0 | h0
          · exact h0
          · have := hg 0 h0; rw [hg0] at this; simp at this; omega
        subst this
        simp only
        rw [if_pos (by omega)]
      | cons y l' => exact mergeQ_eq _ _ _
def appK (P : Program) (pr : Bool) (e : TypeId) (c b : Nat) (x : V) (get : Hp) (new : Nat) (k : KR) (el : Option (Nat × Nat × (Nat → List V))) : Option Ans :=
  match el with
  | some (c'', m, g) =>
      match x with
      | .sc (.slice none 0 0) =>
        if m = 0 then k (.val (.sc (.slice none 0 0)) [])
        else if 0 < c ∧ c'' = c ∧ zeroOk P e c = true then (if m * b ≤ roomBound ∧ m ≤ maxLen then k (.val (.sl new c 0 m) [(new, some (.row e c m g))]) else none) else none
      | .sl i z o l => match get i with
        | some (.row e' c' n f) =>
          if 0 < c ∧ (c'' = c ∨ m = 0) ∧ e = e' ∧ c = c' ∧ o = 0 ∧ z = c ∧ zeroOk P e c = true then
            (if (l + m) * b ≤ roomBound ∧ l + m ≤ maxLen ∧ l ≤ n then
              k (.val (.sl new c 0 (l + m)) [(i, none), (new, some (.row e c (l + m) (joinR pr m l f g)))]) else none) else none
        | _ => none
      | _ => none
  | none => none
def effAppend (P : Program) (pr : Bool) (t : TypeId) (x y : V) (get : Hp) (new : Nat) (k : KR) : Option Ans :=
  match elemP P t with
  | some e =>
    match szP P e, bytesP P e with
    | some c, some b => bw1K get y fun y => appK P pr e c b x get new k (elemsOf get y)
    | _, _ => none
  | none => none
def effDiv (b : BinOp) (kd : IntKind) (x y : Int) (k : KR) : Option Ans :=
  match b with
  | .quo => if y = 0 then none else k (.val (.sc (.int kd (kd.wrap (x.tdiv y)))) [])
  | .rem => if y = 0 then none else k (.val (.sc (.int kd (x.tmod y))) [])
  | _ => none
def isDiv : BinOp → Bool
  | .quo => true
  | .rem => true
  | _ => false
/-! ### Structs and arrays compared: the tests of their parts, joined -/
def partP (P : Program) (t : TypeId) (xs : List Value) (o : Nat) : Option Value :=
  match aggP P t with
  | some true => match szP P t with | some n => some (.agg ((xs.drop o).take n).toArray) | none => none
  | some false => xs[o]?
  | none => none
def leafI : Value → Value → Option Bool
  | .int k a, .int k' b => if k = k' then some (a == b) else none
  | _, _ => none
def leafB : Value → Value → Option Bool
  | .bool a, .bool b => some (a == b)
  | _, _ => none
def leafS : Value → Value → Option Bool
  | .string a, .string b => some (a.toList == b.toList)
  | _, _ => none
def eqFs (P : Program) (r : TypeId → Value → Value → Option Bool) (xs ys : List Value) : List Field → Option Bool
  | [] => some true
  | f :: fs => if f.name = "_" then eqFs P r xs ys fs else
    match partP P f.type xs f.offset, partP P f.type ys f.offset with
    | some a, some b => match r f.type a b, eqFs P r xs ys fs with
      | some p, some q => some (p && q)
      | _, _ => none
    | _, _ => none
def eqIs (P : Program) (r : TypeId → Value → Value → Option Bool) (e : TypeId) (n : Nat) (xs ys : List Value) : List Nat → Option Bool
  | [] => some true
  | i :: is =>
    match partP P e xs (i * n), partP P e ys (i * n) with
    | some a, some b => match r e a b, eqIs P r e n xs ys is with
      | some p, some q => some (p && q)
      | _, _ => none
    | _, _ => none
def eqP (P : Program) : Nat → TypeId → Value → Value → Option Bool
  | 0, _, _, _ => none
  | d + 1, t, x, y => match P.underlying t with
    | some .bool => leafB x y
    | some (.int _) => leafI x y
    | some .string => leafS x y
    | some (.struct fs) => match x, y with
      | .agg xs, .agg ys => if P.stoodInHeld t then none else eqFs P (eqP P d) xs.toList ys.toList fs.toList
      | _, _ => none
    | some (.array n e) => match x, y with
      | .agg xs, .agg ys => match szP P e with
        | some z => eqIs P (eqP P d) e z xs.toList ys.toList (List.range n)
        | none => none
      | _, _ => none
    | _ => none
def effEq (P : Program) (t : TypeId) (neg : Bool) (x y : V) (k : KR) : Option Ans :=
  match x.toVal, y.toVal with
  | some u, some v => if P.eqGuardType P.depth t then none else
    match eqP P 10000 t u v with
    | some b => k (.val (.sc (.bool (if neg then !b else b))) [])
    | none => none
  | _, _ => none
/-- Bits of one or of the other, one after the other. -/
def orN : Nat → Nat → Nat → Nat
  | 0, _, _ => 0
  | f + 1, a, b => 2 * orN f (a / 2) (b / 2) + (if a % 2 = 1 ∨ b % 2 = 1 then 1 else 0)
def orI (k : IntKind) (m n : Int) : Int := k.wrap (orN k.bits (m % 2 ^ k.bits).toNat (n % 2 ^ k.bits).toNat)
def isFuncT (P : Program) (t : TypeId) : Bool := match P.underlying t with | some (.func _ _ _) => true | _ => false
def isIface (P : Program) (t : TypeId) : Option Bool := match P.underlying t with | some (.interface _) => some true | some _ => some false | none => none
def effBin (P : Program) (o : Oper) (ev : Operand → V) (b : BinOp) (t : TypeId) (x y : V) (k : KR) : Option Ans :=
  if isDiv b then
    match x, y with
    | .sc (.int kd m), .sc (.int kd' n) => if kd = kd' then effDiv b kd m n k else none
    | _, _ => none
  else
    match b, x, y with
    | .add, .sc (.string s), .sc (.string s') => if s.size + s'.size ≤ maxLen then k (.val (.sc (.string (s ++ s'))) []) else none
    | .or, .sc (.int kd m), .sc (.int kd' n) => if kd = kd' then k (.val (.sc (.int kd (orI kd m n))) []) else none
    | .eql, .agg cs, .agg ds => effEq P t false (.agg cs) (.agg ds) k
    | .neq, .fn f cs, .sc .nilFunc => if isFuncT P t = true then k (.val (.sc (.bool true)) []) else none
    | .neq, .bf f fs cs, .sc .nilFunc => if isFuncT P t = true then k (.val (.sc (.bool true)) []) else none
    | .neq, .ifc d v, .sc .nilIface => if isIface P t = some true then k (.val (.sc (.bool true)) []) else none
    | .neq, .agg cs, .agg ds => effEq P t true (.agg cs) (.agg ds) k
    | _, _, _ => effFall P o ev k
def effIndex (P : Program) (o : Oper) (ev : Operand → V) (t : TypeId) (x y : V) (k : KR) : Option Ans :=
  match x, intV y with
  | .agg cs, some n => match arrP P t with
    | some (l, e) => match szP P e with
      | some z => if 0 ≤ n ∧ n < l then (match seg P e cs (n.toNat * z) with | some v => k (.val v []) | none => none) else none
      | none => none
    | none => none
  | .sc (.string s), some n => if isStrP P t = true then (if 0 ≤ n ∧ n < s.size then k (.val (.sc (.int .u8 (s.data.toList.getD n.toNat 0).toNat)) []) else none) else none
  | _, _ => effFall P o ev k
def effField (P : Program) (o : Oper) (ev : Operand → V) (t : TypeId) (x : V) (f : Nat) (k : KR) : Option Ans :=
  match x with
  | .agg cs => match fldP P t f with
    | some (p, u) => match seg P u cs p with | some v => k (.val v []) | none => none
    | none => none
  | _ => effFall P o ev k
def effExtract (P : Program) (o : Oper) (ev : Operand → V) (x : V) (n : Nat) (k : KR) : Option Ans :=
  match x with
  | .tup vs => match vs[n]? with | some v => k (.val v []) | none => none
  | _ => effFall P o ev k
/-- The places of a struct's fields. -/
def placesP (P : Program) (fs : List Field) : Option (List (Nat × Nat)) := fs.mapM (fun f => (P.info? f.type).map fun i => (f.offset, i.size))
def effBuild (P : Program) (t : TypeId) (ps : List (Nat × Operand)) (ev : Operand → V) (k : KR) : Option Ans :=
  match zeroP P t with
  | some z =>
    if z.all V.one then
    match P.underlying t with
    | some (.struct fs) => match placesP P fs.toList with
      | some pl => match fillA P z (fun i => pl[i]?) ev ps with | some cs => k (.val (.agg cs) []) | none => none
      | none => none
    | some (.array _ e) => match szP P e with
      | some n => match fillA P z (fun i => some (i * n, n)) ev ps with | some cs => k (.val (.agg cs) []) | none => none
      | none => none
    | _ => none
    else none
  | none => none
/-! ### Maps: integers as keys in a list, strings as keys in a function; interfaces -/
def zeroV (P : Program) (t : TypeId) : Option V :=
  match P.info? t with
  | some i => match i.zero with
    | some v => match ofVal1 v with
      | .junk => none
      | z => some z
    | none => none
  | none => none
inductive KT where | i | s
/-- A map's keys, and its elements' type. -/
def mapP (P : Program) (t : TypeId) : Option (KT × TypeId) :=
  match P.underlying t with
  | some (.map k e) => match P.underlying k with
    | some (.int .i64) => some (.i, e)
    | some .string => some (.s, e)
    | _ => none
  | _ => none
/-- One of two values, the choice pushed to the parts. -/
def mergeW (c : Prop) [Decidable c] (v u : V) : V :=
  match v, u with
  | .agg l, .agg m => if l.length = m.length then .agg (mergeP c l m) else ite c (.agg l) (.agg m)
  | v, u => mergeV c v u
theorem mergeW_eq (c : Prop) [Decidable c] (v u : V) : mergeW c v u = if c then v else u := by
  unfold mergeW
  split
  · rename_i l m
    split
    · rename_i h
      rw [mergeP_eq]
      by_cases hc : c
      · rw [if_pos hc, if_pos hc, List.drop_of_length_le (by omega), List.append_nil]
      · rw [if_neg hc, if_neg hc]
    · rfl
  · exact mergeV_eq c _ _
def effMakeMap (P : Program) (t : TypeId) (new : Nat) (k : KR) : Option Ans :=
  match mapP P t with
  | some (.i, _) => k (.val (.mp new) [(new, some (.map []))])
  | some (.s, e) => match zeroV P e with
    | some z => k (.val (.mp new) [(new, some (.smap 0 (fun _ => false) (fun _ => z)))])
    | none => none
  | none => none
def foundK (ok : Bool) (b : Bool) (v : V) (k : KR) : Option Ans := match ok with | true => k (.val (.tup [v, .sc (.bool b)]) []) | false => k (.val v [])
def lookI (ok : Bool) (z : V) (n : Int) (k : KR) : List (Int × V) → Option Ans
  | [] => foundK ok false z k
  | (m, v) :: l => if n = m then foundK ok true v k else lookI ok z n k l
def effLookup (P : Program) (t : TypeId) (x y : V) (ok : Bool) (get : Hp) (k : KR) : Option Ans :=
  match mapP P t with
  | some (kt, e) => match zeroV P e with
    | some z => match x with
      | .mp i => match get i with
        | some (.map es) => match kt, y with
          | .i, .sc (.int .i64 n) => lookI ok z n k es
          | _, _ => none
        | some (.smap _ g f) => match kt, y with
          | .s, .sc (.string s) => foundK ok (g s) (mergeW (g s = true) (f s) z) k
          | _, _ => none
        | _ => none
      | _ => none
    | none => none
  | none => none
def effMapSet (P : Program) (t : TypeId) (x y v : V) (get : Hp) (k : KR) : Option Ans :=
  match mapP P t with
  | some (kt, _) => if v.pure then
    match x with
      | .mp i => match get i with
        | some (.map es) => match kt, y with
          | .i, .sc (.int .i64 n) => if es.all (fun p => p.1 != n) then k (.val (.sc undef) [(i, some (.map (es ++ [(n, v)])))]) else none
          | _, _ => none
        | some (.smap m g f) => match kt, y with
          | .s, .sc (.string s) => k (.val (.sc undef) [(i, some (.smap (if g s = true then m else m + 1) (fun q => (q == s) || g q) (fun q => mergeW ((q == s) = true) v (f q))))])
          | _, _ => none
        | _ => none
      | _ => none
    else none
  | none => none
def effMakeIface (P : Program) (t : TypeId) (x : V) (k : KR) : Option Ans :=
  match isIface P t with
  | some false => k (.val (.ifc t x) [])
  | _ => none
def effAssert (P : Program) (x : V) (t : TypeId) (ok : Bool) (k : KR) : Option Ans :=
  match isIface P t with
  | some false => match x with
    | .ifc d v => if d = t then foundK ok true v k else (match ok, zeroV P t with | true, some z => foundK true false z k | _, _ => none)
    | .sc .nilIface => match ok, zeroV P t with | true, some z => foundK true false z k | _, _ => none
    | _ => none
  | _ => none
def effPanic (x : V) (k : KR) : Option Ans := match x with | .ifc t v => if v.pure then k (.pan (.ifc t v) []) else none | _ => none
def effNil (P : Program) (o : Oper) (ev : Operand → V) (x : V) (get : Hp) (k : KR) : Option Ans :=
  match x with
  | .ptr i p => lives get i (k (.val (.ptr i p) []))
  | .ep i z j p => lives get i (k (.val (.ep i z j p) []))
  | .fn f cs => k (.val (.fn f cs) [])
  | _ => effFall P o ev k
def effBuiltin (P : Program) (pr : Bool) (o : Oper) (ev : Operand → V) (b : Builtin) (args : List Operand) (ts : List TypeId) (get : Hp) (new : Nat) (k : KR) : Option Ans :=
  match b with
  | .len => match args with
    | [x] => match ev x with
      | .sl i _ _ n => match ts with
        | [t] => match elemP P t with | some _ => lives get i (k (.val (.sc (.int .i64 n)) [])) | none => none
        | _ => none
      | .ro _ n _ => match ts with
        | [t] => match elemP P t with | some _ => k (.val (.sc (.int .i64 n)) []) | none => none
        | _ => none
      | .mp i => match ts with
        | [t] => match mapP P t with
          | some _ => match get i with
            | some (.map es) => k (.val (.sc (.int .i64 es.length)) [])
            | some (.smap n _ _) => k (.val (.sc (.int .i64 n)) [])
            | _ => none
          | none => none
        | _ => none
      | _ => effFall P o ev k
    | _ => none
  | .append => match args, ts with
    | [x, y], [t, t'] => if t = t' then effAppend P pr t (ev x) (ev y) get new k else none
    | _, _ => none
  | _ => effFall P o ev k
def effCall (P : Program) (pr : Bool) (o : Oper) (ev : Operand → V) (c : Call) (get : Hp) (new : Nat) (k : KR) : Option Ans :=
  match c.callee with
  | .builtin b => effBuiltin P pr o ev b c.args.toList c.argTypes.toList get new k
  | .value f => match ev f with
    | .fn g cs => k (.call g (c.args.toList.map ev ++ cs))
    | .bf g fs cs => k (.call g (fs ++ c.args.toList.map ev ++ cs))
    | .sc (.func (.func g) first cs) => if first.size = 0 ∧ cs.size = 0 then k (.call g (c.args.toList.map ev)) else none
    | _ => none
  | _ => none

/-- A closure is deferred. -/
def effDefer (ev : Operand → V) (c : Call) (k : KR) : Option Ans :=
  match c.callee with
  | .value f => match ev f with
    | .fn g cs => match c.args.toList with
      | [] => k (.dfr g cs)
      | _ => none
    | _ => none
  | _ => none
def opK (P : Program) (pb pr : Bool) (o : Oper) (ev : Operand → V) (get : Hp) (new : Nat) (k : KR) : Option Ans :=
  match o.op with
  | .move x => k (.val (ev x) [])
  | .assign x => k (.val (ev x) [])
  | .pick c a b => effPick (ev c) (ev a) (ev b) k
  | .alloc t => effAlloc P t new k
  | .box _ x => effBox (ev x) new k
  | .load t x => effLoad P t (ev x) get k
  | .store t x y => effStore P pb t (ev x) (ev y) get k
  | .fieldAddr t x f => effFieldAddr P t (ev x) f get k
  | .field t x f => effField P o ev t (ev x) f k
  | .indexAddr t x y => effIndexAddr P t (ev x) (ev y) get k
  | .index t x y => effIndex P o ev t (ev x) (ev y) k
  | .slice t x lo hi mx => if mx.isNone then effSlice P t (ev x) (match lo with | some y => intV (ev y) | none => some 0) (match hi with | some y => intV (ev y) | none => lenV (ev x)) get k else none
  | .extract x n => effExtract P o ev (ev x) n k
  | .build t ps => effBuild P t ps.toList ev k
  | .buildSlice t n ps => effBuildSlice P pr t n ps.toList ev get new k
  | .makeSlice t x y => effMakeSlice P t (ev x) (ev y) new k
  | .makeFunc fn first cs => match fn with
    | .func f => if first.size = 0 then k (.val (.fn f (cs.toList.map ev)) []) else k (.val (.bf f (first.toList.map ev) (cs.toList.map ev)) [])
    | _ => none
  | .range t x => match ev x with
    | .sc (.string s) => if isStrP P t then k (.val (.ptr new 0) [(new, some (.iter s 0))]) else none
    | _ => none
  | .next x b => if b then effNext (ev x) get k else none
  | .nilCheck x => effNil P o ev (ev x) get k
  | .call c => effCall P pr o ev c get new k
  | .binOp b t x y _ => effBin P o ev b t (ev x) (ev y) k
  | .unOp _ _ _ => effFall P o ev k
  | .convert _ _ _ => effFall P o ev k
  | .makeMap t none => effMakeMap P t new k
  | .lookup t x y ok => effLookup P t (ev x) (ev y) ok get k
  | .mapUpdate t x y v => effMapSet P t (ev x) (ev y) (ev v) get k
  | .insert t x y v => effMapSet P t (ev x) (ev y) (ev v) get k
  | .makeInterface t x => effMakeIface P t (ev x) k
  | .typeAssert x _ t ok => effAssert P (ev x) t ok k
  | .panic x => effPanic (ev x) k
  | .defer c => effDefer ev c k
  | _ => none

/-! ### Code -/
inductive ACode where
  | skip
  | region (id : Nat) (ops : List Oper) (draw : Bool)
  | seq (a b : ACode)
  | cond (c : Operand) (x y : ACode)
  | block (id : Nat) (c : ACode)
  | loop (id live : Nat) (c : ACode)
  | exit (id : Nat)
  | ret
  | no (c : Code)

def ACode.erase : ACode → Code
  | .skip => .skip
  | .region id ops d => .region id ops.toArray d
  | .seq a b => .seq a.erase b.erase
  | .cond c x y => .cond c x.erase y.erase
  | .block id c => .block id c.erase
  | .loop _ _ c => .loop c.erase
  | .exit id => .exit id
  | .ret => .ret
  | .no c => c

abbrev CallT := FuncId → List V → List (Option Chunk) → (CRes → Option Ans) → Option Ans
abbrev LoopT := Nat → Nat → ACode → St → (Ex → St → Option Ans) → Option Ans

/-- How a call is taken: as it is; with the caller's slices lent to be read; with what it hands back given up, to be read only; the same, though it is handed memory. -/
inductive Way where
  | plain
  | lend
  | give
  | giveM
/-- What is to be known beside the program: variables of the packages, functions by contract, how calls are taken (caller, callee). -/
structure Env where
  P : Program
  glob : Nat → Option (List V)
  ext : FuncId → List V → Option V
  way : FuncId → FuncId → Way
  lit : FuncId → Bool
  code : FuncId → Option ACode
  inv : List (Nat × (Obj → Prop)) := []
  /-- In which functions a test's outcome is put in its place. -/
  sett : FuncId → Bool := fun _ => false
  /-- A row put anew: the choice is pushed inward. -/
  push : Bool := true
  /-- Rows made of parts: the choice is pushed inward. -/
  rows : Bool := false
  /-- Functions that defer calls. -/
  dfn : FuncId → Bool := fun _ => false
  /-- Functions that, deferred, do nothing where the one below returns; what they hold. -/
  idle : FuncId → Option Nat := fun _ => none

def evA (E : Env) (fr : List V) : Operand → V
  | .tmp t => fr.getD t .junk
  | .const v => ofVal1 v
  | .global g => match E.glob g with | some cs => .rp cs | none => .junk
  | .func f => .fn f []

def yieldA (ops : List Oper) (fr : List V) (j : Nat) : V :=
  match ops[j]? with
  | some o => match o.dst with
    | some t => fr.getD t .junk
    | none => .junk
  | none => .junk
def guardK (g : Option (Nat × Bool)) (y : Nat → V) (k : Bool → Option Ans) : Option Ans :=
  match g with
  | none => k true
  | some (j, b) => match y j with
    | .sc v => match v with
      | .bool c => if c = b then k true else k false
      | _ => k false
    | _ => none

/-- The same, and the outcome of the test is put in its place. -/
def guardR (g : Option (Nat × Bool)) (ops : List Oper) (fr : List V) (k : Bool → List V → Option Ans) : Option Ans :=
  match g with
  | none => k true fr
  | some (j, b) => match ops[j]? with
    | some o => match o.dst with
      | some t => match fr.getD t .junk with
        | .sc v => match v with
          | .bool c => if c = true then setK fr t (.sc (.bool true)) fun fr => k b fr else setK fr t (.sc (.bool false)) fun fr => k (!b) fr
          | _ => k false fr
        | _ => none
      | none => none
    | none => none

/-- Reached blocks, in the order in which they are met. -/
def reach (h : Hp) : Nat → List Nat → List Nat → List Nat
  | 0, _, seen => seen
  | _ + 1, [], seen => seen
  | n + 1, i :: todo, seen =>
    if seen.contains i then reach h n todo seen else
    match h i with
    | none => reach h n todo seen
    | some c => reach h n (c.ids ++ todo) (seen ++ [i])
/-- Without what is there twice. -/
def dd : List Nat → List Nat → List Nat
  | seen, [] => seen
  | seen, i :: l => if seen.contains i then dd seen l else dd (seen ++ [i]) l
def chIds (h : Hp) (l : List Nat) : List Nat := l.flatMap fun i => match h i with | some c => c.ids | none => []
def posOf (order : List Nat) (i : Nat) : Option Nat := order.idxOf? i
def keep (h : Hp) (order : List Nat) : List (Option Chunk) := order.map fun i => (h i).map (Chunk.ren (posOf order))

def zap (live : Nat) : Nat → List V → List V
  | _, [] => []
  | i, v :: l => (if live.testBit i then v else .junk) :: zap live (i + 1) l

def deep : Nat := 300
/-- The state numbered anew: these blocks, this frame. -/
def renK (order : List Nat) (fr : List V) (s : St) (k : St → Option Ans) : Option Ans :=
  fL (renL (posOf order) fr) fun fr => fCL (keep s.H order) fun l => k { fr := fr, H := hp l, nx := order.length, rt := s.rt, me := s.me }
/-- The state at a loop's head: what is still wanted. -/
def canonK (live : Nat) (s : St) (k : St → Option Ans) : Option Ans :=
  fNL (reach s.H deep (chIds s.H (List.range s.rt) ++ idsL (zap live 0 s.fr)) (List.range s.rt)) fun order => renK order (zap live 0 s.fr) s k

/-- A call: what is handed over, and what comes back. -/
def callLend (E : Env) (ca : CallT) (f : FuncId) (args : List V) (get : Hp) (k : KR) : Option Ans :=
  bwLK get args fun args => fL args fun args =>
    if pureL args then
      match E.ext f args with
      | some v => if v.scal = true then k (.val v []) else none
      | none => ca f args [] fun r => match r with
        | .ret v L => if L.length = 0 ∧ v.scal = true then k (.val v []) else none
        | .pan _ => none
    else none
def backTo (order : List Nat) (r new : Nat) (j : Nat) : Option Nat := if j < r then order[j]? else some (new + (j - r))
def callBack (give : Bool) (order : List Nat) (r new : Nat) (k : KR) (x : CRes) : Option Ans :=
  match x with
  | .ret v L =>
    if give then
      if order.length = 0 then bwK (hp L) v fun v => if v.pure = true then k (.val v []) else none else none
    else
      if r ≤ L.length ∧ L.length ≤ r + wide ∧ r ≤ order.length then
        k (.val (v.ren (backTo order r new)) ((order.map fun i => (i, none)) ++ (L.zipIdx.map fun p => ((backTo order r new p.2).getD 0, p.1.map (Chunk.ren (backTo order r new))))))
      else none
  | .pan v => if v.pure then k (.pan v (order.map fun i => (i, none))) else none
def callPlain (ca : CallT) (give : Bool) (f : FuncId) (args : List V) (get : Hp) (new : Nat) (k : KR) : Option Ans :=
  fNL (reach get deep (chIds get (dd [] (idsL args))) (dd [] (idsL args))) fun order =>
    fL (renL (posOf order) args) fun args' => fCL (keep get order) fun L =>
      ca f args' L (callBack give order (dd [] (idsL args')).length new k)
/-- What is handed back is given up. -/
def giveK (get : Hp) (k : KR) : KR := fun r =>
  match r with
  | .val v us => bwK (updL get us) v fun v' => k (.val v' (us ++ goneV v))
  | r => k r
def doCall (E : Env) (ca : CallT) (me : FuncId) (f : FuncId) (args : List V) (get : Hp) (new : Nat) (k : KR) : Option Ans :=
  fL args fun args =>
  match E.way me f with
  | .lend => callLend E ca f args get k
  | .give => match E.ext f args with
    | some v => k (.val v [])
    | none => callPlain ca true f args get new k
  | .plain => match E.ext f args with
    | some v => k (.val v [])
    | none => callPlain ca false f args get new k
  | .giveM => match E.ext f args with
    | some v => k (.val v [])
    | none => callPlain ca false f args get new (giveK get k)

abbrev KX := Ex → St → Option Ans

def doneK (s : St) (d : Option Tmp) (v : V) (us : List (Nat × Option Chunk)) (k : St → Option Ans) : Option Ans :=
  fV v fun v => putK s.fr d v fun fr => fU us fun us => k { fr := fr, H := updL s.H us, nx := s.nx, rt := s.rt, me := s.me }

/-- Functions whose slice literals are only read from then on. -/
def isLit : Op → Bool | .buildSlice _ _ _ => true | _ => false
def litV (b : Bool) (H : Hp) (v : V) (us : List (Nat × Option Chunk)) : V := if b then v.bw1 (updL H us) else v
def litU (b : Bool) (v : V) (us : List (Nat × Option Chunk)) : List (Nat × Option Chunk) := if b then us ++ gone1 v else us
def stepOps (E : Env) (ca : CallT) (ops : List Oper) (base : Nat) : Nat → List Oper → St → KX → Option Ans
  | i, [], s, k => k .normal { fr := s.fr, H := s.H, nx := base + i * wide, rt := s.rt, me := s.me }
  | i, o :: rest, s, k =>
    guardR o.guard ops s.fr fun b fr =>
      if b then
        opK E.P E.push E.rows o (evA E fr) s.H (base + i * wide) fun r =>
          match r with
          | .val v us => doneK { fr := fr, H := s.H, nx := s.nx, rt := s.rt, me := s.me } o.dst (litV (E.lit s.me && isLit o.op) s.H v us) (litU (E.lit s.me && isLit o.op) v us) fun s => stepOps E ca ops base (i + 1) rest s k
          | .pan v us => k (.panic v) { fr := fr, H := updL s.H us, nx := base + i * wide, rt := s.rt, me := s.me }
          | .call f args => doCall E ca s.me f args s.H (base + i * wide) fun r =>
            match r with
            | .val v us => doneK { fr := fr, H := s.H, nx := s.nx, rt := s.rt, me := s.me } o.dst v us fun s => stepOps E ca ops base (i + 1) rest s k
            | .pan v us => k (.panic v) { fr := fr, H := updL s.H us, nx := base + i * wide, rt := s.rt, me := s.me }
            | .call _ _ => none
            | .dfr _ _ => none
          | .dfr f cs => match E.dfn s.me && (E.idle f == some cs.length) with
            | true => doneK { fr := fr, H := s.H, nx := s.nx, rt := s.rt, me := s.me } o.dst (.sc undef) [] fun s => stepOps E ca ops base (i + 1) rest s k
            | false => none
      else doneK { fr := fr, H := s.H, nx := s.nx, rt := s.rt, me := s.me } o.dst (.sc undef) [] fun s => stepOps E ca ops base (i + 1) rest s k

/-! ### Regions that draw their order: walked in the text's order, what is apart held apart -/
/-- Does the operation look at memory of one's own? -/
def readsOp : Op → Bool
  | .makeMap _ _ | .makeInterface _ _ | .typeAssert _ _ _ _ | .panic _ | .makeSlice _ _ _ | .move _ | .assign _ | .pick _ _ _ | .alloc _ | .box _ _ | .binOp _ _ _ _ _ | .unOp _ _ _ | .convert _ _ _ | .extract _ _ | .build _ _ | .field _ _ _ | .index _ _ _ | .makeFunc _ _ _ | .range _ _ => false
  | _ => true
/-- What an operation sees: what stood there before the region, what those that come before it have made; of these, if a list is given, what it names alone. -/
structure Vw where
  bits : Nat
  only : Option (List Nat)
def visB (base : Nat) (v : Vw) (id : Nat) : Bool := (match v.only with | none => true | some l => l.contains id) && (if id < base then true else v.bits.testBit ((id - base) / wide))
def visH (base : Nat) (v : Vw) (h : Hp) : Hp := fun id => if visB base v id then h id else none
/-- A call of a function looks at what its operands reach; a load or a store at what stands there; other operations at what their operands name. -/
def isCall : Op → Bool
  | .call c => match c.callee with | .builtin _ => false | _ => true
  | _ => false
def looksIn : Op → Bool
  | .load _ _ | .store _ _ _ | .lookup _ _ _ _ | .mapUpdate _ _ _ _ | .insert _ _ _ _ => true
  | _ => false
def opIds (E : Env) (fr : List V) (o : Oper) : List Nat := idsL (o.op.operands.toList.map (evA E fr))
def nearIds (E : Env) (fr : List V) (h : Hp) (o : Oper) : List Nat :=
  if isCall o.op then reach h deep (opIds E fr o) []
  else if looksIn o.op then opIds E fr o ++ chIds h (opIds E fr o) else opIds E fr o
def vwK (E : Env) (b : Nat) (fr : List V) (h : Hp) (o : Oper) (k : Vw → Option Ans) : Option Ans := fNL (nearIds E fr h o) fun l => k ⟨b, some l⟩
def ownB (new id : Nat) : Bool := new ≤ id && id < new + wide
/-- Operation j beside those that are done: with each of them it has an edge, or they meet nowhere. -/
def updIds : List (Nat × Option Chunk) → List Nat
  | [] => []
  | (_, some c) :: l => c.ids ++ updIds l
  | (_, none) :: l => updIds l
def seenOk (base : Nat) (bits : Vw) (new : Nat) (v : V) (us : List (Nat × Option Chunk)) : Bool := (us.map (·.1) ++ v.ids ++ updIds us).all fun i => visB base bits i || ownB new i
/-- An edge, or two one behind the other. -/
def edge1 (o : Oper) (i : Nat) : Bool := o.after.toList.any fun e => Region.binds .any e && e.on == i
def edge2 (ops : List Oper) (o : Oper) (i : Nat) : Bool := o.after.toList.any fun e => Region.binds .any e && (match ops[e.on]? with | some om => edge1 om i | none => false)
def pairsOk (ops : List Oper) (base : Nat) (o : Oper) (bj : Vw) (kj : List Nat) : List (Nat × Bool × Vw × List Nat) → Bool
  | [] => true
  | (i, ri, bi, ki) :: l =>
    (edge1 o i ||
      (((!readsOp o.op || ki.all fun x => !visB base bj x) && (!ri || kj.all fun x => !visB base bi x) && kj.all fun x => !ki.contains x) || edge2 ops o i)) && pairsOk ops base o bj kj l
def stepD (E : Env) (ca : CallT) (ops : List Oper) (befs : List Nat) (base : Nat) : Nat → List Oper → List (Nat × Bool × Vw × List Nat) → St → KX → Option Ans
  | i, [], _, s, k => k .normal { fr := s.fr, H := s.H, nx := base + i * wide, rt := s.rt, me := s.me }
  | i, o :: rest, done, s, k =>
    guardR o.guard ops s.fr fun b fr =>
      if b then
        vwK E (befs.getD i 0) fr s.H o fun vw =>
        opK E.P E.push E.rows o (evA E fr) (visH base vw s.H) (base + i * wide) fun r =>
          match r with
          | .val v us =>
            if seenOk base vw (base + i * wide) v us && pairsOk ops base o vw (us.map (·.1)) done then
              doneK { fr := fr, H := s.H, nx := s.nx, rt := s.rt, me := s.me } o.dst v us fun s => stepD E ca ops befs base (i + 1) rest ((i, readsOp o.op, vw, us.map (·.1)) :: done) s k
            else none
          | .pan _ _ => none
          | .dfr _ _ => none
          | .call f args => doCall E ca s.me f args (visH base vw s.H) (base + i * wide) fun r =>
            match r with
            | .val v us =>
              if readsOp o.op && (seenOk base vw (base + i * wide) v us && pairsOk ops base o vw (us.map (·.1)) done) then
                doneK { fr := fr, H := s.H, nx := s.nx, rt := s.rt, me := s.me } o.dst v us fun s => stepD E ca ops befs base (i + 1) rest ((i, readsOp o.op, vw, us.map (·.1)) :: done) s k
              else none
            | _ => none
      else
        if pairsOk ops base o ⟨befs.getD i 0, some []⟩ [] done then
          doneK { fr := fr, H := s.H, nx := s.nx, rt := s.rt, me := s.me } o.dst (.sc undef) [] fun s => stepD E ca ops befs base (i + 1) rest ((i, readsOp o.op, ⟨befs.getD i 0, some []⟩, []) :: done) s k
        else none
def drawOk (P : Program) (ops : List Oper) : Bool := P.follows .mixedOrders && Region.lexB .any ops.toArray

/-- A test's outcome is put in its place. -/
def settleK (on : Bool) (c : Operand) (b : Bool) (s : St) (k : St → Option Ans) : Option Ans :=
  match on with
  | true => match c with
    | .tmp t => setK s.fr t (.sc (.bool b)) fun fr => k { fr := fr, H := s.H, nx := s.nx, rt := s.rt, me := s.me }
    | _ => k s
  | false => k s
def execK (E : Env) (ca : CallT) (lo : LoopT) : ACode → St → KX → Option Ans
  | .skip, s, k => k .normal s
  | .region _ ops d, s, k =>
    if d then (if drawOk E.P ops then fNL (Region.before ops.toArray).toList fun befs => stepD E ca ops befs s.nx 0 ops [] s k else none)
    else stepOps E ca ops s.nx 0 ops s k
  | .seq a b, s, k => execK E ca lo a s fun e s => match e with
    | .normal => execK E ca lo b s k
    | e => k e s
  | .cond c x y, s, k =>
    match evA E s.fr c with
    | .sc (.bool b) => if b then settleK (E.sett s.me) c true s fun s => execK E ca lo x s k else settleK (E.sett s.me) c false s fun s => execK E ca lo y s k
    | _ => none
  | .block id c, s, k => execK E ca lo c s fun e s => match e with
    | .exit j => if j = id then k .normal s else k (.exit j) s
    | e => k e s
  | .loop id live c, s, k => canonK live s fun s => lo id live c s k
  | .exit id, s, k => k (.exit id) s
  | .ret, s, k => k .ret s
  | .no _, _, _ => none

/-- One round, and what stands behind it. -/
def loopK (E : Env) (ca : CallT) (lo : LoopT) (id live : Nat) (c : ACode) (s : St) (k : KX) : Option Ans :=
  execK E ca lo c s fun e s => match e with
    | .normal => canonK live s fun s => lo id live c s k
    | e => k e s

def resK (E : Env) (s : St) (r : ResultVar) (k : V → Option Ans) : Option Ans :=
  match r with
  | .tmp t => k (s.fr.getD t .junk)
  | .cell t ty => match s.fr.getD t .junk with
    | .ptr i o => match s.H i with
      | some (.blk cs) => match seg E.P ty cs o with | some v => k v | none => none
      | _ => none
    | _ => none
def resLK (E : Env) (s : St) (rs : List ResultVar) (k : List V → Option Ans) : Option Ans :=
  match rs with
  | [] => k []
  | r :: l => resK E s r fun v => resLK E s l fun vs => k (v :: vs)
def one1 : List V → V
  | [v] => v
  | vs => .tup vs
def leaveK (s : St) (v : V) (k : CRes → Option Ans) : Option Ans :=
  fNL (reach s.H deep (chIds s.H (List.range s.rt) ++ v.ids) (List.range s.rt)) fun order =>
    fV (v.ren (posOf order)) fun v => fCL (keep s.H order) fun L => k (.ret v L)
def endK (E : Env) (fn : Func) (k : CRes → Option Ans) : KX := fun e s =>
  match e with
  | .normal => resLK E s fn.results.toList fun vs => leaveK s (one1 vs) k
  | .ret => resLK E s fn.results.toList fun vs => leaveK s (one1 vs) k
  | .panic v => match E.dfn s.me with
    | true => none
    | false => k (.pan v)
  | .exit _ => none

def callK (E : Env) (ca : CallT) (lo : LoopT) (f : FuncId) (args : List V) (L : List (Option Chunk)) (k : CRes → Option Ans) : Option Ans :=
  match E.code f with
  | some c => match E.P.funcs[f]? with
    | some fn => fL (args ++ List.replicate (fn.ntmps - args.length) (.sc undef)) fun fr =>
      if (dd [] (idsL args)).length ≤ L.length then
        execK E ca lo c { fr := fr, H := hp L, nx := L.length, rt := (dd [] (idsL args)).length, me := f } (endK E fn k)
      else none
    | none => none
  | none => none

/-! ### What is wanted at a loop's head -/
/-- A number brought to its form. -/
def forceN {α : Type} (l : Nat) (k : Nat → α) : α := match l with | 0 => k 0 | n + 1 => k (n + 1)
theorem forceN_eq {α : Type} (l : Nat) (k : Nat → α) : forceN l k = k l := by cases l <;> rfl
def opLive (o : Oper) (ops : List Oper) (l : Nat) : Nat := forceN l fun l =>
  let l := match o.dst with | some t => if l.testBit t then l ^^^ (1 <<< t) else l | none => l
  let add (l : Nat) : Operand → Nat | .tmp t => l ||| (1 <<< t) | _ => l
  let l := o.op.operands.toList.foldl add l
  match o.guard with
  | some (j, _) => match ops[j]? with | some o' => (match o'.dst with | some t => l ||| (1 <<< t) | none => l) | none => l
  | none => l
def look (env : List (Nat × Nat)) (id : Nat) : Nat := match env.find? (·.1 == id) with | some (_, l) => l | none => 0
def liveOf : Operand → Nat | .tmp t => 1 <<< t | _ => 0
def lv (res : Nat) : Code → Nat → List (Nat × Nat) → Nat
  | .skip, l, _ => l
  | .region _ ops _, l, _ => ops.toList.reverse.foldl (fun l o => opLive o ops.toList l) l
  | .seq a b, l, env => forceN (lv res b l env) fun l => lv res a l env
  | .cond c x y, l, env => forceN l fun l => liveOf c ||| lv res x l env ||| lv res y l env
  | .block id c, l, env => forceN l fun l => lv res c l ((id, l) :: env)
  | .loop c, _, env => forceN (lv res c 0 env) fun l0 => lv res c l0 env
  | .exit id, _, env => look env id
  | .ret, _, _ => res
  | _, l, _ => l
def ann (res : Nat) : Code → Nat → Nat → List (Nat × Nat) → ACode
  | .skip, _, _, _ => .skip
  | .region id ops d, _, _, _ => .region id ops.toList d
  | .seq a b, b0, l, env => .seq (forceN (lv res b l env) fun l => ann res a b0 l env) (ann res b b0 l env)
  | .cond c x y, b0, l, env => .cond c (ann res x b0 l env) (ann res y b0 l env)
  | .block id c, _, l, env => forceN l fun l => .block id (ann res c id l ((id, l) :: env))
  | .loop c, b0, l, env => forceN (lv res (.loop c) l env) fun h => .loop b0 h (ann res c b0 h env)
  | .exit id, _, _, _ => .exit id
  | .ret, _, _, _ => .ret
  | c, _, _, _ => .no c
def annF (fn : Func) : Option ACode :=
  let res := fn.results.toList.foldl (fun l r => match r with | .tmp t => l ||| (1 <<< t) | .cell t _ => l ||| (1 <<< t)) 0
  fn.body.map fun c => ann res c 0 res []

/-! ### Runs of so many rounds -/
mutual
def callF (E : Env) : Nat → CallT
  | 0 => fun _ _ _ _ => none
  | n + 1 => fun f args L k => match callK E (callF E n) (loopF E n) f args L (fun r => some (.c r)) with
    | some (.c r) => k r
    | _ => none
def loopF (E : Env) : Nat → LoopT
  | 0 => fun _ _ _ _ _ => none
  | n + 1 => fun id live c s k => match loopK E (callF E n) (loopF E n) id live c s (fun e s => some (.l e s)) with
    | some (.l e s) => k e s
    | _ => none
end
end Go.Am
