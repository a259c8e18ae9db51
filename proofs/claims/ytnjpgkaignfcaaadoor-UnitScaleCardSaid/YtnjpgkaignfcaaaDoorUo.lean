/- Names of dimensions. -/
import Derived.Test.YtnjpgkaignfcaaaDoorUn
namespace Go.Proofs.YtnjpgkaignfcaaaDoor
open Go Go.Am
def vI : List V → V
  | [.sc (.int .i64 n)] => st (itS n)
  | _ => .junk
def QI (args : List V) : Prop := ∃ n, args = [i64 n] ∧ inR n
noncomputable def CN : CallT := ptab 42 QI vI (ptab 26 QI vI (tab [(41, fun args L k => callG E1 20 41 args L k), (44, fun args L k => callG E1 20 44 args L k)]))
theorem itoa_sc {n : Int} (h : inR n) : SC E1 42 [i64 n] [] (.ret (st (itS n)) []) := by
  refine sc1.2 (SC.ext hX ?_)
  show extF 42 [i64 n] = _
  unfold inR at h
  simp only [extF, if_true, h, and_self]
  rfl
theorem sCN : SoundC E1 CN := by
  refine ptab_cons (fun args h => ?_) (ptab_cons (fun args h => ?_) (tab_cons (fun args L k r h => (sound_G hW1 hX1 20).1 41 args L k r h) (tab_cons (fun args L k r h => (sound_G hW1 hX1 20).1 44 args L k r h) tab_nil)))
  · obtain ⟨n, rfl, hn⟩ := h; exact itoa_sc hn
  · obtain ⟨n, rfl, hn⟩ := h; exact decimal hn
def segs (p : V) (l : List (Option Chunk)) (nx : Nat) (ex : V) (i : Int) : St := { fr := [.junk, .junk, .junk, p, .junk, .junk, .junk, .junk, ex, i64 i] ++ jk 26, H := hp l, nx := nx, rt := 0, me := 17 }
def SNn (ex : V) (i : Int) : St := segs (.sc (.slice none 0 0)) [] 0 ex i
def SNs (c : Nat) (f : Nat → List V) (ex : V) (i : Int) : St := segs (.sl 0 1 0 c) [some (.row 9 1 c f)] 1 ex i
def exR (a b c d e : Int) : Nat → List V := fun i => ([[i64 a], [i64 b], [i64 c], [i64 d], [i64 e]] : List (List V)).getD i []
def bsR : Nat → List V := fun i => ([[st ⟨#[74]⟩], [st ⟨#[66]⟩], [st ⟨#[115]⟩], [st ⟨#[100, 101, 103]⟩], [st ⟨#[75]⟩]] : List (List V)).getD i []
def SM (s : ByteArray) (a b c d e : Int) (i : Int) : St := { fr := [.junk, .junk, .junk, .sl 0 1 0 5, .sl 1 1 0 5, st s, i64 i] ++ jk 38, H := hp [some (.row 3 1 5 (exR a b c d e)), some (.row 9 1 5 bsR)], nx := 2, rt := 0, me := 18 }
def TNn : St := { fr := [.junk, .junk, .junk, .sc (.slice none 0 0)] ++ jk 32, H := hp [], nx := 0, rt := 0, me := 17 }
def TNs (n : Nat) (f : Nat → List V) : St := { fr := [.junk, .junk, .junk, .sl 0 1 0 n] ++ jk 32, H := hp [some (.row 9 1 n f)], nx := 1, rt := 0, me := 17 }
def TM (s : ByteArray) : St := { fr := [.junk, .junk, .junk, .junk, .junk, st s] ++ jk 39, H := hp [], nx := 0, rt := 0, me := 18 }
/-- The texts of a list. -/
def rowS (L : List ByteArray) : Nat → List V := fun j => [st (L.getD j ByteArray.empty)]
def jn (L : List ByteArray) : ByteArray := ⟨(Lib.join (L.map (·.data.toList)) [42]).toArray⟩
def Q43 (J : ByteArray) (args : List V) : Prop := ∃ L : List ByteArray, J = jn L ∧ J.size ≤ 140737488355328 ∧ L.length ≤ 100 ∧ ((L = [] ∧ args = [.sc (.slice none 0 0), st ⟨#[42]⟩]) ∨ args = [.ro 1 L.length (fun j => rowS L (0 + j)), st ⟨#[42]⟩])
noncomputable def CJ (J : ByteArray) : CallT := ptab 43 (Q43 J) (fun _ => st J) CN
theorem strL_map : ∀ L : List ByteArray, strL (L.map fun s => [st s]) = some L
  | [] => rfl
  | s :: L => by simp only [List.map_cons, strL, strL_map L]
theorem rows_map (L : List ByteArray) : ((List.range L.length).map fun j => rowS L (0 + j)) = L.map fun s => [st s] := by
  apply List.ext_getElem
  · simp
  · intro i h1 h2
    simp only [List.length_map, List.length_range] at h1
    simp [rowS, List.getD, h1]
theorem sCJ (J : ByteArray) : SoundC E1 (CJ J) := by
  refine ptab_cons (fun args h => ?_) sCN
  obtain ⟨L, rfl, hs, hl, h⟩ := h
  rcases h with ⟨rfl, rfl⟩ | rfl
  · exact sc1.2 (SC.ext hX rfl)
  · refine sc1.2 (SC.ext hX ?_)
    show extF 43 [V.ro 1 L.length fun j => rowS L (0 + j), st ⟨#[42]⟩] = some (st (jn L))
    have hs' : (Lib.join (L.map (·.data.toList)) [42]).length ≤ 140737488355328 := by
      have : (jn L).size = (Lib.join (L.map (·.data.toList)) [42]).length := by show Array.size _ = _; simp
      omega
    simp only [extF, rows_map, strL_map]
    rw [if_neg (by decide), if_pos trivial, if_pos ⟨hs', by omega⟩]
    rfl
theorem n17n0 (a b c d e : Int) (lo : LoopT) (kk : Ex → St → Option Ans) : loopK E1 CN lo 0 776 (bodyOf E1 17 0) (SNn (d5 a b c d e) 0) kk =
  if (a == (0 : Int)) = true then
   lo 0 776 (bodyOf E1 17 0) ({ fr := [V.junk, V.junk, V.junk, V.sc (Value.slice none 0 0), V.junk, V.junk, V.junk, V.junk, V.agg [i64 a, i64 b, i64 c, i64 d, i64 e], i64 (w ((0 : Int) + (1 : Int)))] ++ jk 26, H := hp [], nx := 0, rt := 0, me := 17 }) kk
  else
   if (a == (1 : Int)) = true then
    lo 0 776 (bodyOf E1 17 0) ({ fr := [V.junk, V.junk, V.junk, V.sl 0 1 0 1, V.junk, V.junk, V.junk, V.junk, V.agg [i64 a, i64 b, i64 c, i64 d, i64 e], i64 (w ((0 : Int) + (1 : Int)))] ++ jk 26, H := hp [some (Chunk.row 9 1 1 fun (j : Nat) => List.getD [[V.sc (Value.string { data := #[(74 : UInt8)] })]] (0 + j) [])], nx := 1, rt := 0, me := 17 }) kk
   else
    cl (QI ([i64 a]) ∧ ([] : List (Option Chunk)) = []) (
     if 2 + ByteArray.size (itS a) ≤ maxLen then
      lo 0 776 (bodyOf E1 17 0) ({ fr := [V.junk, V.junk, V.junk, V.sl 0 1 0 1, V.junk, V.junk, V.junk, V.junk, V.agg [i64 a, i64 b, i64 c, i64 d, i64 e], i64 (w ((0 : Int) + (1 : Int)))] ++ jk 26, H := hp [some (Chunk.row 9 1 1 fun (j : Nat) => List.getD [[V.sc (Value.string ({ data := #[(74 : UInt8)] } ++ { data := #[(94 : UInt8)] } ++ itS a))]] (0 + j) [])], nx := 1, rt := 0, me := 17 }) kk
     else
      none) (
     none) := by kernel_rfl
theorem n17s0 (n : Nat) (f : Nat → List V) (a b c d e : Int) (lo : LoopT) (kk : Ex → St → Option Ans) : loopK E1 CN lo 0 776 (bodyOf E1 17 0) (SNs n f (d5 a b c d e) 0) kk =
  if (a == (0 : Int)) = true then
   lo 0 776 (bodyOf E1 17 0) ({ fr := [V.junk, V.junk, V.junk, V.sl 0 1 0 n, V.junk, V.junk, V.junk, V.junk, V.agg [i64 a, i64 b, i64 c, i64 d, i64 e], i64 (w ((0 : Int) + (1 : Int)))] ++ jk 26, H := hp [some (Chunk.row 9 1 n f)], nx := 1, rt := 0, me := 17 }) kk
  else
   if (a == (1 : Int)) = true then
    if (n + 1) * 16 ≤ roomBound ∧ n + 1 ≤ maxLen ∧ n ≤ n then
     lo 0 776 (bodyOf E1 17 0) ({ fr := [V.junk, V.junk, V.junk, V.sl 0 1 0 (n + 1), V.junk, V.junk, V.junk, V.junk, V.agg [i64 a, i64 b, i64 c, i64 d, i64 e], i64 (w ((0 : Int) + (1 : Int)))] ++ jk 26, H := hp [some (Chunk.row 9 1 (n + 1) (joinF n f fun (j : Nat) => List.getD [[V.sc (Value.string { data := #[(74 : UInt8)] })]] (0 + j) []))], nx := 1, rt := 0, me := 17 }) kk
    else
     none
   else
    cl (QI ([i64 a]) ∧ ([] : List (Option Chunk)) = []) (
     if 2 + ByteArray.size (itS a) ≤ maxLen then
      if (n + 1) * 16 ≤ roomBound ∧ n + 1 ≤ maxLen ∧ n ≤ n then
       lo 0 776 (bodyOf E1 17 0) ({ fr := [V.junk, V.junk, V.junk, V.sl 0 1 0 (n + 1), V.junk, V.junk, V.junk, V.junk, V.agg [i64 a, i64 b, i64 c, i64 d, i64 e], i64 (w ((0 : Int) + (1 : Int)))] ++ jk 26, H := hp [some (Chunk.row 9 1 (n + 1) (joinF n f fun (j : Nat) => List.getD [[V.sc (Value.string ({ data := #[(74 : UInt8)] } ++ { data := #[(94 : UInt8)] } ++ itS a))]] (0 + j) []))], nx := 1, rt := 0, me := 17 }) kk
      else
       none
     else
      none) (
     none) := by kernel_rfl
theorem n18r0 (s : ByteArray) (a b c d e : Int) (lo : LoopT) (kk : Ex → St → Option Ans) : loopK E1 CN lo 0 120 (bodyOf E1 18 0) (SM s a b c d e 0) kk =
  if (a == (0 : Int)) = true then
   lo 0 120 (bodyOf E1 18 0) ({ fr := [V.junk, V.junk, V.junk, V.sl 0 1 0 5, V.sl 1 1 0 5, V.sc (Value.string s), i64 (w ((0 : Int) + (1 : Int)))] ++ jk 38, H := hp [some (Chunk.row 3 1 5 (exR a b c d e)), some (Chunk.row 9 1 5 bsR)], nx := 2, rt := 0, me := 18 }) kk
  else
   if (!ByteArray.toList s == ByteArray.toList { data := #[] }) = true then
    if ByteArray.size s + 1 ≤ maxLen then
     if ByteArray.size (s ++ { data := #[(42 : UInt8)] }) + 1 ≤ maxLen then
      if (a != (1 : Int)) = true then
       if ByteArray.size (s ++ { data := #[(42 : UInt8)] } ++ { data := #[(74 : UInt8)] }) + 1 ≤ maxLen then
        cl (QI ([i64 a]) ∧ ([] : List (Option Chunk)) = []) (
         if ByteArray.size (s ++ { data := #[(42 : UInt8)] } ++ { data := #[(74 : UInt8)] } ++ { data := #[(94 : UInt8)] }) + ByteArray.size (itS a) ≤ maxLen then
          lo 0 120 (bodyOf E1 18 0) ({ fr := [V.junk, V.junk, V.junk, V.sl 0 1 0 5, V.sl 1 1 0 5, V.sc (Value.string (s ++ { data := #[(42 : UInt8)] } ++ { data := #[(74 : UInt8)] } ++ { data := #[(94 : UInt8)] } ++ itS a)), i64 (w ((0 : Int) + (1 : Int)))] ++ jk 38, H := hp [some (Chunk.row 3 1 5 (exR a b c d e)), some (Chunk.row 9 1 5 bsR)], nx := 2, rt := 0, me := 18 }) kk
         else
          none) (
         none)
       else
        none
      else
       lo 0 120 (bodyOf E1 18 0) ({ fr := [V.junk, V.junk, V.junk, V.sl 0 1 0 5, V.sl 1 1 0 5, V.sc (Value.string (s ++ { data := #[(42 : UInt8)] } ++ { data := #[(74 : UInt8)] })), i64 (w ((0 : Int) + (1 : Int)))] ++ jk 38, H := hp [some (Chunk.row 3 1 5 (exR a b c d e)), some (Chunk.row 9 1 5 bsR)], nx := 2, rt := 0, me := 18 }) kk
     else
      none
    else
     none
   else
    if ByteArray.size s + 1 ≤ maxLen then
     if (a != (1 : Int)) = true then
      if ByteArray.size (s ++ { data := #[(74 : UInt8)] }) + 1 ≤ maxLen then
       cl (QI ([i64 a]) ∧ ([] : List (Option Chunk)) = []) (
        if ByteArray.size (s ++ { data := #[(74 : UInt8)] } ++ { data := #[(94 : UInt8)] }) + ByteArray.size (itS a) ≤ maxLen then
         lo 0 120 (bodyOf E1 18 0) ({ fr := [V.junk, V.junk, V.junk, V.sl 0 1 0 5, V.sl 1 1 0 5, V.sc (Value.string (s ++ { data := #[(74 : UInt8)] } ++ { data := #[(94 : UInt8)] } ++ itS a)), i64 (w ((0 : Int) + (1 : Int)))] ++ jk 38, H := hp [some (Chunk.row 3 1 5 (exR a b c d e)), some (Chunk.row 9 1 5 bsR)], nx := 2, rt := 0, me := 18 }) kk
        else
         none) (
        none)
      else
       none
     else
      lo 0 120 (bodyOf E1 18 0) ({ fr := [V.junk, V.junk, V.junk, V.sl 0 1 0 5, V.sl 1 1 0 5, V.sc (Value.string (s ++ { data := #[(74 : UInt8)] })), i64 (w ((0 : Int) + (1 : Int)))] ++ jk 38, H := hp [some (Chunk.row 3 1 5 (exR a b c d e)), some (Chunk.row 9 1 5 bsR)], nx := 2, rt := 0, me := 18 }) kk
    else
     none := by kernel_rfl
theorem n17n1 (a b c d e : Int) (lo : LoopT) (kk : Ex → St → Option Ans) : loopK E1 CN lo 0 776 (bodyOf E1 17 0) (SNn (d5 a b c d e) 1) kk =
  if (b == (0 : Int)) = true then
   lo 0 776 (bodyOf E1 17 0) ({ fr := [V.junk, V.junk, V.junk, V.sc (Value.slice none 0 0), V.junk, V.junk, V.junk, V.junk, V.agg [i64 a, i64 b, i64 c, i64 d, i64 e], i64 (w ((1 : Int) + (1 : Int)))] ++ jk 26, H := hp [], nx := 0, rt := 0, me := 17 }) kk
  else
   if (b == (1 : Int)) = true then
    lo 0 776 (bodyOf E1 17 0) ({ fr := [V.junk, V.junk, V.junk, V.sl 0 1 0 1, V.junk, V.junk, V.junk, V.junk, V.agg [i64 a, i64 b, i64 c, i64 d, i64 e], i64 (w ((1 : Int) + (1 : Int)))] ++ jk 26, H := hp [some (Chunk.row 9 1 1 fun (j : Nat) => List.getD [[V.sc (Value.string { data := #[(66 : UInt8)] })]] (0 + j) [])], nx := 1, rt := 0, me := 17 }) kk
   else
    cl (QI ([i64 b]) ∧ ([] : List (Option Chunk)) = []) (
     if 2 + ByteArray.size (itS b) ≤ maxLen then
      lo 0 776 (bodyOf E1 17 0) ({ fr := [V.junk, V.junk, V.junk, V.sl 0 1 0 1, V.junk, V.junk, V.junk, V.junk, V.agg [i64 a, i64 b, i64 c, i64 d, i64 e], i64 (w ((1 : Int) + (1 : Int)))] ++ jk 26, H := hp [some (Chunk.row 9 1 1 fun (j : Nat) => List.getD [[V.sc (Value.string ({ data := #[(66 : UInt8)] } ++ { data := #[(94 : UInt8)] } ++ itS b))]] (0 + j) [])], nx := 1, rt := 0, me := 17 }) kk
     else
      none) (
     none) := by kernel_rfl
theorem n17s1 (n : Nat) (f : Nat → List V) (a b c d e : Int) (lo : LoopT) (kk : Ex → St → Option Ans) : loopK E1 CN lo 0 776 (bodyOf E1 17 0) (SNs n f (d5 a b c d e) 1) kk =
  if (b == (0 : Int)) = true then
   lo 0 776 (bodyOf E1 17 0) ({ fr := [V.junk, V.junk, V.junk, V.sl 0 1 0 n, V.junk, V.junk, V.junk, V.junk, V.agg [i64 a, i64 b, i64 c, i64 d, i64 e], i64 (w ((1 : Int) + (1 : Int)))] ++ jk 26, H := hp [some (Chunk.row 9 1 n f)], nx := 1, rt := 0, me := 17 }) kk
  else
   if (b == (1 : Int)) = true then
    if (n + 1) * 16 ≤ roomBound ∧ n + 1 ≤ maxLen ∧ n ≤ n then
     lo 0 776 (bodyOf E1 17 0) ({ fr := [V.junk, V.junk, V.junk, V.sl 0 1 0 (n + 1), V.junk, V.junk, V.junk, V.junk, V.agg [i64 a, i64 b, i64 c, i64 d, i64 e], i64 (w ((1 : Int) + (1 : Int)))] ++ jk 26, H := hp [some (Chunk.row 9 1 (n + 1) (joinF n f fun (j : Nat) => List.getD [[V.sc (Value.string { data := #[(66 : UInt8)] })]] (0 + j) []))], nx := 1, rt := 0, me := 17 }) kk
    else
     none
   else
    cl (QI ([i64 b]) ∧ ([] : List (Option Chunk)) = []) (
     if 2 + ByteArray.size (itS b) ≤ maxLen then
      if (n + 1) * 16 ≤ roomBound ∧ n + 1 ≤ maxLen ∧ n ≤ n then
       lo 0 776 (bodyOf E1 17 0) ({ fr := [V.junk, V.junk, V.junk, V.sl 0 1 0 (n + 1), V.junk, V.junk, V.junk, V.junk, V.agg [i64 a, i64 b, i64 c, i64 d, i64 e], i64 (w ((1 : Int) + (1 : Int)))] ++ jk 26, H := hp [some (Chunk.row 9 1 (n + 1) (joinF n f fun (j : Nat) => List.getD [[V.sc (Value.string ({ data := #[(66 : UInt8)] } ++ { data := #[(94 : UInt8)] } ++ itS b))]] (0 + j) []))], nx := 1, rt := 0, me := 17 }) kk
      else
       none
     else
      none) (
     none) := by kernel_rfl
theorem n18r1 (s : ByteArray) (a b c d e : Int) (lo : LoopT) (kk : Ex → St → Option Ans) : loopK E1 CN lo 0 120 (bodyOf E1 18 0) (SM s a b c d e 1) kk =
  if (b == (0 : Int)) = true then
   lo 0 120 (bodyOf E1 18 0) ({ fr := [V.junk, V.junk, V.junk, V.sl 0 1 0 5, V.sl 1 1 0 5, V.sc (Value.string s), i64 (w ((1 : Int) + (1 : Int)))] ++ jk 38, H := hp [some (Chunk.row 3 1 5 (exR a b c d e)), some (Chunk.row 9 1 5 bsR)], nx := 2, rt := 0, me := 18 }) kk
  else
   if (!ByteArray.toList s == ByteArray.toList { data := #[] }) = true then
    if ByteArray.size s + 1 ≤ maxLen then
     if ByteArray.size (s ++ { data := #[(42 : UInt8)] }) + 1 ≤ maxLen then
      if (b != (1 : Int)) = true then
       if ByteArray.size (s ++ { data := #[(42 : UInt8)] } ++ { data := #[(66 : UInt8)] }) + 1 ≤ maxLen then
        cl (QI ([i64 b]) ∧ ([] : List (Option Chunk)) = []) (
         if ByteArray.size (s ++ { data := #[(42 : UInt8)] } ++ { data := #[(66 : UInt8)] } ++ { data := #[(94 : UInt8)] }) + ByteArray.size (itS b) ≤ maxLen then
          lo 0 120 (bodyOf E1 18 0) ({ fr := [V.junk, V.junk, V.junk, V.sl 0 1 0 5, V.sl 1 1 0 5, V.sc (Value.string (s ++ { data := #[(42 : UInt8)] } ++ { data := #[(66 : UInt8)] } ++ { data := #[(94 : UInt8)] } ++ itS b)), i64 (w ((1 : Int) + (1 : Int)))] ++ jk 38, H := hp [some (Chunk.row 3 1 5 (exR a b c d e)), some (Chunk.row 9 1 5 bsR)], nx := 2, rt := 0, me := 18 }) kk
         else
          none) (
         none)
       else
        none
      else
       lo 0 120 (bodyOf E1 18 0) ({ fr := [V.junk, V.junk, V.junk, V.sl 0 1 0 5, V.sl 1 1 0 5, V.sc (Value.string (s ++ { data := #[(42 : UInt8)] } ++ { data := #[(66 : UInt8)] })), i64 (w ((1 : Int) + (1 : Int)))] ++ jk 38, H := hp [some (Chunk.row 3 1 5 (exR a b c d e)), some (Chunk.row 9 1 5 bsR)], nx := 2, rt := 0, me := 18 }) kk
     else
      none
    else
     none
   else
    if ByteArray.size s + 1 ≤ maxLen then
     if (b != (1 : Int)) = true then
      if ByteArray.size (s ++ { data := #[(66 : UInt8)] }) + 1 ≤ maxLen then
       cl (QI ([i64 b]) ∧ ([] : List (Option Chunk)) = []) (
        if ByteArray.size (s ++ { data := #[(66 : UInt8)] } ++ { data := #[(94 : UInt8)] }) + ByteArray.size (itS b) ≤ maxLen then
         lo 0 120 (bodyOf E1 18 0) ({ fr := [V.junk, V.junk, V.junk, V.sl 0 1 0 5, V.sl 1 1 0 5, V.sc (Value.string (s ++ { data := #[(66 : UInt8)] } ++ { data := #[(94 : UInt8)] } ++ itS b)), i64 (w ((1 : Int) + (1 : Int)))] ++ jk 38, H := hp [some (Chunk.row 3 1 5 (exR a b c d e)), some (Chunk.row 9 1 5 bsR)], nx := 2, rt := 0, me := 18 }) kk
        else
         none) (
        none)
      else
       none
     else
      lo 0 120 (bodyOf E1 18 0) ({ fr := [V.junk, V.junk, V.junk, V.sl 0 1 0 5, V.sl 1 1 0 5, V.sc (Value.string (s ++ { data := #[(66 : UInt8)] })), i64 (w ((1 : Int) + (1 : Int)))] ++ jk 38, H := hp [some (Chunk.row 3 1 5 (exR a b c d e)), some (Chunk.row 9 1 5 bsR)], nx := 2, rt := 0, me := 18 }) kk
    else
     none := by kernel_rfl
theorem n17n2 (a b c d e : Int) (lo : LoopT) (kk : Ex → St → Option Ans) : loopK E1 CN lo 0 776 (bodyOf E1 17 0) (SNn (d5 a b c d e) 2) kk =
  if (c == (0 : Int)) = true then
   lo 0 776 (bodyOf E1 17 0) ({ fr := [V.junk, V.junk, V.junk, V.sc (Value.slice none 0 0), V.junk, V.junk, V.junk, V.junk, V.agg [i64 a, i64 b, i64 c, i64 d, i64 e], i64 (w ((2 : Int) + (1 : Int)))] ++ jk 26, H := hp [], nx := 0, rt := 0, me := 17 }) kk
  else
   if (c == (1 : Int)) = true then
    lo 0 776 (bodyOf E1 17 0) ({ fr := [V.junk, V.junk, V.junk, V.sl 0 1 0 1, V.junk, V.junk, V.junk, V.junk, V.agg [i64 a, i64 b, i64 c, i64 d, i64 e], i64 (w ((2 : Int) + (1 : Int)))] ++ jk 26, H := hp [some (Chunk.row 9 1 1 fun (j : Nat) => List.getD [[V.sc (Value.string { data := #[(115 : UInt8)] })]] (0 + j) [])], nx := 1, rt := 0, me := 17 }) kk
   else
    cl (QI ([i64 c]) ∧ ([] : List (Option Chunk)) = []) (
     if 2 + ByteArray.size (itS c) ≤ maxLen then
      lo 0 776 (bodyOf E1 17 0) ({ fr := [V.junk, V.junk, V.junk, V.sl 0 1 0 1, V.junk, V.junk, V.junk, V.junk, V.agg [i64 a, i64 b, i64 c, i64 d, i64 e], i64 (w ((2 : Int) + (1 : Int)))] ++ jk 26, H := hp [some (Chunk.row 9 1 1 fun (j : Nat) => List.getD [[V.sc (Value.string ({ data := #[(115 : UInt8)] } ++ { data := #[(94 : UInt8)] } ++ itS c))]] (0 + j) [])], nx := 1, rt := 0, me := 17 }) kk
     else
      none) (
     none) := by kernel_rfl
theorem n17s2 (n : Nat) (f : Nat → List V) (a b c d e : Int) (lo : LoopT) (kk : Ex → St → Option Ans) : loopK E1 CN lo 0 776 (bodyOf E1 17 0) (SNs n f (d5 a b c d e) 2) kk =
  if (c == (0 : Int)) = true then
   lo 0 776 (bodyOf E1 17 0) ({ fr := [V.junk, V.junk, V.junk, V.sl 0 1 0 n, V.junk, V.junk, V.junk, V.junk, V.agg [i64 a, i64 b, i64 c, i64 d, i64 e], i64 (w ((2 : Int) + (1 : Int)))] ++ jk 26, H := hp [some (Chunk.row 9 1 n f)], nx := 1, rt := 0, me := 17 }) kk
  else
   if (c == (1 : Int)) = true then
    if (n + 1) * 16 ≤ roomBound ∧ n + 1 ≤ maxLen ∧ n ≤ n then
     lo 0 776 (bodyOf E1 17 0) ({ fr := [V.junk, V.junk, V.junk, V.sl 0 1 0 (n + 1), V.junk, V.junk, V.junk, V.junk, V.agg [i64 a, i64 b, i64 c, i64 d, i64 e], i64 (w ((2 : Int) + (1 : Int)))] ++ jk 26, H := hp [some (Chunk.row 9 1 (n + 1) (joinF n f fun (j : Nat) => List.getD [[V.sc (Value.string { data := #[(115 : UInt8)] })]] (0 + j) []))], nx := 1, rt := 0, me := 17 }) kk
    else
     none
   else
    cl (QI ([i64 c]) ∧ ([] : List (Option Chunk)) = []) (
     if 2 + ByteArray.size (itS c) ≤ maxLen then
      if (n + 1) * 16 ≤ roomBound ∧ n + 1 ≤ maxLen ∧ n ≤ n then
       lo 0 776 (bodyOf E1 17 0) ({ fr := [V.junk, V.junk, V.junk, V.sl 0 1 0 (n + 1), V.junk, V.junk, V.junk, V.junk, V.agg [i64 a, i64 b, i64 c, i64 d, i64 e], i64 (w ((2 : Int) + (1 : Int)))] ++ jk 26, H := hp [some (Chunk.row 9 1 (n + 1) (joinF n f fun (j : Nat) => List.getD [[V.sc (Value.string ({ data := #[(115 : UInt8)] } ++ { data := #[(94 : UInt8)] } ++ itS c))]] (0 + j) []))], nx := 1, rt := 0, me := 17 }) kk
      else
       none
     else
      none) (
     none) := by kernel_rfl
theorem n18r2 (s : ByteArray) (a b c d e : Int) (lo : LoopT) (kk : Ex → St → Option Ans) : loopK E1 CN lo 0 120 (bodyOf E1 18 0) (SM s a b c d e 2) kk =
  if (c == (0 : Int)) = true then
   lo 0 120 (bodyOf E1 18 0) ({ fr := [V.junk, V.junk, V.junk, V.sl 0 1 0 5, V.sl 1 1 0 5, V.sc (Value.string s), i64 (w ((2 : Int) + (1 : Int)))] ++ jk 38, H := hp [some (Chunk.row 3 1 5 (exR a b c d e)), some (Chunk.row 9 1 5 bsR)], nx := 2, rt := 0, me := 18 }) kk
  else
   if (!ByteArray.toList s == ByteArray.toList { data := #[] }) = true then
    if ByteArray.size s + 1 ≤ maxLen then
     if ByteArray.size (s ++ { data := #[(42 : UInt8)] }) + 1 ≤ maxLen then
      if (c != (1 : Int)) = true then
       if ByteArray.size (s ++ { data := #[(42 : UInt8)] } ++ { data := #[(115 : UInt8)] }) + 1 ≤ maxLen then
        cl (QI ([i64 c]) ∧ ([] : List (Option Chunk)) = []) (
         if ByteArray.size (s ++ { data := #[(42 : UInt8)] } ++ { data := #[(115 : UInt8)] } ++ { data := #[(94 : UInt8)] }) + ByteArray.size (itS c) ≤ maxLen then
          lo 0 120 (bodyOf E1 18 0) ({ fr := [V.junk, V.junk, V.junk, V.sl 0 1 0 5, V.sl 1 1 0 5, V.sc (Value.string (s ++ { data := #[(42 : UInt8)] } ++ { data := #[(115 : UInt8)] } ++ { data := #[(94 : UInt8)] } ++ itS c)), i64 (w ((2 : Int) + (1 : Int)))] ++ jk 38, H := hp [some (Chunk.row 3 1 5 (exR a b c d e)), some (Chunk.row 9 1 5 bsR)], nx := 2, rt := 0, me := 18 }) kk
         else
          none) (
         none)
       else
        none
      else
       lo 0 120 (bodyOf E1 18 0) ({ fr := [V.junk, V.junk, V.junk, V.sl 0 1 0 5, V.sl 1 1 0 5, V.sc (Value.string (s ++ { data := #[(42 : UInt8)] } ++ { data := #[(115 : UInt8)] })), i64 (w ((2 : Int) + (1 : Int)))] ++ jk 38, H := hp [some (Chunk.row 3 1 5 (exR a b c d e)), some (Chunk.row 9 1 5 bsR)], nx := 2, rt := 0, me := 18 }) kk
     else
      none
    else
     none
   else
    if ByteArray.size s + 1 ≤ maxLen then
     if (c != (1 : Int)) = true then
      if ByteArray.size (s ++ { data := #[(115 : UInt8)] }) + 1 ≤ maxLen then
       cl (QI ([i64 c]) ∧ ([] : List (Option Chunk)) = []) (
        if ByteArray.size (s ++ { data := #[(115 : UInt8)] } ++ { data := #[(94 : UInt8)] }) + ByteArray.size (itS c) ≤ maxLen then
         lo 0 120 (bodyOf E1 18 0) ({ fr := [V.junk, V.junk, V.junk, V.sl 0 1 0 5, V.sl 1 1 0 5, V.sc (Value.string (s ++ { data := #[(115 : UInt8)] } ++ { data := #[(94 : UInt8)] } ++ itS c)), i64 (w ((2 : Int) + (1 : Int)))] ++ jk 38, H := hp [some (Chunk.row 3 1 5 (exR a b c d e)), some (Chunk.row 9 1 5 bsR)], nx := 2, rt := 0, me := 18 }) kk
        else
         none) (
        none)
      else
       none
     else
      lo 0 120 (bodyOf E1 18 0) ({ fr := [V.junk, V.junk, V.junk, V.sl 0 1 0 5, V.sl 1 1 0 5, V.sc (Value.string (s ++ { data := #[(115 : UInt8)] })), i64 (w ((2 : Int) + (1 : Int)))] ++ jk 38, H := hp [some (Chunk.row 3 1 5 (exR a b c d e)), some (Chunk.row 9 1 5 bsR)], nx := 2, rt := 0, me := 18 }) kk
    else
     none := by kernel_rfl
theorem n17n3 (a b c d e : Int) (lo : LoopT) (kk : Ex → St → Option Ans) : loopK E1 CN lo 0 776 (bodyOf E1 17 0) (SNn (d5 a b c d e) 3) kk =
  if (d == (0 : Int)) = true then
   lo 0 776 (bodyOf E1 17 0) ({ fr := [V.junk, V.junk, V.junk, V.sc (Value.slice none 0 0), V.junk, V.junk, V.junk, V.junk, V.agg [i64 a, i64 b, i64 c, i64 d, i64 e], i64 (w ((3 : Int) + (1 : Int)))] ++ jk 26, H := hp [], nx := 0, rt := 0, me := 17 }) kk
  else
   if (d == (1 : Int)) = true then
    lo 0 776 (bodyOf E1 17 0) ({ fr := [V.junk, V.junk, V.junk, V.sl 0 1 0 1, V.junk, V.junk, V.junk, V.junk, V.agg [i64 a, i64 b, i64 c, i64 d, i64 e], i64 (w ((3 : Int) + (1 : Int)))] ++ jk 26, H := hp [some (Chunk.row 9 1 1 fun (j : Nat) => List.getD [[V.sc (Value.string { data := #[(100 : UInt8), (101 : UInt8), (103 : UInt8)] })]] (0 + j) [])], nx := 1, rt := 0, me := 17 }) kk
   else
    cl (QI ([i64 d]) ∧ ([] : List (Option Chunk)) = []) (
     if 4 + ByteArray.size (itS d) ≤ maxLen then
      lo 0 776 (bodyOf E1 17 0) ({ fr := [V.junk, V.junk, V.junk, V.sl 0 1 0 1, V.junk, V.junk, V.junk, V.junk, V.agg [i64 a, i64 b, i64 c, i64 d, i64 e], i64 (w ((3 : Int) + (1 : Int)))] ++ jk 26, H := hp [some (Chunk.row 9 1 1 fun (j : Nat) => List.getD [[V.sc (Value.string ({ data := #[(100 : UInt8), (101 : UInt8), (103 : UInt8)] } ++ { data := #[(94 : UInt8)] } ++ itS d))]] (0 + j) [])], nx := 1, rt := 0, me := 17 }) kk
     else
      none) (
     none) := by kernel_rfl
theorem n17s3 (n : Nat) (f : Nat → List V) (a b c d e : Int) (lo : LoopT) (kk : Ex → St → Option Ans) : loopK E1 CN lo 0 776 (bodyOf E1 17 0) (SNs n f (d5 a b c d e) 3) kk =
  if (d == (0 : Int)) = true then
   lo 0 776 (bodyOf E1 17 0) ({ fr := [V.junk, V.junk, V.junk, V.sl 0 1 0 n, V.junk, V.junk, V.junk, V.junk, V.agg [i64 a, i64 b, i64 c, i64 d, i64 e], i64 (w ((3 : Int) + (1 : Int)))] ++ jk 26, H := hp [some (Chunk.row 9 1 n f)], nx := 1, rt := 0, me := 17 }) kk
  else
   if (d == (1 : Int)) = true then
    if (n + 1) * 16 ≤ roomBound ∧ n + 1 ≤ maxLen ∧ n ≤ n then
     lo 0 776 (bodyOf E1 17 0) ({ fr := [V.junk, V.junk, V.junk, V.sl 0 1 0 (n + 1), V.junk, V.junk, V.junk, V.junk, V.agg [i64 a, i64 b, i64 c, i64 d, i64 e], i64 (w ((3 : Int) + (1 : Int)))] ++ jk 26, H := hp [some (Chunk.row 9 1 (n + 1) (joinF n f fun (j : Nat) => List.getD [[V.sc (Value.string { data := #[(100 : UInt8), (101 : UInt8), (103 : UInt8)] })]] (0 + j) []))], nx := 1, rt := 0, me := 17 }) kk
    else
     none
   else
    cl (QI ([i64 d]) ∧ ([] : List (Option Chunk)) = []) (
     if 4 + ByteArray.size (itS d) ≤ maxLen then
      if (n + 1) * 16 ≤ roomBound ∧ n + 1 ≤ maxLen ∧ n ≤ n then
       lo 0 776 (bodyOf E1 17 0) ({ fr := [V.junk, V.junk, V.junk, V.sl 0 1 0 (n + 1), V.junk, V.junk, V.junk, V.junk, V.agg [i64 a, i64 b, i64 c, i64 d, i64 e], i64 (w ((3 : Int) + (1 : Int)))] ++ jk 26, H := hp [some (Chunk.row 9 1 (n + 1) (joinF n f fun (j : Nat) => List.getD [[V.sc (Value.string ({ data := #[(100 : UInt8), (101 : UInt8), (103 : UInt8)] } ++ { data := #[(94 : UInt8)] } ++ itS d))]] (0 + j) []))], nx := 1, rt := 0, me := 17 }) kk
      else
       none
     else
      none) (
     none) := by kernel_rfl
theorem n18r3 (s : ByteArray) (a b c d e : Int) (lo : LoopT) (kk : Ex → St → Option Ans) : loopK E1 CN lo 0 120 (bodyOf E1 18 0) (SM s a b c d e 3) kk =
  if (d == (0 : Int)) = true then
   lo 0 120 (bodyOf E1 18 0) ({ fr := [V.junk, V.junk, V.junk, V.sl 0 1 0 5, V.sl 1 1 0 5, V.sc (Value.string s), i64 (w ((3 : Int) + (1 : Int)))] ++ jk 38, H := hp [some (Chunk.row 3 1 5 (exR a b c d e)), some (Chunk.row 9 1 5 bsR)], nx := 2, rt := 0, me := 18 }) kk
  else
   if (!ByteArray.toList s == ByteArray.toList { data := #[] }) = true then
    if ByteArray.size s + 1 ≤ maxLen then
     if ByteArray.size (s ++ { data := #[(42 : UInt8)] }) + 3 ≤ maxLen then
      if (d != (1 : Int)) = true then
       if ByteArray.size (s ++ { data := #[(42 : UInt8)] } ++ { data := #[(100 : UInt8), (101 : UInt8), (103 : UInt8)] }) + 1 ≤ maxLen then
        cl (QI ([i64 d]) ∧ ([] : List (Option Chunk)) = []) (
         if ByteArray.size (s ++ { data := #[(42 : UInt8)] } ++ { data := #[(100 : UInt8), (101 : UInt8), (103 : UInt8)] } ++ { data := #[(94 : UInt8)] }) + ByteArray.size (itS d) ≤ maxLen then
          lo 0 120 (bodyOf E1 18 0) ({ fr := [V.junk, V.junk, V.junk, V.sl 0 1 0 5, V.sl 1 1 0 5, V.sc (Value.string (s ++ { data := #[(42 : UInt8)] } ++ { data := #[(100 : UInt8), (101 : UInt8), (103 : UInt8)] } ++ { data := #[(94 : UInt8)] } ++ itS d)), i64 (w ((3 : Int) + (1 : Int)))] ++ jk 38, H := hp [some (Chunk.row 3 1 5 (exR a b c d e)), some (Chunk.row 9 1 5 bsR)], nx := 2, rt := 0, me := 18 }) kk
         else
          none) (
         none)
       else
        none
      else
       lo 0 120 (bodyOf E1 18 0) ({ fr := [V.junk, V.junk, V.junk, V.sl 0 1 0 5, V.sl 1 1 0 5, V.sc (Value.string (s ++ { data := #[(42 : UInt8)] } ++ { data := #[(100 : UInt8), (101 : UInt8), (103 : UInt8)] })), i64 (w ((3 : Int) + (1 : Int)))] ++ jk 38, H := hp [some (Chunk.row 3 1 5 (exR a b c d e)), some (Chunk.row 9 1 5 bsR)], nx := 2, rt := 0, me := 18 }) kk
     else
      none
    else
     none
   else
    if ByteArray.size s + 3 ≤ maxLen then
     if (d != (1 : Int)) = true then
      if ByteArray.size (s ++ { data := #[(100 : UInt8), (101 : UInt8), (103 : UInt8)] }) + 1 ≤ maxLen then
       cl (QI ([i64 d]) ∧ ([] : List (Option Chunk)) = []) (
        if ByteArray.size (s ++ { data := #[(100 : UInt8), (101 : UInt8), (103 : UInt8)] } ++ { data := #[(94 : UInt8)] }) + ByteArray.size (itS d) ≤ maxLen then
         lo 0 120 (bodyOf E1 18 0) ({ fr := [V.junk, V.junk, V.junk, V.sl 0 1 0 5, V.sl 1 1 0 5, V.sc (Value.string (s ++ { data := #[(100 : UInt8), (101 : UInt8), (103 : UInt8)] } ++ { data := #[(94 : UInt8)] } ++ itS d)), i64 (w ((3 : Int) + (1 : Int)))] ++ jk 38, H := hp [some (Chunk.row 3 1 5 (exR a b c d e)), some (Chunk.row 9 1 5 bsR)], nx := 2, rt := 0, me := 18 }) kk
        else
         none) (
        none)
      else
       none
     else
      lo 0 120 (bodyOf E1 18 0) ({ fr := [V.junk, V.junk, V.junk, V.sl 0 1 0 5, V.sl 1 1 0 5, V.sc (Value.string (s ++ { data := #[(100 : UInt8), (101 : UInt8), (103 : UInt8)] })), i64 (w ((3 : Int) + (1 : Int)))] ++ jk 38, H := hp [some (Chunk.row 3 1 5 (exR a b c d e)), some (Chunk.row 9 1 5 bsR)], nx := 2, rt := 0, me := 18 }) kk
    else
     none := by kernel_rfl
theorem n17n4 (a b c d e : Int) (lo : LoopT) (kk : Ex → St → Option Ans) : loopK E1 CN lo 0 776 (bodyOf E1 17 0) (SNn (d5 a b c d e) 4) kk =
  if (e == (0 : Int)) = true then
   lo 0 776 (bodyOf E1 17 0) ({ fr := [V.junk, V.junk, V.junk, V.sc (Value.slice none 0 0), V.junk, V.junk, V.junk, V.junk, V.agg [i64 a, i64 b, i64 c, i64 d, i64 e], i64 (w ((4 : Int) + (1 : Int)))] ++ jk 26, H := hp [], nx := 0, rt := 0, me := 17 }) kk
  else
   if (e == (1 : Int)) = true then
    lo 0 776 (bodyOf E1 17 0) ({ fr := [V.junk, V.junk, V.junk, V.sl 0 1 0 1, V.junk, V.junk, V.junk, V.junk, V.agg [i64 a, i64 b, i64 c, i64 d, i64 e], i64 (w ((4 : Int) + (1 : Int)))] ++ jk 26, H := hp [some (Chunk.row 9 1 1 fun (j : Nat) => List.getD [[V.sc (Value.string { data := #[(75 : UInt8)] })]] (0 + j) [])], nx := 1, rt := 0, me := 17 }) kk
   else
    cl (QI ([i64 e]) ∧ ([] : List (Option Chunk)) = []) (
     if 2 + ByteArray.size (itS e) ≤ maxLen then
      lo 0 776 (bodyOf E1 17 0) ({ fr := [V.junk, V.junk, V.junk, V.sl 0 1 0 1, V.junk, V.junk, V.junk, V.junk, V.agg [i64 a, i64 b, i64 c, i64 d, i64 e], i64 (w ((4 : Int) + (1 : Int)))] ++ jk 26, H := hp [some (Chunk.row 9 1 1 fun (j : Nat) => List.getD [[V.sc (Value.string ({ data := #[(75 : UInt8)] } ++ { data := #[(94 : UInt8)] } ++ itS e))]] (0 + j) [])], nx := 1, rt := 0, me := 17 }) kk
     else
      none) (
     none) := by kernel_rfl
theorem n17s4 (n : Nat) (f : Nat → List V) (a b c d e : Int) (lo : LoopT) (kk : Ex → St → Option Ans) : loopK E1 CN lo 0 776 (bodyOf E1 17 0) (SNs n f (d5 a b c d e) 4) kk =
  if (e == (0 : Int)) = true then
   lo 0 776 (bodyOf E1 17 0) ({ fr := [V.junk, V.junk, V.junk, V.sl 0 1 0 n, V.junk, V.junk, V.junk, V.junk, V.agg [i64 a, i64 b, i64 c, i64 d, i64 e], i64 (w ((4 : Int) + (1 : Int)))] ++ jk 26, H := hp [some (Chunk.row 9 1 n f)], nx := 1, rt := 0, me := 17 }) kk
  else
   if (e == (1 : Int)) = true then
    if (n + 1) * 16 ≤ roomBound ∧ n + 1 ≤ maxLen ∧ n ≤ n then
     lo 0 776 (bodyOf E1 17 0) ({ fr := [V.junk, V.junk, V.junk, V.sl 0 1 0 (n + 1), V.junk, V.junk, V.junk, V.junk, V.agg [i64 a, i64 b, i64 c, i64 d, i64 e], i64 (w ((4 : Int) + (1 : Int)))] ++ jk 26, H := hp [some (Chunk.row 9 1 (n + 1) (joinF n f fun (j : Nat) => List.getD [[V.sc (Value.string { data := #[(75 : UInt8)] })]] (0 + j) []))], nx := 1, rt := 0, me := 17 }) kk
    else
     none
   else
    cl (QI ([i64 e]) ∧ ([] : List (Option Chunk)) = []) (
     if 2 + ByteArray.size (itS e) ≤ maxLen then
      if (n + 1) * 16 ≤ roomBound ∧ n + 1 ≤ maxLen ∧ n ≤ n then
       lo 0 776 (bodyOf E1 17 0) ({ fr := [V.junk, V.junk, V.junk, V.sl 0 1 0 (n + 1), V.junk, V.junk, V.junk, V.junk, V.agg [i64 a, i64 b, i64 c, i64 d, i64 e], i64 (w ((4 : Int) + (1 : Int)))] ++ jk 26, H := hp [some (Chunk.row 9 1 (n + 1) (joinF n f fun (j : Nat) => List.getD [[V.sc (Value.string ({ data := #[(75 : UInt8)] } ++ { data := #[(94 : UInt8)] } ++ itS e))]] (0 + j) []))], nx := 1, rt := 0, me := 17 }) kk
      else
       none
     else
      none) (
     none) := by kernel_rfl
theorem n18r4 (s : ByteArray) (a b c d e : Int) (lo : LoopT) (kk : Ex → St → Option Ans) : loopK E1 CN lo 0 120 (bodyOf E1 18 0) (SM s a b c d e 4) kk =
  if (e == (0 : Int)) = true then
   lo 0 120 (bodyOf E1 18 0) ({ fr := [V.junk, V.junk, V.junk, V.sl 0 1 0 5, V.sl 1 1 0 5, V.sc (Value.string s), i64 (w ((4 : Int) + (1 : Int)))] ++ jk 38, H := hp [some (Chunk.row 3 1 5 (exR a b c d e)), some (Chunk.row 9 1 5 bsR)], nx := 2, rt := 0, me := 18 }) kk
  else
   if (!ByteArray.toList s == ByteArray.toList { data := #[] }) = true then
    if ByteArray.size s + 1 ≤ maxLen then
     if ByteArray.size (s ++ { data := #[(42 : UInt8)] }) + 1 ≤ maxLen then
      if (e != (1 : Int)) = true then
       if ByteArray.size (s ++ { data := #[(42 : UInt8)] } ++ { data := #[(75 : UInt8)] }) + 1 ≤ maxLen then
        cl (QI ([i64 e]) ∧ ([] : List (Option Chunk)) = []) (
         if ByteArray.size (s ++ { data := #[(42 : UInt8)] } ++ { data := #[(75 : UInt8)] } ++ { data := #[(94 : UInt8)] }) + ByteArray.size (itS e) ≤ maxLen then
          lo 0 120 (bodyOf E1 18 0) ({ fr := [V.junk, V.junk, V.junk, V.sl 0 1 0 5, V.sl 1 1 0 5, V.sc (Value.string (s ++ { data := #[(42 : UInt8)] } ++ { data := #[(75 : UInt8)] } ++ { data := #[(94 : UInt8)] } ++ itS e)), i64 (w ((4 : Int) + (1 : Int)))] ++ jk 38, H := hp [some (Chunk.row 3 1 5 (exR a b c d e)), some (Chunk.row 9 1 5 bsR)], nx := 2, rt := 0, me := 18 }) kk
         else
          none) (
         none)
       else
        none
      else
       lo 0 120 (bodyOf E1 18 0) ({ fr := [V.junk, V.junk, V.junk, V.sl 0 1 0 5, V.sl 1 1 0 5, V.sc (Value.string (s ++ { data := #[(42 : UInt8)] } ++ { data := #[(75 : UInt8)] })), i64 (w ((4 : Int) + (1 : Int)))] ++ jk 38, H := hp [some (Chunk.row 3 1 5 (exR a b c d e)), some (Chunk.row 9 1 5 bsR)], nx := 2, rt := 0, me := 18 }) kk
     else
      none
    else
     none
   else
    if ByteArray.size s + 1 ≤ maxLen then
     if (e != (1 : Int)) = true then
      if ByteArray.size (s ++ { data := #[(75 : UInt8)] }) + 1 ≤ maxLen then
       cl (QI ([i64 e]) ∧ ([] : List (Option Chunk)) = []) (
        if ByteArray.size (s ++ { data := #[(75 : UInt8)] } ++ { data := #[(94 : UInt8)] }) + ByteArray.size (itS e) ≤ maxLen then
         lo 0 120 (bodyOf E1 18 0) ({ fr := [V.junk, V.junk, V.junk, V.sl 0 1 0 5, V.sl 1 1 0 5, V.sc (Value.string (s ++ { data := #[(75 : UInt8)] } ++ { data := #[(94 : UInt8)] } ++ itS e)), i64 (w ((4 : Int) + (1 : Int)))] ++ jk 38, H := hp [some (Chunk.row 3 1 5 (exR a b c d e)), some (Chunk.row 9 1 5 bsR)], nx := 2, rt := 0, me := 18 }) kk
        else
         none) (
        none)
      else
       none
     else
      lo 0 120 (bodyOf E1 18 0) ({ fr := [V.junk, V.junk, V.junk, V.sl 0 1 0 5, V.sl 1 1 0 5, V.sc (Value.string (s ++ { data := #[(75 : UInt8)] })), i64 (w ((4 : Int) + (1 : Int)))] ++ jk 38, H := hp [some (Chunk.row 3 1 5 (exR a b c d e)), some (Chunk.row 9 1 5 bsR)], nx := 2, rt := 0, me := 18 }) kk
    else
     none := by kernel_rfl
theorem n17ne (a b c d e : Int) : loopK E1 CN (ltab []) 0 776 (bodyOf E1 17 0) (SNn (d5 a b c d e) 5) (KC 8) =
  some (Ans.l (Ex.exit 0) { fr := [V.junk, V.junk, V.junk, V.sc (Value.slice none 0 0)] ++ jk 32, H := hp [], nx := 0, rt := 0, me := 17 }) := by kernel_rfl
theorem n17se (n : Nat) (f : Nat → List V) (a b c d e : Int) : loopK E1 CN (ltab []) 0 776 (bodyOf E1 17 0) (SNs n f (d5 a b c d e) 5) (KC 8) =
  some (Ans.l (Ex.exit 0) { fr := [V.junk, V.junk, V.junk, V.sl 0 1 0 n] ++ jk 32, H := hp [some (Chunk.row 9 1 n f)], nx := 1, rt := 0, me := 17 }) := by kernel_rfl
theorem n18re (s : ByteArray) (a b c d e : Int) : loopK E1 CN (ltab []) 0 120 (bodyOf E1 18 0) (SM s a b c d e 5) (KC 32) =
  some (Ans.l (Ex.exit 0) { fr := [V.junk, V.junk, V.junk, V.junk, V.junk, V.sc (Value.string s)] ++ jk 39, H := hp [], nx := 0, rt := 0, me := 18 }) := by kernel_rfl
theorem f17n (J : ByteArray) (a b c d e : Int) (S1 : St) : callK E1 (CJ J) (ltab [⟨bodyOf E1 17 0, S1, .exit 0, TNn⟩]) 17 [d5 a b c d e] [] K =
  cl ((bodyOf E1 17 0) = (bodyOf E1 17 0) ∧ LeSt ({ fr := [V.junk, V.junk, V.junk, V.sc (Value.slice none 0 0), V.junk, V.junk, V.junk, V.junk, V.agg [i64 a, i64 b, i64 c, i64 d, i64 e], i64 0] ++ jk 26, H := hp [], nx := 0, rt := 0, me := 17 }) (S1)) (
   cl (Q43 J ([V.sc (Value.slice none 0 0), V.sc (Value.string { data := #[(42 : UInt8)] })]) ∧ ([] : List (Option Chunk)) = []) (
    some (Ans.c (CRes.ret (V.sc (Value.string J)) []))) (
    none)) (
   none) := by kernel_rfl
theorem f17s (J : ByteArray) (n : Nat) (f : Nat → List V) (a b c d e : Int) (S1 : St) : callK E1 (CJ J) (ltab [⟨bodyOf E1 17 0, S1, .exit 0, TNs n f⟩]) 17 [d5 a b c d e] [] K =
  cl ((bodyOf E1 17 0) = (bodyOf E1 17 0) ∧ LeSt ({ fr := [V.junk, V.junk, V.junk, V.sc (Value.slice none 0 0), V.junk, V.junk, V.junk, V.junk, V.agg [i64 a, i64 b, i64 c, i64 d, i64 e], i64 0] ++ jk 26, H := hp [], nx := 0, rt := 0, me := 17 }) (S1)) (
   if 0 + n ≤ n ∧ 1 = 1 then
    cl (Q43 J ([V.ro 1 n fun (j : Nat) => f (0 + j), V.sc (Value.string { data := #[(42 : UInt8)] })]) ∧ ([] : List (Option Chunk)) = []) (
     some (Ans.c (CRes.ret (V.sc (Value.string J)) []))) (
     none)
   else
    none) (
   none) := by kernel_rfl
theorem f18 (s : ByteArray) (a b c d e : Int) (S1 : St) : callK E1 CN (ltab [⟨bodyOf E1 18 0, S1, .exit 0, TM s⟩]) 18 [d5 a b c d e] [] K =
  cl ((bodyOf E1 18 0) = (bodyOf E1 18 0) ∧ LeSt ({ fr := [V.junk, V.junk, V.junk, V.sl 0 1 0 5, V.sl 1 1 0 5, V.sc (Value.string { data := #[] }), i64 0] ++ jk 38, H := hp [some (Chunk.row 3 1 5 fun (i : Nat) => List.getD [[i64 a], [i64 b], [i64 c], [i64 d], [i64 e]] i []), some (Chunk.row 9 1 5 fun (i : Nat) => List.getD [[V.sc (Value.string { data := #[(74 : UInt8)] })], [V.sc (Value.string { data := #[(66 : UInt8)] })], [V.sc (Value.string { data := #[(115 : UInt8)] })], [V.sc (Value.string { data := #[(100 : UInt8), (101 : UInt8), (103 : UInt8)] })], [V.sc (Value.string { data := #[(75 : UInt8)] })]] i [])], nx := 2, rt := 0, me := 18 }) (S1)) (
   some (Ans.c (CRes.ret (V.sc (Value.string s)) []))) (
   none) := by kernel_rfl

/-- A part of a name. -/
def segB (b : ByteArray) (e : Int) : ByteArray := if e = 1 then b else b ++ ⟨#[94]⟩ ++ itS e
def nxt (L : List ByteArray) (b : ByteArray) (e : Int) : List ByteArray := if e = 0 then L else L ++ [segB b e]
def SN (ex : V) (L : List ByteArray) (i : Int) : St := if L = [] then SNn ex i else SNs L.length (rowS L) ex i
theorem SN_ne {ex : V} {L : List ByteArray} {i : Int} (h : L ≠ []) : SN ex L i = SNs L.length (rowS L) ex i := if_neg h
theorem row_app (L : List ByteArray) (x : ByteArray) (q : Nat) (hq : q < L.length + 1) : joinF L.length (rowS L) (fun j => List.getD [[st x]] (0 + j) []) q = rowS (L ++ [x]) q := by
  unfold joinF rowS
  split
  · rename_i h
    simp [List.getD, List.getElem?_append_left h]
  · have : q = L.length := by omega
    subst this
    simp [List.getD]
theorem le_row1 {ex : V} {i : Int} (x : ByteArray) : LeSt (SNs 1 (fun j => List.getD [[st x]] (0 + j) []) ex i) (SNs 1 (rowS [x]) ex i) :=
  LeSt.mk' (LeL.refl _) ⟨ChLe.row fun q hq => by obtain rfl : q = 0 := by omega
                                                 rfl, trivial⟩
theorem le_rowN {ex : V} {i : Int} (L : List ByteArray) (x : ByteArray) : LeSt (SNs (L.length + 1) (joinF L.length (rowS L) (fun j => List.getD [[st x]] (0 + j) [])) ex i) (SNs (L ++ [x]).length (rowS (L ++ [x])) ex i) := by
  rw [List.length_append]
  exact LeSt.mk' (LeL.refl _) ⟨ChLe.row fun q hq => row_app L x q hq, trivial⟩
theorem roomS {n : Nat} (h : n ≤ 10) : (n + 1) * 16 ≤ roomBound ∧ n + 1 ≤ Go.maxLen ∧ n ≤ n := by
  have : Go.maxLen = 9223372036854775807 := by decide
  unfold roomBound; omega
theorem rnd0 {a b c d e : Int} {L : List ByteArray} {x : Ex} {T : St} (ha : inR a) (hL : L.length ≤ 10) (hn : SL E1 (bodyOf E1 17 0) (SN (d5 a b c d e) (nxt L (⟨#[74]⟩ : ByteArray) a) 1) x T) : SL E1 (bodyOf E1 17 0) (SN (d5 a b c d e) L 0) x T := by
  have ew : w (0 + 1) = 1 := by decide
  have hml : Go.maxLen = 9223372036854775807 := by decide
  have hi := itS_size ha
  by_cases h0 : a = 0
  · have e0 : nxt L (⟨#[74]⟩ : ByteArray) a = L := if_pos h0
    rw [e0] at hn
    by_cases hl : L = []
    · subst hl
      exact SL.next sCN hX1 (s' := SNn (d5 a b c d e) (w (0 + 1))) (fun lo k => (n17n0 a b c d e lo k).trans (by rw [if_pos (by simpa using h0)]; rfl)) (by rw [ew]; exact hn)
    · rw [SN_ne hl] at hn ⊢
      exact SL.next sCN hX1 (s' := SNs L.length (rowS L) (d5 a b c d e) (w (0 + 1))) (fun lo k => (n17s0 _ _ a b c d e lo k).trans (by rw [if_pos (by simpa using h0)]; rfl)) (by rw [ew]; exact hn)
  · have e0 : nxt L (⟨#[74]⟩ : ByteArray) a = L ++ [segB (⟨#[74]⟩ : ByteArray) a] := if_neg h0
    rw [e0, SN_ne (by simp)] at hn
    by_cases h1 : a = 1
    · have e1 : segB (⟨#[74]⟩ : ByteArray) a = (⟨#[74]⟩ : ByteArray) := if_pos h1
      rw [e1] at hn
      by_cases hl : L = []
      · subst hl
        exact SL.next sCN hX1 (s' := SNs 1 (fun j => List.getD [[st (⟨#[74]⟩ : ByteArray)]] (0 + j) []) (d5 a b c d e) (w (0 + 1))) (fun lo k => (n17n0 a b c d e lo k).trans (by rw [if_neg (by simpa using h0), if_pos (by simpa using h1)]; rfl)) (by rw [ew]; exact hn.le (le_row1 _))
      · rw [SN_ne hl]
        exact SL.next sCN hX1 (s' := SNs (L.length + 1) (joinF L.length (rowS L) (fun j => List.getD [[st (⟨#[74]⟩ : ByteArray)]] (0 + j) [])) (d5 a b c d e) (w (0 + 1))) (fun lo k => (n17s0 _ _ a b c d e lo k).trans (by rw [if_neg (by simpa using h0), if_pos (by simpa using h1), if_pos (roomS hL)]; rfl)) (by rw [ew]; exact hn.le (le_rowN L _))
    · have e1 : segB (⟨#[74]⟩ : ByteArray) a = (⟨#[74]⟩ : ByteArray) ++ ⟨#[94]⟩ ++ itS a := if_neg h1
      rw [e1] at hn
      have hq : QI [i64 a] ∧ ([] : List (Option Chunk)) = [] := ⟨⟨_, rfl, ha⟩, rfl⟩
      by_cases hl : L = []
      · subst hl
        exact SL.next sCN hX1 (s' := SNs 1 (fun j => List.getD [[st ((⟨#[74]⟩ : ByteArray) ++ ⟨#[94]⟩ ++ itS a)]] (0 + j) []) (d5 a b c d e) (w (0 + 1))) (fun lo k => (n17n0 a b c d e lo k).trans (by rw [if_neg (by simpa using h0), if_neg (by simpa using h1), cl_pos hq, if_pos (by omega)]; rfl)) (by rw [ew]; exact hn.le (le_row1 _))
      · rw [SN_ne hl]
        exact SL.next sCN hX1 (s' := SNs (L.length + 1) (joinF L.length (rowS L) (fun j => List.getD [[st ((⟨#[74]⟩ : ByteArray) ++ ⟨#[94]⟩ ++ itS a)]] (0 + j) [])) (d5 a b c d e) (w (0 + 1))) (fun lo k => (n17s0 _ _ a b c d e lo k).trans (by rw [if_neg (by simpa using h0), if_neg (by simpa using h1), cl_pos hq, if_pos (by omega), if_pos (roomS hL)]; rfl)) (by rw [ew]; exact hn.le (le_rowN L _))
theorem rnd1 {a b c d e : Int} {L : List ByteArray} {x : Ex} {T : St} (hb : inR b) (hL : L.length ≤ 10) (hn : SL E1 (bodyOf E1 17 0) (SN (d5 a b c d e) (nxt L (⟨#[66]⟩ : ByteArray) b) 2) x T) : SL E1 (bodyOf E1 17 0) (SN (d5 a b c d e) L 1) x T := by
  have ew : w (1 + 1) = 2 := by decide
  have hml : Go.maxLen = 9223372036854775807 := by decide
  have hi := itS_size hb
  by_cases h0 : b = 0
  · have e0 : nxt L (⟨#[66]⟩ : ByteArray) b = L := if_pos h0
    rw [e0] at hn
    by_cases hl : L = []
    · subst hl
      exact SL.next sCN hX1 (s' := SNn (d5 a b c d e) (w (1 + 1))) (fun lo k => (n17n1 a b c d e lo k).trans (by rw [if_pos (by simpa using h0)]; rfl)) (by rw [ew]; exact hn)
    · rw [SN_ne hl] at hn ⊢
      exact SL.next sCN hX1 (s' := SNs L.length (rowS L) (d5 a b c d e) (w (1 + 1))) (fun lo k => (n17s1 _ _ a b c d e lo k).trans (by rw [if_pos (by simpa using h0)]; rfl)) (by rw [ew]; exact hn)
  · have e0 : nxt L (⟨#[66]⟩ : ByteArray) b = L ++ [segB (⟨#[66]⟩ : ByteArray) b] := if_neg h0
    rw [e0, SN_ne (by simp)] at hn
    by_cases h1 : b = 1
    · have e1 : segB (⟨#[66]⟩ : ByteArray) b = (⟨#[66]⟩ : ByteArray) := if_pos h1
      rw [e1] at hn
      by_cases hl : L = []
      · subst hl
        exact SL.next sCN hX1 (s' := SNs 1 (fun j => List.getD [[st (⟨#[66]⟩ : ByteArray)]] (0 + j) []) (d5 a b c d e) (w (1 + 1))) (fun lo k => (n17n1 a b c d e lo k).trans (by rw [if_neg (by simpa using h0), if_pos (by simpa using h1)]; rfl)) (by rw [ew]; exact hn.le (le_row1 _))
      · rw [SN_ne hl]
        exact SL.next sCN hX1 (s' := SNs (L.length + 1) (joinF L.length (rowS L) (fun j => List.getD [[st (⟨#[66]⟩ : ByteArray)]] (0 + j) [])) (d5 a b c d e) (w (1 + 1))) (fun lo k => (n17s1 _ _ a b c d e lo k).trans (by rw [if_neg (by simpa using h0), if_pos (by simpa using h1), if_pos (roomS hL)]; rfl)) (by rw [ew]; exact hn.le (le_rowN L _))
    · have e1 : segB (⟨#[66]⟩ : ByteArray) b = (⟨#[66]⟩ : ByteArray) ++ ⟨#[94]⟩ ++ itS b := if_neg h1
      rw [e1] at hn
      have hq : QI [i64 b] ∧ ([] : List (Option Chunk)) = [] := ⟨⟨_, rfl, hb⟩, rfl⟩
      by_cases hl : L = []
      · subst hl
        exact SL.next sCN hX1 (s' := SNs 1 (fun j => List.getD [[st ((⟨#[66]⟩ : ByteArray) ++ ⟨#[94]⟩ ++ itS b)]] (0 + j) []) (d5 a b c d e) (w (1 + 1))) (fun lo k => (n17n1 a b c d e lo k).trans (by rw [if_neg (by simpa using h0), if_neg (by simpa using h1), cl_pos hq, if_pos (by omega)]; rfl)) (by rw [ew]; exact hn.le (le_row1 _))
      · rw [SN_ne hl]
        exact SL.next sCN hX1 (s' := SNs (L.length + 1) (joinF L.length (rowS L) (fun j => List.getD [[st ((⟨#[66]⟩ : ByteArray) ++ ⟨#[94]⟩ ++ itS b)]] (0 + j) [])) (d5 a b c d e) (w (1 + 1))) (fun lo k => (n17s1 _ _ a b c d e lo k).trans (by rw [if_neg (by simpa using h0), if_neg (by simpa using h1), cl_pos hq, if_pos (by omega), if_pos (roomS hL)]; rfl)) (by rw [ew]; exact hn.le (le_rowN L _))
theorem rnd2 {a b c d e : Int} {L : List ByteArray} {x : Ex} {T : St} (hc : inR c) (hL : L.length ≤ 10) (hn : SL E1 (bodyOf E1 17 0) (SN (d5 a b c d e) (nxt L (⟨#[115]⟩ : ByteArray) c) 3) x T) : SL E1 (bodyOf E1 17 0) (SN (d5 a b c d e) L 2) x T := by
  have ew : w (2 + 1) = 3 := by decide
  have hml : Go.maxLen = 9223372036854775807 := by decide
  have hi := itS_size hc
  by_cases h0 : c = 0
  · have e0 : nxt L (⟨#[115]⟩ : ByteArray) c = L := if_pos h0
    rw [e0] at hn
    by_cases hl : L = []
    · subst hl
      exact SL.next sCN hX1 (s' := SNn (d5 a b c d e) (w (2 + 1))) (fun lo k => (n17n2 a b c d e lo k).trans (by rw [if_pos (by simpa using h0)]; rfl)) (by rw [ew]; exact hn)
    · rw [SN_ne hl] at hn ⊢
      exact SL.next sCN hX1 (s' := SNs L.length (rowS L) (d5 a b c d e) (w (2 + 1))) (fun lo k => (n17s2 _ _ a b c d e lo k).trans (by rw [if_pos (by simpa using h0)]; rfl)) (by rw [ew]; exact hn)
  · have e0 : nxt L (⟨#[115]⟩ : ByteArray) c = L ++ [segB (⟨#[115]⟩ : ByteArray) c] := if_neg h0
    rw [e0, SN_ne (by simp)] at hn
    by_cases h1 : c = 1
    · have e1 : segB (⟨#[115]⟩ : ByteArray) c = (⟨#[115]⟩ : ByteArray) := if_pos h1
      rw [e1] at hn
      by_cases hl : L = []
      · subst hl
        exact SL.next sCN hX1 (s' := SNs 1 (fun j => List.getD [[st (⟨#[115]⟩ : ByteArray)]] (0 + j) []) (d5 a b c d e) (w (2 + 1))) (fun lo k => (n17n2 a b c d e lo k).trans (by rw [if_neg (by simpa using h0), if_pos (by simpa using h1)]; rfl)) (by rw [ew]; exact hn.le (le_row1 _))
      · rw [SN_ne hl]
        exact SL.next sCN hX1 (s' := SNs (L.length + 1) (joinF L.length (rowS L) (fun j => List.getD [[st (⟨#[115]⟩ : ByteArray)]] (0 + j) [])) (d5 a b c d e) (w (2 + 1))) (fun lo k => (n17s2 _ _ a b c d e lo k).trans (by rw [if_neg (by simpa using h0), if_pos (by simpa using h1), if_pos (roomS hL)]; rfl)) (by rw [ew]; exact hn.le (le_rowN L _))
    · have e1 : segB (⟨#[115]⟩ : ByteArray) c = (⟨#[115]⟩ : ByteArray) ++ ⟨#[94]⟩ ++ itS c := if_neg h1
      rw [e1] at hn
      have hq : QI [i64 c] ∧ ([] : List (Option Chunk)) = [] := ⟨⟨_, rfl, hc⟩, rfl⟩
      by_cases hl : L = []
      · subst hl
        exact SL.next sCN hX1 (s' := SNs 1 (fun j => List.getD [[st ((⟨#[115]⟩ : ByteArray) ++ ⟨#[94]⟩ ++ itS c)]] (0 + j) []) (d5 a b c d e) (w (2 + 1))) (fun lo k => (n17n2 a b c d e lo k).trans (by rw [if_neg (by simpa using h0), if_neg (by simpa using h1), cl_pos hq, if_pos (by omega)]; rfl)) (by rw [ew]; exact hn.le (le_row1 _))
      · rw [SN_ne hl]
        exact SL.next sCN hX1 (s' := SNs (L.length + 1) (joinF L.length (rowS L) (fun j => List.getD [[st ((⟨#[115]⟩ : ByteArray) ++ ⟨#[94]⟩ ++ itS c)]] (0 + j) [])) (d5 a b c d e) (w (2 + 1))) (fun lo k => (n17s2 _ _ a b c d e lo k).trans (by rw [if_neg (by simpa using h0), if_neg (by simpa using h1), cl_pos hq, if_pos (by omega), if_pos (roomS hL)]; rfl)) (by rw [ew]; exact hn.le (le_rowN L _))
theorem rnd3 {a b c d e : Int} {L : List ByteArray} {x : Ex} {T : St} (hd : inR d) (hL : L.length ≤ 10) (hn : SL E1 (bodyOf E1 17 0) (SN (d5 a b c d e) (nxt L (⟨#[100, 101, 103]⟩ : ByteArray) d) 4) x T) : SL E1 (bodyOf E1 17 0) (SN (d5 a b c d e) L 3) x T := by
  have ew : w (3 + 1) = 4 := by decide
  have hml : Go.maxLen = 9223372036854775807 := by decide
  have hi := itS_size hd
  by_cases h0 : d = 0
  · have e0 : nxt L (⟨#[100, 101, 103]⟩ : ByteArray) d = L := if_pos h0
    rw [e0] at hn
    by_cases hl : L = []
    · subst hl
      exact SL.next sCN hX1 (s' := SNn (d5 a b c d e) (w (3 + 1))) (fun lo k => (n17n3 a b c d e lo k).trans (by rw [if_pos (by simpa using h0)]; rfl)) (by rw [ew]; exact hn)
    · rw [SN_ne hl] at hn ⊢
      exact SL.next sCN hX1 (s' := SNs L.length (rowS L) (d5 a b c d e) (w (3 + 1))) (fun lo k => (n17s3 _ _ a b c d e lo k).trans (by rw [if_pos (by simpa using h0)]; rfl)) (by rw [ew]; exact hn)
  · have e0 : nxt L (⟨#[100, 101, 103]⟩ : ByteArray) d = L ++ [segB (⟨#[100, 101, 103]⟩ : ByteArray) d] := if_neg h0
    rw [e0, SN_ne (by simp)] at hn
    by_cases h1 : d = 1
    · have e1 : segB (⟨#[100, 101, 103]⟩ : ByteArray) d = (⟨#[100, 101, 103]⟩ : ByteArray) := if_pos h1
      rw [e1] at hn
      by_cases hl : L = []
      · subst hl
        exact SL.next sCN hX1 (s' := SNs 1 (fun j => List.getD [[st (⟨#[100, 101, 103]⟩ : ByteArray)]] (0 + j) []) (d5 a b c d e) (w (3 + 1))) (fun lo k => (n17n3 a b c d e lo k).trans (by rw [if_neg (by simpa using h0), if_pos (by simpa using h1)]; rfl)) (by rw [ew]; exact hn.le (le_row1 _))
      · rw [SN_ne hl]
        exact SL.next sCN hX1 (s' := SNs (L.length + 1) (joinF L.length (rowS L) (fun j => List.getD [[st (⟨#[100, 101, 103]⟩ : ByteArray)]] (0 + j) [])) (d5 a b c d e) (w (3 + 1))) (fun lo k => (n17s3 _ _ a b c d e lo k).trans (by rw [if_neg (by simpa using h0), if_pos (by simpa using h1), if_pos (roomS hL)]; rfl)) (by rw [ew]; exact hn.le (le_rowN L _))
    · have e1 : segB (⟨#[100, 101, 103]⟩ : ByteArray) d = (⟨#[100, 101, 103]⟩ : ByteArray) ++ ⟨#[94]⟩ ++ itS d := if_neg h1
      rw [e1] at hn
      have hq : QI [i64 d] ∧ ([] : List (Option Chunk)) = [] := ⟨⟨_, rfl, hd⟩, rfl⟩
      by_cases hl : L = []
      · subst hl
        exact SL.next sCN hX1 (s' := SNs 1 (fun j => List.getD [[st ((⟨#[100, 101, 103]⟩ : ByteArray) ++ ⟨#[94]⟩ ++ itS d)]] (0 + j) []) (d5 a b c d e) (w (3 + 1))) (fun lo k => (n17n3 a b c d e lo k).trans (by rw [if_neg (by simpa using h0), if_neg (by simpa using h1), cl_pos hq, if_pos (by omega)]; rfl)) (by rw [ew]; exact hn.le (le_row1 _))
      · rw [SN_ne hl]
        exact SL.next sCN hX1 (s' := SNs (L.length + 1) (joinF L.length (rowS L) (fun j => List.getD [[st ((⟨#[100, 101, 103]⟩ : ByteArray) ++ ⟨#[94]⟩ ++ itS d)]] (0 + j) [])) (d5 a b c d e) (w (3 + 1))) (fun lo k => (n17s3 _ _ a b c d e lo k).trans (by rw [if_neg (by simpa using h0), if_neg (by simpa using h1), cl_pos hq, if_pos (by omega), if_pos (roomS hL)]; rfl)) (by rw [ew]; exact hn.le (le_rowN L _))
theorem rnd4 {a b c d e : Int} {L : List ByteArray} {x : Ex} {T : St} (he : inR e) (hL : L.length ≤ 10) (hn : SL E1 (bodyOf E1 17 0) (SN (d5 a b c d e) (nxt L (⟨#[75]⟩ : ByteArray) e) 5) x T) : SL E1 (bodyOf E1 17 0) (SN (d5 a b c d e) L 4) x T := by
  have ew : w (4 + 1) = 5 := by decide
  have hml : Go.maxLen = 9223372036854775807 := by decide
  have hi := itS_size he
  by_cases h0 : e = 0
  · have e0 : nxt L (⟨#[75]⟩ : ByteArray) e = L := if_pos h0
    rw [e0] at hn
    by_cases hl : L = []
    · subst hl
      exact SL.next sCN hX1 (s' := SNn (d5 a b c d e) (w (4 + 1))) (fun lo k => (n17n4 a b c d e lo k).trans (by rw [if_pos (by simpa using h0)]; rfl)) (by rw [ew]; exact hn)
    · rw [SN_ne hl] at hn ⊢
      exact SL.next sCN hX1 (s' := SNs L.length (rowS L) (d5 a b c d e) (w (4 + 1))) (fun lo k => (n17s4 _ _ a b c d e lo k).trans (by rw [if_pos (by simpa using h0)]; rfl)) (by rw [ew]; exact hn)
  · have e0 : nxt L (⟨#[75]⟩ : ByteArray) e = L ++ [segB (⟨#[75]⟩ : ByteArray) e] := if_neg h0
    rw [e0, SN_ne (by simp)] at hn
    by_cases h1 : e = 1
    · have e1 : segB (⟨#[75]⟩ : ByteArray) e = (⟨#[75]⟩ : ByteArray) := if_pos h1
      rw [e1] at hn
      by_cases hl : L = []
      · subst hl
        exact SL.next sCN hX1 (s' := SNs 1 (fun j => List.getD [[st (⟨#[75]⟩ : ByteArray)]] (0 + j) []) (d5 a b c d e) (w (4 + 1))) (fun lo k => (n17n4 a b c d e lo k).trans (by rw [if_neg (by simpa using h0), if_pos (by simpa using h1)]; rfl)) (by rw [ew]; exact hn.le (le_row1 _))
      · rw [SN_ne hl]
        exact SL.next sCN hX1 (s' := SNs (L.length + 1) (joinF L.length (rowS L) (fun j => List.getD [[st (⟨#[75]⟩ : ByteArray)]] (0 + j) [])) (d5 a b c d e) (w (4 + 1))) (fun lo k => (n17s4 _ _ a b c d e lo k).trans (by rw [if_neg (by simpa using h0), if_pos (by simpa using h1), if_pos (roomS hL)]; rfl)) (by rw [ew]; exact hn.le (le_rowN L _))
    · have e1 : segB (⟨#[75]⟩ : ByteArray) e = (⟨#[75]⟩ : ByteArray) ++ ⟨#[94]⟩ ++ itS e := if_neg h1
      rw [e1] at hn
      have hq : QI [i64 e] ∧ ([] : List (Option Chunk)) = [] := ⟨⟨_, rfl, he⟩, rfl⟩
      by_cases hl : L = []
      · subst hl
        exact SL.next sCN hX1 (s' := SNs 1 (fun j => List.getD [[st ((⟨#[75]⟩ : ByteArray) ++ ⟨#[94]⟩ ++ itS e)]] (0 + j) []) (d5 a b c d e) (w (4 + 1))) (fun lo k => (n17n4 a b c d e lo k).trans (by rw [if_neg (by simpa using h0), if_neg (by simpa using h1), cl_pos hq, if_pos (by omega)]; rfl)) (by rw [ew]; exact hn.le (le_row1 _))
      · rw [SN_ne hl]
        exact SL.next sCN hX1 (s' := SNs (L.length + 1) (joinF L.length (rowS L) (fun j => List.getD [[st ((⟨#[75]⟩ : ByteArray) ++ ⟨#[94]⟩ ++ itS e)]] (0 + j) [])) (d5 a b c d e) (w (4 + 1))) (fun lo k => (n17s4 _ _ a b c d e lo k).trans (by rw [if_neg (by simpa using h0), if_neg (by simpa using h1), cl_pos hq, if_pos (by omega), if_pos (roomS hL)]; rfl)) (by rw [ew]; exact hn.le (le_rowN L _))
theorem nxt_len (L : List ByteArray) (b : ByteArray) (e : Int) : (nxt L b e).length ≤ L.length + 1 := by unfold nxt; split <;> simp
/-- The parts of a dimension's name. -/
def parts (a b c d e : Int) : List ByteArray := nxt (nxt (nxt (nxt (nxt [] (⟨#[74]⟩ : ByteArray) a) (⟨#[66]⟩ : ByteArray) b) (⟨#[115]⟩ : ByteArray) c) (⟨#[100, 101, 103]⟩ : ByteArray) d) (⟨#[75]⟩ : ByteArray) e
theorem parts_len (a b c d e : Int) : (parts a b c d e).length ≤ 5 := by
  unfold parts
  refine Nat.le_trans (nxt_len _ _ _) ?_
  refine Nat.succ_le_succ (Nat.le_trans (nxt_len _ _ _) (Nat.succ_le_succ (Nat.le_trans (nxt_len _ _ _) (Nat.succ_le_succ (Nat.le_trans (nxt_len _ _ _) (Nat.succ_le_succ (Nat.le_trans (nxt_len _ _ _) ?_)))))))
  simp
end Go.Proofs.YtnjpgkaignfcaaaDoor
