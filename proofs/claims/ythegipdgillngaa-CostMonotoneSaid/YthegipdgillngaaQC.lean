/- Texts joined. -/
import Derived.Test.YthegipdgillngaaQB
import Derived.Test.YthegipdgillngaaProg
import Derived.KernelRfl
/- The environment of this seat: how its functions are called. -/
namespace Go.Proofs.Ythegipdgillngaa
open Go Go.Am
def way (a b : Nat) : Am.Way := if b ∈ [27,44,31,32,48,16,19,20,24,40,42,62,65,26,30,38,41,57,61,56,60,75,74,59,50] then .lend else if b ∈ [12,13,15,35,18] then .give else if b = 14 ∧ a ≠ 7 ∧ a ≠ 10 ∧ a ≠ 17 then .give else .plain
noncomputable def E : Env := { P := Try.prog, glob := fun _ => none, ext := fun _ _ => none, way := way, lit := fun f => f == 17, code := fun f => (Try.prog.funcs[f]?).bind annF }
theorem hW : WF E := WF.of E (fun _ => rfl) (by kernel_rfl)
theorem hX : SoundX E := SoundX.none fun _ _ => rfl
abbrev i64 (n : Int) : V := .sc (.int .i64 n)
abbrev bo (b : Bool) : V := .sc (.bool b)
/-- No calls, no loops. -/
def T0 : CallT := fun _ _ _ _ => none
def L0 : LoopT := fun _ _ _ _ _ => none
def K : CRes → Option Ans := fun r => some (.c r)
end Go.Proofs.Ythegipdgillngaa
/- Tables of functions: numbers made small, costs added, subtracted, compared. -/
namespace Go.Proofs.Ythegipdgillngaa
open Go Go.Am
abbrev w (n : Int) : Int := IntKind.wrap .i64 n
def pos (n : Int) : Int := if 0 > n then 0 else n
def around (a m : Int) : Int := if a < 0 then (w (0 - w (a + 1))).tmod m else a.tmod m
theorem SC.g {n : Nat} {f : FuncId} {args : List V} {L : List (Option Chunk)} {cr : CRes} (h : callG E n f args L K = some (.c cr)) : SC E f args L cr := by
  obtain ⟨cr', e1, e2⟩ := (sound_G hW hX n).1 _ _ _ _ _ h
  simp only [K, Option.some.injEq, Ans.c.injEq] at e1
  rwa [e1] at e2
def t21 : Tab1
  | [.sc (.int .i64 a), .sc (.int .i64 m)], [], k => if m = 0 then none else k (.ret (i64 (around a m)) [])
  | _, _, _ => none
theorem tree21 (a m : Int) : callG E 20 21 [i64 a, i64 m] [] K = if decide (a < 0) = true then (if m = 0 then none else some (.c (.ret (i64 (Int.tmod (w (0 - w (a + 1))) m)) []))) else (if m = 0 then none else some (.c (.ret (i64 (Int.tmod a m)) []))) := by kernel_rfl
theorem ok21 : OkT E 21 t21 := by
  intro args L k r h
  unfold t21 at h
  split at h
  · rename_i a m
    split at h
    · cases h
    · rename_i hm
      refine ⟨_, h, SC.g (n := 20) ?_⟩
      rw [tree21]
      unfold around
      by_cases ha : a < 0 <;> simp [ha, hm]
  · cases h
def mx (a b : Int) : Int := if b > a then b else a
end Go.Proofs.Ythegipdgillngaa
/- The examples of the chapter hold. -/
namespace Go.Proofs.Ythegipdgillngaa
open Go Go.Am
def maskTab : List (Nat × List (Nat × Nat)) := [(6, [(0, 28160), (2, 60928)]), (10, [(0, 1924), (2, 86400)]), (13, [(0, 29)]), (14, [(0, 908)]), (15, [(0, 396)]), (16, [(0, 35)]), (18, [(0, 98)]), (19, [(0, 469762076), (2, 26239565852), (4, 105553116270620)]), (20, [(0, 796), (2, 1052)]), (25, [(0, 15676)]), (36, [(0, 197)]), (39, [(0, 14344)]), (48, [(0, 16836)]), (56, [(0, 962072674306), (2, 33849922949209616891773058)]), (57, [(0, 7516192780), (2, 126100789566373896)]), (61, [(0, 44)]), (65, [(0, 38)]), (70, [(0, 28720)]), (71, [(0, 393226), (2, 939524136)]), (73, [(0, 10), (2, 178)]), (74, [(0, 10)]), (79, [(0, 993)]), (80, [(0, 25), (2, 41), (4, 873)])]
noncomputable def EL : Env := { P := Try.prog, glob := fun _ => none, ext := fun _ _ => none, way := way, lit := fun f => f == 17, code := annFL maskTab Try.prog, push := false }
theorem hWL : WF EL := WF.ofL EL maskTab rfl (by kernel_rfl)
theorem hXL : SoundX EL := SoundX.none fun _ _ => rfl
theorem scL {f : FuncId} {args : List V} {L : List (Option Chunk)} {cr : CRes} (h : SC EL f args L cr) : SC E f args L cr :=
  ⟨h.1, fun β S w us h1 h2 h3 => h.2 β S w us h1 h2 ⟨h3.rd, h3.inv⟩⟩
theorem lives_true : SC E 17 [] [] (.ret (.sc (.bool true)) []) := scL (SC.closedQ hWL hXL 40 (by kernel_rfl))
end Go.Proofs.Ythegipdgillngaa
/- CostAdds: the walk and the law. -/
namespace Go.Proofs.Ythegipdgillngaa
open Go Go.Am

def tl (n : Nat) (x : Nat → Int) : Int := if n = 0 then 0 else x 0
end Go.Proofs.Ythegipdgillngaa
/- CostAdds: numbers in range, the law. -/
namespace Go.Proofs.Ythegipdgillngaa
open Go Go.Am
theorem w_in {n : Int} (h : inR n) : w n = n := by
  unfold w; rw [IntKind.wrap_i64]; unfold inR at h; omega
theorem around_in {a m : Int} (ha : inR a) (hm : 0 < m) : 0 ≤ around a m ∧ around a m < m := by
  unfold around
  unfold inR at ha
  split
  · rw [w_in (n := a + 1) (by unfold inR; omega), w_in (by unfold inR; omega)]
    rw [Int.tmod_eq_emod_of_nonneg (by omega)]
    exact ⟨Int.emod_nonneg _ (by omega), Int.emod_lt_of_pos _ hm⟩
  · rw [Int.tmod_eq_emod_of_nonneg (by omega)]
    exact ⟨Int.emod_nonneg _ (by omega), Int.emod_lt_of_pos _ hm⟩
end Go.Proofs.Ythegipdgillngaa
/- What comes in: costs, certificates, numbers; CostAdds for what comes in. -/
namespace Go.Proofs.Ythegipdgillngaa
open Go Go.Am
theorem wt3 {d : Nat} {vs : List V} (h : WT E.P d 3 vs) : ∃ a, vs = [i64 a] ∧ inR a := h.i64 (by kernel_rfl)
end Go.Proofs.Ythegipdgillngaa
/- Numbers picked; rigs made from numbers. -/
namespace Go.Proofs.Ythegipdgillngaa
open Go Go.Am
def jk (n : Nat) : List V := List.replicate n .junk
def ro1 (n : Nat) (x : Nat → Int) : V := .ro 1 n (fun j => [i64 (x j)])
def pick (n : Nat) (x : Nat → Int) (i m : Int) : Int := if i < 0 ∨ i ≥ n then 0 else around (x i.toNat) m
def q27 (n : Nat) (x : Nat → Int) : List V → Option V
  | [.sc (.int .i64 i), .sc (.int .i64 m)] => if m = 0 then none else some (i64 (pick n x i m))
  | _ => none
def C21 : CallT := tab [(21, t21)]
theorem sC21 : SoundC E C21 := tab_cons ok21 tab_nil
noncomputable def C13 (n : Nat) (x : Nat → Int) : CallT := htab 27 (ro1 n x) (q27 n x) C21
def r3 (a b c : Nat → Int) : Nat → List V := fun j => [i64 (a j), i64 (b j), i64 (c j)]
def SR0 (n : Nat) (x : Nat → Int) (R W : Int) : St := { fr := [ro1 n x, .junk, .ptr 0 0, .ptr 1 0, i64 2] ++ jk 43, H := hp [some (.blk [.sc (.slice none 0 0), i64 0, i64 0]), some (.blk [.sc (.slice none 0 0), i64 R, i64 W])], nx := 2, rt := 0, me := 13 }
def SR (n : Nat) (x : Nat → Int) (R W : Int) (i : Int) (j : Nat) (a b c : Nat → Int) : St := { fr := [ro1 n x, .junk, .ptr 0 0, .ptr 1 0, i64 i] ++ jk 43, H := hp [some (.blk [.sc (.slice none 0 0), i64 0, i64 0]), some (.blk [.sl 2 3 0 j, i64 R, i64 W]), some (.row 59 3 j (r3 a b c))], nx := 3, rt := 0, me := 13 }
def SRe (R W : Int) (j : Nat) (a b c : Nat → Int) : St := { fr := [.junk, .junk, .ptr 0 0, .ptr 1 0] ++ jk 44, H := hp [some (.blk [.sc (.slice none 0 0), i64 0, i64 0]), some (.blk [.sl 2 3 0 j, i64 R, i64 W]), some (.row 59 3 j (r3 a b c))], nx := 3, rt := 0, me := 13 }
def SRe0 (R W : Int) : St := { fr := [.junk, .junk, .ptr 0 0, .ptr 1 0] ++ jk 44, H := hp [some (.blk [.sc (.slice none 0 0), i64 0, i64 0]), some (.blk [.sc (.slice none 0 0), i64 R, i64 W])], nx := 2, rt := 0, me := 13 }
theorem rd0 (n k : Nat) (x : Nat → Int) (R W : Int) (a b c : Nat → Int) (S1 : St) : loopK E C21 (ltab [⟨bodyOf E 13 0, S1, .exit 0, SRe R W k a b c⟩]) 0 29 (bodyOf E 13 0) (SR0 n x R W) (KC 12) =
  if decide (w ((2 : Int) + (2 : Int)) < ↑n) = true then
   if (0 : Int) ≤ (2 : Int) ∧ (2 : Int) < ↑n then
    if (0 : Int) ≤ w ((2 : Int) + (1 : Int)) ∧ w ((2 : Int) + (1 : Int)) < ↑n then
     if (0 : Int) ≤ w ((2 : Int) + (2 : Int)) ∧ w ((2 : Int) + (2 : Int)) < ↑n then
      cl ((bodyOf E 13 0) = (bodyOf E 13 0) ∧ LeSt ({ fr := [V.ro 1 n fun (j : Nat) => [i64 (x j)], V.junk, V.ptr 0 0, V.ptr 1 0, i64 (w ((2 : Int) + (3 : Int)))] ++ jk 43, H := hp [some (Chunk.blk [V.sc (Value.slice none 0 0), i64 0, i64 0]), some (Chunk.blk [V.sl 2 3 0 1, i64 R, i64 W]), some (Chunk.row 59 3 1 fun (j : Nat) => List.getD [[i64 (around (x 2) (1001 : Int)), i64 (around (x 3) (1001 : Int)), i64 (around (x 4) (8 : Int))]] (0 + j) [])], nx := 3, rt := 0, me := 13 }) (S1)) (
       some (Ans.l (Ex.exit 0) { fr := [V.junk, V.junk, V.ptr 0 0, V.ptr 1 0] ++ jk 44, H := hp [some (Chunk.blk [V.sc (Value.slice none 0 0), i64 0, i64 0]), some (Chunk.blk [V.sl 2 3 0 k, i64 R, i64 W]), some (Chunk.row 59 3 k (r3 a b c))], nx := 3, rt := 0, me := 13 })) (
       none)
     else
      none
    else
     none
   else
    none
  else
   some (Ans.l (Ex.exit 0) { fr := [V.junk, V.junk, V.ptr 0 0, V.ptr 1 0] ++ jk 44, H := hp [some (Chunk.blk [V.sc (Value.slice none 0 0), i64 0, i64 0]), some (Chunk.blk [V.sc (Value.slice none 0 0), i64 R, i64 W])], nx := 2, rt := 0, me := 13 }) := by kernel_rfl
theorem rd (n j k : Nat) (x : Nat → Int) (R W i : Int) (a b c a' b' c' : Nat → Int) (S1 : St) : loopK E C21 (ltab [⟨bodyOf E 13 0, S1, .exit 0, SRe R W k a' b' c'⟩]) 0 29 (bodyOf E 13 0) (SR n x R W i j a b c) (KC 12) =
  if decide (w (i + (2 : Int)) < ↑n) = true then
   if decide (↑j < (8 : Int)) = true then
    if (0 : Int) ≤ i ∧ i < ↑n then
     if (0 : Int) ≤ w (i + (1 : Int)) ∧ w (i + (1 : Int)) < ↑n then
      if (0 : Int) ≤ w (i + (2 : Int)) ∧ w (i + (2 : Int)) < ↑n then
       if (j + 1) * 24 ≤ roomBound ∧ j + 1 ≤ maxLen ∧ j ≤ j then
        cl ((bodyOf E 13 0) = (bodyOf E 13 0) ∧ LeSt ({ fr := [V.ro 1 n fun (j : Nat) => [i64 (x j)], V.junk, V.ptr 0 0, V.ptr 1 0, i64 (w (i + (3 : Int)))] ++ jk 43, H := hp [some (Chunk.blk [V.sc (Value.slice none 0 0), i64 0, i64 0]), some (Chunk.blk [V.sl 2 3 0 (j + 1), i64 R, i64 W]), some (Chunk.row 59 3 (j + 1) (joinF j (r3 a b c) fun (j : Nat) => List.getD [[i64 (around (x (Int.toNat i)) (1001 : Int)), i64 (around (x (Int.toNat (w (i + (1 : Int))))) (1001 : Int)), i64 (around (x (Int.toNat (w (i + (2 : Int))))) (8 : Int))]] (0 + j) []))], nx := 3, rt := 0, me := 13 }) (S1)) (
         some (Ans.l (Ex.exit 0) { fr := [V.junk, V.junk, V.ptr 0 0, V.ptr 1 0] ++ jk 44, H := hp [some (Chunk.blk [V.sc (Value.slice none 0 0), i64 0, i64 0]), some (Chunk.blk [V.sl 2 3 0 k, i64 R, i64 W]), some (Chunk.row 59 3 k (r3 a' b' c'))], nx := 3, rt := 0, me := 13 })) (
         none)
       else
        none
      else
       none
     else
      none
    else
     none
   else
    some (Ans.l (Ex.exit 0) { fr := [V.junk, V.junk, V.ptr 0 0, V.ptr 1 0] ++ jk 44, H := hp [some (Chunk.blk [V.sc (Value.slice none 0 0), i64 0, i64 0]), some (Chunk.blk [V.sl 2 3 0 j, i64 R, i64 W]), some (Chunk.row 59 3 j (r3 a b c))], nx := 3, rt := 0, me := 13 })
  else
   some (Ans.l (Ex.exit 0) { fr := [V.junk, V.junk, V.ptr 0 0, V.ptr 1 0] ++ jk 44, H := hp [some (Chunk.blk [V.sc (Value.slice none 0 0), i64 0, i64 0]), some (Chunk.blk [V.sl 2 3 0 j, i64 R, i64 W]), some (Chunk.row 59 3 j (r3 a b c))], nx := 3, rt := 0, me := 13 }) := by kernel_rfl
theorem rig0 (n : Nat) (x : Nat → Int) (R W : Int) (S1 : St) : callK E (C13 n x) (ltab [⟨bodyOf E 13 0, S1, .exit 0, SRe0 R W⟩]) 13 [ro1 n x] [] K =
  cl (Le (V.ro 1 n fun (j : Nat) => [i64 (x j)]) (ro1 n x) ∧ V.ids (V.ro 1 n fun (j : Nat) => [i64 (x j)]) = [] ∧ ([] : List (Option Chunk)) = []) (
   cl (Le (V.ro 1 n fun (j : Nat) => [i64 (x j)]) (ro1 n x) ∧ V.ids (V.ro 1 n fun (j : Nat) => [i64 (x j)]) = [] ∧ ([] : List (Option Chunk)) = []) (
    cl ((bodyOf E 13 0) = (bodyOf E 13 0) ∧ LeSt ({ fr := [V.ro 1 n fun (j : Nat) => [i64 (x j)], V.junk, V.ptr 0 0, V.ptr 1 0, i64 2] ++ jk 43, H := hp [some (Chunk.blk [V.sc (Value.slice none 0 0), i64 0, i64 0]), some (Chunk.blk [V.sc (Value.slice none 0 0), i64 (w ((1 : Int) + pick n x (0 : Int) (360 : Int))), i64 (pick n x (1 : Int) (1001 : Int))])], nx := 2, rt := 0, me := 13 }) (S1)) (
     some (Ans.c (CRes.ret (V.agg [V.sc (Value.slice none 0 0), i64 R, i64 W]) []))) (
     none)) (
    none)) (
   none) := by kernel_rfl
theorem rig1 (n k : Nat) (x : Nat → Int) (a b c : Nat → Int) (R W : Int) (S1 : St) : callK E (C13 n x) (ltab [⟨bodyOf E 13 0, S1, .exit 0, SRe R W k a b c⟩]) 13 [ro1 n x] [] K =
  cl (Le (V.ro 1 n fun (j : Nat) => [i64 (x j)]) (ro1 n x) ∧ V.ids (V.ro 1 n fun (j : Nat) => [i64 (x j)]) = [] ∧ ([] : List (Option Chunk)) = []) (
   cl (Le (V.ro 1 n fun (j : Nat) => [i64 (x j)]) (ro1 n x) ∧ V.ids (V.ro 1 n fun (j : Nat) => [i64 (x j)]) = [] ∧ ([] : List (Option Chunk)) = []) (
    cl ((bodyOf E 13 0) = (bodyOf E 13 0) ∧ LeSt ({ fr := [V.ro 1 n fun (j : Nat) => [i64 (x j)], V.junk, V.ptr 0 0, V.ptr 1 0, i64 2] ++ jk 43, H := hp [some (Chunk.blk [V.sc (Value.slice none 0 0), i64 0, i64 0]), some (Chunk.blk [V.sc (Value.slice none 0 0), i64 (w ((1 : Int) + pick n x (0 : Int) (360 : Int))), i64 (pick n x (1 : Int) (1001 : Int))])], nx := 2, rt := 0, me := 13 }) (S1)) (
     some (Ans.c (CRes.ret (V.agg [V.sl 0 3 0 k, i64 R, i64 W]) [some (Chunk.row 59 3 k (r3 a b c))]))) (
     none)) (
    none)) (
   none) := by kernel_rfl
theorem t27 (n : Nat) (x : Nat → Int) (i m : Int) : callK E C21 L0 27 [ro1 n x, i64 i, i64 m] [] K =
  if decide (i < (0 : Int)) = true then
   some (Ans.c (CRes.ret (i64 0) []))
  else
   if decide (i ≥ ↑n) = true then
    some (Ans.c (CRes.ret (i64 0) []))
   else
    if (0 : Int) ≤ i ∧ i < ↑n then
     if m = (0 : Int) then
      none
     else
      some (Ans.c (CRes.ret (i64 (around (x (Int.toNat i)) m)) []))
    else
     none := by kernel_rfl
theorem rd_e (n j : Nat) (x : Nat → Int) (R W i : Int) (a b c : Nat → Int) : loopK E C21 (ltab []) 0 29 (bodyOf E 13 0) (SR n x R W i j a b c) (KC 12) =
  if decide (w (i + (2 : Int)) < ↑n) = true then
   if decide (↑j < (8 : Int)) = true then
    if (0 : Int) ≤ i ∧ i < ↑n then
     if (0 : Int) ≤ w (i + (1 : Int)) ∧ w (i + (1 : Int)) < ↑n then
      if (0 : Int) ≤ w (i + (2 : Int)) ∧ w (i + (2 : Int)) < ↑n then
       if (j + 1) * 24 ≤ roomBound ∧ j + 1 ≤ maxLen ∧ j ≤ j then
        none
       else
        none
      else
       none
     else
      none
    else
     none
   else
    some (Ans.l (Ex.exit 0) { fr := [V.junk, V.junk, V.ptr 0 0, V.ptr 1 0] ++ jk 44, H := hp [some (Chunk.blk [V.sc (Value.slice none 0 0), i64 0, i64 0]), some (Chunk.blk [V.sl 2 3 0 j, i64 R, i64 W]), some (Chunk.row 59 3 j (r3 a b c))], nx := 3, rt := 0, me := 13 })
  else
   some (Ans.l (Ex.exit 0) { fr := [V.junk, V.junk, V.ptr 0 0, V.ptr 1 0] ++ jk 44, H := hp [some (Chunk.blk [V.sc (Value.slice none 0 0), i64 0, i64 0]), some (Chunk.blk [V.sl 2 3 0 j, i64 R, i64 W]), some (Chunk.row 59 3 j (r3 a b c))], nx := 3, rt := 0, me := 13 }) := by kernel_rfl
theorem rd0_e (n : Nat) (x : Nat → Int) (R W : Int) : loopK E C21 (ltab []) 0 29 (bodyOf E 13 0) (SR0 n x R W) (KC 12) =
  if decide (w ((2 : Int) + (2 : Int)) < ↑n) = true then
   if (0 : Int) ≤ (2 : Int) ∧ (2 : Int) < ↑n then
    if (0 : Int) ≤ w ((2 : Int) + (1 : Int)) ∧ w ((2 : Int) + (1 : Int)) < ↑n then
     if (0 : Int) ≤ w ((2 : Int) + (2 : Int)) ∧ w ((2 : Int) + (2 : Int)) < ↑n then
      none
     else
      none
    else
     none
   else
    none
  else
   some (Ans.l (Ex.exit 0) { fr := [V.junk, V.junk, V.ptr 0 0, V.ptr 1 0] ++ jk 44, H := hp [some (Chunk.blk [V.sc (Value.slice none 0 0), i64 0, i64 0]), some (Chunk.blk [V.sc (Value.slice none 0 0), i64 R, i64 W])], nx := 2, rt := 0, me := 13 }) := by kernel_rfl
theorem pick_eq (n : Nat) (x : Nat → Int) (i m : Int) (hm : m ≠ 0) : SC E 27 [ro1 n x, i64 i, i64 m] [] (.ret (i64 (pick n x i m)) []) := by
  refine SC.of hW hX sC21 (soundL_none E) ((t27 n x i m).trans ?_)
  unfold pick
  by_cases h1 : i < 0
  · simp [h1]
  · by_cases h2 : i ≥ n
    · simp [h1, h2]
    · have h3 : 0 ≤ i ∧ i < n := ⟨by omega, by omega⟩
      simp [h1, h2, h3, hm]
theorem sC13 (n : Nat) (x : Nat → Int) : SoundC E (C13 n x) := by
  refine htab_cons rfl (fun rest v h => ?_) sC21
  unfold q27 at h
  split at h
  · split at h
    · cases h
    · rename_i hm
      cases h
      exact ⟨rfl, pick_eq n x _ _ hm⟩
  · cases h
def dn (n : Nat) : Nat := min 8 ((n - 2) / 3)
def dA (x : Nat → Int) (j : Nat) : Int := around (x (3 * j + 2)) 1001
def dB (x : Nat → Int) (j : Nat) : Int := around (x (3 * j + 3)) 1001
def dC (x : Nat → Int) (j : Nat) : Int := around (x (3 * j + 4)) 8
theorem rig_loop (n : Nat) (x : Nat → Int) (R W : Int) (hn : n ≤ Go.maxLen) : ∀ m j, 1 ≤ j → j ≤ dn n → dn n - j = m → SL E (bodyOf E 13 0) (SR n x R W (2 + 3 * j) j (dA x) (dB x) (dC x)) (.exit 0) (SRe R W (dn n) (dA x) (dB x) (dC x)) := by
  have hml : Go.maxLen = 9223372036854775807 := by decide
  intro m
  induction m with
  | zero =>
    intro j h1 h2 h3
    have hj : j = dn n := by omega
    refine SL.by (m := 12) sC21 hX ltab_nil ((rd_e n j x R W (2 + 3 * j) (dA x) (dB x) (dC x)).trans ?_)
    have hj8 : j ≤ 8 := by unfold dn at hj; omega
    have e1 : w (2 + 3 * j + 2) = 2 + 3 * j + 2 := w_in (by unfold inR; omega)
    by_cases hc : (2 + 3 * j + 2 : Int) < n
    · have : ¬ (j : Int) < 8 := by unfold dn at hj; omega
      rw [if_pos (by rw [e1]; simpa using hc), if_neg (by simpa using this), hj]
      rfl
    · rw [if_neg (by rw [e1]; simpa using hc), hj]
      rfl
  | succ m ih =>
    intro j h1 h2 h3
    have hlt : j < dn n := by omega
    have hd : dn n = min 8 ((n - 2) / 3) := rfl
    have hj8 : j < 8 := by omega
    have hn4 : 2 + 3 * j + 2 < n := by omega
    refine SL.by (m := 12) sC21 hX (ltab_cons (x := ⟨bodyOf E 13 0, _, .exit 0, SRe R W (dn n) (dA x) (dB x) (dC x)⟩) (ih (j + 1) (by omega) (by omega) (by omega)) ltab_nil) ((rd n j (dn n) x R W (2 + 3 * j) (dA x) (dB x) (dC x) (dA x) (dB x) (dC x) _).trans ?_)
    have e1 : w (2 + 3 * j + 2) = 2 + 3 * j + 2 := w_in (by unfold inR; omega)
    have e2 : w (2 + 3 * j + 1) = 2 + 3 * j + 1 := w_in (by unfold inR; omega)
    have e3 : w (2 + 3 * j + 3) = 2 + 3 * j + 3 := w_in (by unfold inR; omega)
    rw [if_pos (by rw [e1, decide_eq_true_eq]; omega), if_pos (by rw [decide_eq_true_eq]; omega), if_pos (by omega), if_pos (by rw [e2]; omega), if_pos (by rw [e1]; omega), if_pos (by unfold roomBound; omega), cl_pos]
    · rfl
    · refine ⟨rfl, LeSt.mk' ?_ ?_⟩
      · rw [e3]
        have : (2 + 3 * (j : Int) + 3) = 2 + 3 * ((j + 1 : Nat) : Int) := by omega
        rw [this]
        exact LeL.refl _
      · refine ⟨OcLe.refl _, OcLe.refl _, ?_, trivial⟩
        refine ChLe.row fun q hq => ?_
        unfold joinF
        split
        · rfl
        · have hqj : q = j := by omega
          subst hqj
          rw [e1, e2]
          have t1 : Int.toNat (2 + 3 * (q : Int)) = 3 * q + 2 := by omega
          have t2 : Int.toNat (2 + 3 * (q : Int) + 1) = 3 * q + 3 := by omega
          have t3 : Int.toNat (2 + 3 * (q : Int) + 2) = 3 * q + 4 := by omega
          rw [t1, t2, t3]
          simp [r3, dA, dB, dC]
theorem rig_first (n : Nat) (x : Nat → Int) (R W : Int) (hn : n ≤ Go.maxLen) (h0 : 0 < dn n) : SL E (bodyOf E 13 0) (SR0 n x R W) (.exit 0) (SRe R W (dn n) (dA x) (dB x) (dC x)) := by
  have hd : dn n = min 8 ((n - 2) / 3) := rfl
  have e1 : w (2 + 2) = 4 := by decide
  have e2 : w (2 + 1) = 3 := by decide
  have e3 : w (2 + 3) = 5 := by decide
  refine SL.by (m := 12) sC21 hX (ltab_cons (x := ⟨bodyOf E 13 0, _, .exit 0, SRe R W (dn n) (dA x) (dB x) (dC x)⟩) (rig_loop n x R W hn _ 1 (Nat.le_refl _) (by omega) rfl) ltab_nil) ((rd0 n (dn n) x R W (dA x) (dB x) (dC x) _).trans ?_)
  rw [if_pos (by rw [e1, decide_eq_true_eq]; omega), if_pos (by omega), if_pos (by rw [e2]; omega), if_pos (by rw [e1]; omega), cl_pos]
  · rfl
  · refine ⟨rfl, LeSt.mk' ?_ ?_⟩
    · rw [e3]; exact LeL.refl _
    · refine ⟨OcLe.refl _, OcLe.refl _, ?_, trivial⟩
      refine ChLe.row fun q hq => ?_
      have : q = 0 := by omega
      subst this
      rfl
theorem rig_none (n : Nat) (x : Nat → Int) (R W : Int) (h0 : dn n = 0) : SL E (bodyOf E 13 0) (SR0 n x R W) (.exit 0) (SRe0 R W) := by
  have hd : dn n = min 8 ((n - 2) / 3) := rfl
  have e1 : w (2 + 2) = 4 := by decide
  refine SL.by (m := 12) sC21 hX ltab_nil ((rd0_e n x R W).trans ?_)
  rw [if_neg (by rw [e1, decide_eq_true_eq]; omega)]
  rfl
/-- The rig made from numbers, as it is read. -/
def rigV (k : Nat) (a b c : Nat → Int) (R W : Int) : V := .agg [.ro 3 k (r3 a b c), i64 R, i64 W]
theorem rig_sc (n : Nat) (x : Nat → Int) (hn : n ≤ Go.maxLen) : SC E 13 [ro1 n x] [] (.ret (rigV (dn n) (dA x) (dB x) (dC x) (w (1 + pick n x 0 360)) (pick n x 1 1001)) []) := by
  by_cases h0 : dn n = 0
  · have h : SC E 13 [ro1 n x] [] (.ret (.agg [.sc (.slice none 0 0), i64 (w (1 + pick n x 0 360)), i64 (pick n x 1 1001)]) []) := by
      refine SC.of hW hX (sC13 n x) (ltab_cons (x := ⟨bodyOf E 13 0, _, .exit 0, SRe0 (w (1 + pick n x 0 360)) (pick n x 1 1001)⟩) (rig_none n x _ _ h0) ltab_nil) ((rig0 n x _ _ _).trans ?_)
      rw [cl_pos ⟨Le.refl _, rfl, rfl⟩, cl_pos ⟨Le.refl _, rfl, rfl⟩, cl_pos ⟨rfl, LeSt.refl _⟩]
    rw [h0]
    exact h.le (Le.agg (LeL.cons Le.nil_ro (LeL.refl _)))
  · have h : SC E 13 [ro1 n x] [] (.ret (.agg [.sl 0 3 0 (dn n), i64 (w (1 + pick n x 0 360)), i64 (pick n x 1 1001)]) [some (.row 59 3 (dn n) (r3 (dA x) (dB x) (dC x)))]) := by
      refine SC.of hW hX (sC13 n x) (ltab_cons (x := ⟨bodyOf E 13 0, _, .exit 0, SRe (w (1 + pick n x 0 360)) (pick n x 1 1001) (dn n) (dA x) (dB x) (dC x)⟩) (rig_first n x _ _ hn (by omega)) ltab_nil) ((rig1 n (dn n) x (dA x) (dB x) (dC x) _ _ _).trans ?_)
      rw [cl_pos ⟨Le.refl _, rfl, rfl⟩, cl_pos ⟨Le.refl _, rfl, rfl⟩, cl_pos ⟨rfl, LeSt.refl _⟩]
    have e : V.bw (hp [some (Chunk.row 59 3 (dn n) (r3 (dA x) (dB x) (dC x)))]) (.agg [.sl 0 3 0 (dn n), i64 (w (1 + pick n x 0 360)), i64 (pick n x 1 1001)]) = .agg [.ro 3 (dn n) (fun j => r3 (dA x) (dB x) (dC x) (0 + j)), i64 (w (1 + pick n x 0 360)), i64 (pick n x 1 1001)] := by
      simp [V.bw, V.bw2, V.bw1, hp]
    have g := h.give (by rw [e]; rfl)
    rw [e] at g
    refine g.le (Le.agg (LeL.cons (Le.ro_eq fun j hj => ⟨by rw [Nat.zero_add], rfl⟩) (LeL.refl _)))
end Go.Proofs.Ythegipdgillngaa
/- CostActs. -/
namespace Go.Proofs.Ythegipdgillngaa
open Go Go.Am
def a3 (a b c : Int) : V := .agg [i64 a, i64 b, i64 c]
def trn (R W : Int) : Int := w (W * w (Int.tdiv (w (w (360 + R) - 1)) R))
theorem pick_in {n : Nat} {x : Nat → Int} (hx : ∀ j, j < n → inR (x j)) (i : Int) {m : Int} (hm : 0 < m) : 0 ≤ pick n x i m ∧ pick n x i m < m := by
  unfold pick
  split
  · omega
  · rename_i h
    exact around_in (hx _ (by omega)) hm
end Go.Proofs.Ythegipdgillngaa
/- Plain: two ways to check code are the same. -/
namespace Go.Proofs.Cv
set_option linter.unusedSimpArgs false
set_option linter.unusedVariables false
/-- Code: its operators, its operands, how many, how many variables. -/
structure Cd where
  op : Nat → Int
  arg : Nat → Int
  n : Nat
  vars : Int
def upd (f : Nat → Int) (k : Nat) (v : Int) : Nat → Int := fun j => if j = k then v else f j
theorem upd_same (f : Nat → Int) (k : Nat) (v : Int) : upd f k v k = v := by simp [upd]
theorem upd_ne {f : Nat → Int} {k j : Nat} {v : Int} (h : j ≠ k) : upd f k v j = f j := by simp [upd, h]
theorem upd_id {f : Nat → Int} {k : Nat} {v : Int} (h : f k = v) : upd f k v = f := by
  funext j
  unfold upd
  split
  · rename_i e; rw [e, h]
  · rfl
def rngL (o : Int) (i : Nat) : Int :=
  if o = 1 then -2147483647 else if o = 14 ∨ o = 15 then (i : Int) + 1 else if o = 16 ∨ o = 17 ∨ o = 20 then 1 else 0
def rngH (o : Int) (i n : Nat) (vars : Int) : Int :=
  if o = 1 then 2147483647 else if o = 2 ∨ o = 3 then vars - 1 else if o = 4 then 5 else if o = 14 ∨ o = 15 then (n : Int) - 1
  else if o = 16 then 100 else if o = 17 ∨ o = 20 then (i : Int) else if o = 18 ∨ o = 19 then 1000000 else if o = 23 then 7999999
  else if o = 24 ∨ o = 25 then 2147483647 else if o = 26 then 99 else if o = 27 then 999 else 0
def okOp (o : Int) : Prop := 1 ≤ o ∧ o ≤ 28
def rng (c : Cd) (i : Nat) : Prop := rngL (c.op i) i ≤ c.arg i ∧ c.arg i ≤ rngH (c.op i) i c.n c.vars
def stopOk (c : Cd) (i : Nat) : Prop := c.op i = 28 ↔ i + 1 = c.n
def opnd (c : Cd) (i : Nat) : Prop :=
  if c.op i = 1 then -2147483647 ≤ c.arg i ∧ c.arg i ≤ 2147483647
  else if c.op i = 2 ∨ c.op i = 3 then 0 ≤ c.arg i ∧ c.arg i ≤ c.vars - 1
  else if c.op i = 4 then 0 ≤ c.arg i ∧ c.arg i ≤ 5
  else if (5 ≤ c.op i ∧ c.op i ≤ 13) ∨ c.op i = 21 ∨ c.op i = 22 ∨ c.op i = 28 then c.arg i = 0
  else if c.op i = 14 ∨ c.op i = 15 then (i : Int) + 1 ≤ c.arg i ∧ c.arg i ≤ (c.n : Int) - 1
  else if c.op i = 16 then 1 ≤ c.arg i ∧ c.arg i ≤ 100
  else if c.op i = 18 ∨ c.op i = 19 then 0 ≤ c.arg i ∧ c.arg i ≤ 1000000
  else if c.op i = 23 then 0 ≤ c.arg i ∧ c.arg i ≤ 7999999
  else if c.op i = 24 ∨ c.op i = 25 then 0 ≤ c.arg i ∧ c.arg i ≤ 2147483647
  else if c.op i = 26 then 0 ≤ c.arg i ∧ c.arg i ≤ 99
  else if c.op i = 27 then 0 ≤ c.arg i ∧ c.arg i ≤ 999
  else c.op i = 17 ∨ c.op i = 20
theorem opnd_ok {c : Cd} {i : Nat} (h : opnd c i) : okOp (c.op i) := by
  unfold opnd at h
  unfold okOp
  generalize c.op i = o at *
  generalize c.arg i = a at *
  repeat' split at h
  all_goals omega
theorem opnd_rng {c : Cd} {i : Nat} (h : okOp (c.op i)) (h17 : c.op i ≠ 17) (h20 : c.op i ≠ 20) : opnd c i ↔ rng c i := by
  unfold okOp at h
  unfold opnd rng rngL rngH
  generalize c.op i = o at *
  generalize c.arg i = a at *
  by_cases h1 : o = 1
  · subst h1; simp
  by_cases h2 : o = 2 ∨ o = 3
  · have e1 : ¬ (o = 14 ∨ o = 15) := by omega
    have e2 : ¬ (o = 16 ∨ o = 17 ∨ o = 20) := by omega
    simp only [if_neg h1, if_pos h2, if_neg e1, if_neg e2]
  by_cases h4 : o = 4
  · subst h4; simp
  by_cases h5 : (5 ≤ o ∧ o ≤ 13) ∨ o = 21 ∨ o = 22 ∨ o = 28
  · have e1 : ¬ (o = 14 ∨ o = 15) := by omega
    have e2 : ¬ (o = 16 ∨ o = 17 ∨ o = 20) := by omega
    have e3 : ¬ o = 16 := by omega
    have e4 : ¬ (o = 17 ∨ o = 20) := by omega
    have e5 : ¬ (o = 18 ∨ o = 19) := by omega
    have e6 : ¬ o = 23 := by omega
    have e7 : ¬ (o = 24 ∨ o = 25) := by omega
    have e8 : ¬ o = 26 := by omega
    have e9 : ¬ o = 27 := by omega
    simp only [if_neg h1, if_neg h2, if_neg h4, if_pos h5, if_neg e1, if_neg e2, if_neg e3, if_neg e4, if_neg e5, if_neg e6, if_neg e7, if_neg e8, if_neg e9]
    omega
  by_cases h14 : o = 14 ∨ o = 15
  · simp only [if_neg h1, if_neg h2, if_neg h4, if_neg h5, if_pos h14]
  by_cases h16 : o = 16
  · subst h16; simp
  have e2 : ¬ (o = 16 ∨ o = 17 ∨ o = 20) := by omega
  have e4 : ¬ (o = 17 ∨ o = 20) := by omega
  simp only [if_neg h1, if_neg h2, if_neg h4, if_neg h5, if_neg h14, if_neg h16, if_neg e2, if_neg e4]
  by_cases h18 : o = 18 ∨ o = 19
  · simp only [if_pos h18]
  by_cases h23 : o = 23
  · subst h23; simp
  by_cases h24 : o = 24 ∨ o = 25
  · simp only [if_neg h18, if_neg h23, if_pos h24]
  by_cases h26 : o = 26
  · subst h26; simp
  by_cases h27 : o = 27
  · subst h27; simp
  omega
theorem rng_17 {c : Cd} {i : Nat} (h : c.op i = 17 ∨ c.op i = 20) : rng c i ↔ 1 ≤ c.arg i ∧ c.arg i ≤ (i : Int) := by
  unfold rng rngL rngH
  rcases h with h | h <;> rw [h] <;> simp
theorem opnd_17 {c : Cd} {i : Nat} (h : c.op i = 17 ∨ c.op i = 20) : opnd c i := by
  unfold opnd
  rcases h with h | h <;> rw [h] <;> simp
theorem rng_jump {c : Cd} {i : Nat} (h : c.op i = 14 ∨ c.op i = 15) (hr : rng c i) : (i : Int) + 1 ≤ c.arg i ∧ c.arg i ≤ (c.n : Int) - 1 := by
  unfold rng rngL rngH at hr
  rcases h with h | h <;> rw [h] at hr <;> simpa using hr
def pureP (o : Int) : Bool := decide (o ≤ 15) && decide (o ≠ 3)
def pureR (o : Int) : Bool := decide (o = 1 ∨ o = 2 ∨ o = 4 ∨ (5 ≤ o ∧ o ≤ 13) ∨ o = 14 ∨ o = 15)
theorem pure_same {o : Int} (h : okOp o) : pureP o = pureR o := by
  unfold okOp at h
  unfold pureP pureR
  rw [Bool.eq_iff_iff]
  simp
  omega
structure Pl where
  oL : Nat → Int
  oW : Nat → Int
  lo : Int
  wa : Int
def plcP (c : Cd) : Nat → Nat → Pl → Option Pl
  | 0, _, q => some q
  | r + 1, i, q =>
    if q.wa ≠ -1 ∧ c.op i ≠ 20 ∧ pureP (c.op i) = false then none
    else if c.op i = 16 then plcP c r (i + 1) ⟨upd q.oL i q.lo, upd q.oW i q.wa, i, q.wa⟩
    else if c.op i = 19 then plcP c r (i + 1) ⟨upd q.oL i q.lo, upd q.oW i q.wa, q.lo, i⟩
    else if c.op i = 17 then (if q.lo = -1 ∨ c.arg i ≠ q.lo + 1 then none else plcP c r (i + 1) ⟨upd q.oL i q.lo, upd q.oW i q.wa, upd q.oL i q.lo q.lo.toNat, upd q.oW i q.wa q.lo.toNat⟩)
    else if c.op i = 20 then (if q.wa = -1 ∨ c.arg i ≠ q.wa + 1 then none else plcP c r (i + 1) ⟨upd q.oL i q.lo, upd q.oW i q.wa, q.lo, -1⟩)
    else plcP c r (i + 1) ⟨upd q.oL i q.lo, upd q.oW i q.wa, q.lo, q.wa⟩
structure Rg where
  L : Nat → Int
  W : Nat → Int
  m : Nat
  stk : Nat → Int
  wa : Int
def Rg.top (q : Rg) : Int := if 0 < q.m then q.stk (q.m - 1) else -1
def regR (c : Cd) : Nat → Nat → Rg → Option Rg
  | 0, _, q => some q
  | r + 1, i, q =>
    if 0 ≤ q.wa ∧ c.op i ≠ 20 ∧ pureR (c.op i) = false then none
    else if c.op i = 16 then regR c r (i + 1) ⟨upd q.L i q.top, upd q.W i q.wa, q.m + 1, upd q.stk q.m i, q.wa⟩
    else if c.op i = 17 then (if q.top < 0 ∨ c.arg i ≠ q.top + 1 then none else regR c r (i + 1) ⟨upd q.L i q.top, upd q.W i q.wa, q.m - 1, q.stk, q.wa⟩)
    else if c.op i = 19 then regR c r (i + 1) ⟨upd q.L i q.top, upd q.W i q.wa, q.m, q.stk, i⟩
    else if c.op i = 20 then (if q.wa < 0 ∨ c.arg i ≠ q.wa + 1 then none else regR c r (i + 1) ⟨upd q.L i q.top, upd q.W i q.wa, q.m, q.stk, -1⟩)
    else regR c r (i + 1) ⟨upd q.L i q.top, upd q.W i q.wa, q.m, q.stk, q.wa⟩
/-- What holds of the stack of loops before instruction i. -/
structure Stk (i : Nat) (q : Rg) : Prop where
  lt : ∀ k, k < q.m → 0 ≤ q.stk k ∧ q.stk k < i
  loop : ∀ k, k < q.m → q.L (q.stk k).toNat = if 0 < k then q.stk (k - 1) else -1
  wait : ∀ k, k < q.m → q.W (q.stk k).toNat = -1
  wa : q.wa = -1 ∨ (0 ≤ q.wa ∧ q.wa < i)
def Rg.pl (q : Rg) : Pl := ⟨q.L, q.W, q.top, q.wa⟩
theorem top_cases {i : Nat} {q : Rg} (h : Stk i q) : (q.m = 0 ∧ q.top = -1) ∨ (0 < q.m ∧ q.top = q.stk (q.m - 1) ∧ 0 ≤ q.top ∧ q.top < i) := by
  unfold Rg.top
  by_cases hm : 0 < q.m
  · rw [if_pos hm]; exact .inr ⟨hm, rfl, h.lt _ (by omega)⟩
  · rw [if_neg hm]; exact .inl ⟨by omega, rfl⟩
/-- The stack after an instruction that leaves it. -/
theorem Stk.keep {i : Nat} {q : Rg} (h : Stk i q) {wa : Int} (hw : wa = -1 ∨ (0 ≤ wa ∧ wa < (i + 1 : Nat))) : Stk (i + 1) ⟨upd q.L i q.top, upd q.W i q.wa, q.m, q.stk, wa⟩ := by
  refine ⟨fun k hk => ?_, fun k hk => ?_, fun k hk => ?_, hw⟩
  · have := h.lt k hk; simp only at hk ⊢; omega
  · have h1 := h.lt k hk
    have := h.loop k hk
    show upd q.L i q.top (q.stk k).toNat = _
    rw [upd_ne (by omega)]; exact this
  · have h1 := h.lt k hk
    show upd q.W i q.wa (q.stk k).toNat = _
    rw [upd_ne (by omega)]; exact h.wait k hk
theorem plc_reg (c : Cd) (hok : ∀ i, i < c.n → okOp (c.op i)) : ∀ (r i : Nat) (q : Rg), i + r = c.n → Stk i q → plcP c r i q.pl = (regR c r i q).map Rg.pl := by
  intro r
  induction r with
  | zero => intro i q _ _; rfl
  | succ r ih =>
    intro i q hi hs
    have ho := hok i (by omega)
    have hp := pure_same ho
    have ht := top_cases hs
    have e1 : (q.wa ≠ -1 ∧ c.op i ≠ 20 ∧ pureP (c.op i) = false) ↔ (0 ≤ q.wa ∧ c.op i ≠ 20 ∧ pureR (c.op i) = false) := by
      rw [hp]
      have := hs.wa
      constructor
      · rintro ⟨a, b⟩; exact ⟨by omega, b⟩
      · rintro ⟨a, b⟩; exact ⟨by omega, b⟩
    rw [plcP, regR]
    show (if q.wa ≠ -1 ∧ c.op i ≠ 20 ∧ pureP (c.op i) = false then none else _) = _
    by_cases hbad : 0 ≤ q.wa ∧ c.op i ≠ 20 ∧ pureR (c.op i) = false
    · rw [if_pos hbad, if_pos (e1.2 hbad)]; rfl
    rw [if_neg hbad, if_neg (fun h => hbad (e1.1 h))]
    have impure : (c.op i = 16 ∨ c.op i = 17 ∨ c.op i = 19) → q.wa = -1 := by
      intro h
      have h1 : pureR (c.op i) = false := by unfold pureR; simp; omega
      have := hs.wa
      by_cases hw : 0 ≤ q.wa
      · exact absurd ⟨hw, by omega, h1⟩ hbad
      · omega
    by_cases h16 : c.op i = 16
    · rw [if_pos h16, if_pos h16]
      have hw := impure (.inl h16)
      have := ih (i + 1) ⟨upd q.L i q.top, upd q.W i q.wa, q.m + 1, upd q.stk q.m i, q.wa⟩ (by omega) ?_
      · rw [← this]
        have et : Rg.top ⟨upd q.L i q.top, upd q.W i q.wa, q.m + 1, upd q.stk q.m i, q.wa⟩ = i := by
          unfold Rg.top
          rw [if_pos (by simp)]
          exact upd_same _ _ _
        unfold Rg.pl
        rw [et]
      · refine ⟨fun k hk => ?_, fun k hk => ?_, fun k hk => ?_, by simp only; omega⟩
        · simp only at hk ⊢
          by_cases hk2 : k = q.m
          · subst hk2; rw [upd_same]; omega
          · rw [upd_ne hk2]; have := hs.lt k (by omega); omega
        · simp only at hk ⊢
          by_cases hk2 : k = q.m
          · subst hk2
            rw [upd_same, Int.toNat_natCast, upd_same]
            by_cases h0 : 0 < q.m
            · rw [if_pos h0, upd_ne (by omega)]; unfold Rg.top; rw [if_pos h0]
            · rw [if_neg h0]; unfold Rg.top; rw [if_neg h0]
          · have h1 := hs.lt k (by omega)
            have h2 := hs.loop k (by omega)
            rw [upd_ne hk2, upd_ne (by omega), h2]
            by_cases h0 : 0 < k
            · rw [if_pos h0, if_pos h0, upd_ne (by omega)]
            · rw [if_neg h0, if_neg h0]
        · simp only at hk ⊢
          by_cases hk2 : k = q.m
          · subst hk2
            rw [upd_same, Int.toNat_natCast, upd_same]; exact hw
          · have h1 := hs.lt k (by omega)
            rw [upd_ne hk2, upd_ne (by omega)]; exact hs.wait k (by omega)
    rw [if_neg h16, if_neg h16]
    by_cases h19 : c.op i = 19
    · rw [if_pos h19, if_neg (by omega), if_pos h19]
      exact ih (i + 1) _ (by omega) (hs.keep (wa := (i : Int)) (by omega))
    rw [if_neg h19]
    by_cases h17 : c.op i = 17
    · rw [if_pos h17, if_pos h17]
      have hw := impure (.inr (.inl h17))
      show (if q.top = -1 ∨ c.arg i ≠ q.top + 1 then none else _) = _
      by_cases hb : q.top < 0 ∨ c.arg i ≠ q.top + 1
      · rw [if_pos hb, if_pos (by omega)]; rfl
      · rw [if_neg hb, if_neg (by omega)]
        rcases ht with ⟨h1, h2⟩ | ⟨h1, h2, h3, h4⟩
        · omega
        · have hk := hs.keep (wa := q.wa) (by omega)
          have := ih (i + 1) ⟨upd q.L i q.top, upd q.W i q.wa, q.m - 1, q.stk, q.wa⟩ (by omega) ⟨fun k hk' => hk.lt k (by simp only at hk' ⊢; omega), fun k hk' => hk.loop k (by simp only at hk' ⊢; omega), fun k hk' => hk.wait k (by simp only at hk' ⊢; omega), hk.wa⟩
          rw [← this]
          have a1 : upd q.L i q.top q.top.toNat = Rg.top ⟨upd q.L i q.top, upd q.W i q.wa, q.m - 1, q.stk, q.wa⟩ := by
            rw [upd_ne (by omega), h2, hs.loop _ (by omega)]
            unfold Rg.top
            simp only
          have a2 : upd q.W i q.wa q.top.toNat = q.wa := by
            rw [upd_ne (by omega), h2, hs.wait _ (by omega), hw]
          show plcP c r (i + 1) ⟨upd q.L i q.top, upd q.W i q.wa, upd q.L i q.top q.top.toNat, upd q.W i q.wa q.top.toNat⟩ = _
          rw [a1, a2]
          rfl
    rw [if_neg h17, if_neg h17, if_neg h19]
    by_cases h20 : c.op i = 20
    · rw [if_pos h20, if_pos h20]
      have := hs.wa
      show (if q.wa = -1 ∨ c.arg i ≠ q.wa + 1 then none else _) = _
      by_cases hb : q.wa < 0 ∨ c.arg i ≠ q.wa + 1
      · rw [if_pos hb, if_pos (by omega)]; rfl
      · rw [if_neg hb, if_neg (by omega)]
        exact ih (i + 1) _ (by omega) (hs.keep (wa := -1) (.inl rfl))
    rw [if_neg h20, if_neg h20]
    exact ih (i + 1) _ (by omega) (hs.keep (wa := q.wa) (by have := hs.wa; omega))
theorem reg_stk (c : Cd) : ∀ (r i : Nat) (q q' : Rg), i + r = c.n → (∀ k, k < q.m → 0 ≤ q.stk k) → regR c r i q = some q' → ∀ k, k < q'.m → 0 ≤ q'.stk k := by
  intro r
  induction r with
  | zero => intro i q q' _ h e; cases e; exact h
  | succ r ih =>
    intro i q q' hi h e
    rw [regR] at e
    split at e
    · cases e
    split at e
    · refine ih (i + 1) _ _ (by omega) (fun k hk => ?_) e
      simp only at hk ⊢
      by_cases hk2 : k = q.m
      · subst hk2; rw [upd_same]; omega
      · rw [upd_ne hk2]; exact h k (by omega)
    split at e
    · split at e
      · cases e
      · refine ih (i + 1) _ _ (by omega) ?_ e
        intro k hk
        simp only at hk ⊢
        exact h k (by omega)
    split at e
    · refine ih (i + 1) _ _ (by omega) ?_ e
      exact h
    split at e
    · split at e
      · cases e
      · refine ih (i + 1) _ _ (by omega) ?_ e
        exact h
    · refine ih (i + 1) _ _ (by omega) ?_ e
      exact h
/-- The operand of an end of a loop or of a wait, if all is well formed. -/
theorem plc_args (c : Cd) : ∀ (r i : Nat) (q q' : Rg), i + r = c.n → Stk i q → regR c r i q = some q' → ∀ j, i ≤ j → j < c.n → (c.op j = 17 ∨ c.op j = 20) → 1 ≤ c.arg j ∧ c.arg j ≤ (j : Int) := by
  intro r
  induction r with
  | zero => intro i q q' hi _ _ j h1 h2; omega
  | succ r ih =>
    intro i q q' hi hs e j hj1 hj2 hj
    have ht := top_cases hs
    have hwa := hs.wa
    rw [regR] at e
    split at e
    · cases e
    rename_i hbad
    have impure : (c.op i = 16 ∨ c.op i = 17 ∨ c.op i = 19) → q.wa = -1 := by
      intro h
      have h1 : pureR (c.op i) = false := by unfold pureR; simp; omega
      by_cases hw : 0 ≤ q.wa
      · exact absurd ⟨hw, by omega, h1⟩ hbad
      · omega
    by_cases hji : j = i
    · subst hji
      rcases hj with h | h
      · rw [if_neg (by omega), if_pos h] at e
        split at e
        · cases e
        · omega
      · rw [if_neg (by omega), if_neg (by omega), if_neg (by omega), if_pos h] at e
        split at e
        · cases e
        · omega
    split at e
    · rename_i h16
      have hw := impure (.inl h16)
      refine ih (i + 1) _ _ (by omega) ?_ e j (by omega) hj2 hj
      refine ⟨fun k hk => ?_, fun k hk => ?_, fun k hk => ?_, by simp only; omega⟩
      · simp only at hk ⊢
        by_cases hk2 : k = q.m
        · subst hk2; rw [upd_same]; omega
        · rw [upd_ne hk2]; have := hs.lt k (by omega); omega
      · simp only at hk ⊢
        by_cases hk2 : k = q.m
        · subst hk2
          rw [upd_same, Int.toNat_natCast, upd_same]
          by_cases h0 : 0 < q.m
          · rw [if_pos h0, upd_ne (by omega)]; unfold Rg.top; rw [if_pos h0]
          · rw [if_neg h0]; unfold Rg.top; rw [if_neg h0]
        · have h1 := hs.lt k (by omega)
          have h2 := hs.loop k (by omega)
          rw [upd_ne hk2, upd_ne (by omega), h2]
          by_cases h0 : 0 < k
          · rw [if_pos h0, if_pos h0, upd_ne (by omega)]
          · rw [if_neg h0, if_neg h0]
      · simp only at hk ⊢
        by_cases hk2 : k = q.m
        · subst hk2
          rw [upd_same, Int.toNat_natCast, upd_same]; exact hw
        · have h1 := hs.lt k (by omega)
          rw [upd_ne hk2, upd_ne (by omega)]; exact hs.wait k (by omega)
    split at e
    · split at e
      · cases e
      · have hk := hs.keep (wa := q.wa) (by omega)
        refine ih (i + 1) _ _ (by omega) ?_ e j (by omega) hj2 hj
        exact ⟨fun k hk' => hk.lt k (by simp only at hk' ⊢; omega), fun k hk' => hk.loop k (by simp only at hk' ⊢; omega), fun k hk' => hk.wait k (by simp only at hk' ⊢; omega), hk.wa⟩
    split at e
    · exact ih (i + 1) _ _ (by omega) (hs.keep (wa := (i : Int)) (by omega)) e j (by omega) hj2 hj
    split at e
    · split at e
      · cases e
      · exact ih (i + 1) _ _ (by omega) (hs.keep (wa := -1) (.inl rfl)) e j (by omega) hj2 hj
    · exact ih (i + 1) _ _ (by omega) (hs.keep (wa := q.wa) (by omega)) e j (by omega) hj2 hj
def effLo (o : Int) : Int := if o = 1 ∨ o = 2 ∨ o = 4 then 0 else if o = 3 ∨ o = 21 ∨ o = 22 ∨ o = 20 then 1 else if o = 9 ∨ o = 13 then 1 else if 5 ≤ o ∧ o ≤ 12 then 2 else if o = 14 then 0 else if o = 15 then 1 else 0
def effHi (o : Int) : Int := if o = 1 ∨ o = 2 ∨ o = 4 then 15 else if o = 3 ∨ o = 21 ∨ o = 22 ∨ o = 20 then 1 else if o = 9 ∨ o = 13 then 16 else if 5 ≤ o ∧ o ≤ 12 then 16 else if o = 14 then 16 else if o = 15 then 16 else 0
def effBy (o : Int) : Int := if o = 1 ∨ o = 2 ∨ o = 4 then 1 else if o = 3 ∨ o = 21 ∨ o = 22 ∨ o = 20 then -1 else if o = 9 ∨ o = 13 then 0 else if 5 ≤ o ∧ o ≤ 12 then -1 else if o = 14 then 0 else if o = 15 then -1 else 0
def leftV (o d : Int) : Int := if o = 1 ∨ o = 2 ∨ o = 4 then d + 1 else if (5 ≤ o ∧ o ≤ 8) ∨ (10 ≤ o ∧ o ≤ 12) then d - 1 else if o = 9 ∨ o = 13 then d else if o = 14 then d else if o = 15 then d - 1 else 0
def leftB (o d : Int) : Prop := if o = 1 ∨ o = 2 ∨ o = 4 then d < 16 else if (5 ≤ o ∧ o ≤ 8) ∨ (10 ≤ o ∧ o ≤ 12) then 2 ≤ d else if o = 9 ∨ o = 13 then 1 ≤ d else if o = 14 then True else if o = 15 then 1 ≤ d else if o = 3 ∨ o = 21 ∨ o = 22 ∨ o = 20 then d = 1 else d = 0
theorem eff_left {o d : Int} (ho : okOp o) (hd : d ≤ 16) : (effLo o ≤ d ∧ d ≤ effHi o) ↔ (0 ≤ d ∧ leftB o d) := by
  unfold okOp at ho
  unfold effLo effHi leftB
  by_cases h1 : o = 1 ∨ o = 2 ∨ o = 4
  · simp only [if_pos h1]; (try simp only [true_and, and_true]); omega
  by_cases h3 : o = 3 ∨ o = 21 ∨ o = 22 ∨ o = 20
  · simp only [if_neg h1, if_pos h3, if_neg (show ¬ ((5 ≤ o ∧ o ≤ 8) ∨ (10 ≤ o ∧ o ≤ 12)) by omega), if_neg (show ¬ (o = 9 ∨ o = 13) by omega), if_neg (show ¬ o = 14 by omega), if_neg (show ¬ o = 15 by omega)]; (try simp only [true_and, and_true]); omega
  by_cases h9 : o = 9 ∨ o = 13
  · simp only [if_neg h1, if_neg h3, if_pos h9, if_neg (show ¬ ((5 ≤ o ∧ o ≤ 8) ∨ (10 ≤ o ∧ o ≤ 12)) by omega)]; (try simp only [true_and, and_true]); omega
  by_cases h5 : 5 ≤ o ∧ o ≤ 12
  · simp only [if_neg h1, if_neg h3, if_neg h9, if_pos h5, if_pos (show ((5 ≤ o ∧ o ≤ 8) ∨ (10 ≤ o ∧ o ≤ 12)) by omega)]; (try simp only [true_and, and_true]); omega
  have h5' : ¬ ((5 ≤ o ∧ o ≤ 8) ∨ (10 ≤ o ∧ o ≤ 12)) := by omega
  by_cases h14 : o = 14
  · simp only [if_neg h1, if_neg h3, if_neg h9, if_neg h5, if_neg h5', if_pos h14]; (try simp only [true_and, and_true]); omega
  by_cases h15 : o = 15
  · simp only [if_neg h1, if_neg h3, if_neg h9, if_neg h5, if_neg h5', if_neg h14, if_pos h15]; (try simp only [true_and, and_true]); omega
  simp only [if_neg h1, if_neg h3, if_neg h9, if_neg h5, if_neg h5', if_neg h14, if_neg h15]; (try simp only [true_and, and_true]); omega
theorem eff_val {o d : Int} (ho : okOp o) (h0 : 0 ≤ d) (h16 : d ≤ 16) (hl : leftB o d) : d + effBy o = leftV o d ∧ 0 ≤ leftV o d ∧ leftV o d ≤ 16 := by
  unfold okOp at ho
  unfold leftB at hl
  unfold effBy leftV
  by_cases h1 : o = 1 ∨ o = 2 ∨ o = 4
  · simp only [if_pos h1] at hl ⊢; (try simp only [true_and, and_true]); omega
  by_cases h3 : o = 3 ∨ o = 21 ∨ o = 22 ∨ o = 20
  · simp only [if_neg h1, if_pos h3, if_neg (show ¬ ((5 ≤ o ∧ o ≤ 8) ∨ (10 ≤ o ∧ o ≤ 12)) by omega), if_neg (show ¬ (o = 9 ∨ o = 13) by omega), if_neg (show ¬ o = 14 by omega), if_neg (show ¬ o = 15 by omega)] at hl ⊢; (try simp only [true_and, and_true]); omega
  by_cases h9 : o = 9 ∨ o = 13
  · simp only [if_neg h1, if_neg h3, if_pos h9, if_neg (show ¬ ((5 ≤ o ∧ o ≤ 8) ∨ (10 ≤ o ∧ o ≤ 12)) by omega)] at hl ⊢; (try simp only [true_and, and_true]); omega
  by_cases h5 : 5 ≤ o ∧ o ≤ 12
  · simp only [if_neg h1, if_neg h3, if_neg h9, if_pos h5, if_pos (show ((5 ≤ o ∧ o ≤ 8) ∨ (10 ≤ o ∧ o ≤ 12)) by omega)] at hl ⊢; (try simp only [true_and, and_true]); omega
  have h5' : ¬ ((5 ≤ o ∧ o ≤ 8) ∨ (10 ≤ o ∧ o ≤ 12)) := by omega
  by_cases h14 : o = 14
  · simp only [if_neg h1, if_neg h3, if_neg h9, if_neg h5, if_neg h5', if_pos h14] at hl ⊢; (try simp only [true_and, and_true]); omega
  by_cases h15 : o = 15
  · simp only [if_neg h1, if_neg h3, if_neg h9, if_neg h5, if_neg h5', if_neg h14, if_pos h15] at hl ⊢; (try simp only [true_and, and_true]); omega
  simp only [if_neg h1, if_neg h3, if_neg h9, if_neg h5, if_neg h5', if_neg h14, if_neg h15] at hl ⊢; (try simp only [true_and, and_true]); omega
def jmp (o : Int) : Prop := o = 14 ∨ o = 15
instance (o : Int) : Decidable (jmp o) := by unfold jmp; infer_instance
def rchD (n : Nat) (dp : Nat → Int) (to d : Int) : Nat → Int := if to < n ∧ dp to.toNat = -1 then upd dp to.toNat d else dp
def rchB (n : Nat) (dp : Nat → Int) (to d : Int) : Prop := (n : Int) ≤ to ∨ rchD n dp to d to.toNat = d
def balP (c : Cd) : Nat → Nat → (Nat → Int) → Prop
  | 0, _, _ => True
  | r + 1, i, dp => (okOp (c.op i) ∧ effLo (c.op i) ≤ dp i ∧ dp i ≤ effHi (c.op i)) ∧
    (jmp (c.op i) → rchB c.n dp (c.arg i) (dp i + effBy (c.op i))) ∧
    (c.op i ≠ 14 → rchB c.n (if jmp (c.op i) then rchD c.n dp (c.arg i) (dp i + effBy (c.op i)) else dp) ((i + 1 : Nat) : Int) (dp i + effBy (c.op i))) ∧
    balP c r (i + 1) (if c.op i ≠ 14 then rchD c.n (if jmp (c.op i) then rchD c.n dp (c.arg i) (dp i + effBy (c.op i)) else dp) ((i + 1 : Nat) : Int) (dp i + effBy (c.op i)) else (if jmp (c.op i) then rchD c.n dp (c.arg i) (dp i + effBy (c.op i)) else dp))
def bad (dp : Nat → Int) (t : Nat) (d : Int) : Prop := 0 ≤ dp t ∧ dp t ≠ d
def depR (c : Cd) : Nat → Nat → (Nat → Int) → Prop
  | 0, _, _ => True
  | r + 1, i, dp => (0 ≤ dp i ∧ leftB (c.op i) (dp i)) ∧
    ((c.op i ≠ 14 ∧ i + 1 < c.n) → ¬ bad dp (i + 1) (leftV (c.op i) (dp i))) ∧
    (jmp (c.op i) → ¬ bad (if c.op i ≠ 14 ∧ i + 1 < c.n then upd dp (i + 1) (leftV (c.op i) (dp i)) else dp) (c.arg i).toNat (leftV (c.op i) (dp i))) ∧
    depR c r (i + 1) (if jmp (c.op i) then upd (if c.op i ≠ 14 ∧ i + 1 < c.n then upd dp (i + 1) (leftV (c.op i) (dp i)) else dp) (c.arg i).toNat (leftV (c.op i) (dp i)) else (if c.op i ≠ 14 ∧ i + 1 < c.n then upd dp (i + 1) (leftV (c.op i) (dp i)) else dp))
def Dv (dp : Nat → Int) : Prop := ∀ t, dp t = -1 ∨ (0 ≤ dp t ∧ dp t ≤ 16)
theorem Dv.upd {dp : Nat → Int} (h : Dv dp) {t : Nat} {d : Int} (h0 : 0 ≤ d) (h1 : d ≤ 16) : Dv (Cv.upd dp t d) := by
  intro j
  unfold Cv.upd
  split
  · exact .inr ⟨h0, h1⟩
  · exact h j
theorem rch_iff {n : Nat} {dp : Nat → Int} {to d : Int} (h : Dv dp) (h0 : 0 ≤ to) (hn : to < n) (hd : 0 ≤ d) (X : (Nat → Int) → Prop) : (rchB n dp to d ∧ X (rchD n dp to d)) ↔ (¬ bad dp to.toNat d ∧ X (upd dp to.toNat d)) := by
  have hv := h to.toNat
  unfold rchB rchD bad
  by_cases hm : dp to.toNat = -1
  · rw [if_pos ⟨hn, hm⟩, upd_same]
    constructor
    · rintro ⟨_, hx⟩; exact ⟨fun hb => by omega, hx⟩
    · rintro ⟨_, hx⟩; exact ⟨.inr rfl, hx⟩
  · rw [if_neg (fun hb => hm hb.2)]
    constructor
    · rintro ⟨h1, hx⟩
      have h2 : dp to.toNat = d := by omega
      exact ⟨fun hb => hb.2 h2, by rw [upd_id h2]; exact hx⟩
    · rintro ⟨h1, hx⟩
      have h2 : dp to.toNat = d := by
        rcases hv with hv | hv
        · exact absurd hv hm
        · exact Classical.not_not.1 fun h3 => h1 ⟨hv.1, h3⟩
      exact ⟨.inr h2, by rw [upd_id h2] at hx; exact hx⟩
theorem rch_end {n : Nat} {dp : Nat → Int} {d : Int} : rchB n dp ((n : Nat) : Int) d ∧ rchD n dp ((n : Nat) : Int) d = dp := by
  unfold rchB rchD
  exact ⟨.inl (Int.le_refl _), if_neg (by omega)⟩
theorem upd_comm {f : Nat → Int} {a b : Nat} {d : Int} : upd (upd f a d) b d = upd (upd f b d) a d := by
  funext j
  unfold upd
  split <;> split <;> simp_all
theorem bal_dep (c : Cd) (hok : ∀ i, i < c.n → okOp (c.op i)) (harg : ∀ i, i < c.n → jmp (c.op i) → (i : Int) + 1 ≤ c.arg i ∧ c.arg i ≤ (c.n : Int) - 1) : ∀ (r i : Nat) (dp : Nat → Int), i + r = c.n → Dv dp → (balP c r i dp ↔ depR c r i dp) := by
  intro r
  induction r with
  | zero => intro i dp _ _; exact Iff.rfl
  | succ r ih =>
    intro i dp hi hv
    have ho := hok i (by omega)
    have hvi := hv i
    have h16 : dp i ≤ 16 := by omega
    rw [balP, depR]
    have e1 := eff_left ho h16
    by_cases hl' : ¬ (0 ≤ dp i ∧ leftB (c.op i) (dp i))
    · constructor
      · rintro ⟨⟨_, h2⟩, _⟩; exact absurd (e1.1 h2) hl'
      · rintro ⟨h2, _⟩; exact absurd h2 hl'
    have hl := Classical.not_not.1 hl'
    obtain ⟨v1, v2, v3⟩ := eff_val ho hl.1 h16 hl.2
    have hA : (okOp (c.op i) ∧ effLo (c.op i) ≤ dp i ∧ dp i ≤ effHi (c.op i)) ↔ (0 ≤ dp i ∧ leftB (c.op i) (dp i)) := ⟨fun _ => hl, fun _ => ⟨ho, e1.2 hl⟩⟩
    rw [hA, v1]
    refine and_congr_right fun _ => ?_
    generalize leftV (c.op i) (dp i) = d at *
    by_cases hj : jmp (c.op i)
    · obtain ⟨a1, a2⟩ := harg i (by omega) hj
      simp only [hj, if_true, true_implies]
      by_cases h14 : c.op i = 14
      · simp only [h14, ne_eq, not_true_eq_false, false_and, if_false, false_implies, true_and]
        rw [rch_iff hv (by omega) (by omega) v2 (fun f => balP c r (i + 1) f)]
        exact and_congr_right fun _ => ih (i + 1) _ (by omega) (hv.upd v2 v3)
      · have hin : c.op i ≠ 14 ∧ i + 1 < c.n := ⟨h14, by omega⟩
        simp only [h14, ne_eq, not_false_eq_true, true_and, if_true, true_implies, show i + 1 < c.n from hin.2]
        have key1 := rch_iff (n := c.n) hv (to := c.arg i) (by omega) (by omega) v2 (fun f => rchB c.n f ((i + 1 : Nat) : Int) d ∧ balP c r (i + 1) (rchD c.n f ((i + 1 : Nat) : Int) d))
        have key2 := rch_iff (n := c.n) (hv.upd (t := (c.arg i).toNat) v2 v3) (to := ((i + 1 : Nat) : Int)) (by omega) (by omega) v2 (fun f => balP c r (i + 1) f)
        rw [key1, key2, Int.toNat_natCast, upd_comm, ih (i + 1) _ (by omega) ((hv.upd v2 v3).upd v2 v3)]
        have hb : ∀ x y : Nat, (¬ bad dp x d ∧ ¬ bad (upd dp x d) y d) ↔ (¬ bad dp x d ∧ ¬ bad dp y d) := by
          intro x y
          refine and_congr_right fun hx => ?_
          by_cases hxy : y = x
          · subst hxy
            refine ⟨fun _ => hx, fun _ h => h.2 (upd_same _ _ _)⟩
          · unfold bad; rw [upd_ne hxy]
        constructor
        · rintro ⟨p1, p2, p3⟩
          have := (hb _ _).1 ⟨p1, p2⟩
          have q := (hb (i + 1) (c.arg i).toNat).2 ⟨this.2, this.1⟩
          exact ⟨q.1, q.2, p3⟩
        · rintro ⟨p1, p2, p3⟩
          have := (hb _ _).1 ⟨p1, p2⟩
          have q := (hb (c.arg i).toNat (i + 1)).2 ⟨this.2, this.1⟩
          exact ⟨q.1, q.2, p3⟩
    · have h14 : c.op i ≠ 14 := fun h => hj (.inl h)
      simp only [hj, if_false, false_implies, true_and]
      by_cases hin : i + 1 < c.n
      · simp only [h14, ne_eq, not_false_eq_true, true_and, hin, if_true, true_implies]
        rw [rch_iff hv (by omega) (by omega) v2 (fun f => balP c r (i + 1) f), Int.toNat_natCast]
        exact and_congr_right fun _ => ih (i + 1) _ (by omega) (hv.upd v2 v3)
      · have hn : i + 1 = c.n := by omega
        simp only [h14, ne_eq, not_false_eq_true, true_and, hin, if_true, if_false, true_implies, false_implies]
        rw [hn]
        obtain ⟨g1, g2⟩ := rch_end (n := c.n) (dp := dp) (d := d)
        rw [g2]
        have hr : r = 0 := by omega
        subst hr
        exact ⟨fun h => h.2, fun h => ⟨g1, h⟩⟩
theorem bal_ok (c : Cd) : ∀ (r i : Nat) (dp : Nat → Int), balP c r i dp → ∀ j, i ≤ j → j < i + r → okOp (c.op j) := by
  intro r
  induction r with
  | zero => intro i dp _ j h1 h2; omega
  | succ r ih =>
    intro i dp h j h1 h2
    rw [balP] at h
    by_cases hj : j = i
    · subst hj; exact h.1.1
    · exact ih (i + 1) _ h.2.2.2 j (by omega) (by omega)
def zero : Nat → Int := fun _ => 0
def dp0 : Nat → Int := fun j => if j = 0 then 0 else -1
def jmps (c : Cd) (oL oW : Nat → Int) : Prop := ∀ i, i < c.n → jmp (c.op i) → oL (c.arg i).toNat = oL i ∧ oW (c.arg i).toNat = oW i
def VP (c : Cd) : Prop := (∀ i, i < c.n → rng c i ∧ stopOk c i) ∧ (∃ q, plcP c c.n 0 ⟨zero, zero, -1, -1⟩ = some q ∧ (q.lo = -1 ∧ q.wa = -1) ∧ jmps c q.oL q.oW) ∧ balP c c.n 0 dp0
def VR (c : Cd) : Prop := (∀ i, i < c.n → stopOk c i ∧ opnd c i) ∧ (∃ q, regR c c.n 0 ⟨zero, zero, 0, zero, -1⟩ = some q ∧ (q.m = 0 ∧ q.wa < 0) ∧ jmps c q.L q.W) ∧ depR c c.n 0 dp0
theorem Dv0 : Dv dp0 := by
  intro t
  unfold dp0
  split
  · exact .inr ⟨by decide, by decide⟩
  · exact .inl rfl
theorem Stk0 : Stk 0 ⟨zero, zero, 0, zero, -1⟩ := ⟨fun k hk => by simp at hk, fun k hk => by simp at hk, fun k hk => by simp at hk, .inl rfl⟩
theorem reg_wa (c : Cd) : ∀ (r i : Nat) (q q' : Rg), (q.wa = -1 ∨ 0 ≤ q.wa) → regR c r i q = some q' → (q'.wa = -1 ∨ 0 ≤ q'.wa) := by
  intro r
  induction r with
  | zero => intro i q q' h e; cases e; exact h
  | succ r ih =>
    intro i q q' h e
    rw [regR] at e
    split at e
    · cases e
    split at e
    · refine ih (i + 1) _ _ ?_ e
      exact h
    split at e
    · split at e
      · cases e
      · refine ih (i + 1) _ _ ?_ e
        exact h
    split at e
    · refine ih (i + 1) _ _ ?_ e
      right; simp only; omega
    split at e
    · split at e
      · cases e
      · refine ih (i + 1) _ _ ?_ e
        exact .inl rfl
    · refine ih (i + 1) _ _ ?_ e
      exact h
theorem VP_VR (c : Cd) : VP c ↔ VR c := by
  have fin : ∀ q, regR c c.n 0 ⟨zero, zero, 0, zero, -1⟩ = some q → ((q.top = -1 ∧ q.wa = -1) ↔ (q.m = 0 ∧ q.wa < 0)) := by
    intro q hq
    have h1 := reg_stk c c.n 0 _ q (by omega) (fun k hk => by simp at hk) hq
    have h2 := reg_wa c c.n 0 _ q (.inl rfl) hq
    unfold Rg.top
    by_cases hm : 0 < q.m
    · have := h1 (q.m - 1) (by omega)
      rw [if_pos hm]; omega
    · rw [if_neg hm]; omega
  constructor
  · rintro ⟨h1, ⟨q, h2, h3, h4⟩, h5⟩
    have hok : ∀ i, i < c.n → okOp (c.op i) := fun i hi => bal_ok c c.n 0 dp0 h5 i (by omega) (by omega)
    have harg : ∀ i, i < c.n → jmp (c.op i) → (i : Int) + 1 ≤ c.arg i ∧ c.arg i ≤ (c.n : Int) - 1 := fun i hi hj => rng_jump hj (h1 i hi).1
    have e := plc_reg c hok c.n 0 ⟨zero, zero, 0, zero, -1⟩ (by omega) Stk0
    have e0 : Rg.pl ⟨zero, zero, 0, zero, -1⟩ = ⟨zero, zero, -1, -1⟩ := rfl
    rw [e0, h2] at e
    obtain ⟨q', g1, g2⟩ : ∃ q', regR c c.n 0 ⟨zero, zero, 0, zero, -1⟩ = some q' ∧ q'.pl = q := by
      cases hr : regR c c.n 0 ⟨zero, zero, 0, zero, -1⟩ with
      | none => rw [hr] at e; cases e
      | some q' => rw [hr] at e; simp only [Option.map_some, Option.some.injEq] at e; exact ⟨q', rfl, e.symm⟩
    subst g2
    refine ⟨fun i hi => ⟨(h1 i hi).2, ?_⟩, ⟨q', g1, (fin q' g1).1 h3, h4⟩, (bal_dep c hok harg c.n 0 dp0 (by omega) Dv0).1 h5⟩
    by_cases h17 : c.op i = 17 ∨ c.op i = 20
    · exact opnd_17 h17
    · exact (opnd_rng (hok i hi) (fun h => h17 (.inl h)) (fun h => h17 (.inr h))).2 (h1 i hi).1
  · rintro ⟨h1, ⟨q, h2, h3, h4⟩, h5⟩
    have hok : ∀ i, i < c.n → okOp (c.op i) := fun i hi => opnd_ok (h1 i hi).2
    have hr : ∀ i, i < c.n → rng c i := by
      intro i hi
      by_cases h17 : c.op i = 17 ∨ c.op i = 20
      · exact (rng_17 h17).2 (plc_args c c.n 0 _ q (by omega) Stk0 h2 i (by omega) hi h17)
      · exact (opnd_rng (hok i hi) (fun h => h17 (.inl h)) (fun h => h17 (.inr h))).1 (h1 i hi).2
    have harg : ∀ i, i < c.n → jmp (c.op i) → (i : Int) + 1 ≤ c.arg i ∧ c.arg i ≤ (c.n : Int) - 1 := fun i hi hj => rng_jump hj (hr i hi)
    have e := plc_reg c hok c.n 0 ⟨zero, zero, 0, zero, -1⟩ (by omega) Stk0
    rw [h2] at e
    exact ⟨fun i hi => ⟨hr i hi, (h1 i hi).1⟩, ⟨q.pl, e, (fin q h2).2 h3, h4⟩, (bal_dep c hok harg c.n 0 dp0 (by omega) Dv0).2 h5⟩
end Go.Proofs.Cv
/- What the small functions of the two checks of code compute. -/
namespace Go.Proofs.Ythegipdgillngaa
open Go Go.Am Go.Proofs
set_option linter.unusedSimpArgs false
set_option linter.unusedVariables false
def ins (op arg : Nat → Int) : Nat → List V := fun j => [i64 (op j), i64 (arg j)]
noncomputable def E2 : Env := { P := Try.prog, glob := fun _ => none, ext := fun _ _ => none, way := way, lit := fun f => f == 17, code := fun f => (Try.prog.funcs[f]?).bind annF, sett := fun _ => true }
theorem hW2 : WF E2 := WF.of E2 (fun _ => rfl) (by kernel_rfl)
theorem hX2 : SoundX E2 := SoundX.none fun _ _ => rfl
theorem sc2 {f : FuncId} {args : List V} {L : List (Option Chunk)} {cr : CRes} : SC E2 f args L cr ↔ SC E f args L cr :=
  ⟨fun h => ⟨h.1, fun β S w us h1 h2 h3 => h.2 β S w us h1 h2 ⟨h3.rd, h3.inv⟩⟩, fun h => ⟨h.1, fun β S w us h1 h2 h3 => h.2 β S w us h1 h2 ⟨h3.rd, h3.inv⟩⟩⟩
theorem SC.g2 {n : Nat} {f : FuncId} {args : List V} {L : List (Option Chunk)} {cr : CRes} (h : callG E2 n f args L K = some (.c cr)) : SC E2 f args L cr := by
  obtain ⟨cr', e1, e2⟩ := (sound_G hW2 hX2 n).1 _ _ _ _ _ h
  simp only [K, Option.some.injEq, Ans.c.injEq] at e1
  rwa [e1] at e2
abbrev st (s : ByteArray) : V := .sc (.string s)
def codV (nm : ByteArray) (ps vs : Int) (n : Nat) (op arg : Nat → Int) : V := .agg [st nm, i64 ps, i64 vs, .ro 2 n (ins op arg)]
theorem g69 (nm : ByteArray) (ps vs : Int) (n : Nat) (op arg : Nat → Int) (i : Nat) : callG E2 20 69 [codV nm ps vs n op arg, i64 i] [] K =
  if (0 : Int) ≤ (i : Int) ∧ (i : Int) < (n : Int) then
   if (op (Int.toNat (i : Int)) == (1 : Int)) = true then
    some (Ans.c (CRes.ret (V.tup [i64 (-2147483647), i64 2147483647]) []))
   else
    if (op (Int.toNat (i : Int)) == (2 : Int)) = true then
     some (Ans.c (CRes.ret (V.tup [i64 0, i64 (w (vs - (1 : Int)))]) []))
    else
     if (op (Int.toNat (i : Int)) == (3 : Int)) = true then
      some (Ans.c (CRes.ret (V.tup [i64 0, i64 (w (vs - (1 : Int)))]) []))
     else
      if (op (Int.toNat (i : Int)) == (4 : Int)) = true then
       some (Ans.c (CRes.ret (V.tup [i64 0, i64 5]) []))
      else
       if (op (Int.toNat (i : Int)) == (14 : Int)) = true then
        some (Ans.c (CRes.ret (V.tup [i64 (w ((i : Int) + (1 : Int))), i64 (w ((n : Int) - (1 : Int)))]) []))
       else
        if (op (Int.toNat (i : Int)) == (15 : Int)) = true then
         some (Ans.c (CRes.ret (V.tup [i64 (w ((i : Int) + (1 : Int))), i64 (w ((n : Int) - (1 : Int)))]) []))
        else
         if (op (Int.toNat (i : Int)) == (16 : Int)) = true then
          some (Ans.c (CRes.ret (V.tup [i64 1, i64 100]) []))
         else
          if (op (Int.toNat (i : Int)) == (17 : Int)) = true then
           some (Ans.c (CRes.ret (V.tup [i64 1, i64 (i : Int)]) []))
          else
           if (op (Int.toNat (i : Int)) == (20 : Int)) = true then
            some (Ans.c (CRes.ret (V.tup [i64 1, i64 (i : Int)]) []))
           else
            if (op (Int.toNat (i : Int)) == (18 : Int)) = true then
             some (Ans.c (CRes.ret (V.tup [i64 0, i64 1000000]) []))
            else
             if (op (Int.toNat (i : Int)) == (19 : Int)) = true then
              some (Ans.c (CRes.ret (V.tup [i64 0, i64 1000000]) []))
             else
              if (op (Int.toNat (i : Int)) == (23 : Int)) = true then
               some (Ans.c (CRes.ret (V.tup [i64 0, i64 7999999]) []))
              else
               if (op (Int.toNat (i : Int)) == (24 : Int)) = true then
                some (Ans.c (CRes.ret (V.tup [i64 0, i64 2147483647]) []))
               else
                if (op (Int.toNat (i : Int)) == (25 : Int)) = true then
                 some (Ans.c (CRes.ret (V.tup [i64 0, i64 2147483647]) []))
                else
                 if (op (Int.toNat (i : Int)) == (26 : Int)) = true then
                  some (Ans.c (CRes.ret (V.tup [i64 0, i64 99]) []))
                 else
                  if (op (Int.toNat (i : Int)) == (27 : Int)) = true then
                   some (Ans.c (CRes.ret (V.tup [i64 0, i64 999]) []))
                  else
                   some (Ans.c (CRes.ret (V.tup [i64 0, i64 0]) []))
  else
   none := by kernel_rfl

theorem g75 (o : Int) : callG E2 20 75 [i64 o] [] K =
  if decide (o ≤ (15 : Int)) = true then
   some (Ans.c (CRes.ret (bo ((o != (3 : Int)))) []))
  else
   some (Ans.c (CRes.ret (bo false) [])) := by kernel_rfl

theorem g77 (o : Int) : callG E2 20 77 [i64 o] [] K =
  if decide (o ≥ (1 : Int)) = true then
   if decide (o ≤ (2 : Int)) = true then
    some (Ans.c (CRes.ret (V.tup [V.agg [i64 0, i64 15, i64 1], bo true]) []))
   else
    if (o == (4 : Int)) = true then
     some (Ans.c (CRes.ret (V.tup [V.agg [i64 0, i64 15, i64 1], bo true]) []))
    else
     if (o == (3 : Int)) = true then
      some (Ans.c (CRes.ret (V.tup [V.agg [i64 1, i64 1, i64 (-1)], bo true]) []))
     else
      if (o == (21 : Int)) = true then
       some (Ans.c (CRes.ret (V.tup [V.agg [i64 1, i64 1, i64 (-1)], bo true]) []))
      else
       if (o == (22 : Int)) = true then
        some (Ans.c (CRes.ret (V.tup [V.agg [i64 1, i64 1, i64 (-1)], bo true]) []))
       else
        if (o == (20 : Int)) = true then
         some (Ans.c (CRes.ret (V.tup [V.agg [i64 1, i64 1, i64 (-1)], bo true]) []))
        else
         if (o == (9 : Int)) = true then
          some (Ans.c (CRes.ret (V.tup [V.agg [i64 1, i64 16, i64 0], bo true]) []))
         else
          if (o == (13 : Int)) = true then
           some (Ans.c (CRes.ret (V.tup [V.agg [i64 1, i64 16, i64 0], bo true]) []))
          else
           if decide (o ≥ (5 : Int)) = true then
            if decide (o ≤ (12 : Int)) = true then
             some (Ans.c (CRes.ret (V.tup [V.agg [i64 2, i64 16, i64 (-1)], bo true]) []))
            else
             if (o == (14 : Int)) = true then
              some (Ans.c (CRes.ret (V.tup [V.agg [i64 0, i64 16, i64 0], bo true]) []))
             else
              if (o == (15 : Int)) = true then
               some (Ans.c (CRes.ret (V.tup [V.agg [i64 1, i64 16, i64 (-1)], bo true]) []))
              else
               if decide (o ≥ (1 : Int)) = true then
                some (Ans.c (CRes.ret (V.tup [V.agg [i64 0, i64 0, i64 0], bo ((decide (o ≤ (28 : Int))))]) []))
               else
                some (Ans.c (CRes.ret (V.tup [V.agg [i64 0, i64 0, i64 0], bo false]) []))
           else
            if (o == (14 : Int)) = true then
             some (Ans.c (CRes.ret (V.tup [V.agg [i64 0, i64 16, i64 0], bo true]) []))
            else
             if (o == (15 : Int)) = true then
              some (Ans.c (CRes.ret (V.tup [V.agg [i64 1, i64 16, i64 (-1)], bo true]) []))
             else
              if decide (o ≥ (1 : Int)) = true then
               some (Ans.c (CRes.ret (V.tup [V.agg [i64 0, i64 0, i64 0], bo ((decide (o ≤ (28 : Int))))]) []))
              else
               some (Ans.c (CRes.ret (V.tup [V.agg [i64 0, i64 0, i64 0], bo false]) []))
  else
   if (o == (4 : Int)) = true then
    some (Ans.c (CRes.ret (V.tup [V.agg [i64 0, i64 15, i64 1], bo true]) []))
   else
    if (o == (3 : Int)) = true then
     some (Ans.c (CRes.ret (V.tup [V.agg [i64 1, i64 1, i64 (-1)], bo true]) []))
    else
     if (o == (21 : Int)) = true then
      some (Ans.c (CRes.ret (V.tup [V.agg [i64 1, i64 1, i64 (-1)], bo true]) []))
     else
      if (o == (22 : Int)) = true then
       some (Ans.c (CRes.ret (V.tup [V.agg [i64 1, i64 1, i64 (-1)], bo true]) []))
      else
       if (o == (20 : Int)) = true then
        some (Ans.c (CRes.ret (V.tup [V.agg [i64 1, i64 1, i64 (-1)], bo true]) []))
       else
        if (o == (9 : Int)) = true then
         some (Ans.c (CRes.ret (V.tup [V.agg [i64 1, i64 16, i64 0], bo true]) []))
        else
         if (o == (13 : Int)) = true then
          some (Ans.c (CRes.ret (V.tup [V.agg [i64 1, i64 16, i64 0], bo true]) []))
         else
          if decide (o ≥ (5 : Int)) = true then
           if decide (o ≤ (12 : Int)) = true then
            some (Ans.c (CRes.ret (V.tup [V.agg [i64 2, i64 16, i64 (-1)], bo true]) []))
           else
            if (o == (14 : Int)) = true then
             some (Ans.c (CRes.ret (V.tup [V.agg [i64 0, i64 16, i64 0], bo true]) []))
            else
             if (o == (15 : Int)) = true then
              some (Ans.c (CRes.ret (V.tup [V.agg [i64 1, i64 16, i64 (-1)], bo true]) []))
             else
              if decide (o ≥ (1 : Int)) = true then
               some (Ans.c (CRes.ret (V.tup [V.agg [i64 0, i64 0, i64 0], bo ((decide (o ≤ (28 : Int))))]) []))
              else
               some (Ans.c (CRes.ret (V.tup [V.agg [i64 0, i64 0, i64 0], bo false]) []))
          else
           if (o == (14 : Int)) = true then
            some (Ans.c (CRes.ret (V.tup [V.agg [i64 0, i64 16, i64 0], bo true]) []))
           else
            if (o == (15 : Int)) = true then
             some (Ans.c (CRes.ret (V.tup [V.agg [i64 1, i64 16, i64 (-1)], bo true]) []))
            else
             if decide (o ≥ (1 : Int)) = true then
              some (Ans.c (CRes.ret (V.tup [V.agg [i64 0, i64 0, i64 0], bo ((decide (o ≤ (28 : Int))))]) []))
             else
              some (Ans.c (CRes.ret (V.tup [V.agg [i64 0, i64 0, i64 0], bo false]) [])) := by kernel_rfl

theorem rng_sc {nm : ByteArray} {ps vs : Int} {n i : Nat} {op arg : Nat → Int} (hi : i < n) (hn : n ≤ 300) (h0 : 0 ≤ vs) (hv : vs ≤ 12) : SC E2 69 [codV nm ps vs n op arg, i64 i] [] (.ret (.tup [i64 (Cv.rngL (op i) i), i64 (Cv.rngH (op i) i n vs)]) []) := by
  refine SC.g2 (n := 20) ((g69 nm ps vs n op arg i).trans ?_)
  have e1 : w (vs - 1) = vs - 1 := w_in (by unfold inR; omega)
  have e2 : w ((i : Int) + 1) = (i : Int) + 1 := w_in (by unfold inR; omega)
  have e3 : w ((n : Int) - 1) = (n : Int) - 1 := w_in (by unfold inR; omega)
  rw [if_pos (by omega)]
  simp only [Int.toNat_natCast, e1, e2, e3]
  by_cases h1 : op i = 1
  · rw [if_pos (show (op i == (1 : Int)) = true by simpa using h1)]; simp [Cv.rngL, Cv.rngH, h1]
  rw [if_neg (show ¬ (op i == (1 : Int)) = true by simpa using h1)]
  by_cases h2 : op i = 2
  · rw [if_pos (show (op i == (2 : Int)) = true by simpa using h2)]; simp [Cv.rngL, Cv.rngH, h2]
  rw [if_neg (show ¬ (op i == (2 : Int)) = true by simpa using h2)]
  by_cases h3 : op i = 3
  · rw [if_pos (show (op i == (3 : Int)) = true by simpa using h3)]; simp [Cv.rngL, Cv.rngH, h3]
  rw [if_neg (show ¬ (op i == (3 : Int)) = true by simpa using h3)]
  by_cases h4 : op i = 4
  · rw [if_pos (show (op i == (4 : Int)) = true by simpa using h4)]; simp [Cv.rngL, Cv.rngH, h4]
  rw [if_neg (show ¬ (op i == (4 : Int)) = true by simpa using h4)]
  by_cases h14 : op i = 14
  · rw [if_pos (show (op i == (14 : Int)) = true by simpa using h14)]; simp [Cv.rngL, Cv.rngH, h14]
  rw [if_neg (show ¬ (op i == (14 : Int)) = true by simpa using h14)]
  by_cases h15 : op i = 15
  · rw [if_pos (show (op i == (15 : Int)) = true by simpa using h15)]; simp [Cv.rngL, Cv.rngH, h15]
  rw [if_neg (show ¬ (op i == (15 : Int)) = true by simpa using h15)]
  by_cases h16 : op i = 16
  · rw [if_pos (show (op i == (16 : Int)) = true by simpa using h16)]; simp [Cv.rngL, Cv.rngH, h16]
  rw [if_neg (show ¬ (op i == (16 : Int)) = true by simpa using h16)]
  by_cases h17 : op i = 17
  · rw [if_pos (show (op i == (17 : Int)) = true by simpa using h17)]; simp [Cv.rngL, Cv.rngH, h17]
  rw [if_neg (show ¬ (op i == (17 : Int)) = true by simpa using h17)]
  by_cases h20 : op i = 20
  · rw [if_pos (show (op i == (20 : Int)) = true by simpa using h20)]; simp [Cv.rngL, Cv.rngH, h20]
  rw [if_neg (show ¬ (op i == (20 : Int)) = true by simpa using h20)]
  by_cases h18 : op i = 18
  · rw [if_pos (show (op i == (18 : Int)) = true by simpa using h18)]; simp [Cv.rngL, Cv.rngH, h18]
  rw [if_neg (show ¬ (op i == (18 : Int)) = true by simpa using h18)]
  by_cases h19 : op i = 19
  · rw [if_pos (show (op i == (19 : Int)) = true by simpa using h19)]; simp [Cv.rngL, Cv.rngH, h19]
  rw [if_neg (show ¬ (op i == (19 : Int)) = true by simpa using h19)]
  by_cases h23 : op i = 23
  · rw [if_pos (show (op i == (23 : Int)) = true by simpa using h23)]; simp [Cv.rngL, Cv.rngH, h23]
  rw [if_neg (show ¬ (op i == (23 : Int)) = true by simpa using h23)]
  by_cases h24 : op i = 24
  · rw [if_pos (show (op i == (24 : Int)) = true by simpa using h24)]; simp [Cv.rngL, Cv.rngH, h24]
  rw [if_neg (show ¬ (op i == (24 : Int)) = true by simpa using h24)]
  by_cases h25 : op i = 25
  · rw [if_pos (show (op i == (25 : Int)) = true by simpa using h25)]; simp [Cv.rngL, Cv.rngH, h25]
  rw [if_neg (show ¬ (op i == (25 : Int)) = true by simpa using h25)]
  by_cases h26 : op i = 26
  · rw [if_pos (show (op i == (26 : Int)) = true by simpa using h26)]; simp [Cv.rngL, Cv.rngH, h26]
  rw [if_neg (show ¬ (op i == (26 : Int)) = true by simpa using h26)]
  by_cases h27 : op i = 27
  · rw [if_pos (show (op i == (27 : Int)) = true by simpa using h27)]; simp [Cv.rngL, Cv.rngH, h27]
  rw [if_neg (show ¬ (op i == (27 : Int)) = true by simpa using h27)]
  simp [Cv.rngL, Cv.rngH, h1, h2, h3, h4, h14, h15, h16, h17, h20, h18, h19, h23, h24, h25, h26, h27]
theorem pureP_sc (o : Int) : SC E2 75 [i64 o] [] (.ret (bo (Cv.pureP o)) []) := by
  refine SC.g2 (n := 20) ((g75 o).trans ?_)
  unfold Cv.pureP
  by_cases h : o ≤ 15
  · rw [if_pos (by simpa using h)]; simp [h]; rfl
  · rw [if_neg (by simpa using h)]; simp [h]
def okB (o : Int) : Bool := decide (1 ≤ o) && decide (o ≤ 28)
theorem eff_sc (o : Int) : SC E2 77 [i64 o] [] (.ret (.tup [.agg [i64 (Cv.effLo o), i64 (Cv.effHi o), i64 (Cv.effBy o)], bo (okB o)]) []) := by
  refine SC.g2 (n := 20) ((g77 o).trans ?_)
  by_cases h1 : o = 1
  · subst h1; rfl
  by_cases h2 : o = 2
  · subst h2; rfl
  by_cases h4 : o = 4
  · subst h4; rfl
  by_cases h3 : o = 3
  · subst h3; rfl
  by_cases h21 : o = 21
  · subst h21; rfl
  by_cases h22 : o = 22
  · subst h22; rfl
  by_cases h20 : o = 20
  · subst h20; rfl
  by_cases h9 : o = 9
  · subst h9; rfl
  by_cases h13 : o = 13
  · subst h13; rfl
  by_cases h14 : o = 14
  · subst h14; rfl
  by_cases h15 : o = 15
  · subst h15; rfl
  by_cases h5 : o = 5
  · subst h5; rfl
  by_cases h6 : o = 6
  · subst h6; rfl
  by_cases h7 : o = 7
  · subst h7; rfl
  by_cases h8 : o = 8
  · subst h8; rfl
  by_cases h10 : o = 10
  · subst h10; rfl
  by_cases h11 : o = 11
  · subst h11; rfl
  by_cases h12 : o = 12
  · subst h12; rfl
  have h512 : ¬ (5 ≤ o ∧ o ≤ 12) := by omega
  have e : Cv.effLo o = 0 ∧ Cv.effHi o = 0 ∧ Cv.effBy o = 0 := by simp [Cv.effLo, Cv.effHi, Cv.effBy, h1, h2, h4, h3, h21, h22, h20, h9, h13, h14, h15, h5, h6, h7, h8, h10, h11, h12, h512]
  rw [e.1, e.2.1, e.2.2]
  unfold okB
  by_cases a1 : 1 ≤ o
  · have a2 : ¬ o ≤ 2 := by omega
    by_cases a5 : 5 ≤ o
    · have a12 : ¬ o ≤ 12 := by omega
      simp [a1, a2, a5, a12, h1, h2, h4, h3, h21, h22, h20, h9, h13, h14, h15, h5, h6, h7, h8, h10, h11, h12]
    · simp [a1, a2, a5, h1, h2, h4, h3, h21, h22, h20, h9, h13, h14, h15, h5, h6, h7, h8, h10, h11, h12]
  · have a5 : ¬ 5 ≤ o := by omega
    simp [a1, a5, h1, h2, h4, h3, h21, h22, h20, h9, h13, h14, h15, h5, h6, h7, h8, h10, h11, h12]
def mkC (vs : Int) (n : Nat) (op arg : Nat → Int) : Cv.Cd := ⟨op, arg, n, vs⟩
end Go.Proofs.Ythegipdgillngaa
/- The places of instructions (70), walked. -/
namespace Go.Proofs.Ythegipdgillngaa
open Go Go.Am Go.Proofs
set_option linter.unusedSimpArgs false
set_option linter.unusedVariables false
def QI1 (args : List V) : Prop := ∃ o : Int, args = [i64 o]
def vPuP : List V → V
  | [.sc (.int .i64 o)] => bo (Cv.pureP o)
  | _ => .junk
noncomputable def C70 : CallT := ptab 75 QI1 vPuP (tab [])
theorem sC70 : SoundC E2 C70 := ptab_cons (fun args h => by obtain ⟨o, rfl⟩ := h; exact pureP_sc o) tab_nil
def r2 (x y : Nat → Int) : Nat → List V := fun j => [i64 (x j), i64 (y j)]
def r1 (x : Nat → Int) : Nat → List V := fun j => [i64 (x j)]
def cd (n : Nat) (op arg : Nat → Int) : V := .ro 2 n (ins op arg)
def S70 (n : Nat) (op arg : Nat → Int) (i : Nat) (oL oW : Nat → Int) (lo wa : Int) : St := { fr := [.junk, .junk, .junk, .junk, .sl 0 2 0 n, .ptr 1 0] ++ jk 6 ++ [cd n op arg, i64 n, i64 i] ++ jk 69, H := hp [some (.row 104 2 n (r2 oL oW)), some (.blk [i64 lo, i64 wa])], nx := 2, rt := 0, me := 70 }
def T70 (n : Nat) (oL oW : Nat → Int) (lo wa : Int) : St := { fr := [.junk, .junk, .junk, .junk, .sl 0 2 0 n, .ptr 1 0] ++ jk 78, H := hp [some (.row 104 2 n (r2 oL oW)), some (.blk [i64 lo, i64 wa])], nx := 2, rt := 0, me := 70 }
def T70r : St := { fr := [.junk, .junk, .sc (.slice none 0 0), bo false] ++ jk 80, H := hp [], nx := 0, rt := 0, me := 70 }
theorem r70 (n : Nat) (op arg : Nat → Int) (i : Nat) (oL oW : Nat → Int) (lo_ wa : Int) (lo : LoopT) : loopK E2 C70 lo 0 28720 (bodyOf E2 70 0) (S70 n op arg i oL oW lo_ wa) (KC2 48 12) =
  if decide ((i : Int) < (n : Int)) = true then
   if (0 : Int) ≤ (i : Int) ∧ (i : Int) < (n : Int) then
    if (0 : Int) ≤ (i : Int) ∧ (i : Int) < (n : Int) then
     if 0 + Int.toNat (i : Int) < n ∧ 2 = 2 then
      if (wa != (-1 : Int)) = true then
       if (op (Int.toNat (i : Int)) != (20 : Int)) = true then
        cl (QI1 ([i64 (op (Int.toNat (i : Int)))]) ∧ ([] : List (Option Chunk)) = []) (
         if (!Cv.pureP (op (Int.toNat (i : Int)))) = true then
          some (Ans.l Ex.ret { fr := [V.junk, V.junk, V.sc (Value.slice none 0 0), bo false] ++ jk 80, H := hp [], nx := 0, rt := 0, me := 70 })
         else
          if (op (Int.toNat (i : Int)) == (16 : Int)) = true then
           lo 0 28720 (bodyOf E2 70 0) ({ fr := [V.junk, V.junk, V.junk, V.junk, V.sl 0 2 0 n, V.ptr 1 0, V.junk, V.junk, V.junk, V.junk, V.junk, V.junk, V.ro 2 n (ins op arg), i64 (n : Int), i64 (w ((i : Int) + (1 : Int)))] ++ jk 69, H := hp [some (Chunk.row 104 2 n (putF true (0 + Int.toNat (i : Int)) 0 [i64 lo_, i64 wa] (r2 oL oW))), some (Chunk.blk [i64 (i : Int), i64 wa])], nx := 2, rt := 0, me := 70 }) (KC2 48 12)
          else
           if (op (Int.toNat (i : Int)) == (19 : Int)) = true then
            lo 0 28720 (bodyOf E2 70 0) ({ fr := [V.junk, V.junk, V.junk, V.junk, V.sl 0 2 0 n, V.ptr 1 0, V.junk, V.junk, V.junk, V.junk, V.junk, V.junk, V.ro 2 n (ins op arg), i64 (n : Int), i64 (w ((i : Int) + (1 : Int)))] ++ jk 69, H := hp [some (Chunk.row 104 2 n (putF true (0 + Int.toNat (i : Int)) 0 [i64 lo_, i64 wa] (r2 oL oW))), some (Chunk.blk [i64 lo_, i64 (i : Int)])], nx := 2, rt := 0, me := 70 }) (KC2 48 12)
           else
            if (op (Int.toNat (i : Int)) == (17 : Int)) = true then
             if (lo_ == (-1 : Int)) = true then
              some (Ans.l Ex.ret { fr := [V.junk, V.junk, V.sc (Value.slice none 0 0), bo false] ++ jk 80, H := hp [], nx := 0, rt := 0, me := 70 })
             else
              if (arg (Int.toNat (i : Int)) != w (lo_ + (1 : Int))) = true then
               some (Ans.l Ex.ret { fr := [V.junk, V.junk, V.sc (Value.slice none 0 0), bo false] ++ jk 80, H := hp [], nx := 0, rt := 0, me := 70 })
              else
               if (0 : Int) ≤ lo_ ∧ lo_ < (n : Int) then
                if 0 + Int.toNat lo_ < n ∧ 2 = 2 then
                 lo 0 28720 (bodyOf E2 70 0) ({ fr := [V.junk, V.junk, V.junk, V.junk, V.sl 0 2 0 n, V.ptr 1 0, V.junk, V.junk, V.junk, V.junk, V.junk, V.junk, V.ro 2 n (ins op arg), i64 (n : Int), i64 (w ((i : Int) + (1 : Int)))] ++ jk 69, H := hp [some (Chunk.row 104 2 n (putF true (0 + Int.toNat (i : Int)) 0 [i64 lo_, i64 wa] (r2 oL oW))), some (Chunk.blk [i64 (if 0 + Int.toNat lo_ = 0 + Int.toNat (i : Int) then lo_ else oL (0 + Int.toNat lo_)), i64 (if 0 + Int.toNat lo_ = 0 + Int.toNat (i : Int) then wa else oW (0 + Int.toNat lo_))])], nx := 2, rt := 0, me := 70 }) (KC2 48 12)
                else
                 none
               else
                none
            else
             if (op (Int.toNat (i : Int)) == (20 : Int)) = true then
              if (wa == (-1 : Int)) = true then
               some (Ans.l Ex.ret { fr := [V.junk, V.junk, V.sc (Value.slice none 0 0), bo false] ++ jk 80, H := hp [], nx := 0, rt := 0, me := 70 })
              else
               if (arg (Int.toNat (i : Int)) != w (wa + (1 : Int))) = true then
                some (Ans.l Ex.ret { fr := [V.junk, V.junk, V.sc (Value.slice none 0 0), bo false] ++ jk 80, H := hp [], nx := 0, rt := 0, me := 70 })
               else
                lo 0 28720 (bodyOf E2 70 0) ({ fr := [V.junk, V.junk, V.junk, V.junk, V.sl 0 2 0 n, V.ptr 1 0, V.junk, V.junk, V.junk, V.junk, V.junk, V.junk, V.ro 2 n (ins op arg), i64 (n : Int), i64 (w ((i : Int) + (1 : Int)))] ++ jk 69, H := hp [some (Chunk.row 104 2 n (putF true (0 + Int.toNat (i : Int)) 0 [i64 lo_, i64 wa] (r2 oL oW))), some (Chunk.blk [i64 lo_, i64 (-1)])], nx := 2, rt := 0, me := 70 }) (KC2 48 12)
             else
              lo 0 28720 (bodyOf E2 70 0) ({ fr := [V.junk, V.junk, V.junk, V.junk, V.sl 0 2 0 n, V.ptr 1 0, V.junk, V.junk, V.junk, V.junk, V.junk, V.junk, V.ro 2 n (ins op arg), i64 (n : Int), i64 (w ((i : Int) + (1 : Int)))] ++ jk 69, H := hp [some (Chunk.row 104 2 n (putF true (0 + Int.toNat (i : Int)) 0 [i64 lo_, i64 wa] (r2 oL oW))), some (Chunk.blk [i64 lo_, i64 wa])], nx := 2, rt := 0, me := 70 }) (KC2 48 12)) (
         none)
       else
        if (op (Int.toNat (i : Int)) == (16 : Int)) = true then
         lo 0 28720 (bodyOf E2 70 0) ({ fr := [V.junk, V.junk, V.junk, V.junk, V.sl 0 2 0 n, V.ptr 1 0, V.junk, V.junk, V.junk, V.junk, V.junk, V.junk, V.ro 2 n (ins op arg), i64 (n : Int), i64 (w ((i : Int) + (1 : Int)))] ++ jk 69, H := hp [some (Chunk.row 104 2 n (putF true (0 + Int.toNat (i : Int)) 0 [i64 lo_, i64 wa] (r2 oL oW))), some (Chunk.blk [i64 (i : Int), i64 wa])], nx := 2, rt := 0, me := 70 }) (KC2 48 12)
        else
         if (op (Int.toNat (i : Int)) == (19 : Int)) = true then
          lo 0 28720 (bodyOf E2 70 0) ({ fr := [V.junk, V.junk, V.junk, V.junk, V.sl 0 2 0 n, V.ptr 1 0, V.junk, V.junk, V.junk, V.junk, V.junk, V.junk, V.ro 2 n (ins op arg), i64 (n : Int), i64 (w ((i : Int) + (1 : Int)))] ++ jk 69, H := hp [some (Chunk.row 104 2 n (putF true (0 + Int.toNat (i : Int)) 0 [i64 lo_, i64 wa] (r2 oL oW))), some (Chunk.blk [i64 lo_, i64 (i : Int)])], nx := 2, rt := 0, me := 70 }) (KC2 48 12)
         else
          if (op (Int.toNat (i : Int)) == (17 : Int)) = true then
           if (lo_ == (-1 : Int)) = true then
            some (Ans.l Ex.ret { fr := [V.junk, V.junk, V.sc (Value.slice none 0 0), bo false] ++ jk 80, H := hp [], nx := 0, rt := 0, me := 70 })
           else
            if (arg (Int.toNat (i : Int)) != w (lo_ + (1 : Int))) = true then
             some (Ans.l Ex.ret { fr := [V.junk, V.junk, V.sc (Value.slice none 0 0), bo false] ++ jk 80, H := hp [], nx := 0, rt := 0, me := 70 })
            else
             if (0 : Int) ≤ lo_ ∧ lo_ < (n : Int) then
              if 0 + Int.toNat lo_ < n ∧ 2 = 2 then
               lo 0 28720 (bodyOf E2 70 0) ({ fr := [V.junk, V.junk, V.junk, V.junk, V.sl 0 2 0 n, V.ptr 1 0, V.junk, V.junk, V.junk, V.junk, V.junk, V.junk, V.ro 2 n (ins op arg), i64 (n : Int), i64 (w ((i : Int) + (1 : Int)))] ++ jk 69, H := hp [some (Chunk.row 104 2 n (putF true (0 + Int.toNat (i : Int)) 0 [i64 lo_, i64 wa] (r2 oL oW))), some (Chunk.blk [i64 (if 0 + Int.toNat lo_ = 0 + Int.toNat (i : Int) then lo_ else oL (0 + Int.toNat lo_)), i64 (if 0 + Int.toNat lo_ = 0 + Int.toNat (i : Int) then wa else oW (0 + Int.toNat lo_))])], nx := 2, rt := 0, me := 70 }) (KC2 48 12)
              else
               none
             else
              none
          else
           if (op (Int.toNat (i : Int)) == (20 : Int)) = true then
            if (wa == (-1 : Int)) = true then
             some (Ans.l Ex.ret { fr := [V.junk, V.junk, V.sc (Value.slice none 0 0), bo false] ++ jk 80, H := hp [], nx := 0, rt := 0, me := 70 })
            else
             if (arg (Int.toNat (i : Int)) != w (wa + (1 : Int))) = true then
              some (Ans.l Ex.ret { fr := [V.junk, V.junk, V.sc (Value.slice none 0 0), bo false] ++ jk 80, H := hp [], nx := 0, rt := 0, me := 70 })
             else
              lo 0 28720 (bodyOf E2 70 0) ({ fr := [V.junk, V.junk, V.junk, V.junk, V.sl 0 2 0 n, V.ptr 1 0, V.junk, V.junk, V.junk, V.junk, V.junk, V.junk, V.ro 2 n (ins op arg), i64 (n : Int), i64 (w ((i : Int) + (1 : Int)))] ++ jk 69, H := hp [some (Chunk.row 104 2 n (putF true (0 + Int.toNat (i : Int)) 0 [i64 lo_, i64 wa] (r2 oL oW))), some (Chunk.blk [i64 lo_, i64 (-1)])], nx := 2, rt := 0, me := 70 }) (KC2 48 12)
           else
            lo 0 28720 (bodyOf E2 70 0) ({ fr := [V.junk, V.junk, V.junk, V.junk, V.sl 0 2 0 n, V.ptr 1 0, V.junk, V.junk, V.junk, V.junk, V.junk, V.junk, V.ro 2 n (ins op arg), i64 (n : Int), i64 (w ((i : Int) + (1 : Int)))] ++ jk 69, H := hp [some (Chunk.row 104 2 n (putF true (0 + Int.toNat (i : Int)) 0 [i64 lo_, i64 wa] (r2 oL oW))), some (Chunk.blk [i64 lo_, i64 wa])], nx := 2, rt := 0, me := 70 }) (KC2 48 12)
      else
       if (op (Int.toNat (i : Int)) == (16 : Int)) = true then
        lo 0 28720 (bodyOf E2 70 0) ({ fr := [V.junk, V.junk, V.junk, V.junk, V.sl 0 2 0 n, V.ptr 1 0, V.junk, V.junk, V.junk, V.junk, V.junk, V.junk, V.ro 2 n (ins op arg), i64 (n : Int), i64 (w ((i : Int) + (1 : Int)))] ++ jk 69, H := hp [some (Chunk.row 104 2 n (putF true (0 + Int.toNat (i : Int)) 0 [i64 lo_, i64 wa] (r2 oL oW))), some (Chunk.blk [i64 (i : Int), i64 wa])], nx := 2, rt := 0, me := 70 }) (KC2 48 12)
       else
        if (op (Int.toNat (i : Int)) == (19 : Int)) = true then
         lo 0 28720 (bodyOf E2 70 0) ({ fr := [V.junk, V.junk, V.junk, V.junk, V.sl 0 2 0 n, V.ptr 1 0, V.junk, V.junk, V.junk, V.junk, V.junk, V.junk, V.ro 2 n (ins op arg), i64 (n : Int), i64 (w ((i : Int) + (1 : Int)))] ++ jk 69, H := hp [some (Chunk.row 104 2 n (putF true (0 + Int.toNat (i : Int)) 0 [i64 lo_, i64 wa] (r2 oL oW))), some (Chunk.blk [i64 lo_, i64 (i : Int)])], nx := 2, rt := 0, me := 70 }) (KC2 48 12)
        else
         if (op (Int.toNat (i : Int)) == (17 : Int)) = true then
          if (lo_ == (-1 : Int)) = true then
           some (Ans.l Ex.ret { fr := [V.junk, V.junk, V.sc (Value.slice none 0 0), bo false] ++ jk 80, H := hp [], nx := 0, rt := 0, me := 70 })
          else
           if (arg (Int.toNat (i : Int)) != w (lo_ + (1 : Int))) = true then
            some (Ans.l Ex.ret { fr := [V.junk, V.junk, V.sc (Value.slice none 0 0), bo false] ++ jk 80, H := hp [], nx := 0, rt := 0, me := 70 })
           else
            if (0 : Int) ≤ lo_ ∧ lo_ < (n : Int) then
             if 0 + Int.toNat lo_ < n ∧ 2 = 2 then
              lo 0 28720 (bodyOf E2 70 0) ({ fr := [V.junk, V.junk, V.junk, V.junk, V.sl 0 2 0 n, V.ptr 1 0, V.junk, V.junk, V.junk, V.junk, V.junk, V.junk, V.ro 2 n (ins op arg), i64 (n : Int), i64 (w ((i : Int) + (1 : Int)))] ++ jk 69, H := hp [some (Chunk.row 104 2 n (putF true (0 + Int.toNat (i : Int)) 0 [i64 lo_, i64 wa] (r2 oL oW))), some (Chunk.blk [i64 (if 0 + Int.toNat lo_ = 0 + Int.toNat (i : Int) then lo_ else oL (0 + Int.toNat lo_)), i64 (if 0 + Int.toNat lo_ = 0 + Int.toNat (i : Int) then wa else oW (0 + Int.toNat lo_))])], nx := 2, rt := 0, me := 70 }) (KC2 48 12)
             else
              none
            else
             none
         else
          if (op (Int.toNat (i : Int)) == (20 : Int)) = true then
           if (wa == (-1 : Int)) = true then
            some (Ans.l Ex.ret { fr := [V.junk, V.junk, V.sc (Value.slice none 0 0), bo false] ++ jk 80, H := hp [], nx := 0, rt := 0, me := 70 })
           else
            if (arg (Int.toNat (i : Int)) != w (wa + (1 : Int))) = true then
             some (Ans.l Ex.ret { fr := [V.junk, V.junk, V.sc (Value.slice none 0 0), bo false] ++ jk 80, H := hp [], nx := 0, rt := 0, me := 70 })
            else
             lo 0 28720 (bodyOf E2 70 0) ({ fr := [V.junk, V.junk, V.junk, V.junk, V.sl 0 2 0 n, V.ptr 1 0, V.junk, V.junk, V.junk, V.junk, V.junk, V.junk, V.ro 2 n (ins op arg), i64 (n : Int), i64 (w ((i : Int) + (1 : Int)))] ++ jk 69, H := hp [some (Chunk.row 104 2 n (putF true (0 + Int.toNat (i : Int)) 0 [i64 lo_, i64 wa] (r2 oL oW))), some (Chunk.blk [i64 lo_, i64 (-1)])], nx := 2, rt := 0, me := 70 }) (KC2 48 12)
          else
           lo 0 28720 (bodyOf E2 70 0) ({ fr := [V.junk, V.junk, V.junk, V.junk, V.sl 0 2 0 n, V.ptr 1 0, V.junk, V.junk, V.junk, V.junk, V.junk, V.junk, V.ro 2 n (ins op arg), i64 (n : Int), i64 (w ((i : Int) + (1 : Int)))] ++ jk 69, H := hp [some (Chunk.row 104 2 n (putF true (0 + Int.toNat (i : Int)) 0 [i64 lo_, i64 wa] (r2 oL oW))), some (Chunk.blk [i64 lo_, i64 wa])], nx := 2, rt := 0, me := 70 }) (KC2 48 12)
     else
      none
    else
     none
   else
    none
  else
   some (Ans.l (Ex.exit 0) { fr := [V.junk, V.junk, V.junk, V.junk, V.sl 0 2 0 n, V.ptr 1 0] ++ jk 78, H := hp [some (Chunk.row 104 2 n (r2 oL oW)), some (Chunk.blk [i64 lo_, i64 wa])], nx := 2, rt := 0, me := 70 }) := by kernel_rfl

theorem f70 (n : Nat) (op arg oL oW : Nat → Int) (a b : Int) (S1 : St) (P : Prop) : callK E2 C70 (ltab2 [⟨0, bodyOf E2 70 0, S1, P, .exit 0, T70 n oL oW a b, .ret, T70r⟩]) 70 [.ro 2 n (ins op arg)] [] K =
  if (n : Int) = (n : Int) ∧ (0 : Int) ≤ (n : Int) ∧ 0 < 2 ∧ 2 = 2 ∧ Int.toNat (n : Int) * 16 ≤ 281474976710656 ∧ Int.toNat (n : Int) ≤ maxLen ∧ (allOk 2 1 fun (x : Nat) => List.map V.sc (Array.toList (Value.cells (Value.agg #[Value.int IntKind.i64 0, Value.int IntKind.i64 0])))) = true then
   cl ((bodyOf E2 70 0) = (bodyOf E2 70 0) ∧ LeSt ({ fr := [V.junk, V.junk, V.junk, V.junk, V.sl 0 2 0 (Int.toNat (n : Int)), V.ptr 1 0, V.junk, V.junk, V.junk, V.junk, V.junk, V.junk, V.ro 2 n (ins op arg), i64 (n : Int), i64 0] ++ jk 69, H := hp [some (Chunk.row 104 2 (Int.toNat (n : Int)) fun (x : Nat) => List.map V.sc (Array.toList (Value.cells (Value.agg #[Value.int IntKind.i64 0, Value.int IntKind.i64 0])))), some (Chunk.blk [i64 (-1), i64 (-1)])], nx := 2, rt := 0, me := 70 }) (S1)) (
    cl (P) (
     some (Ans.c (CRes.ret (V.tup [V.sl 0 2 0 n, bo ((if false = true then !(a == (-1 : Int) && (b == (-1 : Int) && true)) else a == (-1 : Int) && (b == (-1 : Int) && true)))]) [some (Chunk.row 104 2 n (r2 oL oW))]))) (
     some (Ans.c (CRes.ret (V.tup [V.sc (Value.slice none 0 0), bo false]) [])))) (
    none)
  else
   none := by kernel_rfl

theorem one2 {c : ACode} {S T T' : St} {e e' : Ex} (id : Nat) (h : SL E2 c S e T) : SoundL E2 (ltab2 [⟨id, c, S, True, e, T, e', T'⟩]) := ltab2_cons ⟨fun _ => h, fun h => absurd trivial h⟩ ltab2_nil
theorem oneF2 {c : ACode} {S T T' : St} {e e' : Ex} (id : Nat) (h : SL E2 c S e' T') : SoundL E2 (ltab2 [⟨id, c, S, False, e, T, e', T'⟩]) := ltab2_cons ⟨fun h => False.elim h, fun _ => h⟩ ltab2_nil
theorem k70 (n : Nat) (oL oW : Nat → Int) (a b : Int) : KC2 48 12 (.exit 0) (T70 n oL oW a b) = some (.l (.exit 0) (T70 n oL oW a b)) := by kernel_rfl
theorem k70r : KC2 48 12 .ret T70r = some (.l .ret T70r) := by kernel_rfl
def ends70 (n : Nat) (x : Option Cv.Pl) (S : St) : Prop := match x with
  | none => SL E2 (bodyOf E2 70 0) S .ret T70r
  | some q => SL E2 (bodyOf E2 70 0) S (.exit 0) (T70 n q.oL q.oW q.lo q.wa)
theorem ends70_next {n : Nat} {x : Option Cv.Pl} {S S' S1 : St} (h : ends70 n x S1) (hle : LeSt S' S1) (hn : ∀ lo, loopK E2 C70 lo 0 28720 (bodyOf E2 70 0) S (KC2 48 12) = lo 0 28720 (bodyOf E2 70 0) S' (KC2 48 12)) : ends70 n x S := by
  cases x with
  | none => exact SL.by2 sC70 hX2 (oneF2 0 (e := .exit 0) (T := T70r) h) ((hn _).trans ((ltab2_hit hle).trans ((cl_neg (fun h => h)).trans k70r)))
  | some q => exact SL.by2 sC70 hX2 (one2 0 (e' := .ret) (T' := T70r) h) ((hn _).trans ((ltab2_hit hle).trans ((cl_pos trivial).trans (k70 _ _ _ _ _))))
theorem row_put2 (x y : Nat → Int) (i : Nat) (a b : Int) (j : Nat) : putF true i 0 [i64 a, i64 b] (r2 x y) j = r2 (Cv.upd x i a) (Cv.upd y i b) j := by
  rw [putF_eq]
  by_cases h : j = i
  · subst h; simp only [if_true]; unfold r2; rw [Cv.upd_same, Cv.upd_same]; rfl
  · simp only [if_neg h]; unfold r2; rw [Cv.upd_ne h, Cv.upd_ne h]
/-- The entries are places before. -/
def Bel (i : Nat) (v : Int) : Prop := v = -1 ∨ (0 ≤ v ∧ v < i)
structure I70 (i : Nat) (q : Cv.Pl) : Prop where
  oL : ∀ j, j < i → Bel j (q.oL j)
  oW : ∀ j, j < i → Bel j (q.oW j)
  lo : Bel i q.lo
  wa : Bel i q.wa
theorem Bel.up {i : Nat} {v : Int} (h : Bel i v) : Bel (i + 1) v := by unfold Bel at *; omega
theorem I70.push {i : Nat} {q : Cv.Pl} (h : I70 i q) {a b : Int} (ha : Bel (i + 1) a) (hb : Bel (i + 1) b) : I70 (i + 1) ⟨Cv.upd q.oL i q.lo, Cv.upd q.oW i q.wa, a, b⟩ := by
  refine ⟨fun j hj => ?_, fun j hj => ?_, ha, hb⟩
  · show Bel j (Cv.upd q.oL i q.lo j)
    by_cases hji : j = i
    · subst hji; rw [Cv.upd_same]; exact h.lo
    · rw [Cv.upd_ne hji]; exact h.oL j (by omega)
  · show Bel j (Cv.upd q.oW i q.wa j)
    by_cases hji : j = i
    · subst hji; rw [Cv.upd_same]; exact h.wa
    · rw [Cv.upd_ne hji]; exact h.oW j (by omega)
theorem I70.pop {i : Nat} {q : Cv.Pl} (h : I70 i q) (hlo : 0 ≤ q.lo ∧ q.lo < i) : Bel (i + 1) (Cv.upd q.oL i q.lo q.lo.toNat) ∧ Bel (i + 1) (Cv.upd q.oW i q.wa q.lo.toNat) := by
  have hne : q.lo.toNat ≠ i := by omega
  rw [Cv.upd_ne hne, Cv.upd_ne hne]
  have h1 := h.oL q.lo.toNat (by omega)
  have h2 := h.oW q.lo.toNat (by omega)
  unfold Bel at *
  omega
set_option maxRecDepth 100000 in
theorem loop70 {n : Nat} {op arg : Nat → Int} (vs : Int) (hn : n ≤ 300) : ∀ (r i : Nat) (q : Cv.Pl), i + r = n → I70 i q → ends70 n (Cv.plcP (mkC vs n op arg) r i q) (S70 n op arg i q.oL q.oW q.lo q.wa) := by
  intro r
  induction r with
  | zero =>
    intro i q hi hv
    exact SL.by2 (m := 48) (r := 12) sC70 hX2 ltab2_nil ((r70 _ _ _ _ _ _ _ _ _).trans (by rw [if_neg (by simp; omega)]; rfl))
  | succ r ih =>
    intro i q hi hv
    have hi' : i < n := by omega
    have hlo' := hv.lo.up
    have hwa' := hv.wa.up
    have hbl := hv.lo
    have hbw := hv.wa
    have hid : decide ((i : Int) < (n : Int)) = true := by simpa using hi'
    have hbb : (0 : Int) ≤ (i : Int) ∧ (i : Int) < (n : Int) := by omega
    have hcc : i < n ∧ True := ⟨hi', trivial⟩
    have ew : w ((i : Int) + 1) = ((i + 1 : Nat) : Int) := by rw [w_in (by unfold inR; omega)]; omega
    have el : w (q.lo + 1) = q.lo + 1 := w_in (by unfold Bel at hbl; unfold inR; omega)
    have ea : w (q.wa + 1) = q.wa + 1 := w_in (by unfold Bel at hbw; unfold inR; omega)
    have tree := fun lo => r70 n op arg i q.oL q.oW q.lo q.wa lo
    simp only [Int.toNat_natCast, Nat.zero_add, ew, el, ea, if_pos hid, if_pos hbb, eq_self, if_pos hcc] at tree
    have pl := Cv.plcP.eq_2 (mkC vs n op arg) i q r
    generalize hc : mkC vs n op arg = c at *
    have hop : c.op i = op i := by rw [← hc]; rfl
    have harg : c.arg i = arg i := by rw [← hc]; rfl
    have hq : QI1 [i64 (op i)] ∧ True := ⟨⟨_, rfl⟩, trivial⟩
    have nx : ∀ {x x' : Option Cv.Pl} {a b : Int}, ends70 n x (S70 n op arg (i + 1) (Cv.upd q.oL i q.lo) (Cv.upd q.oW i q.wa) a b) → x' = x → (∀ lo, loopK E2 C70 lo 0 28720 (bodyOf E2 70 0) (S70 n op arg i q.oL q.oW q.lo q.wa) (KC2 48 12) = lo 0 28720 (bodyOf E2 70 0) ({ fr := [V.junk, V.junk, V.junk, V.junk, V.sl 0 2 0 n, V.ptr 1 0, V.junk, V.junk, V.junk, V.junk, V.junk, V.junk, V.ro 2 n (ins op arg), i64 (n : Int), i64 ((i + 1 : Nat) : Int)] ++ jk 69, H := hp [some (Chunk.row 104 2 n (putF true i 0 [i64 q.lo, i64 q.wa] (r2 q.oL q.oW))), some (Chunk.blk [i64 a, i64 b])], nx := 2, rt := 0, me := 70 }) (KC2 48 12)) → ends70 n x' (S70 n op arg i q.oL q.oW q.lo q.wa) := by
      intro x x' a b h1 h2 h3
      subst h2
      refine ends70_next h1 ?_ h3
      exact LeSt.mk' (LeL.refl _) ⟨ChLe.row fun j _ => row_put2 _ _ _ _ _ j, ChLe.refl _, trivial⟩
    have stop : ∀ {x : Option Cv.Pl}, x = none → (∀ lo, loopK E2 C70 lo 0 28720 (bodyOf E2 70 0) (S70 n op arg i q.oL q.oW q.lo q.wa) (KC2 48 12) = some (.l .ret T70r)) → ends70 n x (S70 n op arg i q.oL q.oW q.lo q.wa) := by
      intro x h1 h3
      subst h1
      exact SL.by2 sC70 hX2 ltab2_nil (h3 _)
    rw [hop, harg] at pl
    by_cases hw : q.wa = -1
    · have hbad : ¬ (q.wa ≠ -1 ∧ op i ≠ 20 ∧ Cv.pureP (op i) = false) := fun h => h.1 hw
      rw [if_neg hbad] at pl
      by_cases h16 : op i = 16
      · refine nx (ih (i + 1) ⟨Cv.upd q.oL i q.lo, Cv.upd q.oW i q.wa, i, q.wa⟩ (by omega) (hv.push (.inr ⟨by omega, by omega⟩) hwa')) (by rw [pl, if_pos h16]) fun lo => (tree lo).trans ?_
        rw [if_neg (show ¬ (q.wa != (-1 : Int)) = true by simpa using hw)]
        rw [if_pos (show (op i == (16 : Int)) = true by simpa using h16)]
      by_cases h19 : op i = 19
      · refine nx (ih (i + 1) ⟨Cv.upd q.oL i q.lo, Cv.upd q.oW i q.wa, q.lo, i⟩ (by omega) (hv.push hlo' (.inr ⟨by omega, by omega⟩))) (by rw [pl, if_neg h16, if_pos h19]) fun lo => (tree lo).trans ?_
        rw [if_neg (show ¬ (q.wa != (-1 : Int)) = true by simpa using hw)]
        rw [if_neg (show ¬ (op i == (16 : Int)) = true by simpa using h16), if_pos (show (op i == (19 : Int)) = true by simpa using h19)]
      by_cases h17 : op i = 17
      · by_cases hb : q.lo = -1 ∨ arg i ≠ q.lo + 1
        · refine stop (by rw [pl, if_neg h16, if_neg h19, if_pos h17, if_pos hb]) fun lo => (tree lo).trans ?_
          rw [if_neg (show ¬ (q.wa != (-1 : Int)) = true by simpa using hw)]
          rw [if_neg (show ¬ (op i == (16 : Int)) = true by simpa using h16), if_neg (show ¬ (op i == (19 : Int)) = true by simpa using h19), if_pos (show (op i == (17 : Int)) = true by simpa using h17)]
          by_cases hm : q.lo = -1
          · rw [if_pos (by simpa using hm)]; rfl
          · rw [if_neg (by simpa using hm), if_pos (by have h9 := hb.resolve_left hm; simpa using h9)]; rfl
        · have hm : ¬ q.lo = -1 := fun h => hb (.inl h)
          have ha : arg i = q.lo + 1 := Classical.not_not.1 fun h => hb (.inr h)
          have hlo : 0 ≤ q.lo ∧ q.lo < i := by rcases hv.lo with h | h; exact absurd h hm; exact h
          refine nx (ih (i + 1) ⟨Cv.upd q.oL i q.lo, Cv.upd q.oW i q.wa, Cv.upd q.oL i q.lo q.lo.toNat, Cv.upd q.oW i q.wa q.lo.toNat⟩ (by omega) (hv.push (hv.pop hlo).1 (hv.pop hlo).2)) (by rw [pl, if_neg h16, if_neg h19, if_pos h17, if_neg hb]) fun lo => (tree lo).trans ?_
          rw [if_neg (show ¬ (q.wa != (-1 : Int)) = true by simpa using hw)]
          rw [if_neg (show ¬ (op i == (16 : Int)) = true by simpa using h16), if_neg (show ¬ (op i == (19 : Int)) = true by simpa using h19), if_pos (show (op i == (17 : Int)) = true by simpa using h17), if_neg (by simpa using hm), if_neg (by have h9 : arg i = q.lo + 1 := ha; simp [h9]), if_pos (show (0 : Int) ≤ q.lo ∧ q.lo < (n : Int) by omega), if_pos (show q.lo.toNat < n ∧ True from ⟨by omega, trivial⟩)]
          rfl
      by_cases h20 : op i = 20
      · by_cases hb : q.wa = -1 ∨ arg i ≠ q.wa + 1
        · refine stop (by rw [pl, if_neg h16, if_neg h19, if_neg h17, if_pos h20, if_pos hb]) fun lo => (tree lo).trans ?_
          rw [if_neg (show ¬ (q.wa != (-1 : Int)) = true by simpa using hw)]
          rw [if_neg (show ¬ (op i == (16 : Int)) = true by simpa using h16), if_neg (show ¬ (op i == (19 : Int)) = true by simpa using h19), if_neg (show ¬ (op i == (17 : Int)) = true by simpa using h17), if_pos (show (op i == (20 : Int)) = true by simpa using h20)]
          by_cases hm : q.wa = -1
          · rw [if_pos (by simpa using hm)]; rfl
          · rw [if_neg (by simpa using hm), if_pos (by have h9 := hb.resolve_left hm; simpa using h9)]; rfl
        · have hm : ¬ q.wa = -1 := fun h => hb (.inl h)
          have ha : arg i = q.wa + 1 := Classical.not_not.1 fun h => hb (.inr h)
          refine nx (ih (i + 1) ⟨Cv.upd q.oL i q.lo, Cv.upd q.oW i q.wa, q.lo, -1⟩ (by omega) (hv.push hlo' (.inl rfl))) (by rw [pl, if_neg h16, if_neg h19, if_neg h17, if_pos h20, if_neg hb]) fun lo => (tree lo).trans ?_
          rw [if_neg (show ¬ (q.wa != (-1 : Int)) = true by simpa using hw)]
          rw [if_neg (show ¬ (op i == (16 : Int)) = true by simpa using h16), if_neg (show ¬ (op i == (19 : Int)) = true by simpa using h19), if_neg (show ¬ (op i == (17 : Int)) = true by simpa using h17), if_pos (show (op i == (20 : Int)) = true by simpa using h20), if_neg (by simpa using hm), if_neg (by have h9 : arg i = q.wa + 1 := ha; simp [h9])]
      refine nx (ih (i + 1) ⟨Cv.upd q.oL i q.lo, Cv.upd q.oW i q.wa, q.lo, q.wa⟩ (by omega) (hv.push hlo' hwa')) (by rw [pl, if_neg h16, if_neg h19, if_neg h17, if_neg h20]) fun lo => (tree lo).trans ?_
      rw [if_neg (show ¬ (q.wa != (-1 : Int)) = true by simpa using hw)]
      rw [if_neg (show ¬ (op i == (16 : Int)) = true by simpa using h16), if_neg (show ¬ (op i == (19 : Int)) = true by simpa using h19), if_neg (show ¬ (op i == (17 : Int)) = true by simpa using h17), if_neg (show ¬ (op i == (20 : Int)) = true by simpa using h20)]
    by_cases h20' : op i = 20
    · have hbad : ¬ (q.wa ≠ -1 ∧ op i ≠ 20 ∧ Cv.pureP (op i) = false) := fun h => h.2.1 h20'
      rw [if_neg hbad] at pl
      by_cases h16 : op i = 16
      · refine nx (ih (i + 1) ⟨Cv.upd q.oL i q.lo, Cv.upd q.oW i q.wa, i, q.wa⟩ (by omega) (hv.push (.inr ⟨by omega, by omega⟩) hwa')) (by rw [pl, if_pos h16]) fun lo => (tree lo).trans ?_
        rw [if_pos (show (q.wa != (-1 : Int)) = true by simpa using hw), if_neg (show ¬ (op i != (20 : Int)) = true by simpa using h20')]
        rw [if_pos (show (op i == (16 : Int)) = true by simpa using h16)]
      by_cases h19 : op i = 19
      · refine nx (ih (i + 1) ⟨Cv.upd q.oL i q.lo, Cv.upd q.oW i q.wa, q.lo, i⟩ (by omega) (hv.push hlo' (.inr ⟨by omega, by omega⟩))) (by rw [pl, if_neg h16, if_pos h19]) fun lo => (tree lo).trans ?_
        rw [if_pos (show (q.wa != (-1 : Int)) = true by simpa using hw), if_neg (show ¬ (op i != (20 : Int)) = true by simpa using h20')]
        rw [if_neg (show ¬ (op i == (16 : Int)) = true by simpa using h16), if_pos (show (op i == (19 : Int)) = true by simpa using h19)]
      by_cases h17 : op i = 17
      · by_cases hb : q.lo = -1 ∨ arg i ≠ q.lo + 1
        · refine stop (by rw [pl, if_neg h16, if_neg h19, if_pos h17, if_pos hb]) fun lo => (tree lo).trans ?_
          rw [if_pos (show (q.wa != (-1 : Int)) = true by simpa using hw), if_neg (show ¬ (op i != (20 : Int)) = true by simpa using h20')]
          rw [if_neg (show ¬ (op i == (16 : Int)) = true by simpa using h16), if_neg (show ¬ (op i == (19 : Int)) = true by simpa using h19), if_pos (show (op i == (17 : Int)) = true by simpa using h17)]
          by_cases hm : q.lo = -1
          · rw [if_pos (by simpa using hm)]; rfl
          · rw [if_neg (by simpa using hm), if_pos (by have h9 := hb.resolve_left hm; simpa using h9)]; rfl
        · have hm : ¬ q.lo = -1 := fun h => hb (.inl h)
          have ha : arg i = q.lo + 1 := Classical.not_not.1 fun h => hb (.inr h)
          have hlo : 0 ≤ q.lo ∧ q.lo < i := by rcases hv.lo with h | h; exact absurd h hm; exact h
          refine nx (ih (i + 1) ⟨Cv.upd q.oL i q.lo, Cv.upd q.oW i q.wa, Cv.upd q.oL i q.lo q.lo.toNat, Cv.upd q.oW i q.wa q.lo.toNat⟩ (by omega) (hv.push (hv.pop hlo).1 (hv.pop hlo).2)) (by rw [pl, if_neg h16, if_neg h19, if_pos h17, if_neg hb]) fun lo => (tree lo).trans ?_
          rw [if_pos (show (q.wa != (-1 : Int)) = true by simpa using hw), if_neg (show ¬ (op i != (20 : Int)) = true by simpa using h20')]
          rw [if_neg (show ¬ (op i == (16 : Int)) = true by simpa using h16), if_neg (show ¬ (op i == (19 : Int)) = true by simpa using h19), if_pos (show (op i == (17 : Int)) = true by simpa using h17), if_neg (by simpa using hm), if_neg (by have h9 : arg i = q.lo + 1 := ha; simp [h9]), if_pos (show (0 : Int) ≤ q.lo ∧ q.lo < (n : Int) by omega), if_pos (show q.lo.toNat < n ∧ True from ⟨by omega, trivial⟩)]
          rfl
      by_cases h20 : op i = 20
      · by_cases hb : q.wa = -1 ∨ arg i ≠ q.wa + 1
        · refine stop (by rw [pl, if_neg h16, if_neg h19, if_neg h17, if_pos h20, if_pos hb]) fun lo => (tree lo).trans ?_
          rw [if_pos (show (q.wa != (-1 : Int)) = true by simpa using hw), if_neg (show ¬ (op i != (20 : Int)) = true by simpa using h20')]
          rw [if_neg (show ¬ (op i == (16 : Int)) = true by simpa using h16), if_neg (show ¬ (op i == (19 : Int)) = true by simpa using h19), if_neg (show ¬ (op i == (17 : Int)) = true by simpa using h17), if_pos (show (op i == (20 : Int)) = true by simpa using h20)]
          by_cases hm : q.wa = -1
          · rw [if_pos (by simpa using hm)]; rfl
          · rw [if_neg (by simpa using hm), if_pos (by have h9 := hb.resolve_left hm; simpa using h9)]; rfl
        · have hm : ¬ q.wa = -1 := fun h => hb (.inl h)
          have ha : arg i = q.wa + 1 := Classical.not_not.1 fun h => hb (.inr h)
          refine nx (ih (i + 1) ⟨Cv.upd q.oL i q.lo, Cv.upd q.oW i q.wa, q.lo, -1⟩ (by omega) (hv.push hlo' (.inl rfl))) (by rw [pl, if_neg h16, if_neg h19, if_neg h17, if_pos h20, if_neg hb]) fun lo => (tree lo).trans ?_
          rw [if_pos (show (q.wa != (-1 : Int)) = true by simpa using hw), if_neg (show ¬ (op i != (20 : Int)) = true by simpa using h20')]
          rw [if_neg (show ¬ (op i == (16 : Int)) = true by simpa using h16), if_neg (show ¬ (op i == (19 : Int)) = true by simpa using h19), if_neg (show ¬ (op i == (17 : Int)) = true by simpa using h17), if_pos (show (op i == (20 : Int)) = true by simpa using h20), if_neg (by simpa using hm), if_neg (by have h9 : arg i = q.wa + 1 := ha; simp [h9])]
      refine nx (ih (i + 1) ⟨Cv.upd q.oL i q.lo, Cv.upd q.oW i q.wa, q.lo, q.wa⟩ (by omega) (hv.push hlo' hwa')) (by rw [pl, if_neg h16, if_neg h19, if_neg h17, if_neg h20]) fun lo => (tree lo).trans ?_
      rw [if_pos (show (q.wa != (-1 : Int)) = true by simpa using hw), if_neg (show ¬ (op i != (20 : Int)) = true by simpa using h20')]
      rw [if_neg (show ¬ (op i == (16 : Int)) = true by simpa using h16), if_neg (show ¬ (op i == (19 : Int)) = true by simpa using h19), if_neg (show ¬ (op i == (17 : Int)) = true by simpa using h17), if_neg (show ¬ (op i == (20 : Int)) = true by simpa using h20)]
    by_cases hpu : Cv.pureP (op i) = false
    · refine stop (by rw [pl, if_pos ⟨hw, h20', hpu⟩]) fun lo => (tree lo).trans ?_
      rw [if_pos (show (q.wa != (-1 : Int)) = true by simpa using hw), if_pos (show (op i != (20 : Int)) = true by simpa using h20'), cl_pos hq]
      show (if (!Cv.pureP (op i)) = true then _ else _) = _
      rw [if_pos (by rw [hpu]; rfl)]
      rfl
    · have hbad : ¬ (q.wa ≠ -1 ∧ op i ≠ 20 ∧ Cv.pureP (op i) = false) := fun h => hpu h.2.2
      rw [if_neg hbad] at pl
      by_cases h16 : op i = 16
      · refine nx (ih (i + 1) ⟨Cv.upd q.oL i q.lo, Cv.upd q.oW i q.wa, i, q.wa⟩ (by omega) (hv.push (.inr ⟨by omega, by omega⟩) hwa')) (by rw [pl, if_pos h16]) fun lo => (tree lo).trans ?_
        rw [if_pos (show (q.wa != (-1 : Int)) = true by simpa using hw), if_pos (show (op i != (20 : Int)) = true by simpa using h20'), cl_pos hq]; (show (if (!Cv.pureP (op i)) = true then _ else _) = _); rw [if_neg (show ¬ (!Cv.pureP (op i)) = true by simpa using hpu)]
        rw [if_pos (show (op i == (16 : Int)) = true by simpa using h16)]
      by_cases h19 : op i = 19
      · refine nx (ih (i + 1) ⟨Cv.upd q.oL i q.lo, Cv.upd q.oW i q.wa, q.lo, i⟩ (by omega) (hv.push hlo' (.inr ⟨by omega, by omega⟩))) (by rw [pl, if_neg h16, if_pos h19]) fun lo => (tree lo).trans ?_
        rw [if_pos (show (q.wa != (-1 : Int)) = true by simpa using hw), if_pos (show (op i != (20 : Int)) = true by simpa using h20'), cl_pos hq]; (show (if (!Cv.pureP (op i)) = true then _ else _) = _); rw [if_neg (show ¬ (!Cv.pureP (op i)) = true by simpa using hpu)]
        rw [if_neg (show ¬ (op i == (16 : Int)) = true by simpa using h16), if_pos (show (op i == (19 : Int)) = true by simpa using h19)]
      by_cases h17 : op i = 17
      · by_cases hb : q.lo = -1 ∨ arg i ≠ q.lo + 1
        · refine stop (by rw [pl, if_neg h16, if_neg h19, if_pos h17, if_pos hb]) fun lo => (tree lo).trans ?_
          rw [if_pos (show (q.wa != (-1 : Int)) = true by simpa using hw), if_pos (show (op i != (20 : Int)) = true by simpa using h20'), cl_pos hq]; (show (if (!Cv.pureP (op i)) = true then _ else _) = _); rw [if_neg (show ¬ (!Cv.pureP (op i)) = true by simpa using hpu)]
          rw [if_neg (show ¬ (op i == (16 : Int)) = true by simpa using h16), if_neg (show ¬ (op i == (19 : Int)) = true by simpa using h19), if_pos (show (op i == (17 : Int)) = true by simpa using h17)]
          by_cases hm : q.lo = -1
          · rw [if_pos (by simpa using hm)]; rfl
          · rw [if_neg (by simpa using hm), if_pos (by have h9 := hb.resolve_left hm; simpa using h9)]; rfl
        · have hm : ¬ q.lo = -1 := fun h => hb (.inl h)
          have ha : arg i = q.lo + 1 := Classical.not_not.1 fun h => hb (.inr h)
          have hlo : 0 ≤ q.lo ∧ q.lo < i := by rcases hv.lo with h | h; exact absurd h hm; exact h
          refine nx (ih (i + 1) ⟨Cv.upd q.oL i q.lo, Cv.upd q.oW i q.wa, Cv.upd q.oL i q.lo q.lo.toNat, Cv.upd q.oW i q.wa q.lo.toNat⟩ (by omega) (hv.push (hv.pop hlo).1 (hv.pop hlo).2)) (by rw [pl, if_neg h16, if_neg h19, if_pos h17, if_neg hb]) fun lo => (tree lo).trans ?_
          rw [if_pos (show (q.wa != (-1 : Int)) = true by simpa using hw), if_pos (show (op i != (20 : Int)) = true by simpa using h20'), cl_pos hq]; (show (if (!Cv.pureP (op i)) = true then _ else _) = _); rw [if_neg (show ¬ (!Cv.pureP (op i)) = true by simpa using hpu)]
          rw [if_neg (show ¬ (op i == (16 : Int)) = true by simpa using h16), if_neg (show ¬ (op i == (19 : Int)) = true by simpa using h19), if_pos (show (op i == (17 : Int)) = true by simpa using h17), if_neg (by simpa using hm), if_neg (by have h9 : arg i = q.lo + 1 := ha; simp [h9]), if_pos (show (0 : Int) ≤ q.lo ∧ q.lo < (n : Int) by omega), if_pos (show q.lo.toNat < n ∧ True from ⟨by omega, trivial⟩)]
          rfl
      by_cases h20 : op i = 20
      · by_cases hb : q.wa = -1 ∨ arg i ≠ q.wa + 1
        · refine stop (by rw [pl, if_neg h16, if_neg h19, if_neg h17, if_pos h20, if_pos hb]) fun lo => (tree lo).trans ?_
          rw [if_pos (show (q.wa != (-1 : Int)) = true by simpa using hw), if_pos (show (op i != (20 : Int)) = true by simpa using h20'), cl_pos hq]; (show (if (!Cv.pureP (op i)) = true then _ else _) = _); rw [if_neg (show ¬ (!Cv.pureP (op i)) = true by simpa using hpu)]
          rw [if_neg (show ¬ (op i == (16 : Int)) = true by simpa using h16), if_neg (show ¬ (op i == (19 : Int)) = true by simpa using h19), if_neg (show ¬ (op i == (17 : Int)) = true by simpa using h17), if_pos (show (op i == (20 : Int)) = true by simpa using h20)]
          by_cases hm : q.wa = -1
          · rw [if_pos (by simpa using hm)]; rfl
          · rw [if_neg (by simpa using hm), if_pos (by have h9 := hb.resolve_left hm; simpa using h9)]; rfl
        · have hm : ¬ q.wa = -1 := fun h => hb (.inl h)
          have ha : arg i = q.wa + 1 := Classical.not_not.1 fun h => hb (.inr h)
          refine nx (ih (i + 1) ⟨Cv.upd q.oL i q.lo, Cv.upd q.oW i q.wa, q.lo, -1⟩ (by omega) (hv.push hlo' (.inl rfl))) (by rw [pl, if_neg h16, if_neg h19, if_neg h17, if_pos h20, if_neg hb]) fun lo => (tree lo).trans ?_
          rw [if_pos (show (q.wa != (-1 : Int)) = true by simpa using hw), if_pos (show (op i != (20 : Int)) = true by simpa using h20'), cl_pos hq]; (show (if (!Cv.pureP (op i)) = true then _ else _) = _); rw [if_neg (show ¬ (!Cv.pureP (op i)) = true by simpa using hpu)]
          rw [if_neg (show ¬ (op i == (16 : Int)) = true by simpa using h16), if_neg (show ¬ (op i == (19 : Int)) = true by simpa using h19), if_neg (show ¬ (op i == (17 : Int)) = true by simpa using h17), if_pos (show (op i == (20 : Int)) = true by simpa using h20), if_neg (by simpa using hm), if_neg (by have h9 : arg i = q.wa + 1 := ha; simp [h9])]
      refine nx (ih (i + 1) ⟨Cv.upd q.oL i q.lo, Cv.upd q.oW i q.wa, q.lo, q.wa⟩ (by omega) (hv.push hlo' hwa')) (by rw [pl, if_neg h16, if_neg h19, if_neg h17, if_neg h20]) fun lo => (tree lo).trans ?_
      rw [if_pos (show (q.wa != (-1 : Int)) = true by simpa using hw), if_pos (show (op i != (20 : Int)) = true by simpa using h20'), cl_pos hq]; (show (if (!Cv.pureP (op i)) = true then _ else _) = _); rw [if_neg (show ¬ (!Cv.pureP (op i)) = true by simpa using hpu)]
      rw [if_neg (show ¬ (op i == (16 : Int)) = true by simpa using h16), if_neg (show ¬ (op i == (19 : Int)) = true by simpa using h19), if_neg (show ¬ (op i == (17 : Int)) = true by simpa using h17), if_neg (show ¬ (op i == (20 : Int)) = true by simpa using h20)]
theorem bw_row {T z n : Nat} {f : Nat → List V} : V.bw1 (hp [some (Chunk.row T z n f)]) (V.sl 0 z 0 n) = .ro z n (fun j => f (0 + j)) := by
  simp [V.bw1, hp]
def plN : V := .tup [.sc (.slice none 0 0), bo false]
def plS (n : Nat) (oL oW : Nat → Int) (b : Bool) : V := .tup [.ro 2 n (r2 oL oW), bo b]
def pl0 : Cv.Pl := ⟨Cv.zero, Cv.zero, -1, -1⟩
def plV (n : Nat) (x : Option Cv.Pl) : V := match x with
  | none => plN
  | some q => plS n q.oL q.oW (decide (q.lo = -1 ∧ q.wa = -1))
set_option maxRecDepth 100000 in
theorem places_sc {n : Nat} {op arg : Nat → Int} (vs : Int) (hn : n ≤ 300) : SC E2 70 [cd n op arg] [] (.ret (plV n (Cv.plcP (mkC vs n op arg) n 0 pl0)) []) := by
  have key := loop70 (n := n) (op := op) (arg := arg) vs hn n 0 pl0 (by omega) ⟨fun j hj => by omega, fun j hj => by omega, .inl rfl, .inl rfl⟩
  have hc : (n : Int) = (n : Int) ∧ (0 : Int) ≤ (n : Int) ∧ 0 < 2 ∧ 2 = 2 ∧ Int.toNat (n : Int) * 16 ≤ 281474976710656 ∧ Int.toNat (n : Int) ≤ Go.maxLen ∧ (allOk 2 1 fun (x : Nat) => List.map V.sc (Array.toList (Value.cells (Value.agg #[Value.int IntKind.i64 0, Value.int IntKind.i64 0])))) = true := by
    refine ⟨rfl, by omega, by decide, rfl, by rw [Int.toNat_natCast]; omega, by rw [Int.toNat_natCast]; unfold Go.maxLen; omega, by kernel_rfl⟩
  have hle : LeSt ({ fr := [V.junk, V.junk, V.junk, V.junk, V.sl 0 2 0 (Int.toNat (n : Int)), V.ptr 1 0, V.junk, V.junk, V.junk, V.junk, V.junk, V.junk, V.ro 2 n (ins op arg), i64 (n : Int), i64 0] ++ jk 69, H := hp [some (Chunk.row 104 2 (Int.toNat (n : Int)) fun (x : Nat) => List.map V.sc (Array.toList (Value.cells (Value.agg #[Value.int IntKind.i64 0, Value.int IntKind.i64 0])))), some (Chunk.blk [i64 (-1), i64 (-1)])], nx := 2, rt := 0, me := 70 }) (S70 n op arg 0 Cv.zero Cv.zero (-1) (-1)) := by
    rw [Int.toNat_natCast]
    exact LeSt.mk' (LeL.refl _) ⟨ChLe.row fun j _ => rfl, ChLe.refl _, trivial⟩
  revert key
  cases hx : Cv.plcP (mkC vs n op arg) n 0 pl0 with
  | none =>
    intro key
    refine SC.of hW2 hX2 sC70 (oneF2 0 (e := .exit 0) (T := T70 n Cv.zero Cv.zero 0 0) key) ((f70 n op arg Cv.zero Cv.zero 0 0 _ _).trans ?_)
    rw [if_pos hc, cl_pos ⟨rfl, hle⟩, cl_neg (fun h => h)]
    rfl
  | some q =>
    intro key
    have h : SC E2 70 [cd n op arg] [] (.ret (.tup [.sl 0 2 0 n, bo (q.lo == (-1 : Int) && (q.wa == (-1 : Int) && true))]) [some (Chunk.row 104 2 n (r2 q.oL q.oW))]) := by
      refine SC.of hW2 hX2 sC70 (one2 0 (e' := .ret) (T' := T70r) key) ((f70 n op arg q.oL q.oW q.lo q.wa _ _).trans ?_)
      rw [if_pos hc, cl_pos ⟨rfl, hle⟩, cl_pos trivial]
      rfl
    have hbw : V.bw (hp [some (Chunk.row 104 2 n (r2 q.oL q.oW))]) (.tup [.sl 0 2 0 n, bo (q.lo == (-1 : Int) && (q.wa == (-1 : Int) && true))]) = .tup [.ro 2 n (fun j => r2 q.oL q.oW (0 + j)), bo (q.lo == (-1 : Int) && (q.wa == (-1 : Int) && true))] := by
      have h3 := bw_row (T := 104) (z := 2) (n := n) (f := r2 q.oL q.oW)
      simp only [V.bw, List.map_cons, List.map_nil, V.bw2, h3]
      rfl
    refine (SC.give h (by rw [hbw]; rfl)).le ?_
    rw [hbw]
    have hb : (q.lo == (-1 : Int) && (q.wa == (-1 : Int) && true)) = decide (q.lo = -1 ∧ q.wa = -1) := by rw [Bool.eq_iff_iff]; simp
    rw [hb]
    exact Le.tup (LeL.cons (Le.ro_eq fun j hj => ⟨by rw [Nat.zero_add], rfl⟩) (LeL.refl _))
end Go.Proofs.Ythegipdgillngaa
/- Depths of the stack (71), walked. -/
namespace Go.Proofs.Ythegipdgillngaa
open Go Go.Am Go.Proofs
set_option linter.unusedSimpArgs false
set_option linter.unusedVariables false
open Classical in
noncomputable def rchBD (n : Nat) (dp : Nat → Int) (t d : Int) : Bool := decide (Cv.rchB n dp t d)
open Classical in
theorem rchBD_iff (n : Nat) (dp : Nat → Int) (t d : Int) : rchBD n dp t d = true ↔ Cv.rchB n dp t d := by unfold rchBD; rw [decide_eq_true_eq]
theorem rchBD_of {n : Nat} {dp : Nat → Int} {t d : Int} {b : Bool} (h : b = true ↔ Cv.rchB n dp t d) : b = rchBD n dp t d := by rw [Bool.eq_iff_iff, h, rchBD_iff]
def vEff : List V → V
  | [.sc (.int .i64 o)] => .tup [.agg [i64 (Cv.effLo o), i64 (Cv.effHi o), i64 (Cv.effBy o)], bo (okB o)]
  | _ => .junk
def dpOf (f : Nat → List V) : Nat → Int := fun j => match f j with | [.sc (.int _ x)] => x | _ => 0
theorem dpOf_r1 (x : Nat → Int) : dpOf (r1 x) = x := rfl
noncomputable def vRch : List V → List (Option Chunk) → CRes
  | [.sc (.int .i64 t), .sc (.int .i64 d), .ptr 0 0, .ptr 1 0], [some (.blk [.ro 2 n g]), some (.blk [.sl 2 1 0 n']), some (.row 3 1 m f)] => .ret (bo (rchBD m (dpOf f) t d)) [some (.blk [.ro 2 n g]), some (.blk [.sl 2 1 0 n']), some (.row 3 1 m (r1 (Cv.rchD m (dpOf f) t d)))]
  | _, _ => .ret .junk []
def QRch (args : List V) (L : List (Option Chunk)) : Prop := ∃ (t d : Int) (n : Nat) (op arg dp : Nat → Int), args = [i64 t, i64 d, .ptr 0 0, .ptr 1 0] ∧ L = [some (.blk [cd n op arg]), some (.blk [.sl 2 1 0 n]), some (.row 3 1 n (r1 dp))] ∧ 0 ≤ t
noncomputable def C71b : CallT := ptab 77 QI1 vEff (ptabL 76 QRch vRch (tab []))
def S71a (n : Nat) (op arg : Nat → Int) (k : Nat) (dp : Nat → Int) : St := { fr := [.junk, .ptr 0 0, .junk, .ptr 1 0] ++ jk 13 ++ [i64 ((n - 1 : Nat) : Int), i64 k] ++ jk 76, H := hp [some (.blk [cd n op arg]), some (.blk [.sl 2 1 0 n]), some (.row 3 1 n (r1 dp))], nx := 3, rt := 0, me := 71 }
def T71a (n : Nat) (op arg : Nat → Int) (dp : Nat → Int) : St := { fr := [.junk, .ptr 0 0, .junk, .ptr 1 0] ++ jk 91, H := hp [some (.blk [cd n op arg]), some (.blk [.sl 2 1 0 n]), some (.row 3 1 n (r1 dp))], nx := 3, rt := 0, me := 71 }
def S71b (n : Nat) (op arg : Nat → Int) (i : Nat) (dp : Nat → Int) : St := { fr := [.junk, .junk, .junk, .ptr 0 0, .junk, .fn 76 [.ptr 2 0, .ptr 0 0]] ++ jk 21 ++ [cd n op arg, i64 n, i64 i] ++ jk 65, H := hp [some (.blk [.sl 1 1 0 n]), some (.row 3 1 n (r1 dp)), some (.blk [cd n op arg])], nx := 3, rt := 0, me := 71 }
def T71b : St := { fr := jk 95, H := hp [], nx := 0, rt := 0, me := 71 }
def T71r : St := { fr := [.junk, .junk, bo false] ++ jk 92, H := hp [], nx := 0, rt := 0, me := 71 }
theorem g76 (n : Nat) (op arg dp : Nat → Int) (t d : Int) : callK E2 T0 L0 76 [i64 t, i64 d, .ptr 0 0, .ptr 1 0] [some (.blk [cd n op arg]), some (.blk [.sl 2 1 0 n]), some (.row 3 1 n (r1 dp))] K =
  if decide (t < (n : Int)) = true then
   if (0 : Int) ≤ t ∧ t < (n : Int) then
    if 0 + Int.toNat t < n ∧ 1 = 1 then
     if (dp (0 + Int.toNat t) == (-1 : Int)) = true then
      if (0 : Int) ≤ t ∧ t < (n : Int) then
       if 0 + Int.toNat t < n ∧ 1 = 1 then
        if decide (t ≥ (n : Int)) = true then
         some (Ans.c (CRes.ret (bo true) [some (Chunk.blk [V.ro 2 n (ins op arg)]), some (Chunk.blk [V.sl 2 1 0 n]), some (Chunk.row 3 1 n (putF true (0 + Int.toNat t) 0 [i64 d] (r1 dp)))]))
        else
         if (0 : Int) ≤ t ∧ t < (n : Int) then
          if 0 + Int.toNat t < n ∧ 1 = 1 then
           some (Ans.c (CRes.ret (bo (((if 0 + Int.toNat t = 0 + Int.toNat t then d else dp (0 + Int.toNat t)) == d))) [some (Chunk.blk [V.ro 2 n (ins op arg)]), some (Chunk.blk [V.sl 2 1 0 n]), some (Chunk.row 3 1 n (putF true (0 + Int.toNat t) 0 [i64 d] (r1 dp)))]))
          else
           none
         else
          none
       else
        none
      else
       none
     else
      if decide (t ≥ (n : Int)) = true then
       some (Ans.c (CRes.ret (bo true) [some (Chunk.blk [V.ro 2 n (ins op arg)]), some (Chunk.blk [V.sl 2 1 0 n]), some (Chunk.row 3 1 n (r1 dp))]))
      else
       if (0 : Int) ≤ t ∧ t < (n : Int) then
        if 0 + Int.toNat t < n ∧ 1 = 1 then
         some (Ans.c (CRes.ret (bo ((dp (0 + Int.toNat t) == d))) [some (Chunk.blk [V.ro 2 n (ins op arg)]), some (Chunk.blk [V.sl 2 1 0 n]), some (Chunk.row 3 1 n (r1 dp))]))
        else
         none
       else
        none
    else
     none
   else
    none
  else
   if decide (t ≥ (n : Int)) = true then
    some (Ans.c (CRes.ret (bo true) [some (Chunk.blk [V.ro 2 n (ins op arg)]), some (Chunk.blk [V.sl 2 1 0 n]), some (Chunk.row 3 1 n (r1 dp))]))
   else
    if (0 : Int) ≤ t ∧ t < (n : Int) then
     if 0 + Int.toNat t < n ∧ 1 = 1 then
      some (Ans.c (CRes.ret (bo ((dp (0 + Int.toNat t) == d))) [some (Chunk.blk [V.ro 2 n (ins op arg)]), some (Chunk.blk [V.sl 2 1 0 n]), some (Chunk.row 3 1 n (r1 dp))]))
     else
      none
    else
     none := by kernel_rfl

theorem r71a (n : Nat) (op arg : Nat → Int) (k : Nat) (dp : Nat → Int) (lo : LoopT) : loopK E2 C71b lo 0 393226 (bodyOf E2 71 0) (S71a n op arg k dp) (KC 10) =
  if decide ((k : Int) < ((n - 1 : Nat) : Int)) = true then
   if (0 : Int) ≤ w ((k : Int) + (1 : Int)) ∧ w ((k : Int) + (1 : Int)) < (n : Int) then
    if 0 + Int.toNat (w ((k : Int) + (1 : Int))) < n ∧ 1 = 1 then
     lo 0 393226 (bodyOf E2 71 0) ({ fr := [V.junk, V.ptr 0 0, V.junk, V.ptr 1 0, V.junk, V.junk, V.junk, V.junk, V.junk, V.junk, V.junk, V.junk, V.junk, V.junk, V.junk, V.junk, V.junk, i64 ((n - 1 : Nat) : Int), i64 (w ((k : Int) + (1 : Int)))] ++ jk 76, H := hp [some (Chunk.blk [V.ro 2 n (ins op arg)]), some (Chunk.blk [V.sl 2 1 0 n]), some (Chunk.row 3 1 n (putF true (0 + Int.toNat (w ((k : Int) + (1 : Int)))) 0 [i64 (-1)] (r1 dp)))], nx := 3, rt := 0, me := 71 }) (KC 10)
    else
     none
   else
    none
  else
   some (Ans.l (Ex.exit 0) { fr := [V.junk, V.ptr 0 0, V.junk, V.ptr 1 0] ++ jk 91, H := hp [some (Chunk.blk [V.ro 2 n (ins op arg)]), some (Chunk.blk [V.sl 2 1 0 n]), some (Chunk.row 3 1 n (r1 dp))], nx := 3, rt := 0, me := 71 }) := by kernel_rfl

theorem r71b (n : Nat) (op arg : Nat → Int) (i : Nat) (dp : Nat → Int) (lo : LoopT) : loopK E2 C71b lo 2 939524136 (bodyOf E2 71 2) (S71b n op arg i dp) (KC2 0 4) =
  if decide ((i : Int) < (n : Int)) = true then
   if (0 : Int) ≤ (i : Int) ∧ (i : Int) < (n : Int) then
    cl (QI1 ([i64 (op (Int.toNat (i : Int)))]) ∧ ([] : List (Option Chunk)) = []) (
     if (0 : Int) ≤ (i : Int) ∧ (i : Int) < (n : Int) then
      if 0 + Int.toNat (i : Int) < n ∧ 1 = 1 then
       if (!okB (op (Int.toNat (i : Int)))) = true then
        some (Ans.l Ex.ret { fr := [V.junk, V.junk, bo false] ++ jk 92, H := hp [], nx := 0, rt := 0, me := 71 })
       else
        if decide (dp (0 + Int.toNat (i : Int)) < Cv.effLo (op (Int.toNat (i : Int)))) = true then
         some (Ans.l Ex.ret { fr := [V.junk, V.junk, bo false] ++ jk 92, H := hp [], nx := 0, rt := 0, me := 71 })
        else
         if decide (dp (0 + Int.toNat (i : Int)) > Cv.effHi (op (Int.toNat (i : Int)))) = true then
          some (Ans.l Ex.ret { fr := [V.junk, V.junk, bo false] ++ jk 92, H := hp [], nx := 0, rt := 0, me := 71 })
         else
          if (op (Int.toNat (i : Int)) == (14 : Int)) = true then
           cl (QRch ([i64 (arg (Int.toNat (i : Int))), i64 (w (dp (0 + Int.toNat (i : Int)) + Cv.effBy (op (Int.toNat (i : Int))))), V.ptr 0 0, V.ptr 1 0]) ([some (Chunk.blk [V.ro 2 n (ins op arg)]), some (Chunk.blk [V.sl 2 1 0 n]), some (Chunk.row 3 1 n (r1 dp))])) (
            if (!rchBD n (dpOf (r1 dp)) (arg (Int.toNat (i : Int))) (w (dp (0 + Int.toNat (i : Int)) + Cv.effBy (op (Int.toNat (i : Int)))))) = true then
             some (Ans.l Ex.ret { fr := [V.junk, V.junk, bo false] ++ jk 92, H := hp [], nx := 0, rt := 0, me := 71 })
            else
             if (op (Int.toNat (i : Int)) != (14 : Int)) = true then
              cl (QRch ([i64 (w ((i : Int) + (1 : Int))), i64 (w (dp (0 + Int.toNat (i : Int)) + Cv.effBy (op (Int.toNat (i : Int))))), V.ptr 0 0, V.ptr 1 0]) ([some (Chunk.blk [V.ro 2 n (ins op arg)]), some (Chunk.blk [V.sl 2 1 0 n]), some (Chunk.row 3 1 n (r1 (Cv.rchD n (dpOf (r1 dp)) (arg (Int.toNat (i : Int))) (w (dp (0 + Int.toNat (i : Int)) + Cv.effBy (op (Int.toNat (i : Int))))))))])) (
               if (!rchBD n (dpOf (r1 (Cv.rchD n (dpOf (r1 dp)) (arg (Int.toNat (i : Int))) (w (dp (0 + Int.toNat (i : Int)) + Cv.effBy (op (Int.toNat (i : Int)))))))) (w ((i : Int) + (1 : Int))) (w (dp (0 + Int.toNat (i : Int)) + Cv.effBy (op (Int.toNat (i : Int)))))) = true then
                some (Ans.l Ex.ret { fr := [V.junk, V.junk, bo false] ++ jk 92, H := hp [], nx := 0, rt := 0, me := 71 })
               else
                lo 2 939524136 (bodyOf E2 71 2) ({ fr := [V.junk, V.junk, V.junk, V.ptr 0 0, V.junk, V.fn 76 [V.ptr 2 0, V.ptr 0 0], V.junk, V.junk, V.junk, V.junk, V.junk, V.junk, V.junk, V.junk, V.junk, V.junk, V.junk, V.junk, V.junk, V.junk, V.junk, V.junk, V.junk, V.junk, V.junk, V.junk, V.junk, V.ro 2 n (ins op arg), i64 (n : Int), i64 (w ((i : Int) + (1 : Int)))] ++ jk 65, H := hp [some (Chunk.blk [V.sl 1 1 0 n]), some (Chunk.row 3 1 n (r1 (Cv.rchD n (dpOf (r1 (Cv.rchD n (dpOf (r1 dp)) (arg (Int.toNat (i : Int))) (w (dp (0 + Int.toNat (i : Int)) + Cv.effBy (op (Int.toNat (i : Int)))))))) (w ((i : Int) + (1 : Int))) (w (dp (0 + Int.toNat (i : Int)) + Cv.effBy (op (Int.toNat (i : Int)))))))), some (Chunk.blk [V.ro 2 n (ins op arg)])], nx := 3, rt := 0, me := 71 }) (KC2 0 4)) (
               none)
             else
              lo 2 939524136 (bodyOf E2 71 2) ({ fr := [V.junk, V.junk, V.junk, V.ptr 0 0, V.junk, V.fn 76 [V.ptr 2 0, V.ptr 0 0], V.junk, V.junk, V.junk, V.junk, V.junk, V.junk, V.junk, V.junk, V.junk, V.junk, V.junk, V.junk, V.junk, V.junk, V.junk, V.junk, V.junk, V.junk, V.junk, V.junk, V.junk, V.ro 2 n (ins op arg), i64 (n : Int), i64 (w ((i : Int) + (1 : Int)))] ++ jk 65, H := hp [some (Chunk.blk [V.sl 1 1 0 n]), some (Chunk.row 3 1 n (r1 (Cv.rchD n (dpOf (r1 dp)) (arg (Int.toNat (i : Int))) (w (dp (0 + Int.toNat (i : Int)) + Cv.effBy (op (Int.toNat (i : Int)))))))), some (Chunk.blk [V.ro 2 n (ins op arg)])], nx := 3, rt := 0, me := 71 }) (KC2 0 4)) (
            none)
          else
           if (op (Int.toNat (i : Int)) == (15 : Int)) = true then
            cl (QRch ([i64 (arg (Int.toNat (i : Int))), i64 (w (dp (0 + Int.toNat (i : Int)) + Cv.effBy (op (Int.toNat (i : Int))))), V.ptr 0 0, V.ptr 1 0]) ([some (Chunk.blk [V.ro 2 n (ins op arg)]), some (Chunk.blk [V.sl 2 1 0 n]), some (Chunk.row 3 1 n (r1 dp))])) (
             if (!rchBD n (dpOf (r1 dp)) (arg (Int.toNat (i : Int))) (w (dp (0 + Int.toNat (i : Int)) + Cv.effBy (op (Int.toNat (i : Int)))))) = true then
              some (Ans.l Ex.ret { fr := [V.junk, V.junk, bo false] ++ jk 92, H := hp [], nx := 0, rt := 0, me := 71 })
             else
              if (op (Int.toNat (i : Int)) != (14 : Int)) = true then
               cl (QRch ([i64 (w ((i : Int) + (1 : Int))), i64 (w (dp (0 + Int.toNat (i : Int)) + Cv.effBy (op (Int.toNat (i : Int))))), V.ptr 0 0, V.ptr 1 0]) ([some (Chunk.blk [V.ro 2 n (ins op arg)]), some (Chunk.blk [V.sl 2 1 0 n]), some (Chunk.row 3 1 n (r1 (Cv.rchD n (dpOf (r1 dp)) (arg (Int.toNat (i : Int))) (w (dp (0 + Int.toNat (i : Int)) + Cv.effBy (op (Int.toNat (i : Int))))))))])) (
                if (!rchBD n (dpOf (r1 (Cv.rchD n (dpOf (r1 dp)) (arg (Int.toNat (i : Int))) (w (dp (0 + Int.toNat (i : Int)) + Cv.effBy (op (Int.toNat (i : Int)))))))) (w ((i : Int) + (1 : Int))) (w (dp (0 + Int.toNat (i : Int)) + Cv.effBy (op (Int.toNat (i : Int)))))) = true then
                 some (Ans.l Ex.ret { fr := [V.junk, V.junk, bo false] ++ jk 92, H := hp [], nx := 0, rt := 0, me := 71 })
                else
                 lo 2 939524136 (bodyOf E2 71 2) ({ fr := [V.junk, V.junk, V.junk, V.ptr 0 0, V.junk, V.fn 76 [V.ptr 2 0, V.ptr 0 0], V.junk, V.junk, V.junk, V.junk, V.junk, V.junk, V.junk, V.junk, V.junk, V.junk, V.junk, V.junk, V.junk, V.junk, V.junk, V.junk, V.junk, V.junk, V.junk, V.junk, V.junk, V.ro 2 n (ins op arg), i64 (n : Int), i64 (w ((i : Int) + (1 : Int)))] ++ jk 65, H := hp [some (Chunk.blk [V.sl 1 1 0 n]), some (Chunk.row 3 1 n (r1 (Cv.rchD n (dpOf (r1 (Cv.rchD n (dpOf (r1 dp)) (arg (Int.toNat (i : Int))) (w (dp (0 + Int.toNat (i : Int)) + Cv.effBy (op (Int.toNat (i : Int)))))))) (w ((i : Int) + (1 : Int))) (w (dp (0 + Int.toNat (i : Int)) + Cv.effBy (op (Int.toNat (i : Int)))))))), some (Chunk.blk [V.ro 2 n (ins op arg)])], nx := 3, rt := 0, me := 71 }) (KC2 0 4)) (
                none)
              else
               lo 2 939524136 (bodyOf E2 71 2) ({ fr := [V.junk, V.junk, V.junk, V.ptr 0 0, V.junk, V.fn 76 [V.ptr 2 0, V.ptr 0 0], V.junk, V.junk, V.junk, V.junk, V.junk, V.junk, V.junk, V.junk, V.junk, V.junk, V.junk, V.junk, V.junk, V.junk, V.junk, V.junk, V.junk, V.junk, V.junk, V.junk, V.junk, V.ro 2 n (ins op arg), i64 (n : Int), i64 (w ((i : Int) + (1 : Int)))] ++ jk 65, H := hp [some (Chunk.blk [V.sl 1 1 0 n]), some (Chunk.row 3 1 n (r1 (Cv.rchD n (dpOf (r1 dp)) (arg (Int.toNat (i : Int))) (w (dp (0 + Int.toNat (i : Int)) + Cv.effBy (op (Int.toNat (i : Int)))))))), some (Chunk.blk [V.ro 2 n (ins op arg)])], nx := 3, rt := 0, me := 71 }) (KC2 0 4)) (
             none)
           else
            if (op (Int.toNat (i : Int)) != (14 : Int)) = true then
             cl (QRch ([i64 (w ((i : Int) + (1 : Int))), i64 (w (dp (0 + Int.toNat (i : Int)) + Cv.effBy (op (Int.toNat (i : Int))))), V.ptr 0 0, V.ptr 1 0]) ([some (Chunk.blk [V.ro 2 n (ins op arg)]), some (Chunk.blk [V.sl 2 1 0 n]), some (Chunk.row 3 1 n (r1 dp))])) (
              if (!rchBD n (dpOf (r1 dp)) (w ((i : Int) + (1 : Int))) (w (dp (0 + Int.toNat (i : Int)) + Cv.effBy (op (Int.toNat (i : Int)))))) = true then
               some (Ans.l Ex.ret { fr := [V.junk, V.junk, bo false] ++ jk 92, H := hp [], nx := 0, rt := 0, me := 71 })
              else
               lo 2 939524136 (bodyOf E2 71 2) ({ fr := [V.junk, V.junk, V.junk, V.ptr 0 0, V.junk, V.fn 76 [V.ptr 2 0, V.ptr 0 0], V.junk, V.junk, V.junk, V.junk, V.junk, V.junk, V.junk, V.junk, V.junk, V.junk, V.junk, V.junk, V.junk, V.junk, V.junk, V.junk, V.junk, V.junk, V.junk, V.junk, V.junk, V.ro 2 n (ins op arg), i64 (n : Int), i64 (w ((i : Int) + (1 : Int)))] ++ jk 65, H := hp [some (Chunk.blk [V.sl 1 1 0 n]), some (Chunk.row 3 1 n (r1 (Cv.rchD n (dpOf (r1 dp)) (w ((i : Int) + (1 : Int))) (w (dp (0 + Int.toNat (i : Int)) + Cv.effBy (op (Int.toNat (i : Int)))))))), some (Chunk.blk [V.ro 2 n (ins op arg)])], nx := 3, rt := 0, me := 71 }) (KC2 0 4)) (
              none)
            else
             lo 2 939524136 (bodyOf E2 71 2) ({ fr := [V.junk, V.junk, V.junk, V.ptr 0 0, V.junk, V.fn 76 [V.ptr 2 0, V.ptr 0 0], V.junk, V.junk, V.junk, V.junk, V.junk, V.junk, V.junk, V.junk, V.junk, V.junk, V.junk, V.junk, V.junk, V.junk, V.junk, V.junk, V.junk, V.junk, V.junk, V.junk, V.junk, V.ro 2 n (ins op arg), i64 (n : Int), i64 (w ((i : Int) + (1 : Int)))] ++ jk 65, H := hp [some (Chunk.blk [V.sl 1 1 0 n]), some (Chunk.row 3 1 n (r1 dp)), some (Chunk.blk [V.ro 2 n (ins op arg)])], nx := 3, rt := 0, me := 71 }) (KC2 0 4)
      else
       none
     else
      none) (
     none)
   else
    none
  else
   some (Ans.l (Ex.exit 2) { fr := [V.junk] ++ jk 94, H := hp [], nx := 0, rt := 0, me := 71 }) := by kernel_rfl

theorem f71 (n : Nat) (op arg : Nat → Int) (dp : Nat → Int) (S1 S2 : St) (P : Prop) : callK E2 C71b (ltab2 [⟨0, bodyOf E2 71 0, S1, True, .exit 0, T71a n op arg dp, .ret, T71r⟩, ⟨2, bodyOf E2 71 2, S2, P, .exit 2, T71b, .ret, T71r⟩]) 71 [.ro 2 n (ins op arg)] [] K =
  if (n : Int) = (n : Int) ∧ (0 : Int) ≤ (n : Int) ∧ 0 < 1 ∧ 1 = 1 ∧ Int.toNat (n : Int) * 8 ≤ 281474976710656 ∧ Int.toNat (n : Int) ≤ maxLen ∧ (allOk 1 1 fun (x : Nat) => List.map V.sc (Array.toList (Value.cells (Value.int IntKind.i64 0)))) = true then
   if (0 : Int) ≤ (1 : Int) ∧ (1 : Int) ≤ ((Int.toNat (n : Int) : Nat) : Int) ∧ ((Int.toNat (n : Int) : Nat) : Int) ≤ ((Int.toNat (n : Int) : Nat) : Int) then
    cl ((bodyOf E2 71 0) = (bodyOf E2 71 0) ∧ LeSt ({ fr := [V.junk, V.ptr 0 0, V.junk, V.ptr 1 0, V.junk, V.junk, V.junk, V.junk, V.junk, V.junk, V.junk, V.junk, V.junk, V.junk, V.junk, V.junk, V.junk, i64 ((Int.toNat ((Int.toNat (n : Int) : Nat) : Int) - 1 : Nat) : Int), i64 0] ++ jk 76, H := hp [some (Chunk.blk [V.ro 2 n (ins op arg)]), some (Chunk.blk [V.sl 2 1 0 (Int.toNat (n : Int))]), some (Chunk.row 3 1 (Int.toNat (n : Int)) fun (x : Nat) => List.map V.sc (Array.toList (Value.cells (Value.int IntKind.i64 0))))], nx := 3, rt := 0, me := 71 }) (S1)) (
     cl (True) (
      cl ((bodyOf E2 71 2) = (bodyOf E2 71 2) ∧ LeSt ({ fr := [V.junk, V.junk, V.junk, V.ptr 0 0, V.junk, V.fn 76 [V.ptr 2 0, V.ptr 0 0], V.junk, V.junk, V.junk, V.junk, V.junk, V.junk, V.junk, V.junk, V.junk, V.junk, V.junk, V.junk, V.junk, V.junk, V.junk, V.junk, V.junk, V.junk, V.junk, V.junk, V.junk, V.ro 2 n (ins op arg), i64 (n : Int), i64 0] ++ jk 65, H := hp [some (Chunk.blk [V.sl 1 1 0 n]), some (Chunk.row 3 1 n (r1 dp)), some (Chunk.blk [V.ro 2 n (ins op arg)])], nx := 3, rt := 0, me := 71 }) (S2)) (
       cl (P) (
        some (Ans.c (CRes.ret (bo true) []))) (
        some (Ans.c (CRes.ret (bo false) [])))) (
       none)) (
      some (Ans.c (CRes.ret (bo false) [])))) (
     none)
   else
    none
  else
   none := by kernel_rfl

theorem row_put1 (x : Nat → Int) (i : Nat) (a : Int) (j : Nat) : putF true i 0 [i64 a] (r1 x) j = r1 (Cv.upd x i a) j := by
  rw [putF_eq]
  by_cases h : j = i
  · subst h; simp only [if_true]; unfold r1; rw [Cv.upd_same]; rfl
  · simp only [if_neg h]; unfold r1; rw [Cv.upd_ne h]
theorem putF_r1 (x : Nat → Int) (i : Nat) (a : Int) : putF true i 0 [i64 a] (r1 x) = r1 (Cv.upd x i a) := funext fun j => row_put1 x i a j
theorem rch_sc : ∀ args L, QRch args L → SC E2 76 args L (vRch args L) := by
  rintro _ _ ⟨t, d, n, op, arg, dp, rfl, rfl, h0⟩
  refine SC.of hW2 hX2 (sound_none E2) (soundL_none E2) ((g76 n op arg dp t d).trans ?_)
  show _ = some (Ans.c (CRes.ret (bo (rchBD n dp t d)) [some (Chunk.blk [V.ro 2 n (ins op arg)]), some (Chunk.blk [V.sl 2 1 0 n]), some (Chunk.row 3 1 n (r1 (Cv.rchD n dp t d)))]))
  simp only [Nat.zero_add, if_true]
  by_cases ht : t < n
  · have hb : (0 : Int) ≤ t ∧ t < (n : Int) := ⟨h0, ht⟩
    have hc : t.toNat < n ∧ True := ⟨by omega, trivial⟩
    have hg : ¬ decide (t ≥ (n : Int)) = true := by simp; omega
    rw [if_pos (show decide (t < (n : Int)) = true by simpa using ht), if_pos hb, if_pos hc]
    by_cases hm : dp t.toNat = -1
    · rw [if_pos (by simpa using hm), if_pos hb, if_pos hc, if_neg hg, if_pos hb, if_pos hc, putF_r1]
      have e1 : Cv.rchD n dp t d = Cv.upd dp t.toNat d := if_pos ⟨ht, hm⟩
      have e2 : (d == d) = rchBD n dp t d := rchBD_of (by simp [Cv.rchB, e1, Cv.upd_same])
      rw [e1, e2]
    · rw [if_neg (by simpa using hm), if_neg hg, if_pos hb, if_pos hc]
      have e1 : Cv.rchD n dp t d = dp := if_neg (fun h => hm h.2)
      have e2 : (dp t.toNat == d) = rchBD n dp t d := rchBD_of (by rw [beq_iff_eq]; unfold Cv.rchB; rw [e1]; constructor; exact .inr; exact fun h => h.resolve_left (by omega))
      rw [e1, e2]
  · have hg : decide (t ≥ (n : Int)) = true := by simp; omega
    rw [if_neg (show ¬ decide (t < (n : Int)) = true by simpa using ht), if_pos hg]
    have e1 : Cv.rchD n dp t d = dp := if_neg (fun h => ht h.1)
    have e2 : true = rchBD n dp t d := rchBD_of (by simp only [true_iff]; exact .inl (by omega))
    rw [e1, ← e2]
theorem sC71b : SoundC E2 C71b := ptab_cons (fun args h => by obtain ⟨o, rfl⟩ := h; exact eff_sc o) (ptabL_cons rch_sc tab_nil)
theorem k71a (n : Nat) (op arg dp : Nat → Int) : KC 10 (.exit 0) (T71a n op arg dp) = some (.l (.exit 0) (T71a n op arg dp)) := by kernel_rfl
def dpk (k : Nat) : Nat → Int := fun j => if j = 0 then 0 else if j ≤ k then -1 else 0
theorem dpk_next (k j : Nat) : Cv.upd (dpk k) (k + 1) (-1) j = dpk (k + 1) j := by
  unfold Cv.upd dpk
  by_cases h : j = k + 1
  · subst h; simp
  · rw [if_neg h]
    by_cases h0 : j = 0
    · simp [h0]
    · simp only [h0, if_false]
      by_cases h1 : j ≤ k
      · rw [if_pos h1, if_pos (by omega)]
      · rw [if_neg h1, if_neg (by omega)]
set_option maxRecDepth 100000 in
theorem loop71a {n : Nat} {op arg : Nat → Int} (hn : n ≤ 300) (h1 : 1 ≤ n) : ∀ (r k : Nat), k + r = n - 1 → SL E2 (bodyOf E2 71 0) (S71a n op arg k (dpk k)) (.exit 0) (T71a n op arg (dpk (n - 1))) := by
  intro r
  induction r with
  | zero =>
    intro k hk
    have : k = n - 1 := by omega
    subst this
    exact SL.by (m := 10) sC71b hX2 ltab2_nil ((r71a _ _ _ _ _ _).trans (by rw [if_neg (by simp)]; rfl))
  | succ r ih =>
    intro k hk
    have ew : w ((k : Int) + 1) = ((k + 1 : Nat) : Int) := by rw [w_in (by unfold inR; omega)]; omega
    refine SL.by (m := 10) sC71b hX2 (one2 0 (e' := .ret) (T' := T71r) (ih (k + 1) (by omega))) ((r71a _ _ _ _ _ _).trans ?_)
    rw [if_pos (by simp; omega), ew, if_pos (by omega), Int.toNat_natCast, Nat.zero_add, if_pos ⟨by omega, rfl⟩, putF_r1]
    refine (ltab2_hit ?_).trans ((cl_pos trivial).trans (k71a _ _ _ _))
    exact LeSt.mk' (LeL.refl _) ⟨ChLe.refl _, ChLe.refl _, ChLe.row fun j _ => (by unfold r1; rw [dpk_next]), trivial⟩
theorem k71b : KC2 0 4 (.exit 2) T71b = some (.l (.exit 2) T71b) := by kernel_rfl
theorem k71r : KC2 0 4 .ret T71r = some (.l .ret T71r) := by kernel_rfl
def ends71 (P : Prop) (S : St) : Prop := (P → SL E2 (bodyOf E2 71 2) S (.exit 2) T71b) ∧ (¬ P → SL E2 (bodyOf E2 71 2) S .ret T71r)
theorem ends71_next {P : Prop} {S S1 : St} (h : ends71 P S1) (hn : ∀ lo, loopK E2 C71b lo 2 939524136 (bodyOf E2 71 2) S (KC2 0 4) = lo 2 939524136 (bodyOf E2 71 2) S1 (KC2 0 4)) : ends71 P S := by
  have h0 : loopK E2 C71b (ltab2 [⟨2, bodyOf E2 71 2, S1, P, .exit 2, T71b, .ret, T71r⟩]) 2 939524136 (bodyOf E2 71 2) S (KC2 0 4) = cl P (some (.l (.exit 2) T71b)) (some (.l .ret T71r)) := by
    refine (hn _).trans ((ltab2_hit (LeSt.refl _)).trans ?_)
    rw [k71b, k71r]
  have hs := ltab2_cons (x := ⟨2, bodyOf E2 71 2, S1, P, .exit 2, T71b, .ret, T71r⟩) h ltab2_nil
  exact ⟨fun p => SL.by2 sC71b hX2 hs (h0.trans (cl_pos p)), fun p => SL.by2 sC71b hX2 hs (h0.trans (cl_neg p))⟩
theorem ends71_ret {P : Prop} {S : St} (hp : ¬ P) (hn : ∀ lo, loopK E2 C71b lo 2 939524136 (bodyOf E2 71 2) S (KC2 0 4) = some (.l .ret T71r)) : ends71 P S :=
  ⟨fun p => absurd p hp, fun _ => SL.by2 sC71b hX2 ltab2_nil (hn _)⟩
theorem ends71_iff {P P' : Prop} {S : St} (h : ends71 P S) (e : P' ↔ P) : ends71 P' S := ⟨fun p => h.1 (e.1 p), fun p => h.2 (fun q => p (e.2 q))⟩
def sml (dp : Nat → Int) : Prop := ∀ j, -1 ≤ dp j ∧ dp j ≤ 17
theorem sml.rch {dp : Nat → Int} (h : sml dp) {n : Nat} {t d : Int} (hd : -1 ≤ d ∧ d ≤ 17) : sml (Cv.rchD n dp t d) := by
  intro j
  unfold Cv.rchD
  split
  · unfold Cv.upd
    split
    · exact hd
    · exact h j
  · exact h j
theorem eff_range {o d : Int} (h1 : Cv.effLo o ≤ d) (h2 : d ≤ Cv.effHi o) : -1 ≤ d + Cv.effBy o ∧ d + Cv.effBy o ≤ 17 := by
  unfold Cv.effLo at h1
  unfold Cv.effHi at h2
  unfold Cv.effBy
  by_cases a1 : o = 1 ∨ o = 2 ∨ o = 4
  · simp only [if_pos a1] at *; omega
  by_cases a3 : o = 3 ∨ o = 21 ∨ o = 22 ∨ o = 20
  · simp only [if_neg a1, if_pos a3] at *; omega
  by_cases a9 : o = 9 ∨ o = 13
  · simp only [if_neg a1, if_neg a3, if_pos a9] at *; omega
  by_cases a5 : 5 ≤ o ∧ o ≤ 12
  · simp only [if_neg a1, if_neg a3, if_neg a9, if_pos a5] at *; omega
  by_cases a14 : o = 14
  · simp only [if_neg a1, if_neg a3, if_neg a9, if_neg a5, if_pos a14] at *; omega
  by_cases a15 : o = 15
  · simp only [if_neg a1, if_neg a3, if_neg a9, if_neg a5, if_neg a14, if_pos a15] at *; omega
  simp only [if_neg a1, if_neg a3, if_neg a9, if_neg a5, if_neg a14, if_neg a15] at *; omega
theorem okB_iff (o : Int) : okB o = true ↔ Cv.okOp o := by unfold okB Cv.okOp; simp
set_option maxRecDepth 100000 in
theorem loop71b {n : Nat} {op arg : Nat → Int} (vs : Int) (hn : n ≤ 300) (harg : ∀ i, i < n → Cv.jmp (op i) → 0 ≤ arg i) : ∀ (r i : Nat) (dp : Nat → Int), i + r = n → sml dp → ends71 (Cv.balP (mkC vs n op arg) r i dp) (S71b n op arg i dp) := by
  intro r
  induction r with
  | zero =>
    intro i dp hi _
    exact ⟨fun _ => SL.by2 (m := 0) (r := 4) sC71b hX2 ltab2_nil ((r71b _ _ _ _ _ _).trans (by rw [if_neg (by simp; omega)]; rfl)), fun h => absurd trivial h⟩
  | succ r ih =>
    intro i dp hi hs
    have hi' : i < n := by omega
    have hsi := hs i
    have hid : decide ((i : Int) < (n : Int)) = true := by simpa using hi'
    have hbb : (0 : Int) ≤ (i : Int) ∧ (i : Int) < (n : Int) := by omega
    have hcc : i < n ∧ True := ⟨hi', trivial⟩
    have hq : QI1 [i64 (op i)] ∧ True := ⟨⟨_, rfl⟩, trivial⟩
    have ew : w ((i : Int) + 1) = ((i + 1 : Nat) : Int) := by rw [w_in (by unfold inR; omega)]; omega
    have tree := fun lo => r71b n op arg i dp lo
    simp only [Int.toNat_natCast, Nat.zero_add, ew, if_pos hid, if_pos hbb, eq_self, if_pos hcc, cl_pos hq, dpOf_r1] at tree
    have bl := iff_of_eq (Cv.balP.eq_2 (mkC vs n op arg) i dp r)
    have hop : Cv.Cd.op (mkC vs n op arg) i = op i := rfl
    have har : Cv.Cd.arg (mkC vs n op arg) i = arg i := rfl
    have hnn : Cv.Cd.n (mkC vs n op arg) = n := rfl
    rw [hop, har, hnn] at bl
    by_cases hok' : ¬ Cv.okOp (op i)
    · refine ends71_ret (fun h => hok' (bl.1 h).1.1) fun lo => (tree lo).trans ?_
      have : okB (op i) = false := by cases hb : okB (op i) with | false => rfl | true => exact absurd ((okB_iff _).1 hb) hok'
      rw [if_pos (by rw [this]; rfl)]
      rfl
    have hok := Classical.not_not.1 hok'
    have hokb : ¬ (!okB (op i)) = true := by rw [(okB_iff _).2 hok]; decide
    by_cases hlo' : ¬ Cv.effLo (op i) ≤ dp i
    · refine ends71_ret (fun h => hlo' (bl.1 h).1.2.1) fun lo => (tree lo).trans ?_
      rw [if_neg hokb, if_pos (by simp; omega)]
      rfl
    have hlo := Classical.not_not.1 hlo'
    have hlob : ¬ decide (dp i < Cv.effLo (op i)) = true := by simp; omega
    by_cases hhi' : ¬ dp i ≤ Cv.effHi (op i)
    · refine ends71_ret (fun h => hhi' (bl.1 h).1.2.2) fun lo => (tree lo).trans ?_
      rw [if_neg hokb, if_neg hlob, if_pos (by simp; omega)]
      rfl
    have hhi := Classical.not_not.1 hhi'
    have hhib : ¬ decide (dp i > Cv.effHi (op i)) = true := by simp; omega
    have hd := eff_range hlo hhi
    have ed : w (dp i + Cv.effBy (op i)) = dp i + Cv.effBy (op i) := w_in (by unfold inR; omega)
    simp only [if_neg hokb, if_neg hlob, if_neg hhib, ed] at tree
    generalize dp i + Cv.effBy (op i) = d at *
    have QR : ∀ (t : Int) (x : Nat → Int), 0 ≤ t → QRch [i64 t, i64 d, V.ptr 0 0, V.ptr 1 0] [some (Chunk.blk [V.ro 2 n (ins op arg)]), some (Chunk.blk [V.sl 2 1 0 n]), some (Chunk.row 3 1 n (r1 x))] := fun t x h => ⟨t, d, n, op, arg, x, rfl, rfl, h⟩
    have neg : ∀ {x : Nat → Int} {t : Int}, ¬ Cv.rchB n x t d → (!rchBD n x t d) = true := by
      intro x t h
      have : rchBD n x t d = false := by cases hb : rchBD n x t d with | false => rfl | true => exact absurd ((rchBD_iff _ _ _ _).1 hb) h
      rw [this]; rfl
    have pos : ∀ {x : Nat → Int} {t : Int}, Cv.rchB n x t d → ¬ (!rchBD n x t d) = true := by
      intro x t h
      rw [(rchBD_iff _ _ _ _).2 h]; decide
    by_cases h14 : op i = 14
    · have hj : Cv.jmp (op i) := .inl h14
      have ha := harg i hi' hj
      have bl' : Cv.balP (mkC vs n op arg) (r + 1) i dp ↔ (Cv.rchB n dp (arg i) d ∧ Cv.balP (mkC vs n op arg) r (i + 1) (Cv.rchD n dp (arg i) d)) := by
        rw [bl]
        have hj' : Cv.jmp (14 : Int) := .inl rfl
        rw [h14] at hok hlo hhi
        simp only [hj', if_true, true_implies, h14, ne_eq, not_true_eq_false, false_implies, if_false, true_and]
        exact ⟨fun h => h.2, fun h => ⟨⟨hok, hlo, hhi⟩, h⟩⟩
      by_cases hr : Cv.rchB n dp (arg i) d
      · refine ends71_iff (ends71_next (ih (i + 1) _ (by omega) (hs.rch hd)) fun lo => (tree lo).trans ?_) (bl'.trans ⟨fun h => h.2, fun h => ⟨hr, h⟩⟩)
        rw [if_pos (by simpa using h14), cl_pos (QR _ _ ha), if_neg (pos hr), if_neg (show ¬ (op i != (14 : Int)) = true by simpa using h14)]
        rfl
      · refine ends71_ret (fun h => hr (bl'.1 h).1) fun lo => (tree lo).trans ?_
        rw [if_pos (by simpa using h14), cl_pos (QR _ _ ha), if_pos (neg hr)]
        rfl
    have h14b : (op i != (14 : Int)) = true := by simpa using h14
    have h14n : ¬ (op i == (14 : Int)) = true := by simpa using h14
    by_cases h15 : op i = 15
    · have hj : Cv.jmp (op i) := .inr h15
      have ha := harg i hi' hj
      have bl' : Cv.balP (mkC vs n op arg) (r + 1) i dp ↔ (Cv.rchB n dp (arg i) d ∧ Cv.rchB n (Cv.rchD n dp (arg i) d) ((i + 1 : Nat) : Int) d ∧ Cv.balP (mkC vs n op arg) r (i + 1) (Cv.rchD n (Cv.rchD n dp (arg i) d) ((i + 1 : Nat) : Int) d)) := by
        rw [bl]
        simp only [hj, if_true, true_implies, h14, ne_eq, not_false_eq_true]
        exact ⟨fun h => h.2, fun h => ⟨⟨hok, hlo, hhi⟩, h⟩⟩
      by_cases hr : Cv.rchB n dp (arg i) d
      · by_cases hr2 : Cv.rchB n (Cv.rchD n dp (arg i) d) ((i + 1 : Nat) : Int) d
        · refine ends71_iff (ends71_next (ih (i + 1) _ (by omega) ((hs.rch hd).rch hd)) fun lo => (tree lo).trans ?_) (bl'.trans ⟨fun h => h.2.2, fun h => ⟨hr, hr2, h⟩⟩)
          rw [if_neg h14n, if_pos (by simpa using h15), cl_pos (QR _ _ ha), if_neg (pos hr), if_pos h14b, cl_pos (QR _ _ (by omega)), if_neg (pos hr2)]
          rfl
        · refine ends71_ret (fun h => hr2 (bl'.1 h).2.1) fun lo => (tree lo).trans ?_
          rw [if_neg h14n, if_pos (by simpa using h15), cl_pos (QR _ _ ha), if_neg (pos hr), if_pos h14b, cl_pos (QR _ _ (by omega)), if_pos (neg hr2)]
          rfl
      · refine ends71_ret (fun h => hr (bl'.1 h).1) fun lo => (tree lo).trans ?_
        rw [if_neg h14n, if_pos (by simpa using h15), cl_pos (QR _ _ ha), if_pos (neg hr)]
        rfl
    have h15n : ¬ (op i == (15 : Int)) = true := by simpa using h15
    have hj : ¬ Cv.jmp (op i) := fun h => h.elim h14 h15
    have bl' : Cv.balP (mkC vs n op arg) (r + 1) i dp ↔ (Cv.rchB n dp ((i + 1 : Nat) : Int) d ∧ Cv.balP (mkC vs n op arg) r (i + 1) (Cv.rchD n dp ((i + 1 : Nat) : Int) d)) := by
      rw [bl]
      simp only [hj, if_false, false_implies, true_and, h14, ne_eq, not_false_eq_true, if_true, true_implies]
      exact ⟨fun h => h.2, fun h => ⟨⟨hok, hlo, hhi⟩, h⟩⟩
    by_cases hr : Cv.rchB n dp ((i + 1 : Nat) : Int) d
    · refine ends71_iff (ends71_next (ih (i + 1) _ (by omega) (hs.rch hd)) fun lo => (tree lo).trans ?_) (bl'.trans ⟨fun h => h.2, fun h => ⟨hr, h⟩⟩)
      rw [if_neg h14n, if_neg h15n, if_pos h14b, cl_pos (QR _ _ (by omega)), if_neg (pos hr)]
      rfl
    · refine ends71_ret (fun h => hr (bl'.1 h).1) fun lo => (tree lo).trans ?_
      rw [if_neg h14n, if_neg h15n, if_pos h14b, cl_pos (QR _ _ (by omega)), if_pos (neg hr)]
      rfl
open Classical in
noncomputable def balD (c : Cv.Cd) : Bool := decide (Cv.balP c c.n 0 Cv.dp0)
open Classical in
theorem balD_iff (c : Cv.Cd) : balD c = true ↔ Cv.balP c c.n 0 Cv.dp0 := by unfold balD; rw [decide_eq_true_eq]
set_option maxRecDepth 100000 in
theorem bal_sc {n : Nat} {op arg : Nat → Int} (vs : Int) (hn : n ≤ 300) (h1 : 1 ≤ n) (harg : ∀ i, i < n → Cv.jmp (op i) → 0 ≤ arg i) : SC E2 71 [cd n op arg] [] (.ret (bo (balD (mkC vs n op arg))) []) := by
  have l1 := loop71a (op := op) (arg := arg) hn h1 (n - 1) 0 (by omega)
  have hs0 : sml Cv.dp0 := fun j => by unfold Cv.dp0; split <;> omega
  have l2 := loop71b (arg := arg) vs hn harg n 0 Cv.dp0 (by omega) hs0
  have hc : (n : Int) = (n : Int) ∧ (0 : Int) ≤ (n : Int) ∧ 0 < 1 ∧ 1 = 1 ∧ Int.toNat (n : Int) * 8 ≤ 281474976710656 ∧ Int.toNat (n : Int) ≤ Go.maxLen ∧ (allOk 1 1 fun (x : Nat) => List.map V.sc (Array.toList (Value.cells (Value.int IntKind.i64 0)))) = true := by
    refine ⟨rfl, by omega, by decide, rfl, by rw [Int.toNat_natCast]; omega, by rw [Int.toNat_natCast]; unfold Go.maxLen; omega, by kernel_rfl⟩
  have hsnd : SoundL E2 (ltab2 [⟨0, bodyOf E2 71 0, S71a n op arg 0 (dpk 0), True, .exit 0, T71a n op arg (dpk (n - 1)), .ret, T71r⟩, ⟨2, bodyOf E2 71 2, S71b n op arg 0 Cv.dp0, Cv.balP (mkC vs n op arg) n 0 Cv.dp0, .exit 2, T71b, .ret, T71r⟩]) :=
    ltab2_cons ⟨fun _ => l1, fun h => absurd trivial h⟩ (ltab2_cons l2 ltab2_nil)
  refine SC.of hW2 hX2 sC71b hsnd ((f71 n op arg (dpk (n - 1)) _ _ _).trans ?_)
  have e0 : ∀ j, (fun (x : Nat) => List.map V.sc (Array.toList (Value.cells (Value.int IntKind.i64 0)))) j = r1 (dpk 0) j := by
    intro j
    show [i64 0] = [i64 (dpk 0 j)]
    unfold dpk
    by_cases h : j = 0
    · rw [if_pos h]
    · rw [if_neg h, if_neg (by omega)]
  rw [if_pos hc, if_pos (by rw [Int.toNat_natCast]; omega)]
  rw [cl_pos ⟨rfl, (by
    rw [Int.toNat_natCast, Int.toNat_natCast]
    exact LeSt.mk' (LeL.refl _) ⟨ChLe.refl _, ChLe.refl _, ChLe.row fun j _ => e0 j, trivial⟩)⟩, cl_pos trivial]
  rw [cl_pos ⟨rfl, (by
    refine LeSt.mk' (LeL.refl _) ⟨ChLe.refl _, ChLe.row fun j hj => ?_, ChLe.refl _, trivial⟩
    show [i64 (dpk (n - 1) j)] = [i64 (Cv.dp0 j)]
    unfold dpk Cv.dp0
    by_cases h : j = 0
    · rw [if_pos h, if_pos h]
    · rw [if_neg h, if_neg h, if_pos (by omega)])⟩]
  by_cases hb : Cv.balP (mkC vs n op arg) n 0 Cv.dp0
  · rw [cl_pos hb]
    have : balD (mkC vs n op arg) = true := (balD_iff _).2 hb
    rw [this]
  · rw [cl_neg hb]
    have : balD (mkC vs n op arg) = false := by cases h : balD (mkC vs n op arg) with | false => rfl | true => exact absurd ((balD_iff _).1 h) hb
    rw [this]
end Go.Proofs.Ythegipdgillngaa
/- compile.Verify (56), walked. -/
namespace Go.Proofs.Ythegipdgillngaa
open Go Go.Am Go.Proofs
set_option linter.unusedSimpArgs false
set_option linter.unusedVariables false
/-- A loop that ends in one way, if P is so, and in the other, if not. -/
def Ends (c : ACode) (P : Prop) (S : St) (e1 : Ex) (T1 : St) (e2 : Ex) (T2 : St) : Prop := (P → SL E2 c S e1 T1) ∧ (¬ P → SL E2 c S e2 T2)
theorem Ends.iff {c : ACode} {P P' : Prop} {S : St} {e1 e2 : Ex} {T1 T2 : St} (h : Ends c P S e1 T1 e2 T2) (e : P' ↔ P) : Ends c P' S e1 T1 e2 T2 := ⟨fun p => h.1 (e.1 p), fun p => h.2 (fun q => p (e.2 q))⟩
theorem Ends.next {C : CallT} (hC : SoundC E2 C) {id live m r : Nat} {c : ACode} {P : Prop} {S S' S1 : St} {e1 e2 : Ex} {T1 T2 : St} (h : Ends c P S1 e1 T1 e2 T2) (k1 : KC2 m r e1 T1 = some (.l e1 T1)) (k2 : KC2 m r e2 T2 = some (.l e2 T2)) (hle : LeSt S' S1) (hn : ∀ lo, loopK E2 C lo id live c S (KC2 m r) = lo id live c S' (KC2 m r)) : Ends c P S e1 T1 e2 T2 := by
  have h0 : loopK E2 C (ltab2 [⟨id, c, S1, P, e1, T1, e2, T2⟩]) id live c S (KC2 m r) = cl P (some (.l e1 T1)) (some (.l e2 T2)) := by
    refine (hn _).trans ((ltab2_hit hle).trans ?_)
    rw [k1, k2]
  have hs := ltab2_cons (x := ⟨id, c, S1, P, e1, T1, e2, T2⟩) h ltab2_nil
  exact ⟨fun p => SL.by2 hC hX2 hs (h0.trans (cl_pos p)), fun p => SL.by2 hC hX2 hs (h0.trans (cl_neg p))⟩
theorem Ends.ret {C : CallT} (hC : SoundC E2 C) {id live m r : Nat} {c : ACode} {P : Prop} {S : St} {e1 e2 : Ex} {T1 T2 : St} (hp : ¬ P) (hn : ∀ lo, loopK E2 C lo id live c S (KC2 m r) = some (.l e2 T2)) : Ends c P S e1 T1 e2 T2 :=
  ⟨fun p => absurd p hp, fun _ => SL.by2 hC hX2 ltab2_nil (hn _)⟩
theorem Ends.fin {C : CallT} (hC : SoundC E2 C) {id live m r : Nat} {c : ACode} {P : Prop} {S : St} {e1 e2 : Ex} {T1 T2 : St} (hp : P) (hn : ∀ lo, loopK E2 C lo id live c S (KC2 m r) = some (.l e1 T1)) : Ends c P S e1 T1 e2 T2 :=
  ⟨fun _ => SL.by2 hC hX2 ltab2_nil (hn _), fun p => absurd hp p⟩
theorem all_from {n i r : Nat} {X : Nat → Prop} (h : i + (r + 1) = n) : (∀ j, i ≤ j → j < n → X j) ↔ (X i ∧ ∀ j, i + 1 ≤ j → j < n → X j) := by
  constructor
  · intro g; exact ⟨g i (Nat.le_refl _) (by omega), fun j h1 h2 => g j (by omega) h2⟩
  · rintro ⟨g1, g2⟩ j h1 h2
    by_cases hj : j = i
    · subst hj; exact g1
    · exact g2 j (by omega) h2
def QRng (args : List V) : Prop := ∃ (nm : ByteArray) (ps vs : Int) (n : Nat) (op arg : Nat → Int) (i : Nat), args = [codV nm ps vs n op arg, i64 i] ∧ i < n ∧ n ≤ 300 ∧ 0 ≤ vs ∧ vs ≤ 12
def vRng : List V → V
  | [.agg [.sc (.string _), .sc (.int .i64 ps), .sc (.int .i64 vs), .ro 2 n g], .sc (.int .i64 i)] => match g i.toNat with
    | [.sc (.int .i64 o), .sc (.int .i64 a)] => .tup [i64 (Cv.rngL o i.toNat), i64 (Cv.rngH o i.toNat n vs)]
    | _ => .junk
  | _ => .junk
def QPl (n : Nat) (op arg : Nat → Int) (args : List V) : Prop := args = [cd n op arg]
def QBal (n : Nat) (op arg : Nat → Int) (args : List V) : Prop := args = [cd n op arg] ∧ ∀ i, i < n → Cv.jmp (op i) → 0 ≤ arg i
noncomputable def C56 (n : Nat) (op arg : Nat → Int) (F : V) (B : Bool) : CallT := ptab 69 QRng vRng (ptab 70 (QPl n op arg) (fun _ => F) (ptab 71 (QBal n op arg) (fun _ => bo B) (tab [])))
theorem sC56 {n : Nat} {op arg : Nat → Int} (vs : Int) (hn : n ≤ 300) (h1 : 1 ≤ n) {F : V} (hF : F = plV n (Cv.plcP (mkC vs n op arg) n 0 pl0)) : SoundC E2 (C56 n op arg F (balD (mkC vs n op arg))) := by
  subst hF
  refine ptab_cons (fun args h => ?_) (ptab_cons (fun args h => ?_) (ptab_cons (fun args h => ?_) tab_nil))
  · obtain ⟨nm, ps, vs, n, op, arg, i, rfl, g1, g2, g3, g4⟩ := h
    exact rng_sc g1 g2 g3 g4
  · cases h
    exact places_sc vs hn
  · obtain ⟨rfl, g⟩ := h
    exact bal_sc vs hn h1 g
def S56a (nm : ByteArray) (ps vs : Int) (n : Nat) (op arg : Nat → Int) (i : Nat) : St := { fr := [.junk, .ptr 0 0] ++ jk 35 ++ [cd n op arg, i64 n, i64 i] ++ jk 74, H := hp [some (.blk [st nm, i64 ps, i64 vs, cd n op arg])], nx := 1, rt := 0, me := 56 }
def T56a (nm : ByteArray) (ps vs : Int) (n : Nat) (op arg : Nat → Int) : St := { fr := [.junk, .ptr 0 0] ++ jk 112, H := hp [some (.blk [st nm, i64 ps, i64 vs, cd n op arg])], nx := 1, rt := 0, me := 56 }
def T56r : St := { fr := [.junk, .junk, i64 13] ++ jk 111, H := hp [], nx := 0, rt := 0, me := 56 }
def S56b (nm : ByteArray) (ps vs : Int) (n : Nat) (op arg : Nat → Int) (oL oW : Nat → Int) (i : Nat) : St := { fr := [.junk, .ptr 0 0] ++ jk 5 ++ [.ro 2 n (r2 oL oW)] ++ jk 74 ++ [cd n op arg, i64 n, i64 i] ++ jk 29, H := hp [some (.blk [st nm, i64 ps, i64 vs, cd n op arg])], nx := 1, rt := 0, me := 56 }
theorem r56a (nm : ByteArray) (B : Bool) (ps vs : Int) (n : Nat) (op arg : Nat → Int) (i : Nat) (F : V) (lo : LoopT) : loopK E2 (C56 n op arg F B) lo 0 962072674306 (bodyOf E2 56 0) (S56a nm ps vs n op arg i) (KC2 2 4) =
  if decide ((i : Int) < (n : Int)) = true then
   if (0 : Int) ≤ (i : Int) ∧ (i : Int) < (n : Int) then
    cl (QRng ([V.agg [V.sc (Value.string nm), i64 ps, i64 vs, V.ro 2 n (ins op arg)], i64 (i : Int)]) ∧ ([] : List (Option Chunk)) = []) (
     if decide (arg (Int.toNat (i : Int)) < Cv.rngL (op (Int.toNat (i : Int))) (Int.toNat (i : Int))) = true then
      some (Ans.l Ex.ret { fr := [V.junk, V.junk, i64 13] ++ jk 111, H := hp [], nx := 0, rt := 0, me := 56 })
     else
      if decide (arg (Int.toNat (i : Int)) > Cv.rngH (op (Int.toNat (i : Int))) (Int.toNat (i : Int)) n vs) = true then
       some (Ans.l Ex.ret { fr := [V.junk, V.junk, i64 13] ++ jk 111, H := hp [], nx := 0, rt := 0, me := 56 })
      else
       if (!(op (Int.toNat (i : Int)) == (28 : Int)) == ((i : Int) == w ((n : Int) - (1 : Int)))) = true then
        some (Ans.l Ex.ret { fr := [V.junk, V.junk, i64 13] ++ jk 111, H := hp [], nx := 0, rt := 0, me := 56 })
       else
        lo 0 962072674306 (bodyOf E2 56 0) ({ fr := [V.junk, V.ptr 0 0, V.junk, V.junk, V.junk, V.junk, V.junk, V.junk, V.junk, V.junk, V.junk, V.junk, V.junk, V.junk, V.junk, V.junk, V.junk, V.junk, V.junk, V.junk, V.junk, V.junk, V.junk, V.junk, V.junk, V.junk, V.junk, V.junk, V.junk, V.junk, V.junk, V.junk, V.junk, V.junk, V.junk, V.junk, V.junk, V.ro 2 n (ins op arg), i64 (n : Int), i64 (w ((i : Int) + (1 : Int)))] ++ jk 74, H := hp [some (Chunk.blk [V.sc (Value.string nm), i64 ps, i64 vs, V.ro 2 n (ins op arg)])], nx := 1, rt := 0, me := 56 }) (KC2 2 4)) (
     none)
   else
    none
  else
   some (Ans.l (Ex.exit 0) { fr := [V.junk, V.ptr 0 0] ++ jk 112, H := hp [some (Chunk.blk [V.sc (Value.string nm), i64 ps, i64 vs, V.ro 2 n (ins op arg)])], nx := 1, rt := 0, me := 56 }) := by kernel_rfl

theorem r56b (nm : ByteArray) (B : Bool) (ps vs : Int) (n : Nat) (op arg oL oW : Nat → Int) (i : Nat) (F : V) (lo : LoopT) : loopK E2 (C56 n op arg F B) lo 2 33849922949209616891773058 (bodyOf E2 56 2) (S56b nm ps vs n op arg oL oW i) (KC2 2 4) =
  if decide ((i : Int) < (n : Int)) = true then
   if (0 : Int) ≤ (i : Int) ∧ (i : Int) < (n : Int) then
    if (op (Int.toNat (i : Int)) == (14 : Int)) = true then
     if (0 : Int) ≤ arg (Int.toNat (i : Int)) ∧ arg (Int.toNat (i : Int)) < (n : Int) then
      if (0 : Int) ≤ (i : Int) ∧ (i : Int) < (n : Int) then
       if (if true = true then !(oL (Int.toNat (arg (Int.toNat (i : Int)))) == oL (Int.toNat (i : Int)) && (oW (Int.toNat (arg (Int.toNat (i : Int)))) == oW (Int.toNat (i : Int)) && true)) else oL (Int.toNat (arg (Int.toNat (i : Int)))) == oL (Int.toNat (i : Int)) && (oW (Int.toNat (arg (Int.toNat (i : Int)))) == oW (Int.toNat (i : Int)) && true)) = true then
        some (Ans.l Ex.ret { fr := [V.junk, V.junk, i64 13] ++ jk 111, H := hp [], nx := 0, rt := 0, me := 56 })
       else
        lo 2 33849922949209616891773058 (bodyOf E2 56 2) ({ fr := [V.junk, V.ptr 0 0, V.junk, V.junk, V.junk, V.junk, V.junk, V.ro 2 n (r2 oL oW), V.junk, V.junk, V.junk, V.junk, V.junk, V.junk, V.junk, V.junk, V.junk, V.junk, V.junk, V.junk, V.junk, V.junk, V.junk, V.junk, V.junk, V.junk, V.junk, V.junk, V.junk, V.junk, V.junk, V.junk, V.junk, V.junk, V.junk, V.junk, V.junk, V.junk, V.junk, V.junk, V.junk, V.junk, V.junk, V.junk, V.junk, V.junk, V.junk, V.junk, V.junk, V.junk, V.junk, V.junk, V.junk, V.junk, V.junk, V.junk, V.junk, V.junk, V.junk, V.junk, V.junk, V.junk, V.junk, V.junk, V.junk, V.junk, V.junk, V.junk, V.junk, V.junk, V.junk, V.junk, V.junk, V.junk, V.junk, V.junk, V.junk, V.junk, V.junk, V.junk, V.junk, V.junk, V.ro 2 n (ins op arg), i64 (n : Int), i64 (w ((i : Int) + (1 : Int)))] ++ jk 29, H := hp [some (Chunk.blk [V.sc (Value.string nm), i64 ps, i64 vs, V.ro 2 n (ins op arg)])], nx := 1, rt := 0, me := 56 }) (KC2 2 4)
      else
       none
     else
      none
    else
     if (op (Int.toNat (i : Int)) == (15 : Int)) = true then
      if (0 : Int) ≤ arg (Int.toNat (i : Int)) ∧ arg (Int.toNat (i : Int)) < (n : Int) then
       if (0 : Int) ≤ (i : Int) ∧ (i : Int) < (n : Int) then
        if (if true = true then !(oL (Int.toNat (arg (Int.toNat (i : Int)))) == oL (Int.toNat (i : Int)) && (oW (Int.toNat (arg (Int.toNat (i : Int)))) == oW (Int.toNat (i : Int)) && true)) else oL (Int.toNat (arg (Int.toNat (i : Int)))) == oL (Int.toNat (i : Int)) && (oW (Int.toNat (arg (Int.toNat (i : Int)))) == oW (Int.toNat (i : Int)) && true)) = true then
         some (Ans.l Ex.ret { fr := [V.junk, V.junk, i64 13] ++ jk 111, H := hp [], nx := 0, rt := 0, me := 56 })
        else
         lo 2 33849922949209616891773058 (bodyOf E2 56 2) ({ fr := [V.junk, V.ptr 0 0, V.junk, V.junk, V.junk, V.junk, V.junk, V.ro 2 n (r2 oL oW), V.junk, V.junk, V.junk, V.junk, V.junk, V.junk, V.junk, V.junk, V.junk, V.junk, V.junk, V.junk, V.junk, V.junk, V.junk, V.junk, V.junk, V.junk, V.junk, V.junk, V.junk, V.junk, V.junk, V.junk, V.junk, V.junk, V.junk, V.junk, V.junk, V.junk, V.junk, V.junk, V.junk, V.junk, V.junk, V.junk, V.junk, V.junk, V.junk, V.junk, V.junk, V.junk, V.junk, V.junk, V.junk, V.junk, V.junk, V.junk, V.junk, V.junk, V.junk, V.junk, V.junk, V.junk, V.junk, V.junk, V.junk, V.junk, V.junk, V.junk, V.junk, V.junk, V.junk, V.junk, V.junk, V.junk, V.junk, V.junk, V.junk, V.junk, V.junk, V.junk, V.junk, V.junk, V.ro 2 n (ins op arg), i64 (n : Int), i64 (w ((i : Int) + (1 : Int)))] ++ jk 29, H := hp [some (Chunk.blk [V.sc (Value.string nm), i64 ps, i64 vs, V.ro 2 n (ins op arg)])], nx := 1, rt := 0, me := 56 }) (KC2 2 4)
       else
        none
      else
       none
     else
      lo 2 33849922949209616891773058 (bodyOf E2 56 2) ({ fr := [V.junk, V.ptr 0 0, V.junk, V.junk, V.junk, V.junk, V.junk, V.ro 2 n (r2 oL oW), V.junk, V.junk, V.junk, V.junk, V.junk, V.junk, V.junk, V.junk, V.junk, V.junk, V.junk, V.junk, V.junk, V.junk, V.junk, V.junk, V.junk, V.junk, V.junk, V.junk, V.junk, V.junk, V.junk, V.junk, V.junk, V.junk, V.junk, V.junk, V.junk, V.junk, V.junk, V.junk, V.junk, V.junk, V.junk, V.junk, V.junk, V.junk, V.junk, V.junk, V.junk, V.junk, V.junk, V.junk, V.junk, V.junk, V.junk, V.junk, V.junk, V.junk, V.junk, V.junk, V.junk, V.junk, V.junk, V.junk, V.junk, V.junk, V.junk, V.junk, V.junk, V.junk, V.junk, V.junk, V.junk, V.junk, V.junk, V.junk, V.junk, V.junk, V.junk, V.junk, V.junk, V.junk, V.ro 2 n (ins op arg), i64 (n : Int), i64 (w ((i : Int) + (1 : Int)))] ++ jk 29, H := hp [some (Chunk.blk [V.sc (Value.string nm), i64 ps, i64 vs, V.ro 2 n (ins op arg)])], nx := 1, rt := 0, me := 56 }) (KC2 2 4)
   else
    none
  else
   some (Ans.l (Ex.exit 2) { fr := [V.junk, V.ptr 0 0] ++ jk 112, H := hp [some (Chunk.blk [V.sc (Value.string nm), i64 ps, i64 vs, V.ro 2 n (ins op arg)])], nx := 1, rt := 0, me := 56 }) := by kernel_rfl

theorem f56s (nm : ByteArray) (B : Bool) (ps vs : Int) (n : Nat) (op arg oL oW : Nat → Int) (b : Bool) (S1 S2 : St) (P P2 : Prop) : callK E2 (C56 n op arg (plS n oL oW b) B) (ltab2 [⟨0, bodyOf E2 56 0, S1, P, .exit 0, T56a nm ps vs n op arg, .ret, T56r⟩, ⟨2, bodyOf E2 56 2, S2, P2, .exit 2, T56a nm ps vs n op arg, .ret, T56r⟩]) 56 [codV nm ps vs n op arg] [] K =
  if decide ((n : Int) > (300 : Int)) = true then
   some (Ans.c (CRes.ret (i64 2) []))
  else
   if decide (vs > (12 : Int)) = true then
    some (Ans.c (CRes.ret (i64 2) []))
   else
    if decide (ps < (0 : Int)) = true then
     some (Ans.c (CRes.ret (i64 13) []))
    else
     if decide (ps > vs) = true then
      some (Ans.c (CRes.ret (i64 13) []))
     else
      if ((n : Int) == (0 : Int)) = true then
       some (Ans.c (CRes.ret (i64 13) []))
      else
       cl ((bodyOf E2 56 0) = (bodyOf E2 56 0) ∧ LeSt ({ fr := [V.junk, V.ptr 0 0, V.junk, V.junk, V.junk, V.junk, V.junk, V.junk, V.junk, V.junk, V.junk, V.junk, V.junk, V.junk, V.junk, V.junk, V.junk, V.junk, V.junk, V.junk, V.junk, V.junk, V.junk, V.junk, V.junk, V.junk, V.junk, V.junk, V.junk, V.junk, V.junk, V.junk, V.junk, V.junk, V.junk, V.junk, V.junk, V.ro 2 n (ins op arg), i64 (n : Int), i64 0] ++ jk 74, H := hp [some (Chunk.blk [V.sc (Value.string nm), i64 ps, i64 vs, V.ro 2 n (ins op arg)])], nx := 1, rt := 0, me := 56 }) (S1)) (
        cl (P) (
         cl ((QPl n op arg) ([V.ro 2 n (ins op arg)]) ∧ ([] : List (Option Chunk)) = []) (
          if (!b) = true then
           some (Ans.c (CRes.ret (i64 13) []))
          else
           cl ((bodyOf E2 56 2) = (bodyOf E2 56 2) ∧ LeSt ({ fr := [V.junk, V.ptr 0 0, V.junk, V.junk, V.junk, V.junk, V.junk, V.ro 2 n (r2 oL oW), V.junk, V.junk, V.junk, V.junk, V.junk, V.junk, V.junk, V.junk, V.junk, V.junk, V.junk, V.junk, V.junk, V.junk, V.junk, V.junk, V.junk, V.junk, V.junk, V.junk, V.junk, V.junk, V.junk, V.junk, V.junk, V.junk, V.junk, V.junk, V.junk, V.junk, V.junk, V.junk, V.junk, V.junk, V.junk, V.junk, V.junk, V.junk, V.junk, V.junk, V.junk, V.junk, V.junk, V.junk, V.junk, V.junk, V.junk, V.junk, V.junk, V.junk, V.junk, V.junk, V.junk, V.junk, V.junk, V.junk, V.junk, V.junk, V.junk, V.junk, V.junk, V.junk, V.junk, V.junk, V.junk, V.junk, V.junk, V.junk, V.junk, V.junk, V.junk, V.junk, V.junk, V.junk, V.ro 2 n (ins op arg), i64 (n : Int), i64 0] ++ jk 29, H := hp [some (Chunk.blk [V.sc (Value.string nm), i64 ps, i64 vs, V.ro 2 n (ins op arg)])], nx := 1, rt := 0, me := 56 }) (S2)) (
            cl (P2) (
             cl ((QBal n op arg) ([V.ro 2 n (ins op arg)]) ∧ ([] : List (Option Chunk)) = []) (
              if (!B) = true then
               some (Ans.c (CRes.ret (i64 13) []))
              else
               some (Ans.c (CRes.ret (i64 0) []))) (
              none)) (
             some (Ans.c (CRes.ret (i64 13) [])))) (
            none)) (
          none)) (
         some (Ans.c (CRes.ret (i64 13) [])))) (
        none) := by kernel_rfl

theorem f56n (nm : ByteArray) (B : Bool) (ps vs : Int) (n : Nat) (op arg : Nat → Int) (S1 : St) (P : Prop) : callK E2 (C56 n op arg plN B) (ltab2 [⟨0, bodyOf E2 56 0, S1, P, .exit 0, T56a nm ps vs n op arg, .ret, T56r⟩]) 56 [codV nm ps vs n op arg] [] K =
  if decide ((n : Int) > (300 : Int)) = true then
   some (Ans.c (CRes.ret (i64 2) []))
  else
   if decide (vs > (12 : Int)) = true then
    some (Ans.c (CRes.ret (i64 2) []))
   else
    if decide (ps < (0 : Int)) = true then
     some (Ans.c (CRes.ret (i64 13) []))
    else
     if decide (ps > vs) = true then
      some (Ans.c (CRes.ret (i64 13) []))
     else
      if ((n : Int) == (0 : Int)) = true then
       some (Ans.c (CRes.ret (i64 13) []))
      else
       cl ((bodyOf E2 56 0) = (bodyOf E2 56 0) ∧ LeSt ({ fr := [V.junk, V.ptr 0 0, V.junk, V.junk, V.junk, V.junk, V.junk, V.junk, V.junk, V.junk, V.junk, V.junk, V.junk, V.junk, V.junk, V.junk, V.junk, V.junk, V.junk, V.junk, V.junk, V.junk, V.junk, V.junk, V.junk, V.junk, V.junk, V.junk, V.junk, V.junk, V.junk, V.junk, V.junk, V.junk, V.junk, V.junk, V.junk, V.ro 2 n (ins op arg), i64 (n : Int), i64 0] ++ jk 74, H := hp [some (Chunk.blk [V.sc (Value.string nm), i64 ps, i64 vs, V.ro 2 n (ins op arg)])], nx := 1, rt := 0, me := 56 }) (S1)) (
        cl (P) (
         cl ((QPl n op arg) ([V.ro 2 n (ins op arg)]) ∧ ([] : List (Option Chunk)) = []) (
          some (Ans.c (CRes.ret (i64 13) []))) (
          none)) (
         some (Ans.c (CRes.ret (i64 13) [])))) (
        none) := by kernel_rfl

theorem f56_e (nm : ByteArray) (ps vs : Int) (n : Nat) (op arg : Nat → Int) : callK E2 (tab []) (ltab2 []) 56 [codV nm ps vs n op arg] [] K =
  if decide ((n : Int) > (300 : Int)) = true then
   some (Ans.c (CRes.ret (i64 2) []))
  else
   if decide (vs > (12 : Int)) = true then
    some (Ans.c (CRes.ret (i64 2) []))
   else
    if decide (ps < (0 : Int)) = true then
     some (Ans.c (CRes.ret (i64 13) []))
    else
     if decide (ps > vs) = true then
      some (Ans.c (CRes.ret (i64 13) []))
     else
      if ((n : Int) == (0 : Int)) = true then
       some (Ans.c (CRes.ret (i64 13) []))
      else
       none := by kernel_rfl

theorem k56a (nm : ByteArray) (ps vs : Int) (n : Nat) (op arg : Nat → Int) : KC2 2 4 (.exit 0) (T56a nm ps vs n op arg) = some (.l (.exit 0) (T56a nm ps vs n op arg)) := by kernel_rfl
theorem k56b (nm : ByteArray) (ps vs : Int) (n : Nat) (op arg : Nat → Int) : KC2 2 4 (.exit 2) (T56a nm ps vs n op arg) = some (.l (.exit 2) (T56a nm ps vs n op arg)) := by kernel_rfl
theorem k56r : KC2 2 4 .ret T56r = some (.l .ret T56r) := by kernel_rfl
set_option maxRecDepth 100000 in
theorem loop56a {nm : ByteArray} {ps vs : Int} {n : Nat} {op arg : Nat → Int} {F : V} {B : Bool} (hC : SoundC E2 (C56 n op arg F B)) (hn : n ≤ 300) (h0 : 0 ≤ vs) (hv : vs ≤ 12) : ∀ (r i : Nat), i + r = n → Ends (bodyOf E2 56 0) (∀ j, i ≤ j → j < n → Cv.rng (mkC vs n op arg) j ∧ Cv.stopOk (mkC vs n op arg) j) (S56a nm ps vs n op arg i) (.exit 0) (T56a nm ps vs n op arg) .ret T56r := by
  intro r
  induction r with
  | zero =>
    intro i hi
    exact Ends.fin hC (fun j h1 h2 => by omega) fun lo => (r56a _ _ _ _ _ _ _ _ _ _).trans (by rw [if_neg (by simp; omega)]; rfl)
  | succ r ih =>
    intro i hi
    have hi' : i < n := by omega
    have hid : decide ((i : Int) < (n : Int)) = true := by simpa using hi'
    have hbb : (0 : Int) ≤ (i : Int) ∧ (i : Int) < (n : Int) := by omega
    have hq : QRng [V.agg [V.sc (Value.string nm), i64 ps, i64 vs, V.ro 2 n (ins op arg)], i64 (i : Int)] ∧ True := ⟨⟨nm, ps, vs, n, op, arg, i, rfl, hi', hn, h0, hv⟩, trivial⟩
    have ew : w ((i : Int) + 1) = ((i + 1 : Nat) : Int) := by rw [w_in (by unfold inR; omega)]; omega
    have en : w ((n : Int) - 1) = (n : Int) - 1 := w_in (by unfold inR; omega)
    have tree := fun lo => r56a nm B ps vs n op arg i F lo
    simp only [if_pos hid, if_pos hbb, eq_self, cl_pos hq, Int.toNat_natCast, ew, en] at tree
    refine Ends.iff ?_ (all_from hi)
    have er : Cv.rng (mkC vs n op arg) i ↔ Cv.rngL (op i) i ≤ arg i ∧ arg i ≤ Cv.rngH (op i) i n vs := Iff.rfl
    have es : Cv.stopOk (mkC vs n op arg) i ↔ (op i = 28 ↔ i + 1 = n) := Iff.rfl
    rw [er, es]
    by_cases hlo : arg i < Cv.rngL (op i) i
    · refine Ends.ret hC (fun h => by omega) fun lo => (tree lo).trans ?_
      rw [if_pos (by simpa using hlo)]; rfl
    by_cases hhi : arg i > Cv.rngH (op i) i n vs
    · refine Ends.ret hC (fun h => by omega) fun lo => (tree lo).trans ?_
      rw [if_neg (by simpa using hlo), if_pos (by simpa using hhi)]; rfl
    have e28 : (!(op i == (28 : Int)) == ((i : Int) == (n : Int) - 1)) = true ↔ ¬ (op i = 28 ↔ i + 1 = n) := by
      have eb1 : ((i : Int) == (n : Int) - 1) = decide (i + 1 = n) := by rw [Bool.eq_iff_iff, beq_iff_eq, decide_eq_true_eq]; omega
      have eb2 : (op i == (28 : Int)) = decide (op i = 28) := rfl
      rw [eb1, eb2]
      by_cases a : op i = 28 <;> by_cases b : i + 1 = n
      · rw [decide_eq_true a, decide_eq_true b]; simp [a, b]
      · rw [decide_eq_true a, decide_eq_false b]; simp [a, b]
      · rw [decide_eq_false a, decide_eq_true b]; simp [a, b]
      · rw [decide_eq_false a, decide_eq_false b]; simp [a, b]
    by_cases hs : (op i = 28 ↔ i + 1 = n)
    · refine Ends.iff (Ends.next hC (ih (i + 1) (by omega)) (k56a _ _ _ _ _ _) k56r (LeSt.refl _) fun lo => (tree lo).trans ?_) ⟨fun h => h.2, fun h => ⟨⟨⟨by omega, by omega⟩, hs⟩, h⟩⟩
      rw [if_neg (by simpa using hlo), if_neg (by simpa using hhi), if_neg (fun h => e28.1 h hs)]; rfl
    · refine Ends.ret hC (fun h => hs h.1.2) fun lo => (tree lo).trans ?_
      rw [if_neg (by simpa using hlo), if_neg (by simpa using hhi), if_pos (e28.2 hs)]; rfl
theorem end56b {nm : ByteArray} {ps vs : Int} {n : Nat} {op arg oL oW : Nat → Int} {F : V} {B : Bool} (hC : SoundC E2 (C56 n op arg F B)) : Ends (bodyOf E2 56 2) True (S56b nm ps vs n op arg oL oW n) (.exit 2) (T56a nm ps vs n op arg) .ret T56r :=
  Ends.fin hC trivial fun lo => (r56b _ _ _ _ _ _ _ _ _ _ _ _).trans (by rw [if_neg (by simp)]; rfl)
def jump1 (c : Cv.Cd) (oL oW : Nat → Int) (i : Nat) : Prop := Cv.jmp (c.op i) → oL (c.arg i).toNat = oL i ∧ oW (c.arg i).toNat = oW i
set_option maxRecDepth 100000 in
theorem loop56b {nm : ByteArray} {ps vs : Int} {n : Nat} {op arg oL oW : Nat → Int} {F : V} {B : Bool} (hC : SoundC E2 (C56 n op arg F B)) (hn : n ≤ 300) (harg : ∀ i, i < n → Cv.jmp (op i) → 0 ≤ arg i ∧ arg i < n) : ∀ (r i : Nat), i + r = n → Ends (bodyOf E2 56 2) (∀ j, i ≤ j → j < n → jump1 (mkC vs n op arg) oL oW j) (S56b nm ps vs n op arg oL oW i) (.exit 2) (T56a nm ps vs n op arg) .ret T56r := by
  intro r
  induction r with
  | zero =>
    intro i hi
    exact Ends.fin hC (fun j h1 h2 => by omega) fun lo => (r56b _ _ _ _ _ _ _ _ _ _ _ _).trans (by rw [if_neg (by simp; omega)]; rfl)
  | succ r ih =>
    intro i hi
    have hi' : i < n := by omega
    have hid : decide ((i : Int) < (n : Int)) = true := by simpa using hi'
    have hbb : (0 : Int) ≤ (i : Int) ∧ (i : Int) < (n : Int) := by omega
    have ew : w ((i : Int) + 1) = ((i + 1 : Nat) : Int) := by rw [w_in (by unfold inR; omega)]; omega
    have tree := fun lo => r56b nm B ps vs n op arg oL oW i F lo
    simp only [if_pos hid, if_pos hbb, Int.toNat_natCast, ew, if_true] at tree
    refine Ends.iff ?_ (all_from hi)
    have ej : jump1 (mkC vs n op arg) oL oW i ↔ (Cv.jmp (op i) → oL (arg i).toNat = oL i ∧ oW (arg i).toNat = oW i) := Iff.rfl
    rw [ej]
    have eb : (!(oL (arg i).toNat == oL i && (oW (arg i).toNat == oW i && true))) = true ↔ ¬ (oL (arg i).toNat = oL i ∧ oW (arg i).toNat = oW i) := by
      rw [Bool.and_true]
      by_cases a : oL (arg i).toNat = oL i <;> by_cases b : oW (arg i).toNat = oW i <;> simp [a, b]
    by_cases h14 : op i = 14
    · have hj : Cv.jmp (op i) := .inl h14
      have ha := harg i hi' hj
      by_cases hs : (oL (arg i).toNat = oL i ∧ oW (arg i).toNat = oW i)
      · refine Ends.iff (Ends.next hC (ih (i + 1) (by omega)) (k56b _ _ _ _ _ _) k56r (LeSt.refl _) fun lo => (tree lo).trans ?_) ⟨fun h => h.2, fun h => ⟨fun _ => hs, h⟩⟩
        rw [if_pos (by simpa using h14), if_pos ha, if_neg (fun h => eb.1 h hs)]; rfl
      · refine Ends.ret hC (fun h => hs (h.1 hj)) fun lo => (tree lo).trans ?_
        rw [if_pos (by simpa using h14), if_pos ha, if_pos (eb.2 hs)]; rfl
    by_cases h15 : op i = 15
    · have hj : Cv.jmp (op i) := .inr h15
      have ha := harg i hi' hj
      by_cases hs : (oL (arg i).toNat = oL i ∧ oW (arg i).toNat = oW i)
      · refine Ends.iff (Ends.next hC (ih (i + 1) (by omega)) (k56b _ _ _ _ _ _) k56r (LeSt.refl _) fun lo => (tree lo).trans ?_) ⟨fun h => h.2, fun h => ⟨fun _ => hs, h⟩⟩
        rw [if_neg (by simpa using h14), if_pos (by simpa using h15), if_pos ha, if_neg (fun h => eb.1 h hs)]; rfl
      · refine Ends.ret hC (fun h => hs (h.1 hj)) fun lo => (tree lo).trans ?_
        rw [if_neg (by simpa using h14), if_pos (by simpa using h15), if_pos ha, if_pos (eb.2 hs)]; rfl
    refine Ends.iff (Ends.next hC (ih (i + 1) (by omega)) (k56b _ _ _ _ _ _) k56r (LeSt.refl _) fun lo => (tree lo).trans ?_) ⟨fun h => h.2, fun h => ⟨fun hj => (hj.elim h14 h15).elim, h⟩⟩
    rw [if_neg (by simpa using h14), if_neg (by simpa using h15)]; rfl
open Classical in
/-- What both checks of code answer. -/
noncomputable def verV (ps : Int) (c : Cv.Cd) : Int := if c.n > 300 ∨ c.vars > 12 then 2 else if ps < 0 ∨ ps > c.vars ∨ c.n = 0 ∨ ¬ Cv.VP c then 13 else 0
theorem verV_2 {ps : Int} {c : Cv.Cd} (h : c.n > 300 ∨ c.vars > 12) : verV ps c = 2 := by unfold verV; exact if_pos h
theorem verV_13 {ps : Int} {c : Cv.Cd} (h : ¬ (c.n > 300 ∨ c.vars > 12)) (h2 : ps < 0 ∨ ps > c.vars ∨ c.n = 0 ∨ ¬ Cv.VP c) : verV ps c = 13 := by unfold verV; rw [if_neg h, if_pos h2]
theorem verV_0 {ps : Int} {c : Cv.Cd} (h : ¬ (c.n > 300 ∨ c.vars > 12)) (h2 : ¬ (ps < 0 ∨ ps > c.vars ∨ c.n = 0 ∨ ¬ Cv.VP c)) : verV ps c = 0 := by unfold verV; rw [if_neg h, if_neg h2]
theorem jmps_all (c : Cv.Cd) (oL oW : Nat → Int) : Cv.jmps c oL oW ↔ ∀ j, 0 ≤ j → j < c.n → jump1 c oL oW j := ⟨fun h j _ hj => h j hj, fun h j hj => h j (Nat.zero_le _) hj⟩
set_option maxRecDepth 100000 in
theorem verify_sc (nm : ByteArray) (ps vs : Int) (n : Nat) (op arg : Nat → Int) : SC E2 56 [codV nm ps vs n op arg] [] (.ret (i64 (verV ps (mkC vs n op arg))) []) := by
  have hcn : (mkC vs n op arg).n = n := rfl
  have hcv : (mkC vs n op arg).vars = vs := rfl
  by_cases hn : n > 300
  · rw [verV_2 (.inl hn)]
    refine SC.of hW2 hX2 tab_nil ltab2_nil ((f56_e ..).trans ?_)
    rw [if_pos (by simp; omega)]
  have hnn : ¬ decide ((n : Int) > (300 : Int)) = true := by simp; omega
  by_cases hv : vs > 12
  · rw [verV_2 (.inr hv)]
    refine SC.of hW2 hX2 tab_nil ltab2_nil ((f56_e ..).trans ?_)
    rw [if_neg hnn, if_pos (by simpa using hv)]
  have hvv : ¬ decide (vs > (12 : Int)) = true := by simpa using hv
  have h2 : ¬ ((mkC vs n op arg).n > 300 ∨ (mkC vs n op arg).vars > 12) := by rw [hcn, hcv]; omega
  by_cases hp : ps < 0
  · rw [verV_13 h2 (.inl hp)]
    refine SC.of hW2 hX2 tab_nil ltab2_nil ((f56_e ..).trans ?_)
    rw [if_neg hnn, if_neg hvv, if_pos (by simpa using hp)]
  have hpp : ¬ decide (ps < (0 : Int)) = true := by simpa using hp
  by_cases hp2 : ps > vs
  · rw [verV_13 h2 (.inr (.inl hp2))]
    refine SC.of hW2 hX2 tab_nil ltab2_nil ((f56_e ..).trans ?_)
    rw [if_neg hnn, if_neg hvv, if_neg hpp, if_pos (by simpa using hp2)]
  have hpp2 : ¬ decide (ps > vs) = true := by simpa using hp2
  by_cases hz : n = 0
  · rw [verV_13 h2 (.inr (.inr (.inl hz)))]
    refine SC.of hW2 hX2 tab_nil ltab2_nil ((f56_e ..).trans ?_)
    rw [if_neg hnn, if_neg hvv, if_neg hpp, if_neg hpp2, if_pos (by simp; omega)]
  have hzz : ¬ ((n : Int) == (0 : Int)) = true := by simp; omega
  have hn3 : n ≤ 300 := by omega
  have h0 : 0 ≤ vs := by omega
  have hv12 : vs ≤ 12 := by omega
  have bad : ¬ Cv.VP (mkC vs n op arg) → verV ps (mkC vs n op arg) = 13 := fun h => verV_13 h2 (.inr (.inr (.inr h)))
  have good : Cv.VP (mkC vs n op arg) → verV ps (mkC vs n op arg) = 0 := fun h => verV_0 h2 (fun g => by rcases g with g | g | g | g; exact hp g; exact hp2 g; exact hz g; exact g h)
  have hpl : ∀ q, Cv.plcP (mkC vs n op arg) n 0 pl0 = q → Cv.plcP (mkC vs n op arg) (mkC vs n op arg).n 0 ⟨Cv.zero, Cv.zero, -1, -1⟩ = q := fun q h => h
  cases hx : Cv.plcP (mkC vs n op arg) n 0 pl0 with
  | none =>
    have hC := sC56 (F := plN) vs hn3 (by omega) (by rw [hx]; rfl)
    have l1 := loop56a (nm := nm) (ps := ps) (vs := vs) hC hn3 h0 hv12 n 0 (by omega)
    have hnv : ¬ Cv.VP (mkC vs n op arg) := by
      rintro ⟨_, ⟨q, hq, _⟩, _⟩
      rw [hpl _ hx] at hq
      cases hq
    rw [bad hnv]
    refine SC.of hW2 hX2 hC (ltab2_cons (x := ⟨0, _, _, _, _, _, _, _⟩) l1 ltab2_nil) ((f56n _ _ _ _ _ _ _ _ _).trans ?_)
    rw [if_neg hnn, if_neg hvv, if_neg hpp, if_neg hpp2, if_neg hzz, cl_pos ⟨rfl, LeSt.refl _⟩]
    by_cases hP : (∀ j, 0 ≤ j → j < n → Cv.rng (mkC vs n op arg) j ∧ Cv.stopOk (mkC vs n op arg) j)
    · rw [cl_pos hP, cl_pos ⟨rfl, rfl⟩]
    · rw [cl_neg hP]
  | some q =>
    have hC := sC56 (F := plS n q.oL q.oW (decide (q.lo = -1 ∧ q.wa = -1))) vs hn3 (by omega) (by rw [hx]; rfl)
    have l1 := loop56a (nm := nm) (ps := ps) (vs := vs) hC hn3 h0 hv12 n 0 (by omega)
    by_cases hP : (∀ j, 0 ≤ j → j < n → Cv.rng (mkC vs n op arg) j ∧ Cv.stopOk (mkC vs n op arg) j)
    · have harg : ∀ i, i < n → Cv.jmp (op i) → 0 ≤ arg i ∧ arg i < n := by
        intro i hi hj
        have h1 := Cv.rng_jump (c := mkC vs n op arg) (i := i) hj (hP i (Nat.zero_le _) hi).1
        have e1 : (mkC vs n op arg).arg i = arg i := rfl
        rw [e1, hcn] at h1
        omega
      have l2 := loop56b (nm := nm) (ps := ps) (vs := vs) (oL := q.oL) (oW := q.oW) hC hn3 harg n 0 (by omega)
      refine SC.of hW2 hX2 hC (ltab2_cons (x := ⟨0, _, _, _, _, _, _, _⟩) l1 (ltab2_cons (x := ⟨2, _, _, _, _, _, _, _⟩) l2 ltab2_nil)) ((f56s _ _ _ _ _ _ _ _ _ _ _ _ _ _).trans ?_)
      rw [if_neg hnn, if_neg hvv, if_neg hpp, if_neg hpp2, if_neg hzz, cl_pos ⟨rfl, LeSt.refl _⟩, cl_pos hP, cl_pos ⟨rfl, rfl⟩]
      have hvp : Cv.VP (mkC vs n op arg) ↔ ((q.lo = -1 ∧ q.wa = -1) ∧ (∀ j, 0 ≤ j → j < n → jump1 (mkC vs n op arg) q.oL q.oW j) ∧ balD (mkC vs n op arg) = true) := by
        rw [balD_iff]
        constructor
        · rintro ⟨g1, ⟨q', g2, g3, g4⟩, g5⟩
          rw [hpl _ hx] at g2
          cases g2
          exact ⟨g3, (jmps_all _ _ _).1 g4, g5⟩
        · rintro ⟨g1, g2, g3⟩
          exact ⟨fun i hi => hP i (Nat.zero_le _) hi, ⟨q, hpl _ hx, g1, (jmps_all _ _ _).2 g2⟩, g3⟩
      by_cases hb : q.lo = -1 ∧ q.wa = -1
      · rw [if_neg (by rw [decide_eq_true hb]; decide), cl_pos ⟨rfl, LeSt.refl _⟩]
        by_cases hJ : ∀ j, 0 ≤ j → j < n → jump1 (mkC vs n op arg) q.oL q.oW j
        · rw [cl_pos hJ, cl_pos ⟨⟨rfl, fun i hi hj => (harg i hi hj).1⟩, rfl⟩]
          cases hB : balD (mkC vs n op arg) with
          | true => rw [if_neg (by decide), good (hvp.2 ⟨hb, hJ, hB⟩)]
          | false => rw [if_pos (by decide), bad (fun h => by have := (hvp.1 h).2.2; rw [hB] at this; cases this)]
        · rw [cl_neg hJ, bad (fun h => hJ (hvp.1 h).2.1)]
      · rw [if_pos (by rw [decide_eq_false hb]; decide), bad (fun h => hb (hvp.1 h).1)]
    · refine SC.of hW2 hX2 hC (ltab2_cons (x := ⟨0, _, _, _, _, _, _, _⟩) l1 (ltab2_cons (x := ⟨2, _, S56b nm ps vs n op arg q.oL q.oW n, True, _, _, _, _⟩) (end56b (nm := nm) (ps := ps) (vs := vs) (oL := q.oL) (oW := q.oW) hC) ltab2_nil)) ((f56s _ _ _ _ _ _ _ _ _ _ _ _ _ _).trans ?_)
      rw [if_neg hnn, if_neg hvv, if_neg hpp, if_neg hpp2, if_neg hzz, cl_pos ⟨rfl, LeSt.refl _⟩, cl_neg hP, bad (fun h => hP fun j _ hj => h.1 j hj)]
end Go.Proofs.Ythegipdgillngaa
/- Regions (79), walked. -/
namespace Go.Proofs.Ythegipdgillngaa
open Go Go.Am Go.Proofs
set_option linter.unusedSimpArgs false
set_option linter.unusedVariables false
structure Inv79 (i m : Nat) (stk : Nat → Int) (wa : Int) : Prop where
  lt : ∀ k, k < m → 0 ≤ stk k ∧ stk k < i
  wa : wa = -1 ∨ (0 ≤ wa ∧ wa < i)
  m : m ≤ i
theorem Inv79.keep {i m : Nat} {stk : Nat → Int} {wa wa' : Int} (h : Inv79 i m stk wa) (hw : wa' = -1 ∨ (0 ≤ wa' ∧ wa' < (i + 1 : Nat))) : Inv79 (i + 1) m stk wa' :=
  ⟨fun k hk => by have := h.lt k hk; omega, hw, by have := h.m; omega⟩
theorem Inv79.push {i m : Nat} {stk : Nat → Int} {wa : Int} (h : Inv79 i m stk wa) : Inv79 (i + 1) (m + 1) (Cv.upd stk m i) wa := by
  refine ⟨fun k hk => ?_, by have := h.wa; omega, by have := h.m; omega⟩
  unfold Cv.upd
  split
  · omega
  · have := h.lt k (by omega); omega
theorem Inv79.pop {i m : Nat} {stk : Nat → Int} {wa : Int} (h : Inv79 i m stk wa) : Inv79 (i + 1) (m - 1) stk wa :=
  ⟨fun k hk => by have := h.lt k (by omega); omega, by have := h.wa; omega, by have := h.m; omega⟩
theorem neT {o k : Int} (h : o ≠ k) : (o != k) = true := by simpa using h
theorem dT {p : Prop} [Decidable p] (h : p) : decide p = true := decide_eq_true h
theorem dF {p : Prop} [Decidable p] (h : ¬ p) : decide p = false := decide_eq_false h
end Go.Proofs.Ythegipdgillngaa
/- Depths (80), Valid (73), the reference's Verify (60), walked. -/
namespace Go.Proofs.Ythegipdgillngaa
open Go Go.Am Go.Proofs
set_option linter.unusedSimpArgs false
set_option linter.unusedVariables false
def two (a b : Int) : Nat → Int := fun j => if j = 0 then a else b
def sm16 (dp : Nat → Int) : Prop := ∀ j, -1 ≤ dp j ∧ dp j ≤ 16
theorem sm16.upd {dp : Nat → Int} (h : sm16 dp) {t : Nat} {d : Int} (h0 : 0 ≤ d) (h1 : d ≤ 16) : sm16 (Cv.upd dp t d) := by
  intro j
  unfold Cv.upd
  split
  · omega
  · exact h j
end Go.Proofs.Ythegipdgillngaa
/- Plain: where loops end, in code that passes the checks. -/
namespace Go.Proofs.Cv
set_option linter.unusedSimpArgs false
set_option linter.unusedVariables false
def hit (c : Cd) (j t : Nat) : Prop := c.op j = 17 ∧ c.arg j = (t : Int) + 1
instance (c : Cd) (j t : Nat) : Decidable (hit c j t) := by unfold hit; infer_instance
structure InvS (i : Nat) (q : Rg) : Prop where
  lt : ∀ k, k < q.m → 0 ≤ q.stk k ∧ q.stk k < i
  inc : ∀ k l, k < l → l < q.m → q.stk k < q.stk l
theorem InvS.next {i : Nat} {L W : Nat → Int} {m : Nat} {stk : Nat → Int} {wa : Int} {L' W' : Nat → Int} {wa' : Int} (h : InvS i ⟨L, W, m, stk, wa⟩) : InvS (i + 1) ⟨L', W', m, stk, wa'⟩ :=
  ⟨fun k hk => by have := h.lt k hk; simp only at this ⊢; omega, h.inc⟩
theorem InvS.push {i : Nat} {L W : Nat → Int} {m : Nat} {stk : Nat → Int} {wa : Int} {L' W' : Nat → Int} {wa' : Int} (h : InvS i ⟨L, W, m, stk, wa⟩) : InvS (i + 1) ⟨L', W', m + 1, upd stk m i, wa'⟩ := by
  refine ⟨fun k hk => ?_, fun k l hkl hl => ?_⟩
  · simp only [upd] at hk ⊢
    split
    · omega
    · have := h.lt k (by simp only; omega); simp only at this; omega
  · simp only [upd] at hl ⊢
    rw [if_neg (by omega)]
    split
    · have := h.lt k (by simp only; omega); simp only at this; omega
    · exact h.inc k l hkl (by simp only; omega)
theorem InvS.pop {i : Nat} {L W : Nat → Int} {m : Nat} {stk : Nat → Int} {wa : Int} {L' W' : Nat → Int} {wa' : Int} (h : InvS i ⟨L, W, m, stk, wa⟩) : InvS (i + 1) ⟨L', W', m - 1, stk, wa'⟩ :=
  ⟨fun k hk => by have := h.lt k (by simp only at hk ⊢; omega); simp only at this ⊢; omega, fun k l hkl hl => h.inc k l hkl (by simp only at hl ⊢; omega)⟩
theorem regR_split (c : Cd) : ∀ (a b i : Nat) (q q' : Rg), regR c (a + b) i q = some q' → ∃ q1, regR c a i q = some q1 ∧ regR c b (i + a) q1 = some q' := by
  intro a
  induction a with
  | zero => intro b i q q' h; rw [Nat.zero_add] at h; exact ⟨q, rfl, h⟩
  | succ a ih =>
    intro b i q q' h
    rw [show a + 1 + b = (a + b) + 1 by omega, regR] at h
    rw [regR]
    rw [show i + (a + 1) = i + 1 + a by omega]
    split at h
    · cases h
    rename_i h1
    rw [if_neg h1]
    split at h
    · rename_i h2; rw [if_pos h2]; exact ih _ _ _ _ h
    rename_i h2
    rw [if_neg h2]
    split at h
    · rename_i h3
      rw [if_pos h3]
      split at h
      · cases h
      · rename_i h4; rw [if_neg h4]; exact ih _ _ _ _ h
    rename_i h3
    rw [if_neg h3]
    split at h
    · rename_i h4; rw [if_pos h4]; exact ih _ _ _ _ h
    rename_i h4
    rw [if_neg h4]
    split at h
    · rename_i h5
      rw [if_pos h5]
      split at h
      · cases h
      · rename_i h6; rw [if_neg h6]; exact ih _ _ _ _ h
    · rename_i h5; rw [if_neg h5]; exact ih _ _ _ _ h
theorem regR_inv (c : Cd) : ∀ (r i : Nat) (q q' : Rg), InvS i q → regR c r i q = some q' → InvS (i + r) q' := by
  intro r
  induction r with
  | zero => intro i q q' h e; cases e; exact h
  | succ r ih =>
    intro i q q' h e
    rw [regR] at e
    rw [show i + (r + 1) = i + 1 + r by omega]
    split at e
    · cases e
    split at e
    · exact ih _ _ _ h.push e
    split at e
    · split at e
      · cases e
      · exact ih _ _ _ h.pop e
    split at e
    · exact ih _ _ _ h.next e
    split at e
    · split at e
      · cases e
      · exact ih _ _ _ h.next e
    · exact ih _ _ _ h.next e
def onS (m : Nat) (stk : Nat → Int) (t : Nat) : Prop := ∃ k, k < m ∧ stk k = t
/-- What the rest of the code says of the loop that began at t. -/
def Rest (c : Cd) (i e t : Nat) (on : Prop) : Prop := (on → ∃ j, i ≤ j ∧ j < e ∧ hit c j t ∧ ∀ j', i ≤ j' → j' < e → hit c j' t → j' = j) ∧ (¬ on → ∀ j', i ≤ j' → j' < e → ¬ hit c j' t)
theorem Rest.skip {c : Cd} {i e t : Nat} {on : Prop} (h : Rest c (i + 1) e t on) (hn : ¬ hit c i t) : Rest c i e t on := by
  refine ⟨fun ho => ?_, fun ho j' h1 h2 h3 => ?_⟩
  · obtain ⟨j, g1, g2, g3, g4⟩ := h.1 ho
    refine ⟨j, by omega, g2, g3, fun j' h1 h2 h3 => ?_⟩
    by_cases hj : j' = i
    · subst hj; exact absurd h3 hn
    · exact g4 j' (by omega) h2 h3
  · by_cases hj : j' = i
    · subst hj; exact hn h3
    · exact h.2 ho j' (by omega) h2 h3
theorem regR_hit (c : Cd) : ∀ (r i : Nat) (q q' : Rg), InvS i q → regR c r i q = some q' → q'.m = 0 → ∀ t, t < i → Rest c i (i + r) t (onS q.m q.stk t) := by
  intro r
  induction r with
  | zero =>
    intro i q q' h e hm t ht
    cases e
    exact ⟨fun ⟨k, hk, _⟩ => by omega, fun _ j' h1 h2 => by omega⟩
  | succ r ih =>
    intro i q q' h e hm t ht
    obtain ⟨L, W, m, stk, wa⟩ := q
    rw [regR] at e
    rw [show i + (r + 1) = i + 1 + r by omega]
    split at e
    · cases e
    split at e
    · rename_i h16
      have := ih _ _ _ h.push e hm t (by omega)
      refine Rest.skip (?_ : Rest c (i + 1) (i + 1 + r) t (onS m stk t)) (fun hh => by have := hh.1; omega)
      have eo : onS m stk t ↔ onS (m + 1) (upd stk m i) t := by
        constructor
        · rintro ⟨k, hk, e⟩
          exact ⟨k, by omega, by rw [upd_ne (by omega)]; exact e⟩
        · rintro ⟨k, hk, e⟩
          by_cases hkm : k = m
          · subst hkm; rw [upd_same] at e; omega
          · rw [upd_ne hkm] at e; exact ⟨k, by omega, e⟩
      exact ⟨fun ho => this.1 (eo.1 ho), fun ho => this.2 fun g => ho (eo.2 g)⟩
    split at e
    · rename_i h16 h17
      split at e
      · cases e
      · rename_i ha
        have ht0 : ¬ Rg.top ⟨L, W, m, stk, wa⟩ < 0 := fun g => ha (.inl g)
        have hta : c.arg i = Rg.top ⟨L, W, m, stk, wa⟩ + 1 := Classical.not_not.1 fun g => ha (.inr g)
        have hm0 : 0 < m := by
          by_cases g : 0 < m
          · exact g
          · exact absurd (show Rg.top ⟨L, W, m, stk, wa⟩ < 0 by unfold Rg.top; rw [if_neg g]; omega) ht0
        have etop : Rg.top ⟨L, W, m, stk, wa⟩ = stk (m - 1) := by unfold Rg.top; exact if_pos hm0
        rw [etop] at hta ht0
        have hih := ih _ _ _ h.pop e hm t (by omega)
        simp only at hih
        have einc : ∀ k, k < m - 1 → stk k < stk (m - 1) := fun k hk => h.inc k (m - 1) hk (show m - 1 < m by omega)
        by_cases htt : stk (m - 1) = t
        · have hno : ¬ onS (m - 1) stk t := by
            rintro ⟨k, hk, e⟩
            have := einc k hk
            omega
          refine ⟨fun _ => ⟨i, Nat.le_refl _, by omega, ⟨h17, by rw [hta, htt]⟩, fun j' h1 h2 h3 => ?_⟩, fun ho => absurd ⟨m - 1, show m - 1 < m by omega, htt⟩ ho⟩
          by_cases hj : j' = i
          · exact hj
          · exact absurd h3 (hih.2 hno j' (by omega) h2)
        · refine Rest.skip (?_ : Rest c (i + 1) (i + 1 + r) t (onS m stk t)) (fun hh => by have := hh.2; omega)
          have eo : onS m stk t ↔ onS (m - 1) stk t := by
            constructor
            · rintro ⟨k, hk, e⟩
              refine ⟨k, ?_, e⟩
              by_cases hkm : k = m - 1
              · subst hkm; exact absurd e htt
              · omega
            · rintro ⟨k, hk, e⟩; exact ⟨k, by omega, e⟩
          exact ⟨fun ho => hih.1 (eo.1 ho), fun ho => hih.2 fun g => ho (eo.2 g)⟩
    rename_i h16 h17
    have hn : ¬ hit c i t := fun hh => h17 hh.1
    split at e
    · exact (ih _ _ _ h.next e hm t (by omega)).skip hn
    split at e
    · split at e
      · cases e
      · exact (ih _ _ _ h.next e hm t (by omega)).skip hn
    · exact (ih _ _ _ h.next e hm t (by omega)).skip hn
/-- A loop ends at one place. -/
theorem loop_end {c : Cd} (hv : VP c) {i : Nat} (hi : i < c.n) (h16 : c.op i = 16) : ∃ j, i < j ∧ j + 1 < c.n ∧ hit c j i ∧ ∀ j', j' < c.n → hit c j' i → j' = j := by
  obtain ⟨h1, ⟨q, h2, h3, _⟩, _⟩ := (VP_VR c).1 hv
  have hr : ∀ j, j < c.n → rng c j ∧ stopOk c j := hv.1
  have e0 : c.n = i + (c.n - i) := by omega
  rw [e0] at h2
  obtain ⟨q1, g1, g2⟩ := regR_split c i (c.n - i) 0 _ _ h2
  rw [Nat.zero_add] at g2
  have v0 : InvS 0 ⟨zero, zero, 0, zero, -1⟩ := ⟨fun k hk => by simp at hk, fun k l _ hl => by simp at hl⟩
  have v1 := regR_inv c i 0 _ _ v0 g1
  rw [Nat.zero_add] at v1
  obtain ⟨L, W, m, stk, wa⟩ := q1
  have e1 : c.n - i = (c.n - i - 1) + 1 := by omega
  rw [e1, regR] at g2
  split at g2
  · cases g2
  have key := regR_hit c (c.n - i - 1) (i + 1) _ _ v1.push g2 h3.1 i (by omega)
  have hon : onS (m + 1) (upd stk m i) i := ⟨m, by omega, upd_same _ _ _⟩
  obtain ⟨j, a1, a2, a3, a4⟩ := key.1 hon
  have hjn : j < c.n := by omega
  have hs := (hr j hjn).2
  have hj17 := a3.1
  refine ⟨j, by omega, ?_, a3, fun j' b1 b2 => ?_⟩
  · by_cases hl : j + 1 = c.n
    · have := hs.2 hl; omega
    · omega
  · have hb := (rng_17 (c := c) (i := j') (.inl b2.1)).1 (hr j' b1).1
    have := b2.2
    exact a4 j' (by omega) (by omega) b2
def endA (c : Cd) : Nat → Nat → Int
  | 0 => zero
  | k + 1 => if c.op k = 17 then upd (endA c k) (c.arg k - 1).toNat k else endA c k
theorem endA_eq {c : Cd} {i j : Nat} (h17 : ∀ k, k < c.n → c.op k = 17 → 1 ≤ c.arg k) (hj : j < c.n) (hh : hit c j i) (hu : ∀ j', j' < c.n → hit c j' i → j' = j) : ∀ k, k ≤ c.n → endA c k i = if j < k then (j : Int) else 0 := by
  intro k
  induction k with
  | zero => intro _; rw [if_neg (by omega)]; rfl
  | succ k ih =>
    intro hk
    have ih' := ih (by omega)
    rw [endA]
    by_cases h : c.op k = 17
    · have ha := h17 k (by omega) h
      rw [if_pos h]
      by_cases hi : (c.arg k - 1).toNat = i
      · have hhk : hit c k i := ⟨h, by omega⟩
        have : k = j := hu k (by omega) hhk
        subst this
        rw [hi, upd_same, if_pos (by omega)]
      · rw [upd_ne (Ne.symm hi), ih']
        have : k ≠ j := fun e => by subst e; exact hi (by have := hh.2; omega)
        by_cases hjk : j < k
        · rw [if_pos hjk, if_pos (by omega)]
        · rw [if_neg hjk, if_neg (by omega)]
    · rw [if_neg h, ih']
      have : k ≠ j := fun e => by subst e; exact h hh.1
      by_cases hjk : j < k
      · rw [if_pos hjk, if_pos (by omega)]
      · rw [if_neg hjk, if_neg (by omega)]
def endB (c : Cd) (i : Nat) : Nat → Nat → Int
  | 0, _ => i
  | r + 1, j => if hit c j i then j else endB c i r (j + 1)
theorem endB_eq {c : Cd} {i j0 : Nat} (hh : hit c j0 i) : ∀ (r j : Nat), (∀ j', j ≤ j' → j' < j + r → hit c j' i → j' = j0) → j ≤ j0 → j0 < j + r → endB c i r j = j0 := by
  intro r
  induction r with
  | zero => intro j _ h1 h2; omega
  | succ r ih =>
    intro j hu h1 h2
    rw [endB]
    by_cases h : hit c j i
    · rw [if_pos h, hu j (Nat.le_refl _) (by omega) h]
    · rw [if_neg h]
      have : j ≠ j0 := fun e => by subst e; exact h hh
      exact ih (j + 1) (fun j' g1 g2 g3 => hu j' (by omega) (by omega) g3) (by omega) (by omega)
def endF (c : Cd) : Nat → Int := endA c c.n
def endR (c : Cd) (i : Nat) : Int := endB c i (c.n - (i + 1)) (i + 1)
theorem end_same {c : Cd} (hv : VP c) {i : Nat} (hi : i < c.n) (h16 : c.op i = 16) : endF c i = endR c i ∧ (i : Int) < endF c i ∧ endF c i + 1 < c.n := by
  obtain ⟨j, h1, h2, h3, h4⟩ := loop_end hv hi h16
  have h17 : ∀ k, k < c.n → c.op k = 17 → 1 ≤ c.arg k := fun k hk h => ((rng_17 (c := c) (i := k) (.inl h)).1 (hv.1 k hk).1).1
  have eA := endA_eq h17 (by omega) h3 h4 c.n (Nat.le_refl _)
  rw [if_pos (by omega)] at eA
  have eB := endB_eq h3 (c.n - (i + 1)) (i + 1) (fun j' g1 g2 g3 => h4 j' (by omega) g3) (by omega) (by omega)
  unfold endF endR
  rw [eA, eB]
  exact ⟨rfl, by omega, by omega⟩
end Go.Proofs.Cv
/- Does the code suit the rig (57, 61, 74); check (38, 41); Same (16): walked. -/
namespace Go.Proofs.Ythegipdgillngaa
open Go Go.Am Go.Proofs
set_option linter.unusedSimpArgs false
set_option linter.unusedVariables false
def amg (x m : Int) : Bool := decide (x ≥ 0) && decide (x ≤ m)
theorem amg_iff (x m : Int) : amg x m = true ↔ 0 ≤ x ∧ x ≤ m := by unfold amg; rw [Bool.and_eq_true, decide_eq_true_eq, decide_eq_true_eq]
def vAm : List V → V
  | [.sc (.int .i64 x), .sc (.int .i64 m)] => bo (amg x m)
  | _ => .junk
def QAm (args : List V) : Prop := ∃ x m : Int, args = [i64 x, i64 m]
theorem g45 (x m : Int) : callG E2 20 45 [i64 x, i64 m] [] K =
  if decide (x ≥ (0 : Int)) = true then
   some (Ans.c (CRes.ret (bo ((decide (x ≤ m)))) []))
  else
   some (Ans.c (CRes.ret (bo false) [])) := by kernel_rfl

theorem am_sc (x m : Int) : SC E2 45 [i64 x, i64 m] [] (.ret (bo (amg x m)) []) := by
  refine SC.g2 ((g45 x m).trans ?_)
  unfold amg
  by_cases h : x ≥ 0
  · rw [if_pos (by simpa using h), decide_eq_true h, Bool.true_and]
  · rw [if_neg (by simpa using h), decide_eq_false h, Bool.false_and]
noncomputable def C57 : CallT := ptab 45 QAm vAm (tab [])
theorem sC57 : SoundC E2 C57 := ptab_cons (fun args h => by obtain ⟨x, m, rfl⟩ := h; exact am_sc x m) tab_nil
/-- The rig is within its bounds. -/
def rigP (k : Nat) (a b c : Nat → Int) (R W : Int) : Prop := (k ≤ 8 ∧ 1 ≤ R ∧ R ≤ 360 ∧ 0 ≤ W ∧ W ≤ 1000000) ∧ ∀ j, 0 ≤ j → j < k → (0 ≤ a j ∧ a j ≤ 1000000) ∧ (0 ≤ b j ∧ b j ≤ 1000000) ∧ (0 ≤ c j ∧ c j ≤ 7)
/-- The tools that the code names are there. -/
def jobP (n : Nat) (op arg : Nat → Int) (k : Nat) : Prop := ∀ j, 0 ≤ j → j < n → op j = 23 → w (Int.tdiv (arg j) 1000000) < k
open Classical in
noncomputable def suiD (n : Nat) (op arg : Nat → Int) (k : Nat) (a b c : Nat → Int) (R W : Int) : Bool := decide (rigP k a b c R W ∧ jobP n op arg k)
open Classical in
theorem suiD_t {n : Nat} {op arg : Nat → Int} {k : Nat} {a b c : Nat → Int} {R W : Int} (h : rigP k a b c R W ∧ jobP n op arg k) : suiD n op arg k a b c R W = true := by unfold suiD; exact decide_eq_true h
open Classical in
theorem suiD_f {n : Nat} {op arg : Nat → Int} {k : Nat} {a b c : Nat → Int} {R W : Int} (h : ¬ (rigP k a b c R W ∧ jobP n op arg k)) : suiD n op arg k a b c R W = false := by unfold suiD; exact decide_eq_false h
open Classical in
theorem suiD_iff {n : Nat} {op arg : Nat → Int} {k : Nat} {a b c : Nat → Int} {R W : Int} : suiD n op arg k a b c R W = true ↔ (rigP k a b c R W ∧ jobP n op arg k) := by unfold suiD; rw [decide_eq_true_eq]
def S57a (nm : ByteArray) (ps vs : Int) (n : Nat) (op arg : Nat → Int) (k : Nat) (a b c : Nat → Int) (R W : Int) (i : Nat) : St := { fr := [.junk, .junk, .ptr 0 0, .ptr 1 0] ++ jk 26 ++ [.ro 3 k (r3 a b c), i64 k, i64 i] ++ jk 40, H := hp [some (.blk [st nm, i64 ps, i64 vs, cd n op arg]), some (.blk [.ro 3 k (r3 a b c), i64 R, i64 W])], nx := 2, rt := 0, me := 57 }
def T57a (nm : ByteArray) (ps vs : Int) (n : Nat) (op arg : Nat → Int) (k : Nat) (a b c : Nat → Int) (R W : Int) : St := { fr := [.junk, .junk, .ptr 0 0, .ptr 1 0] ++ jk 69, H := hp [some (.blk [st nm, i64 ps, i64 vs, cd n op arg]), some (.blk [.ro 3 k (r3 a b c), i64 R, i64 W])], nx := 2, rt := 0, me := 57 }
def T57r : St := { fr := jk 4 ++ [bo false] ++ jk 68, H := hp [], nx := 0, rt := 0, me := 57 }
def S57b (n : Nat) (op arg : Nat → Int) (k : Nat) (a b c : Nat → Int) (R W : Int) (i : Nat) : St := { fr := [.junk, .junk, .junk, .ptr 0 0] ++ jk 50 ++ [cd n op arg, i64 n, i64 i] ++ jk 16, H := hp [some (.blk [.ro 3 k (r3 a b c), i64 R, i64 W])], nx := 1, rt := 0, me := 57 }
def T57b : St := { fr := jk 73, H := hp [], nx := 0, rt := 0, me := 57 }
def rc (x : Nat → Nat → Int) : Nat → List V := fun j => [i64 (x 0 j), i64 (x 1 j), i64 (x 2 j), i64 (x 3 j), i64 (x 4 j), i64 (x 5 j)]
def crt (n : Nat) (x : Nat → Nat → Int) : V := .ro 6 n (rc x)
def c6 (c : Nat → Int) : V := .agg [i64 (c 0), i64 (c 1), i64 (c 2), i64 (c 3), i64 (c 4), i64 (c 5)]
theorem r57a (nm : ByteArray) (ps vs : Int) (n : Nat) (op arg : Nat → Int) (k : Nat) (a b c : Nat → Int) (R W : Int) (i : Nat) (lo : LoopT) : loopK E2 C57 lo 0 7516192780 (bodyOf E2 57 0) (S57a nm ps vs n op arg k a b c R W i) (KC2 12 16) =
  if decide ((i : Int) < (k : Int)) = true then
   if (0 : Int) ≤ (i : Int) ∧ (i : Int) < (k : Int) then
    cl (QAm ([i64 (a (Int.toNat (i : Int))), i64 1000000]) ∧ ([] : List (Option Chunk)) = []) (
     if (!amg (a (Int.toNat (i : Int))) (1000000 : Int)) = true then
      some (Ans.l Ex.ret { fr := [V.junk, V.junk, V.junk, V.junk, bo false] ++ jk 68, H := hp [], nx := 0, rt := 0, me := 57 })
     else
      cl (QAm ([i64 (b (Int.toNat (i : Int))), i64 1000000]) ∧ ([] : List (Option Chunk)) = []) (
       if (!amg (b (Int.toNat (i : Int))) (1000000 : Int)) = true then
        some (Ans.l Ex.ret { fr := [V.junk, V.junk, V.junk, V.junk, bo false] ++ jk 68, H := hp [], nx := 0, rt := 0, me := 57 })
       else
        cl (QAm ([i64 (c (Int.toNat (i : Int))), i64 7]) ∧ ([] : List (Option Chunk)) = []) (
         if (!amg (c (Int.toNat (i : Int))) (7 : Int)) = true then
          some (Ans.l Ex.ret { fr := [V.junk, V.junk, V.junk, V.junk, bo false] ++ jk 68, H := hp [], nx := 0, rt := 0, me := 57 })
         else
          lo 0 7516192780 (bodyOf E2 57 0) ({ fr := [V.junk, V.junk, V.ptr 0 0, V.ptr 1 0, V.junk, V.junk, V.junk, V.junk, V.junk, V.junk, V.junk, V.junk, V.junk, V.junk, V.junk, V.junk, V.junk, V.junk, V.junk, V.junk, V.junk, V.junk, V.junk, V.junk, V.junk, V.junk, V.junk, V.junk, V.junk, V.junk, V.ro 3 k (r3 a b c), i64 (k : Int), i64 (w ((i : Int) + (1 : Int)))] ++ jk 40, H := hp [some (Chunk.blk [V.sc (Value.string nm), i64 ps, i64 vs, V.ro 2 n (ins op arg)]), some (Chunk.blk [V.ro 3 k (r3 a b c), i64 R, i64 W])], nx := 2, rt := 0, me := 57 }) (KC2 12 16)) (
         none)) (
       none)) (
     none)
   else
    none
  else
   some (Ans.l (Ex.exit 0) { fr := [V.junk, V.junk, V.ptr 0 0, V.ptr 1 0] ++ jk 69, H := hp [some (Chunk.blk [V.sc (Value.string nm), i64 ps, i64 vs, V.ro 2 n (ins op arg)]), some (Chunk.blk [V.ro 3 k (r3 a b c), i64 R, i64 W])], nx := 2, rt := 0, me := 57 }) := by kernel_rfl
theorem r57b (n : Nat) (op arg : Nat → Int) (k : Nat) (a b c : Nat → Int) (R W : Int) (i : Nat) (lo : LoopT) : loopK E2 C57 lo 2 126100789566373896 (bodyOf E2 57 2) (S57b n op arg k a b c R W i) (KC2 0 16) =
  if decide ((i : Int) < (n : Int)) = true then
   if (0 : Int) ≤ (i : Int) ∧ (i : Int) < (n : Int) then
    if (op (Int.toNat (i : Int)) == (23 : Int)) = true then
     if decide (w (Int.tdiv (arg (Int.toNat (i : Int))) (1000000 : Int)) ≥ (k : Int)) = true then
      some (Ans.l Ex.ret { fr := [V.junk, V.junk, V.junk, V.junk, bo false] ++ jk 68, H := hp [], nx := 0, rt := 0, me := 57 })
     else
      lo 2 126100789566373896 (bodyOf E2 57 2) ({ fr := [V.junk, V.junk, V.junk, V.ptr 0 0, V.junk, V.junk, V.junk, V.junk, V.junk, V.junk, V.junk, V.junk, V.junk, V.junk, V.junk, V.junk, V.junk, V.junk, V.junk, V.junk, V.junk, V.junk, V.junk, V.junk, V.junk, V.junk, V.junk, V.junk, V.junk, V.junk, V.junk, V.junk, V.junk, V.junk, V.junk, V.junk, V.junk, V.junk, V.junk, V.junk, V.junk, V.junk, V.junk, V.junk, V.junk, V.junk, V.junk, V.junk, V.junk, V.junk, V.junk, V.junk, V.junk, V.junk, V.ro 2 n (ins op arg), i64 (n : Int), i64 (w ((i : Int) + (1 : Int)))] ++ jk 16, H := hp [some (Chunk.blk [V.ro 3 k (r3 a b c), i64 R, i64 W])], nx := 1, rt := 0, me := 57 }) (KC2 0 16)
    else
     lo 2 126100789566373896 (bodyOf E2 57 2) ({ fr := [V.junk, V.junk, V.junk, V.ptr 0 0, V.junk, V.junk, V.junk, V.junk, V.junk, V.junk, V.junk, V.junk, V.junk, V.junk, V.junk, V.junk, V.junk, V.junk, V.junk, V.junk, V.junk, V.junk, V.junk, V.junk, V.junk, V.junk, V.junk, V.junk, V.junk, V.junk, V.junk, V.junk, V.junk, V.junk, V.junk, V.junk, V.junk, V.junk, V.junk, V.junk, V.junk, V.junk, V.junk, V.junk, V.junk, V.junk, V.junk, V.junk, V.junk, V.junk, V.junk, V.junk, V.junk, V.junk, V.ro 2 n (ins op arg), i64 (n : Int), i64 (w ((i : Int) + (1 : Int)))] ++ jk 16, H := hp [some (Chunk.blk [V.ro 3 k (r3 a b c), i64 R, i64 W])], nx := 1, rt := 0, me := 57 }) (KC2 0 16)
   else
    none
  else
   some (Ans.l (Ex.exit 2) { fr := [V.junk] ++ jk 72, H := hp [], nx := 0, rt := 0, me := 57 }) := by kernel_rfl
theorem f57 (nm : ByteArray) (ps vs : Int) (n : Nat) (op arg : Nat → Int) (k : Nat) (a b c : Nat → Int) (R W : Int) (S1 S2 : St) (P P2 : Prop) : callK E2 C57 (ltab2 [⟨0, bodyOf E2 57 0, S1, P, .exit 0, T57a nm ps vs n op arg k a b c R W, .ret, T57r⟩, ⟨2, bodyOf E2 57 2, S2, P2, .exit 2, T57b, .ret, T57r⟩]) 57 [codV nm ps vs n op arg, rigV k a b c R W] [] K =
  if decide ((k : Int) > (8 : Int)) = true then
   some (Ans.c (CRes.ret (bo false) []))
  else
   if decide (R < (1 : Int)) = true then
    some (Ans.c (CRes.ret (bo false) []))
   else
    if decide (R > (360 : Int)) = true then
     some (Ans.c (CRes.ret (bo false) []))
    else
     cl (QAm ([i64 W, i64 1000000]) ∧ ([] : List (Option Chunk)) = []) (
      if (!amg W (1000000 : Int)) = true then
       some (Ans.c (CRes.ret (bo false) []))
      else
       cl ((bodyOf E2 57 0) = (bodyOf E2 57 0) ∧ LeSt ({ fr := [V.junk, V.junk, V.ptr 0 0, V.ptr 1 0, V.junk, V.junk, V.junk, V.junk, V.junk, V.junk, V.junk, V.junk, V.junk, V.junk, V.junk, V.junk, V.junk, V.junk, V.junk, V.junk, V.junk, V.junk, V.junk, V.junk, V.junk, V.junk, V.junk, V.junk, V.junk, V.junk, V.ro 3 k (r3 a b c), i64 (k : Int), i64 0] ++ jk 40, H := hp [some (Chunk.blk [V.sc (Value.string nm), i64 ps, i64 vs, V.ro 2 n (ins op arg)]), some (Chunk.blk [V.ro 3 k (r3 a b c), i64 R, i64 W])], nx := 2, rt := 0, me := 57 }) (S1)) (
        cl (P) (
         cl ((bodyOf E2 57 2) = (bodyOf E2 57 2) ∧ LeSt ({ fr := [V.junk, V.junk, V.junk, V.ptr 0 0, V.junk, V.junk, V.junk, V.junk, V.junk, V.junk, V.junk, V.junk, V.junk, V.junk, V.junk, V.junk, V.junk, V.junk, V.junk, V.junk, V.junk, V.junk, V.junk, V.junk, V.junk, V.junk, V.junk, V.junk, V.junk, V.junk, V.junk, V.junk, V.junk, V.junk, V.junk, V.junk, V.junk, V.junk, V.junk, V.junk, V.junk, V.junk, V.junk, V.junk, V.junk, V.junk, V.junk, V.junk, V.junk, V.junk, V.junk, V.junk, V.junk, V.junk, V.ro 2 n (ins op arg), i64 (n : Int), i64 0] ++ jk 16, H := hp [some (Chunk.blk [V.ro 3 k (r3 a b c), i64 R, i64 W])], nx := 1, rt := 0, me := 57 }) (S2)) (
          cl (P2) (
           some (Ans.c (CRes.ret (bo true) []))) (
           some (Ans.c (CRes.ret (bo false) [])))) (
          none)) (
         some (Ans.c (CRes.ret (bo false) [])))) (
        none)) (
      none) := by kernel_rfl
theorem k57a (nm : ByteArray) (ps vs : Int) (n : Nat) (op arg : Nat → Int) (k : Nat) (a b c : Nat → Int) (R W : Int) : KC2 12 16 (.exit 0) (T57a nm ps vs n op arg k a b c R W) = some (.l (.exit 0) (T57a nm ps vs n op arg k a b c R W)) := by kernel_rfl
theorem k57ar : KC2 12 16 .ret T57r = some (.l .ret T57r) := by kernel_rfl
theorem k57b : KC2 0 16 (.exit 2) T57b = some (.l (.exit 2) T57b) := by kernel_rfl
theorem k57br : KC2 0 16 .ret T57r = some (.l .ret T57r) := by kernel_rfl
theorem notb {b : Bool} (h : ¬ b = true) : (!b) = true := by cases b <;> simp at h ⊢
theorem notb' {b : Bool} (h : b = true) : ¬ (!b) = true := by rw [h]; decide
set_option maxRecDepth 100000 in
theorem loop57a {nm : ByteArray} {ps vs : Int} {n : Nat} {op arg : Nat → Int} {k : Nat} {a b c : Nat → Int} {R W : Int} (hk : k ≤ 8) : ∀ (r i : Nat), i + r = k → Ends (bodyOf E2 57 0) (∀ j, i ≤ j → j < k → (0 ≤ a j ∧ a j ≤ 1000000) ∧ (0 ≤ b j ∧ b j ≤ 1000000) ∧ (0 ≤ c j ∧ c j ≤ 7)) (S57a nm ps vs n op arg k a b c R W i) (.exit 0) (T57a nm ps vs n op arg k a b c R W) .ret T57r := by
  intro r
  induction r with
  | zero =>
    intro i hi
    exact Ends.fin sC57 (fun j h1 h2 => by omega) fun lo => (r57a nm ps vs n op arg k a b c R W i lo).trans (by rw [if_neg (by simp; omega)]; rfl)
  | succ r ih =>
    intro i hi
    have hi' : i < k := by omega
    have hid : decide ((i : Int) < (k : Int)) = true := decide_eq_true (by omega)
    have hbb : (0 : Int) ≤ (i : Int) ∧ (i : Int) < (k : Int) := by omega
    have hq : ∀ x m : Int, QAm [i64 x, i64 m] ∧ True := fun x m => ⟨⟨x, m, rfl⟩, trivial⟩
    have ew : w ((i : Int) + 1) = ((i + 1 : Nat) : Int) := by rw [w_in (by unfold inR; omega)]; omega
    have tree := fun lo => r57a nm ps vs n op arg k a b c R W i lo
    simp only [if_pos hid, if_pos hbb, eq_self, cl_pos (hq _ _), Int.toNat_natCast, ew] at tree
    refine Ends.iff ?_ (all_from hi)
    rw [← amg_iff, ← amg_iff, ← amg_iff]
    by_cases h1 : amg (a i) 1000000 = true
    · by_cases h2 : amg (b i) 1000000 = true
      · by_cases h3 : amg (c i) 7 = true
        · refine Ends.iff (Ends.next sC57 (ih (i + 1) (by omega)) (k57a _ _ _ _ _ _ _ _ _ _ _ _) k57ar (LeSt.refl _) fun lo => (tree lo).trans ?_) ⟨fun h => h.2, fun h => ⟨⟨h1, h2, h3⟩, h⟩⟩
          rw [if_neg (notb' h1), if_neg (notb' h2), if_neg (notb' h3)]; rfl
        · refine Ends.ret sC57 (fun h => h3 h.1.2.2) fun lo => (tree lo).trans ?_
          rw [if_neg (notb' h1), if_neg (notb' h2), if_pos (notb h3)]; rfl
      · refine Ends.ret sC57 (fun h => h2 h.1.2.1) fun lo => (tree lo).trans ?_
        rw [if_neg (notb' h1), if_pos (notb h2)]; rfl
    · refine Ends.ret sC57 (fun h => h1 h.1.1) fun lo => (tree lo).trans ?_
      rw [if_pos (notb h1)]; rfl
set_option maxRecDepth 100000 in
theorem loop57b {n : Nat} {op arg : Nat → Int} {k : Nat} {a b c : Nat → Int} {R W : Int} (hn : n ≤ Go.maxLen) : ∀ (r i : Nat), i + r = n → Ends (bodyOf E2 57 2) (∀ j, i ≤ j → j < n → op j = 23 → w (Int.tdiv (arg j) 1000000) < k) (S57b n op arg k a b c R W i) (.exit 2) T57b .ret T57r := by
  intro r
  induction r with
  | zero =>
    intro i hi
    exact Ends.fin sC57 (fun j h1 h2 => by omega) fun lo => (r57b n op arg k a b c R W i lo).trans (by rw [if_neg (by simp; omega)]; rfl)
  | succ r ih =>
    intro i hi
    unfold Go.maxLen at hn
    have hi' : i < n := by omega
    have hid : decide ((i : Int) < (n : Int)) = true := decide_eq_true (by omega)
    have hbb : (0 : Int) ≤ (i : Int) ∧ (i : Int) < (n : Int) := by omega
    have ew : w ((i : Int) + 1) = ((i + 1 : Nat) : Int) := by rw [w_in (by unfold inR; omega)]; omega
    have tree := fun lo => r57b n op arg k a b c R W i lo
    simp only [if_pos hid, if_pos hbb, Int.toNat_natCast, ew] at tree
    refine Ends.iff ?_ (all_from hi)
    by_cases h23 : op i = 23
    · by_cases hd : w (Int.tdiv (arg i) 1000000) < k
      · refine Ends.iff (Ends.next sC57 (ih (i + 1) (by omega)) k57b k57br (LeSt.refl _) fun lo => (tree lo).trans ?_) ⟨fun h => h.2, fun h => ⟨fun _ => hd, h⟩⟩
        rw [if_pos (by simpa using h23), if_neg (by simpa using hd)]; rfl
      · refine Ends.ret sC57 (fun h => hd (h.1 h23)) fun lo => (tree lo).trans ?_
        rw [if_pos (by simpa using h23), if_pos (by simpa using hd)]; rfl
    · refine Ends.iff (Ends.next sC57 (ih (i + 1) (by omega)) k57b k57br (LeSt.refl _) fun lo => (tree lo).trans ?_) ⟨fun h => h.2, fun h => ⟨fun g => absurd g h23, h⟩⟩
      rw [if_neg (by simpa using h23)]; rfl
set_option maxRecDepth 100000 in
theorem suits_sc (nm : ByteArray) (ps vs : Int) (n : Nat) (op arg : Nat → Int) (k : Nat) (a b c : Nat → Int) (R W : Int) (hn : n ≤ Go.maxLen) : SC E2 57 [codV nm ps vs n op arg, rigV k a b c R W] [] (.ret (bo (suiD n op arg k a b c R W)) []) := by
  have l2 := loop57b (op := op) (arg := arg) (k := k) (a := a) (b := b) (c := c) (R := R) (W := W) hn n 0 (by omega)
  have z1 : ∀ {k' : Nat}, k' = 0 → Ends (bodyOf E2 57 0) True (S57a nm ps vs n op arg k' a b c R W 0) (.exit 0) (T57a nm ps vs n op arg k' a b c R W) .ret T57r := fun {k'} e => by
    subst e
    exact (loop57a (nm := nm) (ps := ps) (vs := vs) (n := n) (op := op) (arg := arg) (k := 0) (a := a) (b := b) (c := c) (R := R) (W := W) (Nat.zero_le _) 0 0 rfl).iff ⟨fun _ j h1 h2 => by omega, fun _ => trivial⟩
  have hq : ∀ x m : Int, QAm [i64 x, i64 m] ∧ True := fun x m => ⟨⟨x, m, rfl⟩, trivial⟩
  have vac : SoundL E2 (ltab2 [⟨0, bodyOf E2 57 0, S57a nm ps vs n op arg k a b c R W k, True, .exit 0, T57a nm ps vs n op arg k a b c R W, .ret, T57r⟩, ⟨2, bodyOf E2 57 2, _, _, .exit 2, T57b, .ret, T57r⟩]) :=
    ltab2_cons ⟨fun _ => SL.by2 (m := 12) (r := 16) sC57 hX2 ltab2_nil ((r57a nm ps vs n op arg k a b c R W k _).trans (by rw [if_neg (by simp)]; rfl)), fun h => absurd trivial h⟩ (ltab2_cons (x := ⟨2, _, _, _, _, _, _, _⟩) l2 ltab2_nil)
  have t := f57 nm ps vs n op arg k a b c R W (S57a nm ps vs n op arg k a b c R W k) (S57b n op arg k a b c R W 0) True (∀ j, 0 ≤ j → j < n → op j = 23 → w (Int.tdiv (arg j) 1000000) < k)
  simp only [decide_eq_true_eq] at t
  by_cases h1 : (k : Int) > 8
  · rw [suiD_f (fun h => by have := h.1.1.1; omega)]
    exact SC.of hW2 hX2 sC57 vac (t.trans (by rw [if_pos h1]))
  by_cases h2 : R < 1
  · rw [suiD_f (fun h => by have := h.1.1; omega)]
    exact SC.of hW2 hX2 sC57 vac (t.trans (by rw [if_neg h1, if_pos h2]))
  by_cases h3 : R > 360
  · rw [suiD_f (fun h => by have := h.1.1; omega)]
    exact SC.of hW2 hX2 sC57 vac (t.trans (by rw [if_neg h1, if_neg h2, if_pos h3]))
  by_cases h4 : amg W 1000000 = true
  · have l1 := loop57a (nm := nm) (ps := ps) (vs := vs) (n := n) (op := op) (arg := arg) (k := k) (a := a) (b := b) (c := c) (R := R) (W := W) (by omega) k 0 (by omega)
    have hw4 := (amg_iff _ _).1 h4
    refine SC.of hW2 hX2 sC57 (ltab2_cons (x := ⟨0, _, _, _, _, _, _, _⟩) l1 (ltab2_cons (x := ⟨2, _, _, _, _, _, _, _⟩) l2 ltab2_nil)) ((f57 nm ps vs n op arg k a b c R W _ _ _ _).trans ?_)
    simp only [decide_eq_true_eq]
    rw [if_neg h1, if_neg h2, if_neg h3, cl_pos (hq _ _), if_neg (notb' h4), cl_pos ⟨trivial, LeSt.refl _⟩]
    by_cases hP : (∀ j, 0 ≤ j → j < k → (0 ≤ a j ∧ a j ≤ 1000000) ∧ (0 ≤ b j ∧ b j ≤ 1000000) ∧ (0 ≤ c j ∧ c j ≤ 7))
    · rw [cl_pos hP, cl_pos ⟨trivial, LeSt.refl _⟩]
      by_cases hJ : (∀ j, 0 ≤ j → j < n → op j = 23 → w (Int.tdiv (arg j) 1000000) < k)
      · rw [cl_pos hJ, suiD_t ⟨⟨by omega, hP⟩, hJ⟩]
      · rw [cl_neg hJ, suiD_f (fun h => hJ h.2)]
    · rw [cl_neg hP, suiD_f (fun h => hP h.1.2)]
  · rw [suiD_f (fun h => h4 ((amg_iff _ _).2 (by have := h.1.1; omega)))]
    exact SC.of hW2 hX2 sC57 vac (t.trans (by rw [if_neg h1, if_neg h2, if_neg h3, cl_pos (hq _ _), if_pos (notb h4)]))
open Classical in
noncomputable def chkV (ps vs : Int) (n : Nat) (op arg : Nat → Int) (k : Nat) (a b c : Nat → Int) (R W : Int) : Int := if verV ps (mkC vs n op arg) = 0 ∧ suiD n op arg k a b c R W = false then 5 else verV ps (mkC vs n op arg)
def QCod (nm : ByteArray) (ps vs : Int) (n : Nat) (op arg : Nat → Int) (args : List V) : Prop := args = [codV nm ps vs n op arg]
def QCR (nm : ByteArray) (ps vs : Int) (n : Nat) (op arg : Nat → Int) (k : Nat) (a b c : Nat → Int) (R W : Int) (args : List V) : Prop := args = [codV nm ps vs n op arg, rigV k a b c R W]
noncomputable def C38 (nm : ByteArray) (ps vs : Int) (n : Nat) (op arg : Nat → Int) (k : Nat) (a b c : Nat → Int) (R W : Int) : CallT := ptab 56 (QCod nm ps vs n op arg) (fun _ => i64 (verV ps (mkC vs n op arg))) (ptab 57 (QCR nm ps vs n op arg k a b c R W) (fun _ => bo (suiD n op arg k a b c R W)) (tab []))
theorem sC38 (nm : ByteArray) (ps vs : Int) (n : Nat) (op arg : Nat → Int) (k : Nat) (a b c : Nat → Int) (R W : Int) (hn : n ≤ Go.maxLen) : SoundC E2 (C38 nm ps vs n op arg k a b c R W) := ptab_cons (fun args h => by cases h; exact verify_sc nm ps vs n op arg) (ptab_cons (fun args h => by cases h; exact suits_sc nm ps vs n op arg k a b c R W hn) tab_nil)
theorem f38 (nm : ByteArray) (ps vs : Int) (n : Nat) (op arg : Nat → Int) (k : Nat) (a b c : Nat → Int) (R W : Int) : callK E2 (C38 nm ps vs n op arg k a b c R W) (ltab2 []) 38 [codV nm ps vs n op arg, rigV k a b c R W] [] K =
  cl ((QCod nm ps vs n op arg) ([V.agg [V.sc (Value.string nm), i64 ps, i64 vs, V.ro 2 n (ins op arg)]]) ∧ ([] : List (Option Chunk)) = []) (
   if (verV ps (mkC vs n op arg) != (0 : Int)) = true then
    some (Ans.c (CRes.ret (i64 (verV ps (mkC vs n op arg))) []))
   else
    cl ((QCR nm ps vs n op arg k a b c R W) ([V.agg [V.sc (Value.string nm), i64 ps, i64 vs, V.ro 2 n (ins op arg)], V.agg [V.ro 3 k (r3 a b c), i64 R, i64 W]]) ∧ ([] : List (Option Chunk)) = []) (
     if (!suiD n op arg k a b c R W) = true then
      some (Ans.c (CRes.ret (i64 5) []))
     else
      some (Ans.c (CRes.ret (i64 0) []))) (
     none)) (
   none) := by kernel_rfl
theorem check_sc (nm : ByteArray) (ps vs : Int) (n : Nat) (op arg : Nat → Int) (k : Nat) (a b c : Nat → Int) (R W : Int) (hn : n ≤ Go.maxLen) : SC E2 38 [codV nm ps vs n op arg, rigV k a b c R W] [] (.ret (i64 (chkV ps vs n op arg k a b c R W)) []) := by
  refine SC.of hW2 hX2 (sC38 nm ps vs n op arg k a b c R W hn) ltab2_nil ((f38 nm ps vs n op arg k a b c R W).trans ?_)
  rw [cl_pos ⟨rfl, rfl⟩]
  unfold chkV
  by_cases h : verV ps (mkC vs n op arg) = 0
  · rw [if_neg (by rw [h]; decide), cl_pos ⟨rfl, rfl⟩]
    cases hs : suiD n op arg k a b c R W with
    | true => rw [if_neg (by decide), if_neg (fun g => absurd g.2 (by decide)), h]
    | false => rw [if_pos (by decide), if_pos ⟨h, rfl⟩]
  · rw [if_pos (neT h), if_neg (fun g => h g.1)]
theorem chk0 {ps vs : Int} {n : Nat} {op arg : Nat → Int} {k : Nat} {a b c : Nat → Int} {R W : Int} (h : chkV ps vs n op arg k a b c R W = 0) : Cv.VP (mkC vs n op arg) ∧ n ≤ 300 ∧ n ≠ 0 ∧ rigP k a b c R W ∧ jobP n op arg k := by
  unfold chkV at h
  split at h
  · cases h
  · rename_i g
    have hs : suiD n op arg k a b c R W = true := by cases hb : suiD n op arg k a b c R W with | true => rfl | false => exact absurd ⟨h, hb⟩ g
    obtain ⟨s1, s2⟩ := suiD_iff.1 hs
    unfold verV at h
    split at h
    · cases h
    · rename_i g1
      split at h
      · cases h
      · rename_i g2
        have e1 : (mkC vs n op arg).n = n := rfl
        rw [e1] at g1 g2
        exact ⟨Classical.not_not.1 fun x => g2 (.inr (.inr (.inr x))), by omega, fun x => g2 (.inr (.inr (.inl x))), s1, s2⟩
end Go.Proofs.Ythegipdgillngaa
