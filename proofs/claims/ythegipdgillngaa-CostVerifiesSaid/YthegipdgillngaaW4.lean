/- Verify of certificates (19, 20), walked. -/
import Derived.Test.YthegipdgillngaaW3
namespace Go.Proofs.Ythegipdgillngaa
open Go Go.Am Go.Proofs
set_option linter.unusedSimpArgs false
set_option linter.unusedVariables false
noncomputable def gtab (fs : List Nat) (ca : CallT) : CallT := fun f args L k => if fs.contains f then callG E2 20 f args L k else ca f args L k
theorem gtab_sound {fs : List Nat} {ca : CallT} (h : SoundC E2 ca) : SoundC E2 (gtab fs ca) := by
  intro f args L k r hr
  unfold gtab at hr
  split at hr
  · exact (sound_G hW2 hX2 20).1 f args L k r hr
  · exact h f args L k r hr
noncomputable def lo2 (l : LoopT) : LoopT := fun id live c s k => if id == 2 then loopG E2 20 id live c s k else l id live c s k
theorem lo2_sound {l : LoopT} (h : SoundL E2 l) : SoundL E2 (lo2 l) := by
  intro id live c s k r hr
  unfold lo2 at hr
  split at hr
  · exact (sound_G hW2 hX2 20).2 id live c s k r hr
  · exact h id live c s k r hr
theorem Ends.next2 {C : CallT} (hC : SoundC E2 C) {live m r : Nat} {c : ACode} {P : Prop} {S S' S1 : St} {e1 e2 : Ex} {T1 T2 : St} (h : Ends c P S1 e1 T1 e2 T2) (k1 : KC2 m r e1 T1 = some (.l e1 T1)) (k2 : KC2 m r e2 T2 = some (.l e2 T2)) (hle : LeSt S' S1) (hn : ∀ lo, loopK E2 C (lo2 lo) 0 live c S (KC2 m r) = lo 0 live c S' (KC2 m r)) : Ends c P S e1 T1 e2 T2 := by
  have h0 : loopK E2 C (lo2 (ltab2 [⟨0, c, S1, P, e1, T1, e2, T2⟩])) 0 live c S (KC2 m r) = cl P (some (.l e1 T1)) (some (.l e2 T2)) := by
    refine (hn _).trans ((ltab2_hit hle).trans ?_)
    rw [k1, k2]
  have hs := lo2_sound (ltab2_cons (x := ⟨0, c, S1, P, e1, T1, e2, T2⟩) h ltab2_nil)
  exact ⟨fun p => SL.by2 hC hX2 hs (h0.trans (cl_pos p)), fun p => SL.by2 hC hX2 hs (h0.trans (cl_neg p))⟩
theorem Ends.ret2 {C : CallT} (hC : SoundC E2 C) {live m r : Nat} {c : ACode} {P : Prop} {S : St} {e1 e2 : Ex} {T1 T2 : St} (hp : ¬ P) (hn : ∀ lo, loopK E2 C (lo2 lo) 0 live c S (KC2 m r) = some (.l e2 T2)) : Ends c P S e1 T1 e2 T2 :=
  ⟨fun p => absurd p hp, fun _ => SL.by2 hC hX2 (lo2_sound ltab2_nil) (hn _)⟩
theorem Ends.fin2 {C : CallT} (hC : SoundC E2 C) {live m r : Nat} {c : ACode} {P : Prop} {S : St} {e1 e2 : Ex} {T1 T2 : St} (hp : P) (hn : ∀ lo, loopK E2 C (lo2 lo) 0 live c S (KC2 m r) = some (.l e1 T1)) : Ends c P S e1 T1 e2 T2 :=
  ⟨fun _ => SL.by2 hC hX2 (lo2_sound ltab2_nil) (hn _), fun p => absurd hp p⟩
def S19a (nm : ByteArray) (ps vs : Int) (n : Nat) (op arg : Nat → Int) (k : Nat) (a b c : Nat → Int) (R W : Int) (x : Nat → Nat → Int) (i : Nat) : St := { fr := [.junk, .junk, crt n x, .ptr 0 0, .ptr 1 0] ++ jk 21 ++ [crt n x, i64 n, i64 i] ++ jk 33, H := hp [some (.blk [st nm, i64 ps, i64 vs, cd n op arg]), some (.blk [.ro 3 k (r3 a b c), i64 R, i64 W])], nx := 2, rt := 0, me := 19 }
def T19a (nm : ByteArray) (ps vs : Int) (n : Nat) (op arg : Nat → Int) (k : Nat) (a b c : Nat → Int) (R W : Int) (x : Nat → Nat → Int) : St := { fr := [.junk, .junk, crt n x, .ptr 0 0, .ptr 1 0] ++ jk 57, H := hp [some (.blk [st nm, i64 ps, i64 vs, cd n op arg]), some (.blk [.ro 3 k (r3 a b c), i64 R, i64 W])], nx := 2, rt := 0, me := 19 }
def T19r : St := { fr := jk 6 ++ [i64 14] ++ jk 55, H := hp [], nx := 0, rt := 0, me := 19 }
def S19b (nm : ByteArray) (ps vs : Int) (n : Nat) (op arg : Nat → Int) (k : Nat) (a b c : Nat → Int) (R W : Int) (e : Nat → Int) (x : Nat → Nat → Int) (i : Nat) : St := { fr := [.junk, .junk, crt n x, .ptr 0 0, .ptr 1 0] ++ jk 7 ++ [.ro 1 n (r1 e)] ++ jk 32 ++ [i64 n, i64 i] ++ jk 15, H := hp [some (.blk [st nm, i64 ps, i64 vs, cd n op arg]), some (.blk [.ro 3 k (r3 a b c), i64 R, i64 W])], nx := 2, rt := 0, me := 19 }
def T19b : St := { fr := jk 62, H := hp [], nx := 0, rt := 0, me := 19 }
def S20a (nm : ByteArray) (ps vs : Int) (n : Nat) (op arg : Nat → Int) (k : Nat) (a b c : Nat → Int) (R W : Int) (x : Nat → Nat → Int) (i : Nat) : St := { fr := [.junk, .junk, crt n x, .ptr 0 0, .ptr 1 0, .junk, .junk, .junk, .ptr 2 0, i64 i] ++ jk 53, H := hp [some (.blk [st nm, i64 ps, i64 vs, cd n op arg]), some (.blk [.ro 3 k (r3 a b c), i64 R, i64 W]), some (.blk [i64 2147483647, i64 2147483647, i64 2147483647, i64 2147483647, i64 2147483647, i64 2147483647])], nx := 3, rt := 0, me := 20 }
def T20a (nm : ByteArray) (ps vs : Int) (n : Nat) (op arg : Nat → Int) (k : Nat) (a b c : Nat → Int) (R W : Int) (x : Nat → Nat → Int) : St := { fr := [.junk, .junk, crt n x, .ptr 0 0, .ptr 1 0] ++ jk 58, H := hp [some (.blk [st nm, i64 ps, i64 vs, cd n op arg]), some (.blk [.ro 3 k (r3 a b c), i64 R, i64 W])], nx := 2, rt := 0, me := 20 }
def T20r : St := { fr := jk 6 ++ [i64 14] ++ jk 56, H := hp [], nx := 0, rt := 0, me := 20 }
def S20b (nm : ByteArray) (ps vs : Int) (n : Nat) (op arg : Nat → Int) (k : Nat) (a b c : Nat → Int) (R W : Int) (x : Nat → Nat → Int) (i : Nat) : St := { fr := [.junk, .junk, crt n x, .ptr 0 0, .ptr 1 0] ++ jk 5 ++ [i64 i] ++ jk 52, H := hp [some (.blk [st nm, i64 ps, i64 vs, cd n op arg]), some (.blk [.ro 3 k (r3 a b c), i64 R, i64 W])], nx := 2, rt := 0, me := 20 }
def T20b : St := { fr := jk 63, H := hp [], nx := 0, rt := 0, me := 20 }
noncomputable def C19b (nm : ByteArray) (ps vs : Int) (n : Nat) (op arg : Nat → Int) (k : Nat) (a b c : Nat → Int) (R W : Int) (e : Nat → Int) (x : Nat → Nat → Int) (i : Nat) (nv : Nat → Int) : CallT := ptab 40 (fun args => args = [codV nm ps vs n op arg, rigV k a b c R W, .ro 1 n (r1 e), crt n x, i64 i]) (fun _ => c6 nv) (gtab [24] (tab []))
noncomputable def C20b (nm : ByteArray) (ps vs : Int) (n : Nat) (op arg : Nat → Int) (k : Nat) (a b c : Nat → Int) (R W : Int) (x : Nat → Nat → Int) (i : Nat) (nv : Nat → Int) : CallT := ptab 42 (fun args => args = [codV nm ps vs n op arg, rigV k a b c R W, crt n x, i64 0, i64 i]) (fun _ => c6 nv) (gtab [31] (tab []))
theorem r19a (nm : ByteArray) (ps vs : Int) (n : Nat) (op arg : Nat → Int) (k : Nat) (a b c : Nat → Int) (R W : Int) (x : Nat → Nat → Int) (i : Nat) (lo : LoopT) : loopK E2 (gtab [44, 45] (tab [])) (lo2 lo) 0 469762076 (bodyOf E2 19 0) (S19a nm ps vs n op arg k a b c R W x i) (KC2 28 64) =
  if decide ((i : Int) < (n : Int)) = true then
   if (0 : Int) ≤ (i : Int) ∧ (i : Int) < (n : Int) then
    if decide (x 0 (Int.toNat (i : Int)) ≥ (0 : Int)) = true then
     if (!decide (x 0 (Int.toNat (i : Int)) ≤ (2147483647 : Int))) = true then
      some (Ans.l Ex.ret { fr := [V.junk, V.junk, V.junk, V.junk, V.junk, V.junk, i64 14] ++ jk 55, H := hp [], nx := 0, rt := 0, me := 19 })
     else
      if decide (x 1 (Int.toNat (i : Int)) ≥ (0 : Int)) = true then
       if (!decide (x 1 (Int.toNat (i : Int)) ≤ (2147483647 : Int))) = true then
        some (Ans.l Ex.ret { fr := [V.junk, V.junk, V.junk, V.junk, V.junk, V.junk, i64 14] ++ jk 55, H := hp [], nx := 0, rt := 0, me := 19 })
       else
        if decide (x 2 (Int.toNat (i : Int)) ≥ (0 : Int)) = true then
         if (!decide (x 2 (Int.toNat (i : Int)) ≤ (2147483647 : Int))) = true then
          some (Ans.l Ex.ret { fr := [V.junk, V.junk, V.junk, V.junk, V.junk, V.junk, i64 14] ++ jk 55, H := hp [], nx := 0, rt := 0, me := 19 })
         else
          if decide (x 3 (Int.toNat (i : Int)) ≥ (0 : Int)) = true then
           if (!decide (x 3 (Int.toNat (i : Int)) ≤ (2147483647 : Int))) = true then
            some (Ans.l Ex.ret { fr := [V.junk, V.junk, V.junk, V.junk, V.junk, V.junk, i64 14] ++ jk 55, H := hp [], nx := 0, rt := 0, me := 19 })
           else
            if decide (x 4 (Int.toNat (i : Int)) ≥ (0 : Int)) = true then
             if (!decide (x 4 (Int.toNat (i : Int)) ≤ (2147483647 : Int))) = true then
              some (Ans.l Ex.ret { fr := [V.junk, V.junk, V.junk, V.junk, V.junk, V.junk, i64 14] ++ jk 55, H := hp [], nx := 0, rt := 0, me := 19 })
             else
              if decide (x 5 (Int.toNat (i : Int)) ≥ (0 : Int)) = true then
               if (!decide (x 5 (Int.toNat (i : Int)) ≤ (2147483647 : Int))) = true then
                some (Ans.l Ex.ret { fr := [V.junk, V.junk, V.junk, V.junk, V.junk, V.junk, i64 14] ++ jk 55, H := hp [], nx := 0, rt := 0, me := 19 })
               else
                lo 0 469762076 (bodyOf E2 19 0) ({ fr := [V.junk, V.junk, V.ro 6 n (rc x), V.ptr 0 0, V.ptr 1 0, V.junk, V.junk, V.junk, V.junk, V.junk, V.junk, V.junk, V.junk, V.junk, V.junk, V.junk, V.junk, V.junk, V.junk, V.junk, V.junk, V.junk, V.junk, V.junk, V.junk, V.junk, V.ro 6 n (rc x), i64 (n : Int), i64 (w ((i : Int) + (1 : Int)))] ++ jk 33, H := hp [some (Chunk.blk [V.sc (Value.string nm), i64 ps, i64 vs, V.ro 2 n (ins op arg)]), some (Chunk.blk [V.ro 3 k (r3 a b c), i64 R, i64 W])], nx := 2, rt := 0, me := 19 }) (KC2 28 64)
              else
               some (Ans.l Ex.ret { fr := [V.junk, V.junk, V.junk, V.junk, V.junk, V.junk, i64 14] ++ jk 55, H := hp [], nx := 0, rt := 0, me := 19 })
            else
             some (Ans.l Ex.ret { fr := [V.junk, V.junk, V.junk, V.junk, V.junk, V.junk, i64 14] ++ jk 55, H := hp [], nx := 0, rt := 0, me := 19 })
          else
           some (Ans.l Ex.ret { fr := [V.junk, V.junk, V.junk, V.junk, V.junk, V.junk, i64 14] ++ jk 55, H := hp [], nx := 0, rt := 0, me := 19 })
        else
         some (Ans.l Ex.ret { fr := [V.junk, V.junk, V.junk, V.junk, V.junk, V.junk, i64 14] ++ jk 55, H := hp [], nx := 0, rt := 0, me := 19 })
      else
       some (Ans.l Ex.ret { fr := [V.junk, V.junk, V.junk, V.junk, V.junk, V.junk, i64 14] ++ jk 55, H := hp [], nx := 0, rt := 0, me := 19 })
    else
     some (Ans.l Ex.ret { fr := [V.junk, V.junk, V.junk, V.junk, V.junk, V.junk, i64 14] ++ jk 55, H := hp [], nx := 0, rt := 0, me := 19 })
   else
    none
  else
   some (Ans.l (Ex.exit 0) { fr := [V.junk, V.junk, V.ro 6 n (rc x), V.ptr 0 0, V.ptr 1 0] ++ jk 57, H := hp [some (Chunk.blk [V.sc (Value.string nm), i64 ps, i64 vs, V.ro 2 n (ins op arg)]), some (Chunk.blk [V.ro 3 k (r3 a b c), i64 R, i64 W])], nx := 2, rt := 0, me := 19 }) := by kernel_rfl
theorem r19b (nm : ByteArray) (ps vs : Int) (n : Nat) (op arg : Nat → Int) (k : Nat) (a b c : Nat → Int) (R W : Int) (e : Nat → Int) (x : Nat → Nat → Int) (i : Nat) (nv : Nat → Int) (lo : LoopT) : loopK E2 (C19b nm ps vs n op arg k a b c R W e x i nv) lo 4 105553116270620 (bodyOf E2 19 4) (S19b nm ps vs n op arg k a b c R W e x i) (KC2 0 64) =
  if decide ((i : Int) < (n : Int)) = true then
   cl ((fun args => args = [codV nm ps vs n op arg, rigV k a b c R W, .ro 1 n (r1 e), crt n x, i64 i]) ([V.agg [V.sc (Value.string nm), i64 ps, i64 vs, V.ro 2 n (ins op arg)], V.agg [V.ro 3 k (r3 a b c), i64 R, i64 W], V.ro 1 n (r1 e), V.ro 6 n (rc x), i64 (i : Int)]) ∧ ([] : List (Option Chunk)) = []) (
    if (0 : Int) ≤ (i : Int) ∧ (i : Int) < (n : Int) then
     if (!if false = true then !((if x 0 (Int.toNat (i : Int)) > nv 0 then x 0 (Int.toNat (i : Int)) else nv 0) == x 0 (Int.toNat (i : Int)) && ((if x 1 (Int.toNat (i : Int)) > nv 1 then x 1 (Int.toNat (i : Int)) else nv 1) == x 1 (Int.toNat (i : Int)) && ((if x 2 (Int.toNat (i : Int)) > nv 2 then x 2 (Int.toNat (i : Int)) else nv 2) == x 2 (Int.toNat (i : Int)) && ((if x 3 (Int.toNat (i : Int)) > nv 3 then x 3 (Int.toNat (i : Int)) else nv 3) == x 3 (Int.toNat (i : Int)) && ((if x 4 (Int.toNat (i : Int)) > nv 4 then x 4 (Int.toNat (i : Int)) else nv 4) == x 4 (Int.toNat (i : Int)) && ((if x 5 (Int.toNat (i : Int)) > nv 5 then x 5 (Int.toNat (i : Int)) else nv 5) == x 5 (Int.toNat (i : Int)) && true)))))) else (if x 0 (Int.toNat (i : Int)) > nv 0 then x 0 (Int.toNat (i : Int)) else nv 0) == x 0 (Int.toNat (i : Int)) && ((if x 1 (Int.toNat (i : Int)) > nv 1 then x 1 (Int.toNat (i : Int)) else nv 1) == x 1 (Int.toNat (i : Int)) && ((if x 2 (Int.toNat (i : Int)) > nv 2 then x 2 (Int.toNat (i : Int)) else nv 2) == x 2 (Int.toNat (i : Int)) && ((if x 3 (Int.toNat (i : Int)) > nv 3 then x 3 (Int.toNat (i : Int)) else nv 3) == x 3 (Int.toNat (i : Int)) && ((if x 4 (Int.toNat (i : Int)) > nv 4 then x 4 (Int.toNat (i : Int)) else nv 4) == x 4 (Int.toNat (i : Int)) && ((if x 5 (Int.toNat (i : Int)) > nv 5 then x 5 (Int.toNat (i : Int)) else nv 5) == x 5 (Int.toNat (i : Int)) && true)))))) = true then
      some (Ans.l Ex.ret { fr := [V.junk, V.junk, V.junk, V.junk, V.junk, V.junk, i64 14] ++ jk 55, H := hp [], nx := 0, rt := 0, me := 19 })
     else
      lo 4 105553116270620 (bodyOf E2 19 4) ({ fr := [V.junk, V.junk, V.ro 6 n (rc x), V.ptr 0 0, V.ptr 1 0, V.junk, V.junk, V.junk, V.junk, V.junk, V.junk, V.junk, V.ro 1 n (r1 e), V.junk, V.junk, V.junk, V.junk, V.junk, V.junk, V.junk, V.junk, V.junk, V.junk, V.junk, V.junk, V.junk, V.junk, V.junk, V.junk, V.junk, V.junk, V.junk, V.junk, V.junk, V.junk, V.junk, V.junk, V.junk, V.junk, V.junk, V.junk, V.junk, V.junk, V.junk, V.junk, i64 (n : Int), i64 (w ((i : Int) + (1 : Int)))] ++ jk 15, H := hp [some (Chunk.blk [V.sc (Value.string nm), i64 ps, i64 vs, V.ro 2 n (ins op arg)]), some (Chunk.blk [V.ro 3 k (r3 a b c), i64 R, i64 W])], nx := 2, rt := 0, me := 19 }) (KC2 0 64)
    else
     none) (
    none)
  else
   some (Ans.l (Ex.exit 4) { fr := [V.junk] ++ jk 61, H := hp [], nx := 0, rt := 0, me := 19 }) := by kernel_rfl
theorem r20a (nm : ByteArray) (ps vs : Int) (n : Nat) (op arg : Nat → Int) (k : Nat) (a b c : Nat → Int) (R W : Int) (x : Nat → Nat → Int) (i : Nat) (lo : LoopT) : loopK E2 (gtab [31] (tab [])) lo 0 796 (bodyOf E2 20 0) (S20a nm ps vs n op arg k a b c R W x i) (KC2 28 64) =
  if decide ((i : Int) < (n : Int)) = true then
   if (0 : Int) ≤ (i : Int) ∧ (i : Int) < (n : Int) then
    if decide ((0 : Int) ≤ x 0 (Int.toNat (i : Int))) = true then
     if decide ((0 : Int) ≤ x 1 (Int.toNat (i : Int))) = true then
      if decide ((0 : Int) ≤ x 2 (Int.toNat (i : Int))) = true then
       if decide ((0 : Int) ≤ x 3 (Int.toNat (i : Int))) = true then
        if decide ((0 : Int) ≤ x 4 (Int.toNat (i : Int))) = true then
         if (!decide ((0 : Int) ≤ x 5 (Int.toNat (i : Int)))) = true then
          some (Ans.l Ex.ret { fr := [V.junk, V.junk, V.junk, V.junk, V.junk, V.junk, i64 14] ++ jk 56, H := hp [], nx := 0, rt := 0, me := 20 })
         else
          if (0 : Int) ≤ (i : Int) ∧ (i : Int) < (n : Int) then
           if decide (x 0 (Int.toNat (i : Int)) ≤ (2147483647 : Int)) = true then
            if decide (x 1 (Int.toNat (i : Int)) ≤ (2147483647 : Int)) = true then
             if decide (x 2 (Int.toNat (i : Int)) ≤ (2147483647 : Int)) = true then
              if decide (x 3 (Int.toNat (i : Int)) ≤ (2147483647 : Int)) = true then
               if decide (x 4 (Int.toNat (i : Int)) ≤ (2147483647 : Int)) = true then
                if (!decide (x 5 (Int.toNat (i : Int)) ≤ (2147483647 : Int))) = true then
                 some (Ans.l Ex.ret { fr := [V.junk, V.junk, V.junk, V.junk, V.junk, V.junk, i64 14] ++ jk 56, H := hp [], nx := 0, rt := 0, me := 20 })
                else
                 lo 0 796 (bodyOf E2 20 0) ({ fr := [V.junk, V.junk, V.ro 6 n (rc x), V.ptr 0 0, V.ptr 1 0, V.junk, V.junk, V.junk, V.ptr 2 0, i64 (w ((i : Int) + (1 : Int)))] ++ jk 53, H := hp [some (Chunk.blk [V.sc (Value.string nm), i64 ps, i64 vs, V.ro 2 n (ins op arg)]), some (Chunk.blk [V.ro 3 k (r3 a b c), i64 R, i64 W]), some (Chunk.blk [i64 2147483647, i64 2147483647, i64 2147483647, i64 2147483647, i64 2147483647, i64 2147483647])], nx := 3, rt := 0, me := 20 }) (KC2 28 64)
               else
                some (Ans.l Ex.ret { fr := [V.junk, V.junk, V.junk, V.junk, V.junk, V.junk, i64 14] ++ jk 56, H := hp [], nx := 0, rt := 0, me := 20 })
              else
               some (Ans.l Ex.ret { fr := [V.junk, V.junk, V.junk, V.junk, V.junk, V.junk, i64 14] ++ jk 56, H := hp [], nx := 0, rt := 0, me := 20 })
             else
              some (Ans.l Ex.ret { fr := [V.junk, V.junk, V.junk, V.junk, V.junk, V.junk, i64 14] ++ jk 56, H := hp [], nx := 0, rt := 0, me := 20 })
            else
             some (Ans.l Ex.ret { fr := [V.junk, V.junk, V.junk, V.junk, V.junk, V.junk, i64 14] ++ jk 56, H := hp [], nx := 0, rt := 0, me := 20 })
           else
            some (Ans.l Ex.ret { fr := [V.junk, V.junk, V.junk, V.junk, V.junk, V.junk, i64 14] ++ jk 56, H := hp [], nx := 0, rt := 0, me := 20 })
          else
           none
        else
         some (Ans.l Ex.ret { fr := [V.junk, V.junk, V.junk, V.junk, V.junk, V.junk, i64 14] ++ jk 56, H := hp [], nx := 0, rt := 0, me := 20 })
       else
        some (Ans.l Ex.ret { fr := [V.junk, V.junk, V.junk, V.junk, V.junk, V.junk, i64 14] ++ jk 56, H := hp [], nx := 0, rt := 0, me := 20 })
      else
       some (Ans.l Ex.ret { fr := [V.junk, V.junk, V.junk, V.junk, V.junk, V.junk, i64 14] ++ jk 56, H := hp [], nx := 0, rt := 0, me := 20 })
     else
      some (Ans.l Ex.ret { fr := [V.junk, V.junk, V.junk, V.junk, V.junk, V.junk, i64 14] ++ jk 56, H := hp [], nx := 0, rt := 0, me := 20 })
    else
     some (Ans.l Ex.ret { fr := [V.junk, V.junk, V.junk, V.junk, V.junk, V.junk, i64 14] ++ jk 56, H := hp [], nx := 0, rt := 0, me := 20 })
   else
    none
  else
   some (Ans.l (Ex.exit 0) { fr := [V.junk, V.junk, V.ro 6 n (rc x), V.ptr 0 0, V.ptr 1 0] ++ jk 58, H := hp [some (Chunk.blk [V.sc (Value.string nm), i64 ps, i64 vs, V.ro 2 n (ins op arg)]), some (Chunk.blk [V.ro 3 k (r3 a b c), i64 R, i64 W])], nx := 2, rt := 0, me := 20 }) := by kernel_rfl
theorem r20b (nm : ByteArray) (ps vs : Int) (n : Nat) (op arg : Nat → Int) (k : Nat) (a b c : Nat → Int) (R W : Int) (x : Nat → Nat → Int) (i : Nat) (nv : Nat → Int) (lo : LoopT) : loopK E2 (C20b nm ps vs n op arg k a b c R W x i nv) lo 2 1052 (bodyOf E2 20 2) (S20b nm ps vs n op arg k a b c R W x i) (KC2 0 64) =
  if decide ((i : Int) < (n : Int)) = true then
   cl ((fun args => args = [codV nm ps vs n op arg, rigV k a b c R W, crt n x, i64 0, i64 i]) ([V.agg [V.sc (Value.string nm), i64 ps, i64 vs, V.ro 2 n (ins op arg)], V.agg [V.ro 3 k (r3 a b c), i64 R, i64 W], V.ro 6 n (rc x), i64 0, i64 (i : Int)]) ∧ ([] : List (Option Chunk)) = []) (
    if (0 : Int) ≤ (i : Int) ∧ (i : Int) < (n : Int) then
     if decide (nv 0 ≤ x 0 (Int.toNat (i : Int))) = true then
      if decide (nv 1 ≤ x 1 (Int.toNat (i : Int))) = true then
       if decide (nv 2 ≤ x 2 (Int.toNat (i : Int))) = true then
        if decide (nv 3 ≤ x 3 (Int.toNat (i : Int))) = true then
         if decide (nv 4 ≤ x 4 (Int.toNat (i : Int))) = true then
          if (!decide (nv 5 ≤ x 5 (Int.toNat (i : Int)))) = true then
           some (Ans.l Ex.ret { fr := [V.junk, V.junk, V.junk, V.junk, V.junk, V.junk, i64 14] ++ jk 56, H := hp [], nx := 0, rt := 0, me := 20 })
          else
           lo 2 1052 (bodyOf E2 20 2) ({ fr := [V.junk, V.junk, V.ro 6 n (rc x), V.ptr 0 0, V.ptr 1 0, V.junk, V.junk, V.junk, V.junk, V.junk, i64 (w ((i : Int) + (1 : Int)))] ++ jk 52, H := hp [some (Chunk.blk [V.sc (Value.string nm), i64 ps, i64 vs, V.ro 2 n (ins op arg)]), some (Chunk.blk [V.ro 3 k (r3 a b c), i64 R, i64 W])], nx := 2, rt := 0, me := 20 }) (KC2 0 64)
         else
          some (Ans.l Ex.ret { fr := [V.junk, V.junk, V.junk, V.junk, V.junk, V.junk, i64 14] ++ jk 56, H := hp [], nx := 0, rt := 0, me := 20 })
        else
         some (Ans.l Ex.ret { fr := [V.junk, V.junk, V.junk, V.junk, V.junk, V.junk, i64 14] ++ jk 56, H := hp [], nx := 0, rt := 0, me := 20 })
       else
        some (Ans.l Ex.ret { fr := [V.junk, V.junk, V.junk, V.junk, V.junk, V.junk, i64 14] ++ jk 56, H := hp [], nx := 0, rt := 0, me := 20 })
      else
       some (Ans.l Ex.ret { fr := [V.junk, V.junk, V.junk, V.junk, V.junk, V.junk, i64 14] ++ jk 56, H := hp [], nx := 0, rt := 0, me := 20 })
     else
      some (Ans.l Ex.ret { fr := [V.junk, V.junk, V.junk, V.junk, V.junk, V.junk, i64 14] ++ jk 56, H := hp [], nx := 0, rt := 0, me := 20 })
    else
     none) (
    none)
  else
   some (Ans.l (Ex.exit 2) { fr := [V.junk] ++ jk 62, H := hp [], nx := 0, rt := 0, me := 20 }) := by kernel_rfl
theorem f19 (nm : ByteArray) (ps vs : Int) (n : Nat) (op arg : Nat → Int) (k : Nat) (a b c : Nat → Int) (R W : Int) (m : Nat) (e : Nat → Int) (x : Nat → Nat → Int) (S1 S2 : St) (P P2 : Prop) : callK E2 (C14f nm ps vs n op arg k a b c R W e) (ltab2 [⟨0, bodyOf E2 19 0, S1, P, .exit 0, T19a nm ps vs n op arg k a b c R W x, .ret, T19r⟩, ⟨4, bodyOf E2 19 4, S2, P2, .exit 4, T19b, .ret, T19r⟩]) 19 [codV nm ps vs n op arg, rigV k a b c R W, crt m x] [] K =
  cl ((QCR nm ps vs n op arg k a b c R W) ([V.agg [V.sc (Value.string nm), i64 ps, i64 vs, V.ro 2 n (ins op arg)], V.agg [V.ro 3 k (r3 a b c), i64 R, i64 W]]) ∧ ([] : List (Option Chunk)) = []) (
   if (chkV ps vs n op arg k a b c R W != (0 : Int)) = true then
    some (Ans.c (CRes.ret (i64 (chkV ps vs n op arg k a b c R W)) []))
   else
    if ((m : Int) != (n : Int)) = true then
     some (Ans.c (CRes.ret (i64 14) []))
    else
     cl ((bodyOf E2 19 0) = (bodyOf E2 19 0) ∧ LeSt ({ fr := [V.junk, V.junk, V.ro 6 m (rc x), V.ptr 0 0, V.ptr 1 0, V.junk, V.junk, V.junk, V.junk, V.junk, V.junk, V.junk, V.junk, V.junk, V.junk, V.junk, V.junk, V.junk, V.junk, V.junk, V.junk, V.junk, V.junk, V.junk, V.junk, V.junk, V.ro 6 m (rc x), i64 (m : Int), i64 0] ++ jk 33, H := hp [some (Chunk.blk [V.sc (Value.string nm), i64 ps, i64 vs, V.ro 2 n (ins op arg)]), some (Chunk.blk [V.ro 3 k (r3 a b c), i64 R, i64 W])], nx := 2, rt := 0, me := 19 }) (S1)) (
      cl (P) (
       cl ((fun args => args = [codV nm ps vs n op arg] ∧ chkV ps vs n op arg k a b c R W = 0) ([V.agg [V.sc (Value.string nm), i64 ps, i64 vs, V.ro 2 n (ins op arg)]]) ∧ ([] : List (Option Chunk)) = []) (
        cl ((bodyOf E2 19 4) = (bodyOf E2 19 4) ∧ LeSt ({ fr := [V.junk, V.junk, V.ro 6 n (rc x), V.ptr 0 0, V.ptr 1 0, V.junk, V.junk, V.junk, V.junk, V.junk, V.junk, V.junk, V.ro 1 n (r1 e), V.junk, V.junk, V.junk, V.junk, V.junk, V.junk, V.junk, V.junk, V.junk, V.junk, V.junk, V.junk, V.junk, V.junk, V.junk, V.junk, V.junk, V.junk, V.junk, V.junk, V.junk, V.junk, V.junk, V.junk, V.junk, V.junk, V.junk, V.junk, V.junk, V.junk, V.junk, V.junk, i64 (n : Int), i64 0] ++ jk 15, H := hp [some (Chunk.blk [V.sc (Value.string nm), i64 ps, i64 vs, V.ro 2 n (ins op arg)]), some (Chunk.blk [V.ro 3 k (r3 a b c), i64 R, i64 W])], nx := 2, rt := 0, me := 19 }) (S2)) (
         cl (P2) (
          some (Ans.c (CRes.ret (i64 0) []))) (
          some (Ans.c (CRes.ret (i64 14) [])))) (
         none)) (
        none)) (
       some (Ans.c (CRes.ret (i64 14) [])))) (
      none)) (
   none) := by kernel_rfl
theorem f20 (nm : ByteArray) (ps vs : Int) (n : Nat) (op arg : Nat → Int) (k : Nat) (a b c : Nat → Int) (R W : Int) (m : Nat) (x : Nat → Nat → Int) (S1 S2 : St) (P P2 : Prop) : callK E2 (C15f nm ps vs n op arg k a b c R W) (ltab2 [⟨0, bodyOf E2 20 0, S1, P, .exit 0, T20a nm ps vs n op arg k a b c R W x, .ret, T20r⟩, ⟨2, bodyOf E2 20 2, S2, P2, .exit 2, T20b, .ret, T20r⟩]) 20 [codV nm ps vs n op arg, rigV k a b c R W, crt m x] [] K =
  cl ((QCR nm ps vs n op arg k a b c R W) ([V.agg [V.sc (Value.string nm), i64 ps, i64 vs, V.ro 2 n (ins op arg)], V.agg [V.ro 3 k (r3 a b c), i64 R, i64 W]]) ∧ ([] : List (Option Chunk)) = []) (
   if (chkV ps vs n op arg k a b c R W != (0 : Int)) = true then
    some (Ans.c (CRes.ret (i64 (chkV ps vs n op arg k a b c R W)) []))
   else
    if ((m : Int) != (n : Int)) = true then
     some (Ans.c (CRes.ret (i64 14) []))
    else
     cl ((bodyOf E2 20 0) = (bodyOf E2 20 0) ∧ LeSt ({ fr := [V.junk, V.junk, V.ro 6 m (rc x), V.ptr 0 0, V.ptr 1 0, V.junk, V.junk, V.junk, V.ptr 2 0, i64 0] ++ jk 53, H := hp [some (Chunk.blk [V.sc (Value.string nm), i64 ps, i64 vs, V.ro 2 n (ins op arg)]), some (Chunk.blk [V.ro 3 k (r3 a b c), i64 R, i64 W]), some (Chunk.blk [i64 2147483647, i64 2147483647, i64 2147483647, i64 2147483647, i64 2147483647, i64 2147483647])], nx := 3, rt := 0, me := 20 }) (S1)) (
      cl (P) (
       cl ((bodyOf E2 20 2) = (bodyOf E2 20 2) ∧ LeSt ({ fr := [V.junk, V.junk, V.ro 6 n (rc x), V.ptr 0 0, V.ptr 1 0, V.junk, V.junk, V.junk, V.junk, V.junk, i64 0] ++ jk 52, H := hp [some (Chunk.blk [V.sc (Value.string nm), i64 ps, i64 vs, V.ro 2 n (ins op arg)]), some (Chunk.blk [V.ro 3 k (r3 a b c), i64 R, i64 W])], nx := 2, rt := 0, me := 20 }) (S2)) (
        cl (P2) (
         some (Ans.c (CRes.ret (i64 0) []))) (
         some (Ans.c (CRes.ret (i64 14) [])))) (
        none)) (
       some (Ans.c (CRes.ret (i64 14) [])))) (
      none)) (
   none) := by kernel_rfl

theorem k19a (nm : ByteArray) (ps vs : Int) (n : Nat) (op arg : Nat → Int) (k : Nat) (a b c : Nat → Int) (R W : Int) (x : Nat → Nat → Int) : KC2 28 64 (.exit 0) (T19a nm ps vs n op arg k a b c R W x) = some (.l (.exit 0) (T19a nm ps vs n op arg k a b c R W x)) := by kernel_rfl
theorem k19ar : KC2 28 64 .ret T19r = some (.l .ret T19r) := by kernel_rfl
theorem k19b : KC2 0 64 (.exit 4) T19b = some (.l (.exit 4) T19b) := by kernel_rfl
theorem k19br : KC2 0 64 .ret T19r = some (.l .ret T19r) := by kernel_rfl
theorem k20a (nm : ByteArray) (ps vs : Int) (n : Nat) (op arg : Nat → Int) (k : Nat) (a b c : Nat → Int) (R W : Int) (x : Nat → Nat → Int) : KC2 28 64 (.exit 0) (T20a nm ps vs n op arg k a b c R W x) = some (.l (.exit 0) (T20a nm ps vs n op arg k a b c R W x)) := by kernel_rfl
theorem k20ar : KC2 28 64 .ret T20r = some (.l .ret T20r) := by kernel_rfl
theorem k20b : KC2 0 64 (.exit 2) T20b = some (.l (.exit 2) T20b) := by kernel_rfl
theorem k20br : KC2 0 64 .ret T20r = some (.l .ret T20r) := by kernel_rfl
/-- A row is within the bounds of amounts. -/
def rng6 (x : Nat → Nat → Int) (i : Nat) : Prop := (0 ≤ x 0 i ∧ x 0 i ≤ 2147483647) ∧ (0 ≤ x 1 i ∧ x 1 i ≤ 2147483647) ∧ (0 ≤ x 2 i ∧ x 2 i ≤ 2147483647) ∧ (0 ≤ x 3 i ∧ x 3 i ≤ 2147483647) ∧ (0 ≤ x 4 i ∧ x 4 i ≤ 2147483647) ∧ (0 ≤ x 5 i ∧ x 5 i ≤ 2147483647)
/-- A row holds no less than an amount. -/
def wit6 (v : Nat → Int) (x : Nat → Nat → Int) (i : Nat) : Prop := v 0 ≤ x 0 i ∧ v 1 ≤ x 1 i ∧ v 2 ≤ x 2 i ∧ v 3 ≤ x 3 i ∧ v 4 ≤ x 4 i ∧ v 5 ≤ x 5 i
set_option maxRecDepth 100000 in
theorem loop19a {nm : ByteArray} {ps vs : Int} {n : Nat} {op arg : Nat → Int} {k : Nat} {a b c : Nat → Int} {R W : Int} {x : Nat → Nat → Int} (hn : n ≤ 300) : ∀ (r i : Nat), i + r = n → Ends (bodyOf E2 19 0) (∀ j, i ≤ j → j < n → rng6 x j) (S19a nm ps vs n op arg k a b c R W x i) (.exit 0) (T19a nm ps vs n op arg k a b c R W x) .ret T19r := by
  have hC : SoundC E2 (gtab [44, 45] (tab [])) := gtab_sound tab_nil
  intro r
  induction r with
  | zero =>
    intro i hi
    exact Ends.fin2 hC (fun j h1 h2 => by omega) fun lo => (r19a nm ps vs n op arg k a b c R W x i lo).trans (by rw [if_neg (by simp; omega)]; rfl)
  | succ r ih =>
    intro i hi
    have hid : decide ((i : Int) < (n : Int)) = true := decide_eq_true (by omega)
    have hbb : (0 : Int) ≤ (i : Int) ∧ (i : Int) < (n : Int) := by omega
    have ew : w ((i : Int) + 1) = ((i + 1 : Nat) : Int) := by rw [w_in (by unfold inR; omega)]; omega
    have tree := fun lo => r19a nm ps vs n op arg k a b c R W x i lo
    simp only [if_pos hid, if_pos hbb, Int.toNat_natCast, ew] at tree
    refine Ends.iff ?_ (all_from hi)
    unfold rng6
    by_cases l0 : ¬ (x 0 i ≥ 0)
    · refine Ends.ret2 hC (fun h => l0 (by have := h.1; omega)) fun lo => (tree lo).trans ?_
      simp only [dF l0, if_true, if_false, Bool.false_eq_true, reduceIte]; rfl
    replace l0 := Classical.not_not.1 l0
    by_cases u0 : ¬ (x 0 i ≤ 2147483647)
    · refine Ends.ret2 hC (fun h => u0 (by have := h.1; omega)) fun lo => (tree lo).trans ?_
      simp only [dT l0, dF u0, Bool.not_false, if_true, if_false, Bool.false_eq_true, reduceIte]; rfl
    replace u0 := Classical.not_not.1 u0
    by_cases l1 : ¬ (x 1 i ≥ 0)
    · refine Ends.ret2 hC (fun h => l1 (by have := h.1; omega)) fun lo => (tree lo).trans ?_
      simp only [dT l0, dT u0, Bool.not_true, dF l1, if_true, if_false, Bool.false_eq_true, reduceIte]; rfl
    replace l1 := Classical.not_not.1 l1
    by_cases u1 : ¬ (x 1 i ≤ 2147483647)
    · refine Ends.ret2 hC (fun h => u1 (by have := h.1; omega)) fun lo => (tree lo).trans ?_
      simp only [dT l0, dT u0, Bool.not_true, dT l1, dF u1, Bool.not_false, if_true, if_false, Bool.false_eq_true, reduceIte]; rfl
    replace u1 := Classical.not_not.1 u1
    by_cases l2 : ¬ (x 2 i ≥ 0)
    · refine Ends.ret2 hC (fun h => l2 (by have := h.1; omega)) fun lo => (tree lo).trans ?_
      simp only [dT l0, dT u0, Bool.not_true, dT l1, dT u1, Bool.not_true, dF l2, if_true, if_false, Bool.false_eq_true, reduceIte]; rfl
    replace l2 := Classical.not_not.1 l2
    by_cases u2 : ¬ (x 2 i ≤ 2147483647)
    · refine Ends.ret2 hC (fun h => u2 (by have := h.1; omega)) fun lo => (tree lo).trans ?_
      simp only [dT l0, dT u0, Bool.not_true, dT l1, dT u1, Bool.not_true, dT l2, dF u2, Bool.not_false, if_true, if_false, Bool.false_eq_true, reduceIte]; rfl
    replace u2 := Classical.not_not.1 u2
    by_cases l3 : ¬ (x 3 i ≥ 0)
    · refine Ends.ret2 hC (fun h => l3 (by have := h.1; omega)) fun lo => (tree lo).trans ?_
      simp only [dT l0, dT u0, Bool.not_true, dT l1, dT u1, Bool.not_true, dT l2, dT u2, Bool.not_true, dF l3, if_true, if_false, Bool.false_eq_true, reduceIte]; rfl
    replace l3 := Classical.not_not.1 l3
    by_cases u3 : ¬ (x 3 i ≤ 2147483647)
    · refine Ends.ret2 hC (fun h => u3 (by have := h.1; omega)) fun lo => (tree lo).trans ?_
      simp only [dT l0, dT u0, Bool.not_true, dT l1, dT u1, Bool.not_true, dT l2, dT u2, Bool.not_true, dT l3, dF u3, Bool.not_false, if_true, if_false, Bool.false_eq_true, reduceIte]; rfl
    replace u3 := Classical.not_not.1 u3
    by_cases l4 : ¬ (x 4 i ≥ 0)
    · refine Ends.ret2 hC (fun h => l4 (by have := h.1; omega)) fun lo => (tree lo).trans ?_
      simp only [dT l0, dT u0, Bool.not_true, dT l1, dT u1, Bool.not_true, dT l2, dT u2, Bool.not_true, dT l3, dT u3, Bool.not_true, dF l4, if_true, if_false, Bool.false_eq_true, reduceIte]; rfl
    replace l4 := Classical.not_not.1 l4
    by_cases u4 : ¬ (x 4 i ≤ 2147483647)
    · refine Ends.ret2 hC (fun h => u4 (by have := h.1; omega)) fun lo => (tree lo).trans ?_
      simp only [dT l0, dT u0, Bool.not_true, dT l1, dT u1, Bool.not_true, dT l2, dT u2, Bool.not_true, dT l3, dT u3, Bool.not_true, dT l4, dF u4, Bool.not_false, if_true, if_false, Bool.false_eq_true, reduceIte]; rfl
    replace u4 := Classical.not_not.1 u4
    by_cases l5 : ¬ (x 5 i ≥ 0)
    · refine Ends.ret2 hC (fun h => l5 (by have := h.1; omega)) fun lo => (tree lo).trans ?_
      simp only [dT l0, dT u0, Bool.not_true, dT l1, dT u1, Bool.not_true, dT l2, dT u2, Bool.not_true, dT l3, dT u3, Bool.not_true, dT l4, dT u4, Bool.not_true, dF l5, if_true, if_false, Bool.false_eq_true, reduceIte]; rfl
    replace l5 := Classical.not_not.1 l5
    by_cases u5 : ¬ (x 5 i ≤ 2147483647)
    · refine Ends.ret2 hC (fun h => u5 (by have := h.1; omega)) fun lo => (tree lo).trans ?_
      simp only [dT l0, dT u0, Bool.not_true, dT l1, dT u1, Bool.not_true, dT l2, dT u2, Bool.not_true, dT l3, dT u3, Bool.not_true, dT l4, dT u4, Bool.not_true, dT l5, dF u5, Bool.not_false, if_true, if_false, Bool.false_eq_true, reduceIte]; rfl
    replace u5 := Classical.not_not.1 u5
    refine Ends.iff (Ends.next2 hC (ih (i + 1) (by omega)) (k19a _ _ _ _ _ _ _ _ _ _ _ _ _) k19ar (LeSt.refl _) fun lo => (tree lo).trans ?_) ⟨fun h => h.2, fun h => ⟨by omega, h⟩⟩
    simp only [dT l0, dT u0, dT l1, dT u1, dT l2, dT u2, dT l3, dT u3, dT l4, dT u4, dT l5, dT u5, Bool.not_true, if_true, if_false, Bool.false_eq_true, reduceIte]; rfl
set_option maxRecDepth 100000 in
theorem loop20a {nm : ByteArray} {ps vs : Int} {n : Nat} {op arg : Nat → Int} {k : Nat} {a b c : Nat → Int} {R W : Int} {x : Nat → Nat → Int} (hn : n ≤ 300) : ∀ (r i : Nat), i + r = n → Ends (bodyOf E2 20 0) (∀ j, i ≤ j → j < n → rng6 x j) (S20a nm ps vs n op arg k a b c R W x i) (.exit 0) (T20a nm ps vs n op arg k a b c R W x) .ret T20r := by
  have hC : SoundC E2 (gtab [31] (tab [])) := gtab_sound tab_nil
  intro r
  induction r with
  | zero =>
    intro i hi
    exact Ends.fin hC (fun j h1 h2 => by omega) fun lo => (r20a nm ps vs n op arg k a b c R W x i lo).trans (by rw [if_neg (by simp; omega)]; rfl)
  | succ r ih =>
    intro i hi
    have hid : decide ((i : Int) < (n : Int)) = true := decide_eq_true (by omega)
    have hbb : (0 : Int) ≤ (i : Int) ∧ (i : Int) < (n : Int) := by omega
    have ew : w ((i : Int) + 1) = ((i + 1 : Nat) : Int) := by rw [w_in (by unfold inR; omega)]; omega
    have tree := fun lo => r20a nm ps vs n op arg k a b c R W x i lo
    simp only [if_pos hid, if_pos hbb, Int.toNat_natCast, ew] at tree
    refine Ends.iff ?_ (all_from hi)
    unfold rng6
    by_cases l0 : ¬ (0 ≤ x 0 i)
    · refine Ends.ret hC (fun h => l0 (by have := h.1; omega)) fun lo => (tree lo).trans ?_
      simp only [dF l0, Bool.not_false, if_true, if_false, Bool.false_eq_true, reduceIte]; rfl
    replace l0 := Classical.not_not.1 l0
    by_cases l1 : ¬ (0 ≤ x 1 i)
    · refine Ends.ret hC (fun h => l1 (by have := h.1; omega)) fun lo => (tree lo).trans ?_
      simp only [dT l0, dF l1, Bool.not_false, if_true, if_false, Bool.false_eq_true, reduceIte]; rfl
    replace l1 := Classical.not_not.1 l1
    by_cases l2 : ¬ (0 ≤ x 2 i)
    · refine Ends.ret hC (fun h => l2 (by have := h.1; omega)) fun lo => (tree lo).trans ?_
      simp only [dT l0, dT l1, dF l2, Bool.not_false, if_true, if_false, Bool.false_eq_true, reduceIte]; rfl
    replace l2 := Classical.not_not.1 l2
    by_cases l3 : ¬ (0 ≤ x 3 i)
    · refine Ends.ret hC (fun h => l3 (by have := h.1; omega)) fun lo => (tree lo).trans ?_
      simp only [dT l0, dT l1, dT l2, dF l3, Bool.not_false, if_true, if_false, Bool.false_eq_true, reduceIte]; rfl
    replace l3 := Classical.not_not.1 l3
    by_cases l4 : ¬ (0 ≤ x 4 i)
    · refine Ends.ret hC (fun h => l4 (by have := h.1; omega)) fun lo => (tree lo).trans ?_
      simp only [dT l0, dT l1, dT l2, dT l3, dF l4, Bool.not_false, if_true, if_false, Bool.false_eq_true, reduceIte]; rfl
    replace l4 := Classical.not_not.1 l4
    by_cases l5 : ¬ (0 ≤ x 5 i)
    · refine Ends.ret hC (fun h => l5 (by have := h.1; omega)) fun lo => (tree lo).trans ?_
      simp only [dT l0, dT l1, dT l2, dT l3, dT l4, dF l5, Bool.not_false, if_true, if_false, Bool.false_eq_true, reduceIte]; rfl
    replace l5 := Classical.not_not.1 l5
    by_cases u0 : ¬ (x 0 i ≤ 2147483647)
    · refine Ends.ret hC (fun h => u0 (by have := h.1; omega)) fun lo => (tree lo).trans ?_
      simp only [dT l0, dT l1, dT l2, dT l3, dT l4, dT l5, dF u0, Bool.not_false, Bool.not_true, if_true, if_false, Bool.false_eq_true, reduceIte]; rfl
    replace u0 := Classical.not_not.1 u0
    by_cases u1 : ¬ (x 1 i ≤ 2147483647)
    · refine Ends.ret hC (fun h => u1 (by have := h.1; omega)) fun lo => (tree lo).trans ?_
      simp only [dT l0, dT l1, dT l2, dT l3, dT l4, dT l5, dT u0, dF u1, Bool.not_false, Bool.not_true, if_true, if_false, Bool.false_eq_true, reduceIte]; rfl
    replace u1 := Classical.not_not.1 u1
    by_cases u2 : ¬ (x 2 i ≤ 2147483647)
    · refine Ends.ret hC (fun h => u2 (by have := h.1; omega)) fun lo => (tree lo).trans ?_
      simp only [dT l0, dT l1, dT l2, dT l3, dT l4, dT l5, dT u0, dT u1, dF u2, Bool.not_false, Bool.not_true, if_true, if_false, Bool.false_eq_true, reduceIte]; rfl
    replace u2 := Classical.not_not.1 u2
    by_cases u3 : ¬ (x 3 i ≤ 2147483647)
    · refine Ends.ret hC (fun h => u3 (by have := h.1; omega)) fun lo => (tree lo).trans ?_
      simp only [dT l0, dT l1, dT l2, dT l3, dT l4, dT l5, dT u0, dT u1, dT u2, dF u3, Bool.not_false, Bool.not_true, if_true, if_false, Bool.false_eq_true, reduceIte]; rfl
    replace u3 := Classical.not_not.1 u3
    by_cases u4 : ¬ (x 4 i ≤ 2147483647)
    · refine Ends.ret hC (fun h => u4 (by have := h.1; omega)) fun lo => (tree lo).trans ?_
      simp only [dT l0, dT l1, dT l2, dT l3, dT l4, dT l5, dT u0, dT u1, dT u2, dT u3, dF u4, Bool.not_false, Bool.not_true, if_true, if_false, Bool.false_eq_true, reduceIte]; rfl
    replace u4 := Classical.not_not.1 u4
    by_cases u5 : ¬ (x 5 i ≤ 2147483647)
    · refine Ends.ret hC (fun h => u5 (by have := h.1; omega)) fun lo => (tree lo).trans ?_
      simp only [dT l0, dT l1, dT l2, dT l3, dT l4, dT l5, dT u0, dT u1, dT u2, dT u3, dT u4, dF u5, Bool.not_false, Bool.not_true, if_true, if_false, Bool.false_eq_true, reduceIte]; rfl
    replace u5 := Classical.not_not.1 u5
    refine Ends.iff (Ends.next hC (ih (i + 1) (by omega)) (k20a _ _ _ _ _ _ _ _ _ _ _ _ _) k20ar (LeSt.refl _) fun lo => (tree lo).trans ?_) ⟨fun h => h.2, fun h => ⟨by omega, h⟩⟩
    simp only [dT l0, dT u0, dT l1, dT u1, dT l2, dT u2, dT l3, dT u3, dT l4, dT u4, dT l5, dT u5, Bool.not_true, if_true, if_false, Bool.false_eq_true, reduceIte]; rfl
theorem r19bz (nm : ByteArray) (ps vs : Int) (n : Nat) (op arg : Nat → Int) (k : Nat) (a b c : Nat → Int) (R W : Int) (e : Nat → Int) (x : Nat → Nat → Int) (i : Nat) (lo : LoopT) : loopK E2 (tab []) lo 4 105553116270620 (bodyOf E2 19 4) (S19b nm ps vs n op arg k a b c R W e x i) (KC2 0 64) =
  if decide ((i : Int) < (n : Int)) = true then
   none
  else
   some (Ans.l (Ex.exit 4) { fr := [V.junk] ++ jk 61, H := hp [], nx := 0, rt := 0, me := 19 }) := by kernel_rfl

theorem r20bz (nm : ByteArray) (ps vs : Int) (n : Nat) (op arg : Nat → Int) (k : Nat) (a b c : Nat → Int) (R W : Int) (x : Nat → Nat → Int) (i : Nat) (lo : LoopT) : loopK E2 (tab []) lo 2 1052 (bodyOf E2 20 2) (S20b nm ps vs n op arg k a b c R W x i) (KC2 0 64) =
  if decide ((i : Int) < (n : Int)) = true then
   none
  else
   some (Ans.l (Ex.exit 2) { fr := [V.junk] ++ jk 62, H := hp [], nx := 0, rt := 0, me := 20 }) := by kernel_rfl

theorem end19b (nm : ByteArray) (ps vs : Int) (n : Nat) (op arg : Nat → Int) (k : Nat) (a b c : Nat → Int) (R W : Int) (e : Nat → Int) (x : Nat → Nat → Int) : Ends (bodyOf E2 19 4) True (S19b nm ps vs n op arg k a b c R W e x n) (.exit 4) T19b .ret T19r := by
  have t := r19bz nm ps vs n op arg k a b c R W e x n
  exact Ends.fin (m := 0) (r := 64) (tab_nil (E := E2)) trivial fun lo => (t lo).trans (by rw [if_neg (by simp)]; rfl)
theorem end20b (nm : ByteArray) (ps vs : Int) (n : Nat) (op arg : Nat → Int) (k : Nat) (a b c : Nat → Int) (R W : Int) (x : Nat → Nat → Int) : Ends (bodyOf E2 20 2) True (S20b nm ps vs n op arg k a b c R W x n) (.exit 2) T20b .ret T20r := by
  have t := r20bz nm ps vs n op arg k a b c R W x n
  exact Ends.fin (m := 0) (r := 64) (tab_nil (E := E2)) trivial fun lo => (t lo).trans (by rw [if_neg (by simp)]; rfl)
theorem mxLe (v x : Int) : ((if x > v then x else v) == x) = decide (v ≤ x) := by
  rw [Bool.eq_iff_iff, beq_iff_eq, decide_eq_true_eq]
  split <;> omega
set_option maxRecDepth 100000 in
theorem loop19b (nm : ByteArray) (ps : Int) {vs : Int} {n : Nat} {op arg : Nat → Int} {k : Nat} {a b c : Nat → Int} {R W : Int} (hf : Fit vs n op arg k a b c R W) (x : Nat → Nat → Int) : ∀ (r i : Nat), i + r = n → Ends (bodyOf E2 19 4) (∀ j, i ≤ j → j < n → wit6 ((ndF (mkC vs n op arg) a b R W) x j) x j) (S19b nm ps vs n op arg k a b c R W (Cv.endF (mkC vs n op arg)) x i) (.exit 4) T19b .ret T19r := by
  have hn := hf.n3
  intro r
  induction r with
  | zero =>
    intro i hi
    have : i = n := by omega
    subst this
    exact (end19b _ _ _ _ _ _ _ _ _ _ _ _ _ _).iff ⟨fun _ => trivial, fun _ j h1 h2 => by omega⟩
  | succ r ih =>
    intro i hi
    have hi' : i < n := by omega
    have hid : decide ((i : Int) < (n : Int)) = true := decide_eq_true (by omega)
    have hbb : (0 : Int) ≤ (i : Int) ∧ (i : Int) < (n : Int) := by omega
    have ew : w ((i : Int) + 1) = ((i + 1 : Nat) : Int) := by rw [w_in (by unfold inR; omega)]; omega
    have hC : SoundC E2 (C19b nm ps vs n op arg k a b c R W (Cv.endF (mkC vs n op arg)) x i ((ndF (mkC vs n op arg) a b R W) x i)) := ptab_cons (fun args h => by cases h; exact need_sc nm ps hf x hi') (gtab_sound tab_nil)
    refine Ends.iff ?_ (all_from hi)
    have tree := fun lo => r19b nm ps vs n op arg k a b c R W (Cv.endF (mkC vs n op arg)) x i ((ndF (mkC vs n op arg) a b R W) x i) lo
    generalize (ndF (mkC vs n op arg) a b R W) x i = v at *
    simp only [if_pos hid, eq_self, Int.toNat_natCast, if_pos hbb, ew, mxLe, Bool.and_true, Bool.false_eq_true, if_false] at tree
    by_cases hw : wit6 v x i
    · have hb : (decide (v 0 ≤ x 0 i) && (decide (v 1 ≤ x 1 i) && (decide (v 2 ≤ x 2 i) && (decide (v 3 ≤ x 3 i) && (decide (v 4 ≤ x 4 i) && decide (v 5 ≤ x 5 i)))))) = true := by
        unfold wit6 at hw
        simp only [Bool.and_eq_true, decide_eq_true_eq]
        exact hw
      refine Ends.iff (Ends.next hC (ih (i + 1) (by omega)) k19b k19br (LeSt.refl _) fun lo => (tree lo).trans ?_) ⟨fun h => h.2, fun h => ⟨hw, h⟩⟩
      rw [cl_pos ⟨rfl, trivial⟩, hb]; rfl
    · have hb : (decide (v 0 ≤ x 0 i) && (decide (v 1 ≤ x 1 i) && (decide (v 2 ≤ x 2 i) && (decide (v 3 ≤ x 3 i) && (decide (v 4 ≤ x 4 i) && decide (v 5 ≤ x 5 i)))))) = false := by
        cases hc : (decide (v 0 ≤ x 0 i) && (decide (v 1 ≤ x 1 i) && (decide (v 2 ≤ x 2 i) && (decide (v 3 ≤ x 3 i) && (decide (v 4 ≤ x 4 i) && decide (v 5 ≤ x 5 i)))))) with
        | false => rfl
        | true =>
          simp only [Bool.and_eq_true, decide_eq_true_eq] at hc
          exact absurd hc hw
      refine Ends.ret hC (fun h => hw h.1) fun lo => (tree lo).trans ?_
      rw [cl_pos ⟨rfl, trivial⟩, hb]; rfl
set_option maxRecDepth 100000 in
theorem loop20b (nm : ByteArray) (ps : Int) {vs : Int} {n : Nat} {op arg : Nat → Int} {k : Nat} {a b c : Nat → Int} {R W : Int} (hf : Fit vs n op arg k a b c R W) (x : Nat → Nat → Int) : ∀ (r i : Nat), i + r = n → Ends (bodyOf E2 20 2) (∀ j, i ≤ j → j < n → wit6 ((ndF (mkC vs n op arg) a b R W) x j) x j) (S20b nm ps vs n op arg k a b c R W x i) (.exit 2) T20b .ret T20r := by
  have hn := hf.n3
  intro r
  induction r with
  | zero =>
    intro i hi
    have : i = n := by omega
    subst this
    exact (end20b _ _ _ _ _ _ _ _ _ _ _ _ _).iff ⟨fun _ => trivial, fun _ j h1 h2 => by omega⟩
  | succ r ih =>
    intro i hi
    have hi' : i < n := by omega
    have hid : decide ((i : Int) < (n : Int)) = true := decide_eq_true (by omega)
    have hbb : (0 : Int) ≤ (i : Int) ∧ (i : Int) < (n : Int) := by omega
    have ew : w ((i : Int) + 1) = ((i + 1 : Nat) : Int) := by rw [w_in (by unfold inR; omega)]; omega
    have e0 : (fun (q p : Nat) => x q (0 + p)) = x := by funext q p; rw [Nat.zero_add]
    have hC : SoundC E2 (C20b nm ps vs n op arg k a b c R W x i ((ndF (mkC vs n op arg) a b R W) x i)) := ptab_cons (fun args h => by
      cases h
      have := refNeed_sc nm ps hf x (i := i) (f := 0) (l := n) hi' (Nat.zero_le _) (Nat.zero_add _)
      rw [e0] at this
      exact this) (gtab_sound tab_nil)
    refine Ends.iff ?_ (all_from hi)
    have tree := fun lo => r20b nm ps vs n op arg k a b c R W x i ((ndF (mkC vs n op arg) a b R W) x i) lo
    generalize (ndF (mkC vs n op arg) a b R W) x i = v at *
    have hq : ([V.agg [V.sc (Value.string nm), i64 ps, i64 vs, V.ro 2 n (ins op arg)], V.agg [V.ro 3 k (r3 a b c), i64 R, i64 W], V.ro 6 n (rc x), i64 0, i64 (i : Int)] = [codV nm ps vs n op arg, rigV k a b c R W, crt n x, i64 0, i64 i]) ∧ True := ⟨rfl, trivial⟩
    simp only [if_pos hid, eq_self, Int.toNat_natCast, if_pos hbb, ew] at tree
    unfold wit6
    by_cases l0 : ¬ (v 0 ≤ x 0 i)
    · refine Ends.ret hC (fun h => l0 (by have := h.1; omega)) fun lo => (tree lo).trans ((cl_pos ⟨rfl, trivial⟩).trans ?_)
      simp only [dF l0, Bool.not_false, if_true, if_false, Bool.false_eq_true, reduceIte]; rfl
    replace l0 := Classical.not_not.1 l0
    by_cases l1 : ¬ (v 1 ≤ x 1 i)
    · refine Ends.ret hC (fun h => l1 (by have := h.1; omega)) fun lo => (tree lo).trans ((cl_pos ⟨rfl, trivial⟩).trans ?_)
      simp only [dT l0, dF l1, Bool.not_false, if_true, if_false, Bool.false_eq_true, reduceIte]; rfl
    replace l1 := Classical.not_not.1 l1
    by_cases l2 : ¬ (v 2 ≤ x 2 i)
    · refine Ends.ret hC (fun h => l2 (by have := h.1; omega)) fun lo => (tree lo).trans ((cl_pos ⟨rfl, trivial⟩).trans ?_)
      simp only [dT l0, dT l1, dF l2, Bool.not_false, if_true, if_false, Bool.false_eq_true, reduceIte]; rfl
    replace l2 := Classical.not_not.1 l2
    by_cases l3 : ¬ (v 3 ≤ x 3 i)
    · refine Ends.ret hC (fun h => l3 (by have := h.1; omega)) fun lo => (tree lo).trans ((cl_pos ⟨rfl, trivial⟩).trans ?_)
      simp only [dT l0, dT l1, dT l2, dF l3, Bool.not_false, if_true, if_false, Bool.false_eq_true, reduceIte]; rfl
    replace l3 := Classical.not_not.1 l3
    by_cases l4 : ¬ (v 4 ≤ x 4 i)
    · refine Ends.ret hC (fun h => l4 (by have := h.1; omega)) fun lo => (tree lo).trans ((cl_pos ⟨rfl, trivial⟩).trans ?_)
      simp only [dT l0, dT l1, dT l2, dT l3, dF l4, Bool.not_false, if_true, if_false, Bool.false_eq_true, reduceIte]; rfl
    replace l4 := Classical.not_not.1 l4
    by_cases l5 : ¬ (v 5 ≤ x 5 i)
    · refine Ends.ret hC (fun h => l5 (by have := h.1; omega)) fun lo => (tree lo).trans ((cl_pos ⟨rfl, trivial⟩).trans ?_)
      simp only [dT l0, dT l1, dT l2, dT l3, dT l4, dF l5, Bool.not_false, if_true, if_false, Bool.false_eq_true, reduceIte]; rfl
    replace l5 := Classical.not_not.1 l5
    refine Ends.iff (Ends.next hC (ih (i + 1) (by omega)) k20b k20br (LeSt.refl _) fun lo => (tree lo).trans ((cl_pos ⟨rfl, trivial⟩).trans ?_)) ⟨fun h => h.2, fun h => ⟨by omega, h⟩⟩
    simp only [dT l0, dT l1, dT l2, dT l3, dT l4, dT l5, Bool.not_true, if_true, if_false, Bool.false_eq_true, reduceIte]; rfl
/-! ### The answer -/
def okC (vs : Int) (n : Nat) (op arg : Nat → Int) (a b : Nat → Int) (R W : Int) (x : Nat → Nat → Int) : Prop := (∀ j, 0 ≤ j → j < n → rng6 x j) ∧ ∀ j, 0 ≤ j → j < n → wit6 ((ndF (mkC vs n op arg) a b R W) x j) x j
open Classical in
noncomputable def cverV (ps vs : Int) (n : Nat) (op arg : Nat → Int) (k : Nat) (a b c : Nat → Int) (R W : Int) (m : Nat) (x : Nat → Nat → Int) : Int := if chkV ps vs n op arg k a b c R W ≠ 0 then chkV ps vs n op arg k a b c R W else if m = n ∧ okC vs n op arg a b R W x then 0 else 14
set_option maxRecDepth 100000 in
theorem cverify_sc (nm : ByteArray) (ps vs : Int) (n : Nat) (op arg : Nat → Int) (k : Nat) (a b c : Nat → Int) (R W : Int) (m : Nat) (x : Nat → Nat → Int) (hn : n ≤ Go.maxLen) : SC E2 19 [codV nm ps vs n op arg, rigV k a b c R W, crt m x] [] (.ret (i64 (cverV ps vs n op arg k a b c R W m x)) []) := by
  have hC : SoundC E2 (C14f nm ps vs n op arg k a b c R W (Cv.endF (mkC vs n op arg))) := ptab_cons (fun args h => by cases h; exact check_sc nm ps vs n op arg k a b c R W hn) (ptab_cons (fun args h => by
    obtain ⟨rfl, h⟩ := h
    have hf := fit_of h
    exact ends_sc nm ps vs hf.n3 (vp17 hf.vp)) tab_nil)
  have z0 : Ends (bodyOf E2 19 0) True (S19a nm ps vs 0 op arg k a b c R W x 0) (.exit 0) (T19a nm ps vs 0 op arg k a b c R W x) .ret T19r := (loop19a (Nat.zero_le _) 0 0 rfl).iff ⟨fun _ j h1 h2 => by omega, fun _ => trivial⟩
  unfold cverV
  by_cases h : chkV ps vs n op arg k a b c R W = 0
  · have hf := fit_of h
    have hn3 := hf.n3
    have l1 := loop19a (nm := nm) (ps := ps) (vs := vs) (op := op) (arg := arg) (k := k) (a := a) (b := b) (c := c) (R := R) (W := W) (x := x) hn3 n 0 (by omega)
    have l2 := loop19b nm ps hf x n 0 (by omega)
    have hs := ltab2_cons (x := ⟨0, _, _, _, _, _, _, _⟩) l1 (ltab2_cons (x := ⟨4, _, _, _, _, _, _, _⟩) l2 ltab2_nil)
    rw [if_neg (fun g => g h)]
    refine SC.of hW2 hX2 hC hs ((f19 nm ps vs n op arg k a b c R W m (Cv.endF (mkC vs n op arg)) x _ _ _ _).trans ?_)
    rw [cl_pos ⟨rfl, rfl⟩, if_neg (by rw [h]; decide)]
    by_cases hm : m = n
    · subst hm
      rw [if_neg (by simp), cl_pos ⟨rfl, LeSt.refl _⟩]
      by_cases hP : ∀ j, 0 ≤ j → j < m → rng6 x j
      · rw [cl_pos hP, cl_pos ⟨⟨rfl, h⟩, rfl⟩, cl_pos ⟨rfl, LeSt.refl _⟩]
        by_cases hW : ∀ j, 0 ≤ j → j < m → wit6 (ndF (mkC vs m op arg) a b R W x j) x j
        · rw [cl_pos hW, if_pos ⟨rfl, hP, hW⟩]
        · rw [cl_neg hW, if_neg (fun g => hW g.2.2)]
      · rw [cl_neg hP, if_neg (fun g => hP g.2.1)]
    · rw [if_pos (neT (show ¬ (m : Int) = (n : Int) by omega)), if_neg (fun g => hm g.1)]
  · rw [if_pos h]
    have v1 : Ends (bodyOf E2 19 0) True (S19a nm ps vs n op arg k a b c R W x n) (.exit 0) (T19a nm ps vs n op arg k a b c R W x) .ret T19r := Ends.fin2 (m := 28) (r := 64) (gtab_sound (fs := [44, 45]) tab_nil) trivial fun lo => (r19a nm ps vs n op arg k a b c R W x n lo).trans (by rw [if_neg (by simp)]; rfl)
    have v2 : Ends (bodyOf E2 19 4) True (S19b nm ps vs n op arg k a b c R W (Cv.endF (mkC vs n op arg)) x n) (.exit 4) T19b .ret T19r := end19b _ _ _ _ _ _ _ _ _ _ _ _ _ _
    have hs := ltab2_cons (x := ⟨0, _, _, _, _, _, _, _⟩) v1 (ltab2_cons (x := ⟨4, _, _, _, _, _, _, _⟩) v2 ltab2_nil)
    refine SC.of hW2 hX2 hC hs ((f19 nm ps vs n op arg k a b c R W m (Cv.endF (mkC vs n op arg)) x _ _ _ _).trans ?_)
    rw [cl_pos ⟨rfl, rfl⟩, if_pos (neT h)]
set_option maxRecDepth 100000 in
theorem refCverify_sc (nm : ByteArray) (ps vs : Int) (n : Nat) (op arg : Nat → Int) (k : Nat) (a b c : Nat → Int) (R W : Int) (m : Nat) (x : Nat → Nat → Int) (hn : n ≤ Go.maxLen) : SC E2 20 [codV nm ps vs n op arg, rigV k a b c R W, crt m x] [] (.ret (i64 (cverV ps vs n op arg k a b c R W m x)) []) := by
  have hC : SoundC E2 (C15f nm ps vs n op arg k a b c R W) := ptab_cons (fun args h => by cases h; exact refCheck_sc nm ps vs n op arg k a b c R W hn) tab_nil
  unfold cverV
  by_cases h : chkV ps vs n op arg k a b c R W = 0
  · have hf := fit_of h
    have hn3 := hf.n3
    have l1 := loop20a (nm := nm) (ps := ps) (vs := vs) (op := op) (arg := arg) (k := k) (a := a) (b := b) (c := c) (R := R) (W := W) (x := x) hn3 n 0 (by omega)
    have l2 := loop20b nm ps hf x n 0 (by omega)
    have hs := ltab2_cons (x := ⟨0, _, _, _, _, _, _, _⟩) l1 (ltab2_cons (x := ⟨2, _, _, _, _, _, _, _⟩) l2 ltab2_nil)
    rw [if_neg (fun g => g h)]
    refine SC.of hW2 hX2 hC hs ((f20 nm ps vs n op arg k a b c R W m x _ _ _ _).trans ?_)
    rw [cl_pos ⟨rfl, rfl⟩, if_neg (by rw [h]; decide)]
    by_cases hm : m = n
    · subst hm
      rw [if_neg (by simp), cl_pos ⟨rfl, LeSt.refl _⟩]
      by_cases hP : ∀ j, 0 ≤ j → j < m → rng6 x j
      · rw [cl_pos hP, cl_pos ⟨rfl, LeSt.refl _⟩]
        by_cases hW : ∀ j, 0 ≤ j → j < m → wit6 (ndF (mkC vs m op arg) a b R W x j) x j
        · rw [cl_pos hW, if_pos ⟨rfl, hP, hW⟩]
        · rw [cl_neg hW, if_neg (fun g => hW g.2.2)]
      · rw [cl_neg hP, if_neg (fun g => hP g.2.1)]
    · rw [if_pos (neT (show ¬ (m : Int) = (n : Int) by omega)), if_neg (fun g => hm g.1)]
  · rw [if_pos h]
    have v1 : Ends (bodyOf E2 20 0) True (S20a nm ps vs n op arg k a b c R W x n) (.exit 0) (T20a nm ps vs n op arg k a b c R W x) .ret T20r := Ends.fin (m := 28) (r := 64) (gtab_sound (fs := [31]) tab_nil) trivial fun lo => (r20a nm ps vs n op arg k a b c R W x n lo).trans (by rw [if_neg (by simp)]; rfl)
    have v2 : Ends (bodyOf E2 20 2) True (S20b nm ps vs n op arg k a b c R W x n) (.exit 2) T20b .ret T20r := end20b _ _ _ _ _ _ _ _ _ _ _ _ _
    have hs := ltab2_cons (x := ⟨0, _, _, _, _, _, _, _⟩) v1 (ltab2_cons (x := ⟨2, _, _, _, _, _, _, _⟩) v2 ltab2_nil)
    refine SC.of hW2 hX2 hC hs ((f20 nm ps vs n op arg k a b c R W m x _ _ _ _).trans ?_)
    rw [cl_pos ⟨rfl, rfl⟩, if_pos (neT h)]
end Go.Proofs.Ythegipdgillngaa
