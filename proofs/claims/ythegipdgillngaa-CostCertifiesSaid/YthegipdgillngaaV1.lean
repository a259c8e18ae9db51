/- What the small functions of the two checks of code compute. -/
import Derived.Test.YthegipdgillngaaB5
import Derived.Test.YthegipdgillngaaAmZ
import Derived.Test.YthegipdgillngaaCv
namespace Go.Proofs.Ythegipdgillngaa
open Go Go.Am Go.Proofs
set_option linter.unusedSimpArgs false
set_option linter.unusedVariables false
def ins (op arg : Nat → Int) : Nat → List V := fun j => [i64 (op j), i64 (arg j)]
noncomputable def E2 : Env := { P := Try.prog, glob := fun _ => none, ext := fun _ _ => none, way := way, lit := fun f => f == 17, code := fun f => (Try.prog.funcs[f]?).bind annF, sett := fun _ => true }
theorem hW2 : WF E2 := WF.of E2 (fun _ => rfl) (by kernel_rfl)
theorem hX2 : SoundX E2 := SoundX.none fun _ _ => rfl
theorem sc2 {f : FuncId} {args : List V} {L : List (Option Chunk)} {cr : CRes} : SC E2 f args L cr ↔ SC E f args L cr :=
  ⟨fun h => ⟨h.1, fun β S w us h1 h2 h3 => h.2 β S w us h1 h2 ⟨h3.rd, h3.inv⟩⟩, fun h => ⟨h.1, fun β S w us h1 h2 h3 => h.2 β S w us h1 h2 ⟨h3.rd, h3.inv⟩⟩⟩
theorem SC.g2 {n : Nat} {f : FuncId} {args : List V} {L : List (Option Chunk)} {cr : CRes} (h : callG E2 n f args L K = some (.c cr)) : SC E2 f args L cr := by
  obtain ⟨cr', e1, e2⟩ := (sound_G hW2 hX2 n).1 _ _ _ _ _ h
  simp only [K, Option.some.injEq, Ans.c.injEq] at e1
  rwa [e1] at e2
abbrev st (s : ByteArray) : V := .sc (.string s)
def codV (nm : ByteArray) (ps vs : Int) (n : Nat) (op arg : Nat → Int) : V := .agg [st nm, i64 ps, i64 vs, .ro 2 n (ins op arg)]
theorem g69 (nm : ByteArray) (ps vs : Int) (n : Nat) (op arg : Nat → Int) (i : Nat) : callG E2 20 69 [codV nm ps vs n op arg, i64 i] [] K =
  if (0 : Int) ≤ (i : Int) ∧ (i : Int) < (n : Int) then
   if (op (Int.toNat (i : Int)) == (1 : Int)) = true then
    some (Ans.c (CRes.ret (V.tup [i64 (-2147483647), i64 2147483647]) []))
   else
    if (op (Int.toNat (i : Int)) == (2 : Int)) = true then
     some (Ans.c (CRes.ret (V.tup [i64 0, i64 (w (vs - (1 : Int)))]) []))
    else
     if (op (Int.toNat (i : Int)) == (3 : Int)) = true then
      some (Ans.c (CRes.ret (V.tup [i64 0, i64 (w (vs - (1 : Int)))]) []))
     else
      if (op (Int.toNat (i : Int)) == (4 : Int)) = true then
       some (Ans.c (CRes.ret (V.tup [i64 0, i64 5]) []))
      else
       if (op (Int.toNat (i : Int)) == (14 : Int)) = true then
        some (Ans.c (CRes.ret (V.tup [i64 (w ((i : Int) + (1 : Int))), i64 (w ((n : Int) - (1 : Int)))]) []))
       else
        if (op (Int.toNat (i : Int)) == (15 : Int)) = true then
         some (Ans.c (CRes.ret (V.tup [i64 (w ((i : Int) + (1 : Int))), i64 (w ((n : Int) - (1 : Int)))]) []))
        else
         if (op (Int.toNat (i : Int)) == (16 : Int)) = true then
          some (Ans.c (CRes.ret (V.tup [i64 1, i64 100]) []))
         else
          if (op (Int.toNat (i : Int)) == (17 : Int)) = true then
           some (Ans.c (CRes.ret (V.tup [i64 1, i64 (i : Int)]) []))
          else
           if (op (Int.toNat (i : Int)) == (20 : Int)) = true then
            some (Ans.c (CRes.ret (V.tup [i64 1, i64 (i : Int)]) []))
           else
            if (op (Int.toNat (i : Int)) == (18 : Int)) = true then
             some (Ans.c (CRes.ret (V.tup [i64 0, i64 1000000]) []))
            else
             if (op (Int.toNat (i : Int)) == (19 : Int)) = true then
              some (Ans.c (CRes.ret (V.tup [i64 0, i64 1000000]) []))
             else
              if (op (Int.toNat (i : Int)) == (23 : Int)) = true then
               some (Ans.c (CRes.ret (V.tup [i64 0, i64 7999999]) []))
              else
               if (op (Int.toNat (i : Int)) == (24 : Int)) = true then
                some (Ans.c (CRes.ret (V.tup [i64 0, i64 2147483647]) []))
               else
                if (op (Int.toNat (i : Int)) == (25 : Int)) = true then
                 some (Ans.c (CRes.ret (V.tup [i64 0, i64 2147483647]) []))
                else
                 if (op (Int.toNat (i : Int)) == (26 : Int)) = true then
                  some (Ans.c (CRes.ret (V.tup [i64 0, i64 99]) []))
                 else
                  if (op (Int.toNat (i : Int)) == (27 : Int)) = true then
                   some (Ans.c (CRes.ret (V.tup [i64 0, i64 999]) []))
                  else
                   some (Ans.c (CRes.ret (V.tup [i64 0, i64 0]) []))
  else
   none := by kernel_rfl

theorem g75 (o : Int) : callG E2 20 75 [i64 o] [] K =
  if decide (o ≤ (15 : Int)) = true then
   some (Ans.c (CRes.ret (bo ((o != (3 : Int)))) []))
  else
   some (Ans.c (CRes.ret (bo false) [])) := by kernel_rfl

theorem g82 (o : Int) : callG E2 20 82 [i64 o] [] K =
  if (o == (1 : Int)) = true then
   some (Ans.c (CRes.ret (bo true) []))
  else
   if (o == (2 : Int)) = true then
    some (Ans.c (CRes.ret (bo true) []))
   else
    if (o == (4 : Int)) = true then
     some (Ans.c (CRes.ret (bo true) []))
    else
     if decide (o ≥ (5 : Int)) = true then
      if decide (o ≤ (13 : Int)) = true then
       some (Ans.c (CRes.ret (bo true) []))
      else
       if (o == (14 : Int)) = true then
        some (Ans.c (CRes.ret (bo true) []))
       else
        some (Ans.c (CRes.ret (bo ((o == (15 : Int)))) []))
     else
      if (o == (14 : Int)) = true then
       some (Ans.c (CRes.ret (bo true) []))
      else
       some (Ans.c (CRes.ret (bo ((o == (15 : Int)))) [])) := by kernel_rfl

theorem g77 (o : Int) : callG E2 20 77 [i64 o] [] K =
  if decide (o ≥ (1 : Int)) = true then
   if decide (o ≤ (2 : Int)) = true then
    some (Ans.c (CRes.ret (V.tup [V.agg [i64 0, i64 15, i64 1], bo true]) []))
   else
    if (o == (4 : Int)) = true then
     some (Ans.c (CRes.ret (V.tup [V.agg [i64 0, i64 15, i64 1], bo true]) []))
    else
     if (o == (3 : Int)) = true then
      some (Ans.c (CRes.ret (V.tup [V.agg [i64 1, i64 1, i64 (-1)], bo true]) []))
     else
      if (o == (21 : Int)) = true then
       some (Ans.c (CRes.ret (V.tup [V.agg [i64 1, i64 1, i64 (-1)], bo true]) []))
      else
       if (o == (22 : Int)) = true then
        some (Ans.c (CRes.ret (V.tup [V.agg [i64 1, i64 1, i64 (-1)], bo true]) []))
       else
        if (o == (20 : Int)) = true then
         some (Ans.c (CRes.ret (V.tup [V.agg [i64 1, i64 1, i64 (-1)], bo true]) []))
        else
         if (o == (9 : Int)) = true then
          some (Ans.c (CRes.ret (V.tup [V.agg [i64 1, i64 16, i64 0], bo true]) []))
         else
          if (o == (13 : Int)) = true then
           some (Ans.c (CRes.ret (V.tup [V.agg [i64 1, i64 16, i64 0], bo true]) []))
          else
           if decide (o ≥ (5 : Int)) = true then
            if decide (o ≤ (12 : Int)) = true then
             some (Ans.c (CRes.ret (V.tup [V.agg [i64 2, i64 16, i64 (-1)], bo true]) []))
            else
             if (o == (14 : Int)) = true then
              some (Ans.c (CRes.ret (V.tup [V.agg [i64 0, i64 16, i64 0], bo true]) []))
             else
              if (o == (15 : Int)) = true then
               some (Ans.c (CRes.ret (V.tup [V.agg [i64 1, i64 16, i64 (-1)], bo true]) []))
              else
               if decide (o ≥ (1 : Int)) = true then
                some (Ans.c (CRes.ret (V.tup [V.agg [i64 0, i64 0, i64 0], bo ((decide (o ≤ (28 : Int))))]) []))
               else
                some (Ans.c (CRes.ret (V.tup [V.agg [i64 0, i64 0, i64 0], bo false]) []))
           else
            if (o == (14 : Int)) = true then
             some (Ans.c (CRes.ret (V.tup [V.agg [i64 0, i64 16, i64 0], bo true]) []))
            else
             if (o == (15 : Int)) = true then
              some (Ans.c (CRes.ret (V.tup [V.agg [i64 1, i64 16, i64 (-1)], bo true]) []))
             else
              if decide (o ≥ (1 : Int)) = true then
               some (Ans.c (CRes.ret (V.tup [V.agg [i64 0, i64 0, i64 0], bo ((decide (o ≤ (28 : Int))))]) []))
              else
               some (Ans.c (CRes.ret (V.tup [V.agg [i64 0, i64 0, i64 0], bo false]) []))
  else
   if (o == (4 : Int)) = true then
    some (Ans.c (CRes.ret (V.tup [V.agg [i64 0, i64 15, i64 1], bo true]) []))
   else
    if (o == (3 : Int)) = true then
     some (Ans.c (CRes.ret (V.tup [V.agg [i64 1, i64 1, i64 (-1)], bo true]) []))
    else
     if (o == (21 : Int)) = true then
      some (Ans.c (CRes.ret (V.tup [V.agg [i64 1, i64 1, i64 (-1)], bo true]) []))
     else
      if (o == (22 : Int)) = true then
       some (Ans.c (CRes.ret (V.tup [V.agg [i64 1, i64 1, i64 (-1)], bo true]) []))
      else
       if (o == (20 : Int)) = true then
        some (Ans.c (CRes.ret (V.tup [V.agg [i64 1, i64 1, i64 (-1)], bo true]) []))
       else
        if (o == (9 : Int)) = true then
         some (Ans.c (CRes.ret (V.tup [V.agg [i64 1, i64 16, i64 0], bo true]) []))
        else
         if (o == (13 : Int)) = true then
          some (Ans.c (CRes.ret (V.tup [V.agg [i64 1, i64 16, i64 0], bo true]) []))
         else
          if decide (o ≥ (5 : Int)) = true then
           if decide (o ≤ (12 : Int)) = true then
            some (Ans.c (CRes.ret (V.tup [V.agg [i64 2, i64 16, i64 (-1)], bo true]) []))
           else
            if (o == (14 : Int)) = true then
             some (Ans.c (CRes.ret (V.tup [V.agg [i64 0, i64 16, i64 0], bo true]) []))
            else
             if (o == (15 : Int)) = true then
              some (Ans.c (CRes.ret (V.tup [V.agg [i64 1, i64 16, i64 (-1)], bo true]) []))
             else
              if decide (o ≥ (1 : Int)) = true then
               some (Ans.c (CRes.ret (V.tup [V.agg [i64 0, i64 0, i64 0], bo ((decide (o ≤ (28 : Int))))]) []))
              else
               some (Ans.c (CRes.ret (V.tup [V.agg [i64 0, i64 0, i64 0], bo false]) []))
          else
           if (o == (14 : Int)) = true then
            some (Ans.c (CRes.ret (V.tup [V.agg [i64 0, i64 16, i64 0], bo true]) []))
           else
            if (o == (15 : Int)) = true then
             some (Ans.c (CRes.ret (V.tup [V.agg [i64 1, i64 16, i64 (-1)], bo true]) []))
            else
             if decide (o ≥ (1 : Int)) = true then
              some (Ans.c (CRes.ret (V.tup [V.agg [i64 0, i64 0, i64 0], bo ((decide (o ≤ (28 : Int))))]) []))
             else
              some (Ans.c (CRes.ret (V.tup [V.agg [i64 0, i64 0, i64 0], bo false]) [])) := by kernel_rfl

theorem g83 (o d : Int) : callG E2 20 83 [i64 o, i64 d] [] K =
  if (o == (1 : Int)) = true then
   some (Ans.c (CRes.ret (V.tup [i64 (w (d + (1 : Int))), bo ((decide (d < (16 : Int))))]) []))
  else
   if (o == (2 : Int)) = true then
    some (Ans.c (CRes.ret (V.tup [i64 (w (d + (1 : Int))), bo ((decide (d < (16 : Int))))]) []))
   else
    if (o == (4 : Int)) = true then
     some (Ans.c (CRes.ret (V.tup [i64 (w (d + (1 : Int))), bo ((decide (d < (16 : Int))))]) []))
    else
     if (o == (5 : Int)) = true then
      some (Ans.c (CRes.ret (V.tup [i64 (w (d - (1 : Int))), bo ((decide (d ≥ (2 : Int))))]) []))
     else
      if (o == (6 : Int)) = true then
       some (Ans.c (CRes.ret (V.tup [i64 (w (d - (1 : Int))), bo ((decide (d ≥ (2 : Int))))]) []))
      else
       if (o == (7 : Int)) = true then
        some (Ans.c (CRes.ret (V.tup [i64 (w (d - (1 : Int))), bo ((decide (d ≥ (2 : Int))))]) []))
       else
        if (o == (8 : Int)) = true then
         some (Ans.c (CRes.ret (V.tup [i64 (w (d - (1 : Int))), bo ((decide (d ≥ (2 : Int))))]) []))
        else
         if (o == (10 : Int)) = true then
          some (Ans.c (CRes.ret (V.tup [i64 (w (d - (1 : Int))), bo ((decide (d ≥ (2 : Int))))]) []))
         else
          if (o == (11 : Int)) = true then
           some (Ans.c (CRes.ret (V.tup [i64 (w (d - (1 : Int))), bo ((decide (d ≥ (2 : Int))))]) []))
          else
           if (o == (12 : Int)) = true then
            some (Ans.c (CRes.ret (V.tup [i64 (w (d - (1 : Int))), bo ((decide (d ≥ (2 : Int))))]) []))
           else
            if (o == (9 : Int)) = true then
             some (Ans.c (CRes.ret (V.tup [i64 d, bo ((decide (d ≥ (1 : Int))))]) []))
            else
             if (o == (13 : Int)) = true then
              some (Ans.c (CRes.ret (V.tup [i64 d, bo ((decide (d ≥ (1 : Int))))]) []))
             else
              if (o == (14 : Int)) = true then
               some (Ans.c (CRes.ret (V.tup [i64 d, bo true]) []))
              else
               if (o == (15 : Int)) = true then
                some (Ans.c (CRes.ret (V.tup [i64 (w (d - (1 : Int))), bo ((decide (d ≥ (1 : Int))))]) []))
               else
                if (o == (3 : Int)) = true then
                 some (Ans.c (CRes.ret (V.tup [i64 0, bo ((d == (1 : Int)))]) []))
                else
                 if (o == (21 : Int)) = true then
                  some (Ans.c (CRes.ret (V.tup [i64 0, bo ((d == (1 : Int)))]) []))
                 else
                  if (o == (22 : Int)) = true then
                   some (Ans.c (CRes.ret (V.tup [i64 0, bo ((d == (1 : Int)))]) []))
                  else
                   if (o == (20 : Int)) = true then
                    some (Ans.c (CRes.ret (V.tup [i64 0, bo ((d == (1 : Int)))]) []))
                   else
                    some (Ans.c (CRes.ret (V.tup [i64 0, bo ((d == (0 : Int)))]) [])) := by kernel_rfl

theorem g78 (nm : ByteArray) (ps vs : Int) (n : Nat) (op arg : Nat → Int) (i : Nat) : callG E2 20 78 [codV nm ps vs n op arg, i64 i] [] K =
  if (0 : Int) ≤ (i : Int) ∧ (i : Int) < (n : Int) then
   if (0 : Int) ≤ (i : Int) ∧ (i : Int) < (n : Int) then
    if (op (Int.toNat (i : Int)) == (1 : Int)) = true then
     if decide (arg (Int.toNat (i : Int)) ≥ (-2147483647 : Int)) = true then
      some (Ans.c (CRes.ret (bo ((decide (arg (Int.toNat (i : Int)) ≤ (2147483647 : Int))))) []))
     else
      some (Ans.c (CRes.ret (bo false) []))
    else
     if (op (Int.toNat (i : Int)) == (2 : Int)) = true then
      if decide (arg (Int.toNat (i : Int)) ≥ (0 : Int)) = true then
       some (Ans.c (CRes.ret (bo ((decide (arg (Int.toNat (i : Int)) ≤ w (vs - (1 : Int)))))) []))
      else
       some (Ans.c (CRes.ret (bo false) []))
     else
      if (op (Int.toNat (i : Int)) == (3 : Int)) = true then
       if decide (arg (Int.toNat (i : Int)) ≥ (0 : Int)) = true then
        some (Ans.c (CRes.ret (bo ((decide (arg (Int.toNat (i : Int)) ≤ w (vs - (1 : Int)))))) []))
       else
        some (Ans.c (CRes.ret (bo false) []))
      else
       if (op (Int.toNat (i : Int)) == (4 : Int)) = true then
        if decide (arg (Int.toNat (i : Int)) ≥ (0 : Int)) = true then
         some (Ans.c (CRes.ret (bo ((decide (arg (Int.toNat (i : Int)) ≤ (5 : Int))))) []))
        else
         some (Ans.c (CRes.ret (bo false) []))
       else
        if (op (Int.toNat (i : Int)) == (5 : Int)) = true then
         some (Ans.c (CRes.ret (bo ((arg (Int.toNat (i : Int)) == (0 : Int)))) []))
        else
         if (op (Int.toNat (i : Int)) == (6 : Int)) = true then
          some (Ans.c (CRes.ret (bo ((arg (Int.toNat (i : Int)) == (0 : Int)))) []))
         else
          if (op (Int.toNat (i : Int)) == (7 : Int)) = true then
           some (Ans.c (CRes.ret (bo ((arg (Int.toNat (i : Int)) == (0 : Int)))) []))
          else
           if (op (Int.toNat (i : Int)) == (8 : Int)) = true then
            some (Ans.c (CRes.ret (bo ((arg (Int.toNat (i : Int)) == (0 : Int)))) []))
           else
            if (op (Int.toNat (i : Int)) == (9 : Int)) = true then
             some (Ans.c (CRes.ret (bo ((arg (Int.toNat (i : Int)) == (0 : Int)))) []))
            else
             if (op (Int.toNat (i : Int)) == (10 : Int)) = true then
              some (Ans.c (CRes.ret (bo ((arg (Int.toNat (i : Int)) == (0 : Int)))) []))
             else
              if (op (Int.toNat (i : Int)) == (11 : Int)) = true then
               some (Ans.c (CRes.ret (bo ((arg (Int.toNat (i : Int)) == (0 : Int)))) []))
              else
               if (op (Int.toNat (i : Int)) == (12 : Int)) = true then
                some (Ans.c (CRes.ret (bo ((arg (Int.toNat (i : Int)) == (0 : Int)))) []))
               else
                if (op (Int.toNat (i : Int)) == (13 : Int)) = true then
                 some (Ans.c (CRes.ret (bo ((arg (Int.toNat (i : Int)) == (0 : Int)))) []))
                else
                 if (op (Int.toNat (i : Int)) == (21 : Int)) = true then
                  some (Ans.c (CRes.ret (bo ((arg (Int.toNat (i : Int)) == (0 : Int)))) []))
                 else
                  if (op (Int.toNat (i : Int)) == (22 : Int)) = true then
                   some (Ans.c (CRes.ret (bo ((arg (Int.toNat (i : Int)) == (0 : Int)))) []))
                  else
                   if (op (Int.toNat (i : Int)) == (28 : Int)) = true then
                    some (Ans.c (CRes.ret (bo ((arg (Int.toNat (i : Int)) == (0 : Int)))) []))
                   else
                    if (op (Int.toNat (i : Int)) == (14 : Int)) = true then
                     if decide (arg (Int.toNat (i : Int)) ≥ w ((i : Int) + (1 : Int))) = true then
                      some (Ans.c (CRes.ret (bo ((decide (arg (Int.toNat (i : Int)) ≤ w ((n : Int) - (1 : Int)))))) []))
                     else
                      some (Ans.c (CRes.ret (bo false) []))
                    else
                     if (op (Int.toNat (i : Int)) == (15 : Int)) = true then
                      if decide (arg (Int.toNat (i : Int)) ≥ w ((i : Int) + (1 : Int))) = true then
                       some (Ans.c (CRes.ret (bo ((decide (arg (Int.toNat (i : Int)) ≤ w ((n : Int) - (1 : Int)))))) []))
                      else
                       some (Ans.c (CRes.ret (bo false) []))
                     else
                      if (op (Int.toNat (i : Int)) == (16 : Int)) = true then
                       if decide (arg (Int.toNat (i : Int)) ≥ (1 : Int)) = true then
                        some (Ans.c (CRes.ret (bo ((decide (arg (Int.toNat (i : Int)) ≤ (100 : Int))))) []))
                       else
                        some (Ans.c (CRes.ret (bo false) []))
                      else
                       if (op (Int.toNat (i : Int)) == (18 : Int)) = true then
                        if decide (arg (Int.toNat (i : Int)) ≥ (0 : Int)) = true then
                         some (Ans.c (CRes.ret (bo ((decide (arg (Int.toNat (i : Int)) ≤ (1000000 : Int))))) []))
                        else
                         some (Ans.c (CRes.ret (bo false) []))
                       else
                        if (op (Int.toNat (i : Int)) == (19 : Int)) = true then
                         if decide (arg (Int.toNat (i : Int)) ≥ (0 : Int)) = true then
                          some (Ans.c (CRes.ret (bo ((decide (arg (Int.toNat (i : Int)) ≤ (1000000 : Int))))) []))
                         else
                          some (Ans.c (CRes.ret (bo false) []))
                        else
                         if (op (Int.toNat (i : Int)) == (23 : Int)) = true then
                          if decide (arg (Int.toNat (i : Int)) ≥ (0 : Int)) = true then
                           some (Ans.c (CRes.ret (bo ((decide (arg (Int.toNat (i : Int)) ≤ (7999999 : Int))))) []))
                          else
                           some (Ans.c (CRes.ret (bo false) []))
                         else
                          if (op (Int.toNat (i : Int)) == (24 : Int)) = true then
                           if decide (arg (Int.toNat (i : Int)) ≥ (0 : Int)) = true then
                            some (Ans.c (CRes.ret (bo ((decide (arg (Int.toNat (i : Int)) ≤ (2147483647 : Int))))) []))
                           else
                            some (Ans.c (CRes.ret (bo false) []))
                          else
                           if (op (Int.toNat (i : Int)) == (25 : Int)) = true then
                            if decide (arg (Int.toNat (i : Int)) ≥ (0 : Int)) = true then
                             some (Ans.c (CRes.ret (bo ((decide (arg (Int.toNat (i : Int)) ≤ (2147483647 : Int))))) []))
                            else
                             some (Ans.c (CRes.ret (bo false) []))
                           else
                            if (op (Int.toNat (i : Int)) == (26 : Int)) = true then
                             if decide (arg (Int.toNat (i : Int)) ≥ (0 : Int)) = true then
                              some (Ans.c (CRes.ret (bo ((decide (arg (Int.toNat (i : Int)) ≤ (99 : Int))))) []))
                             else
                              some (Ans.c (CRes.ret (bo false) []))
                            else
                             if (op (Int.toNat (i : Int)) == (27 : Int)) = true then
                              if decide (arg (Int.toNat (i : Int)) ≥ (0 : Int)) = true then
                               some (Ans.c (CRes.ret (bo ((decide (arg (Int.toNat (i : Int)) ≤ (999 : Int))))) []))
                              else
                               some (Ans.c (CRes.ret (bo false) []))
                             else
                              if (0 : Int) ≤ (i : Int) ∧ (i : Int) < (n : Int) then
                               if (op (Int.toNat (i : Int)) == (17 : Int)) = true then
                                some (Ans.c (CRes.ret (bo true) []))
                               else
                                if (0 : Int) ≤ (i : Int) ∧ (i : Int) < (n : Int) then
                                 some (Ans.c (CRes.ret (bo ((op (Int.toNat (i : Int)) == (20 : Int)))) []))
                                else
                                 none
                              else
                               none
   else
    none
  else
   none := by kernel_rfl

theorem rng_sc {nm : ByteArray} {ps vs : Int} {n i : Nat} {op arg : Nat → Int} (hi : i < n) (hn : n ≤ 300) (h0 : 0 ≤ vs) (hv : vs ≤ 12) : SC E2 69 [codV nm ps vs n op arg, i64 i] [] (.ret (.tup [i64 (Cv.rngL (op i) i), i64 (Cv.rngH (op i) i n vs)]) []) := by
  refine SC.g2 (n := 20) ((g69 nm ps vs n op arg i).trans ?_)
  have e1 : w (vs - 1) = vs - 1 := w_in (by unfold inR; omega)
  have e2 : w ((i : Int) + 1) = (i : Int) + 1 := w_in (by unfold inR; omega)
  have e3 : w ((n : Int) - 1) = (n : Int) - 1 := w_in (by unfold inR; omega)
  rw [if_pos (by omega)]
  simp only [Int.toNat_natCast, e1, e2, e3]
  by_cases h1 : op i = 1
  · rw [if_pos (show (op i == (1 : Int)) = true by simpa using h1)]; simp [Cv.rngL, Cv.rngH, h1]
  rw [if_neg (show ¬ (op i == (1 : Int)) = true by simpa using h1)]
  by_cases h2 : op i = 2
  · rw [if_pos (show (op i == (2 : Int)) = true by simpa using h2)]; simp [Cv.rngL, Cv.rngH, h2]
  rw [if_neg (show ¬ (op i == (2 : Int)) = true by simpa using h2)]
  by_cases h3 : op i = 3
  · rw [if_pos (show (op i == (3 : Int)) = true by simpa using h3)]; simp [Cv.rngL, Cv.rngH, h3]
  rw [if_neg (show ¬ (op i == (3 : Int)) = true by simpa using h3)]
  by_cases h4 : op i = 4
  · rw [if_pos (show (op i == (4 : Int)) = true by simpa using h4)]; simp [Cv.rngL, Cv.rngH, h4]
  rw [if_neg (show ¬ (op i == (4 : Int)) = true by simpa using h4)]
  by_cases h14 : op i = 14
  · rw [if_pos (show (op i == (14 : Int)) = true by simpa using h14)]; simp [Cv.rngL, Cv.rngH, h14]
  rw [if_neg (show ¬ (op i == (14 : Int)) = true by simpa using h14)]
  by_cases h15 : op i = 15
  · rw [if_pos (show (op i == (15 : Int)) = true by simpa using h15)]; simp [Cv.rngL, Cv.rngH, h15]
  rw [if_neg (show ¬ (op i == (15 : Int)) = true by simpa using h15)]
  by_cases h16 : op i = 16
  · rw [if_pos (show (op i == (16 : Int)) = true by simpa using h16)]; simp [Cv.rngL, Cv.rngH, h16]
  rw [if_neg (show ¬ (op i == (16 : Int)) = true by simpa using h16)]
  by_cases h17 : op i = 17
  · rw [if_pos (show (op i == (17 : Int)) = true by simpa using h17)]; simp [Cv.rngL, Cv.rngH, h17]
  rw [if_neg (show ¬ (op i == (17 : Int)) = true by simpa using h17)]
  by_cases h20 : op i = 20
  · rw [if_pos (show (op i == (20 : Int)) = true by simpa using h20)]; simp [Cv.rngL, Cv.rngH, h20]
  rw [if_neg (show ¬ (op i == (20 : Int)) = true by simpa using h20)]
  by_cases h18 : op i = 18
  · rw [if_pos (show (op i == (18 : Int)) = true by simpa using h18)]; simp [Cv.rngL, Cv.rngH, h18]
  rw [if_neg (show ¬ (op i == (18 : Int)) = true by simpa using h18)]
  by_cases h19 : op i = 19
  · rw [if_pos (show (op i == (19 : Int)) = true by simpa using h19)]; simp [Cv.rngL, Cv.rngH, h19]
  rw [if_neg (show ¬ (op i == (19 : Int)) = true by simpa using h19)]
  by_cases h23 : op i = 23
  · rw [if_pos (show (op i == (23 : Int)) = true by simpa using h23)]; simp [Cv.rngL, Cv.rngH, h23]
  rw [if_neg (show ¬ (op i == (23 : Int)) = true by simpa using h23)]
  by_cases h24 : op i = 24
  · rw [if_pos (show (op i == (24 : Int)) = true by simpa using h24)]; simp [Cv.rngL, Cv.rngH, h24]
  rw [if_neg (show ¬ (op i == (24 : Int)) = true by simpa using h24)]
  by_cases h25 : op i = 25
  · rw [if_pos (show (op i == (25 : Int)) = true by simpa using h25)]; simp [Cv.rngL, Cv.rngH, h25]
  rw [if_neg (show ¬ (op i == (25 : Int)) = true by simpa using h25)]
  by_cases h26 : op i = 26
  · rw [if_pos (show (op i == (26 : Int)) = true by simpa using h26)]; simp [Cv.rngL, Cv.rngH, h26]
  rw [if_neg (show ¬ (op i == (26 : Int)) = true by simpa using h26)]
  by_cases h27 : op i = 27
  · rw [if_pos (show (op i == (27 : Int)) = true by simpa using h27)]; simp [Cv.rngL, Cv.rngH, h27]
  rw [if_neg (show ¬ (op i == (27 : Int)) = true by simpa using h27)]
  simp [Cv.rngL, Cv.rngH, h1, h2, h3, h4, h14, h15, h16, h17, h20, h18, h19, h23, h24, h25, h26, h27]
theorem pureP_sc (o : Int) : SC E2 75 [i64 o] [] (.ret (bo (Cv.pureP o)) []) := by
  refine SC.g2 (n := 20) ((g75 o).trans ?_)
  unfold Cv.pureP
  by_cases h : o ≤ 15
  · rw [if_pos (by simpa using h)]; simp [h]; rfl
  · rw [if_neg (by simpa using h)]; simp [h]
theorem pureR_sc (o : Int) : SC E2 82 [i64 o] [] (.ret (bo (Cv.pureR o)) []) := by
  refine SC.g2 (n := 20) ((g82 o).trans ?_)
  unfold Cv.pureR
  by_cases h1 : o = 1
  · subst h1; rfl
  rw [if_neg (by simpa using h1)]
  by_cases h2 : o = 2
  · subst h2; rfl
  rw [if_neg (by simpa using h2)]
  by_cases h4 : o = 4
  · subst h4; rfl
  rw [if_neg (by simpa using h4)]
  by_cases h14 : o = 14
  · subst h14; rfl
  by_cases h15 : o = 15
  · subst h15; rfl
  by_cases h5 : 5 ≤ o
  · rw [if_pos (by simpa using h5)]
    by_cases h13 : o ≤ 13
    · rw [if_pos (by simpa using h13)]; simp [h5, h13]
    · rw [if_neg (by simpa using h13), if_neg (by simpa using h14)]; simp [h1, h2, h4, h13, h14, h15]
  · rw [if_neg (by simpa using h5), if_neg (by simpa using h14)]; simp [h1, h2, h4, h5, h14, h15]
def okB (o : Int) : Bool := decide (1 ≤ o) && decide (o ≤ 28)
theorem eff_sc (o : Int) : SC E2 77 [i64 o] [] (.ret (.tup [.agg [i64 (Cv.effLo o), i64 (Cv.effHi o), i64 (Cv.effBy o)], bo (okB o)]) []) := by
  refine SC.g2 (n := 20) ((g77 o).trans ?_)
  by_cases h1 : o = 1
  · subst h1; rfl
  by_cases h2 : o = 2
  · subst h2; rfl
  by_cases h4 : o = 4
  · subst h4; rfl
  by_cases h3 : o = 3
  · subst h3; rfl
  by_cases h21 : o = 21
  · subst h21; rfl
  by_cases h22 : o = 22
  · subst h22; rfl
  by_cases h20 : o = 20
  · subst h20; rfl
  by_cases h9 : o = 9
  · subst h9; rfl
  by_cases h13 : o = 13
  · subst h13; rfl
  by_cases h14 : o = 14
  · subst h14; rfl
  by_cases h15 : o = 15
  · subst h15; rfl
  by_cases h5 : o = 5
  · subst h5; rfl
  by_cases h6 : o = 6
  · subst h6; rfl
  by_cases h7 : o = 7
  · subst h7; rfl
  by_cases h8 : o = 8
  · subst h8; rfl
  by_cases h10 : o = 10
  · subst h10; rfl
  by_cases h11 : o = 11
  · subst h11; rfl
  by_cases h12 : o = 12
  · subst h12; rfl
  have h512 : ¬ (5 ≤ o ∧ o ≤ 12) := by omega
  have e : Cv.effLo o = 0 ∧ Cv.effHi o = 0 ∧ Cv.effBy o = 0 := by simp [Cv.effLo, Cv.effHi, Cv.effBy, h1, h2, h4, h3, h21, h22, h20, h9, h13, h14, h15, h5, h6, h7, h8, h10, h11, h12, h512]
  rw [e.1, e.2.1, e.2.2]
  unfold okB
  by_cases a1 : 1 ≤ o
  · have a2 : ¬ o ≤ 2 := by omega
    by_cases a5 : 5 ≤ o
    · have a12 : ¬ o ≤ 12 := by omega
      simp [a1, a2, a5, a12, h1, h2, h4, h3, h21, h22, h20, h9, h13, h14, h15, h5, h6, h7, h8, h10, h11, h12]
    · simp [a1, a2, a5, h1, h2, h4, h3, h21, h22, h20, h9, h13, h14, h15, h5, h6, h7, h8, h10, h11, h12]
  · have a5 : ¬ 5 ≤ o := by omega
    simp [a1, a5, h1, h2, h4, h3, h21, h22, h20, h9, h13, h14, h15, h5, h6, h7, h8, h10, h11, h12]
open Classical in
noncomputable def leftD (o d : Int) : Bool := decide (Cv.leftB o d)
open Classical in
theorem leftD_iff (o d : Int) (b : Bool) (h : b = true ↔ Cv.leftB o d) : b = leftD o d := by
  unfold leftD
  rw [Bool.eq_iff_iff, h, decide_eq_true_eq]
theorem left_sc {o d : Int} (h0 : -1 ≤ d) (hd : d ≤ 16) : SC E2 83 [i64 o, i64 d] [] (.ret (.tup [i64 (Cv.leftV o d), bo (leftD o d)]) []) := by
  refine SC.g2 (n := 20) ((g83 o d).trans ?_)
  have e1 : w (d + 1) = d + 1 := w_in (by unfold inR; omega)
  have e2 : w (d - 1) = d - 1 := w_in (by unfold inR; omega)
  simp only [e1, e2]
  have fin : ∀ v (b : Bool), v = Cv.leftV o d → (b = true ↔ Cv.leftB o d) → some (Ans.c (CRes.ret (V.tup [i64 v, bo b]) [])) = some (Ans.c (CRes.ret (V.tup [i64 (Cv.leftV o d), bo (leftD o d)]) [])) := by
    intro v b h1 h2
    rw [h1, leftD_iff o d b h2]
  by_cases h1 : o = 1
  · subst h1; exact fin _ _ (by simp [Cv.leftV]) (by simp [Cv.leftB])
  rw [if_neg (show ¬ (o == (1 : Int)) = true by simpa using h1)]
  by_cases h2 : o = 2
  · subst h2; exact fin _ _ (by simp [Cv.leftV]) (by simp [Cv.leftB])
  rw [if_neg (show ¬ (o == (2 : Int)) = true by simpa using h2)]
  by_cases h4 : o = 4
  · subst h4; exact fin _ _ (by simp [Cv.leftV]) (by simp [Cv.leftB])
  rw [if_neg (show ¬ (o == (4 : Int)) = true by simpa using h4)]
  by_cases h5 : o = 5
  · subst h5; exact fin _ _ (by simp [Cv.leftV]) (by simp [Cv.leftB])
  rw [if_neg (show ¬ (o == (5 : Int)) = true by simpa using h5)]
  by_cases h6 : o = 6
  · subst h6; exact fin _ _ (by simp [Cv.leftV]) (by simp [Cv.leftB])
  rw [if_neg (show ¬ (o == (6 : Int)) = true by simpa using h6)]
  by_cases h7 : o = 7
  · subst h7; exact fin _ _ (by simp [Cv.leftV]) (by simp [Cv.leftB])
  rw [if_neg (show ¬ (o == (7 : Int)) = true by simpa using h7)]
  by_cases h8 : o = 8
  · subst h8; exact fin _ _ (by simp [Cv.leftV]) (by simp [Cv.leftB])
  rw [if_neg (show ¬ (o == (8 : Int)) = true by simpa using h8)]
  by_cases h10 : o = 10
  · subst h10; exact fin _ _ (by simp [Cv.leftV]) (by simp [Cv.leftB])
  rw [if_neg (show ¬ (o == (10 : Int)) = true by simpa using h10)]
  by_cases h11 : o = 11
  · subst h11; exact fin _ _ (by simp [Cv.leftV]) (by simp [Cv.leftB])
  rw [if_neg (show ¬ (o == (11 : Int)) = true by simpa using h11)]
  by_cases h12 : o = 12
  · subst h12; exact fin _ _ (by simp [Cv.leftV]) (by simp [Cv.leftB])
  rw [if_neg (show ¬ (o == (12 : Int)) = true by simpa using h12)]
  by_cases h9 : o = 9
  · subst h9; exact fin _ _ (by simp [Cv.leftV]) (by simp [Cv.leftB])
  rw [if_neg (show ¬ (o == (9 : Int)) = true by simpa using h9)]
  by_cases h13 : o = 13
  · subst h13; exact fin _ _ (by simp [Cv.leftV]) (by simp [Cv.leftB])
  rw [if_neg (show ¬ (o == (13 : Int)) = true by simpa using h13)]
  by_cases h14 : o = 14
  · subst h14; exact fin _ _ (by simp [Cv.leftV]) (by simp [Cv.leftB])
  rw [if_neg (show ¬ (o == (14 : Int)) = true by simpa using h14)]
  by_cases h15 : o = 15
  · subst h15; exact fin _ _ (by simp [Cv.leftV]) (by simp [Cv.leftB])
  rw [if_neg (show ¬ (o == (15 : Int)) = true by simpa using h15)]
  by_cases h3 : o = 3
  · subst h3; exact fin _ _ (by simp [Cv.leftV]) (by simp [Cv.leftB])
  rw [if_neg (show ¬ (o == (3 : Int)) = true by simpa using h3)]
  by_cases h21 : o = 21
  · subst h21; exact fin _ _ (by simp [Cv.leftV]) (by simp [Cv.leftB])
  rw [if_neg (show ¬ (o == (21 : Int)) = true by simpa using h21)]
  by_cases h22 : o = 22
  · subst h22; exact fin _ _ (by simp [Cv.leftV]) (by simp [Cv.leftB])
  rw [if_neg (show ¬ (o == (22 : Int)) = true by simpa using h22)]
  by_cases h20 : o = 20
  · subst h20; exact fin _ _ (by simp [Cv.leftV]) (by simp [Cv.leftB])
  rw [if_neg (show ¬ (o == (20 : Int)) = true by simpa using h20)]
  have a1 : ¬ ((5 ≤ o ∧ o ≤ 8) ∨ (10 ≤ o ∧ o ≤ 12)) := by omega
  exact fin _ _ (by simp [Cv.leftV, h1, h2, h4, h5, h6, h7, h8, h10, h11, h12, h9, h13, h14, h15, h3, h21, h22, h20, a1]) (by simp [Cv.leftB, h1, h2, h4, h5, h6, h7, h8, h10, h11, h12, h9, h13, h14, h15, h3, h21, h22, h20, a1])
def mkC (vs : Int) (n : Nat) (op arg : Nat → Int) : Cv.Cd := ⟨op, arg, n, vs⟩
open Classical in
noncomputable def opndD (c : Cv.Cd) (i : Nat) : Bool := decide (Cv.opnd c i)
open Classical in
theorem opndD_iff (c : Cv.Cd) (i : Nat) (b : Bool) (h : b = true ↔ Cv.opnd c i) : b = opndD c i := by
  unfold opndD
  rw [Bool.eq_iff_iff, h, decide_eq_true_eq]
theorem opnd_sc {nm : ByteArray} {ps vs : Int} {n i : Nat} {op arg : Nat → Int} (hi : i < n) (hn : n ≤ 300) (h0 : 0 ≤ vs) (hv : vs ≤ 12) : SC E2 78 [codV nm ps vs n op arg, i64 i] [] (.ret (bo (opndD (mkC vs n op arg) i)) []) := by
  refine SC.g2 (n := 20) ((g78 nm ps vs n op arg i).trans ?_)
  have e1 : w (vs - 1) = vs - 1 := w_in (by unfold inR; omega)
  have e2 : w ((i : Int) + 1) = (i : Int) + 1 := w_in (by unfold inR; omega)
  have e3 : w ((n : Int) - 1) = (n : Int) - 1 := w_in (by unfold inR; omega)
  rw [if_pos (by omega), if_pos (by omega)]
  simp only [Int.toNat_natCast, e1, e2, e3]
  have fin : ∀ b : Bool, (b = true ↔ Cv.opnd (mkC vs n op arg) i) → some (Ans.c (CRes.ret (bo b) [])) = some (Ans.c (CRes.ret (bo (opndD (mkC vs n op arg) i)) [])) := by
    intro b h
    have := opndD_iff (mkC vs n op arg) i b h
    rw [this]
  have two : ∀ lo hi : Int, ((lo ≤ arg i ∧ arg i ≤ hi) ↔ Cv.opnd (mkC vs n op arg) i) → (if decide (arg i ≥ lo) = true then some (Ans.c (CRes.ret (bo (decide (arg i ≤ hi))) [])) else some (Ans.c (CRes.ret (bo false) []))) = some (Ans.c (CRes.ret (bo (opndD (mkC vs n op arg) i)) [])) := by
    intro lo hi h
    by_cases h1 : lo ≤ arg i
    · rw [if_pos (by simpa using h1)]; exact fin _ (by rw [← h]; simp [h1])
    · rw [if_neg (by simpa using h1)]; exact fin _ (by rw [← h]; simp [h1])
  have hop : Cv.Cd.op (mkC vs n op arg) i = op i := rfl
  have harg : Cv.Cd.arg (mkC vs n op arg) i = arg i := rfl
  have hnn : Cv.Cd.n (mkC vs n op arg) = n := rfl
  have hvv : Cv.Cd.vars (mkC vs n op arg) = vs := rfl
  unfold Cv.opnd at fin two
  rw [hop, harg, hnn, hvv] at fin two
  clear hop harg hnn hvv
  by_cases h1 : op i = 1
  · rw [if_pos (show (op i == (1 : Int)) = true by simpa using h1)]; exact two _ _ (by simp [h1])
  rw [if_neg (show ¬ (op i == (1 : Int)) = true by simpa using h1)]
  by_cases h2 : op i = 2
  · rw [if_pos (show (op i == (2 : Int)) = true by simpa using h2)]; exact two _ _ (by simp [h2])
  rw [if_neg (show ¬ (op i == (2 : Int)) = true by simpa using h2)]
  by_cases h3 : op i = 3
  · rw [if_pos (show (op i == (3 : Int)) = true by simpa using h3)]; exact two _ _ (by simp [h3])
  rw [if_neg (show ¬ (op i == (3 : Int)) = true by simpa using h3)]
  by_cases h4 : op i = 4
  · rw [if_pos (show (op i == (4 : Int)) = true by simpa using h4)]; exact two _ _ (by simp [h4])
  rw [if_neg (show ¬ (op i == (4 : Int)) = true by simpa using h4)]
  by_cases h5 : op i = 5
  · rw [if_pos (show (op i == (5 : Int)) = true by simpa using h5)]; exact fin _ (by simp [h5])
  rw [if_neg (show ¬ (op i == (5 : Int)) = true by simpa using h5)]
  by_cases h6 : op i = 6
  · rw [if_pos (show (op i == (6 : Int)) = true by simpa using h6)]; exact fin _ (by simp [h6])
  rw [if_neg (show ¬ (op i == (6 : Int)) = true by simpa using h6)]
  by_cases h7 : op i = 7
  · rw [if_pos (show (op i == (7 : Int)) = true by simpa using h7)]; exact fin _ (by simp [h7])
  rw [if_neg (show ¬ (op i == (7 : Int)) = true by simpa using h7)]
  by_cases h8 : op i = 8
  · rw [if_pos (show (op i == (8 : Int)) = true by simpa using h8)]; exact fin _ (by simp [h8])
  rw [if_neg (show ¬ (op i == (8 : Int)) = true by simpa using h8)]
  by_cases h9 : op i = 9
  · rw [if_pos (show (op i == (9 : Int)) = true by simpa using h9)]; exact fin _ (by simp [h9])
  rw [if_neg (show ¬ (op i == (9 : Int)) = true by simpa using h9)]
  by_cases h10 : op i = 10
  · rw [if_pos (show (op i == (10 : Int)) = true by simpa using h10)]; exact fin _ (by simp [h10])
  rw [if_neg (show ¬ (op i == (10 : Int)) = true by simpa using h10)]
  by_cases h11 : op i = 11
  · rw [if_pos (show (op i == (11 : Int)) = true by simpa using h11)]; exact fin _ (by simp [h11])
  rw [if_neg (show ¬ (op i == (11 : Int)) = true by simpa using h11)]
  by_cases h12 : op i = 12
  · rw [if_pos (show (op i == (12 : Int)) = true by simpa using h12)]; exact fin _ (by simp [h12])
  rw [if_neg (show ¬ (op i == (12 : Int)) = true by simpa using h12)]
  by_cases h13 : op i = 13
  · rw [if_pos (show (op i == (13 : Int)) = true by simpa using h13)]; exact fin _ (by simp [h13])
  rw [if_neg (show ¬ (op i == (13 : Int)) = true by simpa using h13)]
  by_cases h21 : op i = 21
  · rw [if_pos (show (op i == (21 : Int)) = true by simpa using h21)]; exact fin _ (by simp [h21])
  rw [if_neg (show ¬ (op i == (21 : Int)) = true by simpa using h21)]
  by_cases h22 : op i = 22
  · rw [if_pos (show (op i == (22 : Int)) = true by simpa using h22)]; exact fin _ (by simp [h22])
  rw [if_neg (show ¬ (op i == (22 : Int)) = true by simpa using h22)]
  by_cases h28 : op i = 28
  · rw [if_pos (show (op i == (28 : Int)) = true by simpa using h28)]; exact fin _ (by simp [h28])
  rw [if_neg (show ¬ (op i == (28 : Int)) = true by simpa using h28)]
  by_cases h14 : op i = 14
  · rw [if_pos (show (op i == (14 : Int)) = true by simpa using h14)]; exact two _ _ (by simp [h14])
  rw [if_neg (show ¬ (op i == (14 : Int)) = true by simpa using h14)]
  by_cases h15 : op i = 15
  · rw [if_pos (show (op i == (15 : Int)) = true by simpa using h15)]; exact two _ _ (by simp [h15])
  rw [if_neg (show ¬ (op i == (15 : Int)) = true by simpa using h15)]
  by_cases h16 : op i = 16
  · rw [if_pos (show (op i == (16 : Int)) = true by simpa using h16)]; exact two _ _ (by simp [h16])
  rw [if_neg (show ¬ (op i == (16 : Int)) = true by simpa using h16)]
  by_cases h18 : op i = 18
  · rw [if_pos (show (op i == (18 : Int)) = true by simpa using h18)]; exact two _ _ (by simp [h18])
  rw [if_neg (show ¬ (op i == (18 : Int)) = true by simpa using h18)]
  by_cases h19 : op i = 19
  · rw [if_pos (show (op i == (19 : Int)) = true by simpa using h19)]; exact two _ _ (by simp [h19])
  rw [if_neg (show ¬ (op i == (19 : Int)) = true by simpa using h19)]
  by_cases h23 : op i = 23
  · rw [if_pos (show (op i == (23 : Int)) = true by simpa using h23)]; exact two _ _ (by simp [h23])
  rw [if_neg (show ¬ (op i == (23 : Int)) = true by simpa using h23)]
  by_cases h24 : op i = 24
  · rw [if_pos (show (op i == (24 : Int)) = true by simpa using h24)]; exact two _ _ (by simp [h24])
  rw [if_neg (show ¬ (op i == (24 : Int)) = true by simpa using h24)]
  by_cases h25 : op i = 25
  · rw [if_pos (show (op i == (25 : Int)) = true by simpa using h25)]; exact two _ _ (by simp [h25])
  rw [if_neg (show ¬ (op i == (25 : Int)) = true by simpa using h25)]
  by_cases h26 : op i = 26
  · rw [if_pos (show (op i == (26 : Int)) = true by simpa using h26)]; exact two _ _ (by simp [h26])
  rw [if_neg (show ¬ (op i == (26 : Int)) = true by simpa using h26)]
  by_cases h27 : op i = 27
  · rw [if_pos (show (op i == (27 : Int)) = true by simpa using h27)]; exact two _ _ (by simp [h27])
  rw [if_neg (show ¬ (op i == (27 : Int)) = true by simpa using h27)]
  rw [if_pos (by omega)]
  by_cases h17 : op i = 17
  · rw [if_pos (show (op i == (17 : Int)) = true by simpa using h17)]; exact fin _ (by simp [h17])
  rw [if_neg (show ¬ (op i == (17 : Int)) = true by simpa using h17)]
  rw [if_pos (by omega)]
  have a1 : ¬ ((5 ≤ op i ∧ op i ≤ 13) ∨ op i = 21 ∨ op i = 22 ∨ op i = 28) := by omega
  have a2 : ¬ (5 ≤ op i ∧ op i ≤ 13) := by omega
  exact fin _ (by simp [h1, h2, h3, h4, h5, h6, h7, h8, h9, h10, h11, h12, h13, h21, h22, h28, h14, h15, h16, h18, h19, h23, h24, h25, h26, h27, h17, a1, a2])
end Go.Proofs.Ythegipdgillngaa
