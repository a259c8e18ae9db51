/- Valid (73) and the reference's Verify (60), walked. -/
import Derived.Test.YthegipdgillngaaV6
namespace Go.Proofs.Ythegipdgillngaa
open Go Go.Am Go.Proofs
set_option linter.unusedSimpArgs false
set_option linter.unusedVariables false
def opOf (g : Nat → List V) : Nat → Int := fun j => match g j with | [.sc (.int _ o), .sc (.int _ a)] => o | _ => 0
def argOf (g : Nat → List V) : Nat → Int := fun j => match g j with | [.sc (.int _ o), .sc (.int _ a)] => a | _ => 0
def QOpnd (args : List V) : Prop := ∃ (nm : ByteArray) (ps vs : Int) (n : Nat) (op arg : Nat → Int) (i : Nat), args = [codV nm ps vs n op arg, i64 i] ∧ i < n ∧ n ≤ 300 ∧ 0 ≤ vs ∧ vs ≤ 12
noncomputable def vOpnd : List V → V
  | [.agg [.sc (.string _), .sc (.int .i64 ps), .sc (.int .i64 vs), .ro 2 n g], .sc (.int .i64 i)] => bo (opndD (mkC vs n (opOf g) (argOf g)) i.toNat)
  | _ => .junk
def QReg (n : Nat) (op arg : Nat → Int) (args : List V) : Prop := args = [cd n op arg]
def QDep (n : Nat) (op arg : Nat → Int) (args : List V) : Prop := args = [cd n op arg] ∧ (∀ i, i < n → Cv.okOp (op i)) ∧ ∀ i, i < n → Cv.jmp (op i) → 0 ≤ arg i ∧ arg i < n
noncomputable def C73 (n : Nat) (op arg : Nat → Int) (F : V) (B : Bool) : CallT := ptab 78 QOpnd vOpnd (ptab 79 (QReg n op arg) (fun _ => F) (ptab 80 (QDep n op arg) (fun _ => bo B) (tab [])))
theorem sC73 {n : Nat} {op arg : Nat → Int} (vs : Int) (hn : n ≤ 300) (h1 : 1 ≤ n) {F : V} (hF : F = rgV n (Cv.regR (mkC vs n op arg) n 0 rg0)) : SoundC E2 (C73 n op arg F (depD (mkC vs n op arg))) := by
  subst hF
  refine ptab_cons (fun args h => ?_) (ptab_cons (fun args h => ?_) (ptab_cons (fun args h => ?_) tab_nil))
  · obtain ⟨nm, ps, vs, n, op, arg, i, rfl, g1, g2, g3, g4⟩ := h
    exact opnd_sc g1 g2 g3 g4
  · cases h
    exact regions_sc vs hn h1
  · obtain ⟨rfl, g1, g2⟩ := h
    exact dep_sc vs hn h1 g1 g2
def S73a (nm : ByteArray) (ps vs : Int) (n : Nat) (op arg : Nat → Int) (i : Nat) : St := { fr := [.junk, .ptr 0 0, .junk, i64 i] ++ jk 115, H := hp [some (.blk [st nm, i64 ps, i64 vs, cd n op arg])], nx := 1, rt := 0, me := 73 }
def T73a (nm : ByteArray) (ps vs : Int) (n : Nat) (op arg : Nat → Int) : St := { fr := [.junk, .ptr 0 0] ++ jk 117, H := hp [some (.blk [st nm, i64 ps, i64 vs, cd n op arg])], nx := 1, rt := 0, me := 73 }
def T73r : St := { fr := [.junk, .junk, bo false] ++ jk 116, H := hp [], nx := 0, rt := 0, me := 73 }
def S73b (nm : ByteArray) (ps vs : Int) (n : Nat) (op arg : Nat → Int) (L W : Nat → Int) (i : Nat) : St := { fr := [.junk, .ptr 0 0, .junk, .junk, .ro 1 n (r1 L), .ro 1 n (r1 W), .junk, i64 i] ++ jk 111, H := hp [some (.blk [st nm, i64 ps, i64 vs, cd n op arg])], nx := 1, rt := 0, me := 73 }
theorem r73a (nm : ByteArray) (B : Bool) (ps vs : Int) (n : Nat) (op arg : Nat → Int) (i : Nat) (F : V) (lo : LoopT) : loopK E2 (C73 n op arg F B) lo 0 10 (bodyOf E2 73 0) (S73a nm ps vs n op arg i) (KC2 2 4) =
  if decide ((i : Int) < (n : Int)) = true then
   if (0 : Int) ≤ (i : Int) ∧ (i : Int) < (n : Int) then
    if (!(op (Int.toNat (i : Int)) == (28 : Int)) == ((i : Int) == w ((n : Int) - (1 : Int)))) = true then
     some (Ans.l Ex.ret { fr := [V.junk, V.junk, bo false] ++ jk 116, H := hp [], nx := 0, rt := 0, me := 73 })
    else
     cl (QOpnd ([V.agg [V.sc (Value.string nm), i64 ps, i64 vs, V.ro 2 n (ins op arg)], i64 (i : Int)]) ∧ ([] : List (Option Chunk)) = []) (
      if (!opndD (mkC vs n op arg) (Int.toNat (i : Int))) = true then
       some (Ans.l Ex.ret { fr := [V.junk, V.junk, bo false] ++ jk 116, H := hp [], nx := 0, rt := 0, me := 73 })
      else
       lo 0 10 (bodyOf E2 73 0) ({ fr := [V.junk, V.ptr 0 0, V.junk, i64 (w ((i : Int) + (1 : Int)))] ++ jk 115, H := hp [some (Chunk.blk [V.sc (Value.string nm), i64 ps, i64 vs, V.ro 2 n (ins op arg)])], nx := 1, rt := 0, me := 73 }) (KC2 2 4)) (
      none)
   else
    none
  else
   some (Ans.l (Ex.exit 0) { fr := [V.junk, V.ptr 0 0] ++ jk 117, H := hp [some (Chunk.blk [V.sc (Value.string nm), i64 ps, i64 vs, V.ro 2 n (ins op arg)])], nx := 1, rt := 0, me := 73 }) := by kernel_rfl

theorem r73b (nm : ByteArray) (B : Bool) (ps vs : Int) (n : Nat) (op arg L W : Nat → Int) (i : Nat) (F : V) (lo : LoopT) : loopK E2 (C73 n op arg F B) lo 2 178 (bodyOf E2 73 2) (S73b nm ps vs n op arg L W i) (KC2 2 4) =
  if decide ((i : Int) < (n : Int)) = true then
   if (0 : Int) ≤ (i : Int) ∧ (i : Int) < (n : Int) then
    if (op (Int.toNat (i : Int)) == (14 : Int)) = true then
     if (0 : Int) ≤ arg (Int.toNat (i : Int)) ∧ arg (Int.toNat (i : Int)) < (n : Int) then
      if (0 : Int) ≤ (i : Int) ∧ (i : Int) < (n : Int) then
       if (L (Int.toNat (arg (Int.toNat (i : Int)))) != L (Int.toNat (i : Int))) = true then
        some (Ans.l Ex.ret { fr := [V.junk, V.junk, bo false] ++ jk 116, H := hp [], nx := 0, rt := 0, me := 73 })
       else
        if (0 : Int) ≤ arg (Int.toNat (i : Int)) ∧ arg (Int.toNat (i : Int)) < (n : Int) then
         if (0 : Int) ≤ (i : Int) ∧ (i : Int) < (n : Int) then
          if (W (Int.toNat (arg (Int.toNat (i : Int)))) != W (Int.toNat (i : Int))) = true then
           some (Ans.l Ex.ret { fr := [V.junk, V.junk, bo false] ++ jk 116, H := hp [], nx := 0, rt := 0, me := 73 })
          else
           lo 2 178 (bodyOf E2 73 2) ({ fr := [V.junk, V.ptr 0 0, V.junk, V.junk, V.ro 1 n (r1 L), V.ro 1 n (r1 W), V.junk, i64 (w ((i : Int) + (1 : Int)))] ++ jk 111, H := hp [some (Chunk.blk [V.sc (Value.string nm), i64 ps, i64 vs, V.ro 2 n (ins op arg)])], nx := 1, rt := 0, me := 73 }) (KC2 2 4)
         else
          none
        else
         none
      else
       none
     else
      none
    else
     if (op (Int.toNat (i : Int)) == (15 : Int)) = true then
      if (0 : Int) ≤ arg (Int.toNat (i : Int)) ∧ arg (Int.toNat (i : Int)) < (n : Int) then
       if (0 : Int) ≤ (i : Int) ∧ (i : Int) < (n : Int) then
        if (L (Int.toNat (arg (Int.toNat (i : Int)))) != L (Int.toNat (i : Int))) = true then
         some (Ans.l Ex.ret { fr := [V.junk, V.junk, bo false] ++ jk 116, H := hp [], nx := 0, rt := 0, me := 73 })
        else
         if (0 : Int) ≤ arg (Int.toNat (i : Int)) ∧ arg (Int.toNat (i : Int)) < (n : Int) then
          if (0 : Int) ≤ (i : Int) ∧ (i : Int) < (n : Int) then
           if (W (Int.toNat (arg (Int.toNat (i : Int)))) != W (Int.toNat (i : Int))) = true then
            some (Ans.l Ex.ret { fr := [V.junk, V.junk, bo false] ++ jk 116, H := hp [], nx := 0, rt := 0, me := 73 })
           else
            lo 2 178 (bodyOf E2 73 2) ({ fr := [V.junk, V.ptr 0 0, V.junk, V.junk, V.ro 1 n (r1 L), V.ro 1 n (r1 W), V.junk, i64 (w ((i : Int) + (1 : Int)))] ++ jk 111, H := hp [some (Chunk.blk [V.sc (Value.string nm), i64 ps, i64 vs, V.ro 2 n (ins op arg)])], nx := 1, rt := 0, me := 73 }) (KC2 2 4)
          else
           none
         else
          none
       else
        none
      else
       none
     else
      lo 2 178 (bodyOf E2 73 2) ({ fr := [V.junk, V.ptr 0 0, V.junk, V.junk, V.ro 1 n (r1 L), V.ro 1 n (r1 W), V.junk, i64 (w ((i : Int) + (1 : Int)))] ++ jk 111, H := hp [some (Chunk.blk [V.sc (Value.string nm), i64 ps, i64 vs, V.ro 2 n (ins op arg)])], nx := 1, rt := 0, me := 73 }) (KC2 2 4)
   else
    none
  else
   some (Ans.l (Ex.exit 2) { fr := [V.junk, V.ptr 0 0] ++ jk 117, H := hp [some (Chunk.blk [V.sc (Value.string nm), i64 ps, i64 vs, V.ro 2 n (ins op arg)])], nx := 1, rt := 0, me := 73 }) := by kernel_rfl

theorem f73s (nm : ByteArray) (B : Bool) (ps vs : Int) (n : Nat) (op arg L W : Nat → Int) (b : Bool) (S1 S2 : St) (P P2 : Prop) : callK E2 (C73 n op arg (rgS n L W b) B) (ltab2 [⟨0, bodyOf E2 73 0, S1, P, .exit 0, T73a nm ps vs n op arg, .ret, T73r⟩, ⟨2, bodyOf E2 73 2, S2, P2, .exit 2, T73a nm ps vs n op arg, .ret, T73r⟩]) 73 [codV nm ps vs n op arg] [] K =
  if decide (ps < (0 : Int)) = true then
   some (Ans.c (CRes.ret (bo false) []))
  else
   if decide (ps > vs) = true then
    some (Ans.c (CRes.ret (bo false) []))
   else
    if decide (vs > (12 : Int)) = true then
     some (Ans.c (CRes.ret (bo false) []))
    else
     if decide ((n : Int) < (1 : Int)) = true then
      some (Ans.c (CRes.ret (bo false) []))
     else
      if decide ((n : Int) > (300 : Int)) = true then
       some (Ans.c (CRes.ret (bo false) []))
      else
       cl ((bodyOf E2 73 0) = (bodyOf E2 73 0) ∧ LeSt ({ fr := [V.junk, V.ptr 0 0, V.junk, i64 0] ++ jk 115, H := hp [some (Chunk.blk [V.sc (Value.string nm), i64 ps, i64 vs, V.ro 2 n (ins op arg)])], nx := 1, rt := 0, me := 73 }) (S1)) (
        cl (P) (
         cl ((QReg n op arg) ([V.ro 2 n (ins op arg)]) ∧ ([] : List (Option Chunk)) = []) (
          if (!b) = true then
           some (Ans.c (CRes.ret (bo false) []))
          else
           cl ((bodyOf E2 73 2) = (bodyOf E2 73 2) ∧ LeSt ({ fr := [V.junk, V.ptr 0 0, V.junk, V.junk, V.ro 1 n (r1 L), V.ro 1 n (r1 W), V.junk, i64 0] ++ jk 111, H := hp [some (Chunk.blk [V.sc (Value.string nm), i64 ps, i64 vs, V.ro 2 n (ins op arg)])], nx := 1, rt := 0, me := 73 }) (S2)) (
            cl (P2) (
             cl ((QDep n op arg) ([V.ro 2 n (ins op arg)]) ∧ ([] : List (Option Chunk)) = []) (
              some (Ans.c (CRes.ret (bo (B)) []))) (
              none)) (
             some (Ans.c (CRes.ret (bo false) [])))) (
            none)) (
          none)) (
         some (Ans.c (CRes.ret (bo false) [])))) (
        none) := by kernel_rfl

theorem f73n (nm : ByteArray) (B : Bool) (ps vs : Int) (n : Nat) (op arg : Nat → Int) (S1 : St) (P : Prop) : callK E2 (C73 n op arg rgN B) (ltab2 [⟨0, bodyOf E2 73 0, S1, P, .exit 0, T73a nm ps vs n op arg, .ret, T73r⟩]) 73 [codV nm ps vs n op arg] [] K =
  if decide (ps < (0 : Int)) = true then
   some (Ans.c (CRes.ret (bo false) []))
  else
   if decide (ps > vs) = true then
    some (Ans.c (CRes.ret (bo false) []))
   else
    if decide (vs > (12 : Int)) = true then
     some (Ans.c (CRes.ret (bo false) []))
    else
     if decide ((n : Int) < (1 : Int)) = true then
      some (Ans.c (CRes.ret (bo false) []))
     else
      if decide ((n : Int) > (300 : Int)) = true then
       some (Ans.c (CRes.ret (bo false) []))
      else
       cl ((bodyOf E2 73 0) = (bodyOf E2 73 0) ∧ LeSt ({ fr := [V.junk, V.ptr 0 0, V.junk, i64 0] ++ jk 115, H := hp [some (Chunk.blk [V.sc (Value.string nm), i64 ps, i64 vs, V.ro 2 n (ins op arg)])], nx := 1, rt := 0, me := 73 }) (S1)) (
        cl (P) (
         cl ((QReg n op arg) ([V.ro 2 n (ins op arg)]) ∧ ([] : List (Option Chunk)) = []) (
          some (Ans.c (CRes.ret (bo false) []))) (
          none)) (
         some (Ans.c (CRes.ret (bo false) [])))) (
        none) := by kernel_rfl

theorem f73_e (nm : ByteArray) (ps vs : Int) (n : Nat) (op arg : Nat → Int) : callK E2 (tab []) (ltab2 []) 73 [codV nm ps vs n op arg] [] K =
  if decide (ps < (0 : Int)) = true then
   some (Ans.c (CRes.ret (bo false) []))
  else
   if decide (ps > vs) = true then
    some (Ans.c (CRes.ret (bo false) []))
   else
    if decide (vs > (12 : Int)) = true then
     some (Ans.c (CRes.ret (bo false) []))
    else
     if decide ((n : Int) < (1 : Int)) = true then
      some (Ans.c (CRes.ret (bo false) []))
     else
      if decide ((n : Int) > (300 : Int)) = true then
       some (Ans.c (CRes.ret (bo false) []))
      else
       none := by kernel_rfl

theorem k73a (nm : ByteArray) (ps vs : Int) (n : Nat) (op arg : Nat → Int) : KC2 2 4 (.exit 0) (T73a nm ps vs n op arg) = some (.l (.exit 0) (T73a nm ps vs n op arg)) := by kernel_rfl
theorem k73b (nm : ByteArray) (ps vs : Int) (n : Nat) (op arg : Nat → Int) : KC2 2 4 (.exit 2) (T73a nm ps vs n op arg) = some (.l (.exit 2) (T73a nm ps vs n op arg)) := by kernel_rfl
theorem k73r : KC2 2 4 .ret T73r = some (.l .ret T73r) := by kernel_rfl
theorem opndD_true (c : Cv.Cd) (i : Nat) : opndD c i = true ↔ Cv.opnd c i := by unfold opndD; exact @decide_eq_true_iff _ (Classical.propDecidable _)
set_option maxRecDepth 100000 in
theorem loop73a {nm : ByteArray} {ps vs : Int} {n : Nat} {op arg : Nat → Int} {F : V} {B : Bool} (hC : SoundC E2 (C73 n op arg F B)) (hn : n ≤ 300) (h0 : 0 ≤ vs) (hv : vs ≤ 12) : ∀ (r i : Nat), i + r = n → Ends (bodyOf E2 73 0) (∀ j, i ≤ j → j < n → Cv.stopOk (mkC vs n op arg) j ∧ Cv.opnd (mkC vs n op arg) j) (S73a nm ps vs n op arg i) (.exit 0) (T73a nm ps vs n op arg) .ret T73r := by
  intro r
  induction r with
  | zero =>
    intro i hi
    exact Ends.fin hC (fun j h1 h2 => by omega) fun lo => (r73a _ _ _ _ _ _ _ _ _ _).trans (by rw [if_neg (by simp; omega)]; rfl)
  | succ r ih =>
    intro i hi
    have hi' : i < n := by omega
    have hid : decide ((i : Int) < (n : Int)) = true := by simpa using hi'
    have hbb : (0 : Int) ≤ (i : Int) ∧ (i : Int) < (n : Int) := by omega
    have hq : QOpnd [V.agg [V.sc (Value.string nm), i64 ps, i64 vs, V.ro 2 n (ins op arg)], i64 (i : Int)] ∧ True := ⟨⟨nm, ps, vs, n, op, arg, i, rfl, hi', hn, h0, hv⟩, trivial⟩
    have ew : w ((i : Int) + 1) = ((i + 1 : Nat) : Int) := by rw [w_in (by unfold inR; omega)]; omega
    have en : w ((n : Int) - 1) = (n : Int) - 1 := w_in (by unfold inR; omega)
    have tree := fun lo => r73a nm B ps vs n op arg i F lo
    simp only [if_pos hid, if_pos hbb, eq_self, cl_pos hq, Int.toNat_natCast, ew, en] at tree
    refine Ends.iff ?_ (all_from hi)
    have es : Cv.stopOk (mkC vs n op arg) i ↔ (op i = 28 ↔ i + 1 = n) := Iff.rfl
    rw [es]
    have e28 : (!(op i == (28 : Int)) == ((i : Int) == (n : Int) - 1)) = true ↔ ¬ (op i = 28 ↔ i + 1 = n) := by
      have eb1 : ((i : Int) == (n : Int) - 1) = decide (i + 1 = n) := by rw [Bool.eq_iff_iff, beq_iff_eq, decide_eq_true_eq]; omega
      have eb2 : (op i == (28 : Int)) = decide (op i = 28) := rfl
      rw [eb1, eb2]
      by_cases a : op i = 28 <;> by_cases b : i + 1 = n
      · rw [decide_eq_true a, decide_eq_true b]; simp [a, b]
      · rw [decide_eq_true a, decide_eq_false b]; simp [a, b]
      · rw [decide_eq_false a, decide_eq_true b]; simp [a, b]
      · rw [decide_eq_false a, decide_eq_false b]; simp [a, b]
    by_cases hs : (op i = 28 ↔ i + 1 = n)
    · by_cases ho : Cv.opnd (mkC vs n op arg) i
      · have hb : opndD (mkC vs n op arg) i = true := (opndD_true _ _).2 ho
        refine Ends.iff (Ends.next hC (ih (i + 1) (by omega)) (k73a _ _ _ _ _ _) k73r (LeSt.refl _) fun lo => (tree lo).trans ?_) ⟨fun h => h.2, fun h => ⟨⟨hs, ho⟩, h⟩⟩
        rw [if_neg (fun h => e28.1 h hs), if_neg (by rw [hb]; decide)]; rfl
      · have hb : opndD (mkC vs n op arg) i = false := by cases h : opndD (mkC vs n op arg) i with | false => rfl | true => exact absurd ((opndD_true _ _).1 h) ho
        refine Ends.ret hC (fun h => ho h.1.2) fun lo => (tree lo).trans ?_
        rw [if_neg (fun h => e28.1 h hs), if_pos (by rw [hb]; decide)]; rfl
    · refine Ends.ret hC (fun h => hs h.1.1) fun lo => (tree lo).trans ?_
      rw [if_pos (e28.2 hs)]; rfl
theorem end73b {nm : ByteArray} {ps vs : Int} {n : Nat} {op arg L W : Nat → Int} {F : V} {B : Bool} (hC : SoundC E2 (C73 n op arg F B)) : Ends (bodyOf E2 73 2) True (S73b nm ps vs n op arg L W n) (.exit 2) (T73a nm ps vs n op arg) .ret T73r :=
  Ends.fin hC trivial fun lo => (r73b _ _ _ _ _ _ _ _ _ _ _ _).trans (by rw [if_neg (by simp)]; rfl)
set_option maxRecDepth 100000 in
theorem loop73b {nm : ByteArray} {ps vs : Int} {n : Nat} {op arg L W : Nat → Int} {F : V} {B : Bool} (hC : SoundC E2 (C73 n op arg F B)) (hn : n ≤ 300) (harg : ∀ i, i < n → Cv.jmp (op i) → 0 ≤ arg i ∧ arg i < n) : ∀ (r i : Nat), i + r = n → Ends (bodyOf E2 73 2) (∀ j, i ≤ j → j < n → jump1 (mkC vs n op arg) L W j) (S73b nm ps vs n op arg L W i) (.exit 2) (T73a nm ps vs n op arg) .ret T73r := by
  intro r
  induction r with
  | zero =>
    intro i hi
    exact Ends.fin hC (fun j h1 h2 => by omega) fun lo => (r73b _ _ _ _ _ _ _ _ _ _ _ _).trans (by rw [if_neg (by simp; omega)]; rfl)
  | succ r ih =>
    intro i hi
    have hi' : i < n := by omega
    have hid : decide ((i : Int) < (n : Int)) = true := by simpa using hi'
    have hbb : (0 : Int) ≤ (i : Int) ∧ (i : Int) < (n : Int) := by omega
    have ew : w ((i : Int) + 1) = ((i + 1 : Nat) : Int) := by rw [w_in (by unfold inR; omega)]; omega
    have tree := fun lo => r73b nm B ps vs n op arg L W i F lo
    simp only [if_pos hid, if_pos hbb, Int.toNat_natCast, ew, if_true] at tree
    refine Ends.iff ?_ (all_from hi)
    have ej : jump1 (mkC vs n op arg) L W i ↔ (Cv.jmp (op i) → L (arg i).toNat = L i ∧ W (arg i).toNat = W i) := Iff.rfl
    rw [ej]
    by_cases h14 : op i = 14
    · have hj : Cv.jmp (op i) := .inl h14
      have ha := harg i hi' hj
      by_cases hs : L (arg i).toNat = L i
      · by_cases hs2 : W (arg i).toNat = W i
        · refine Ends.iff (Ends.next hC (ih (i + 1) (by omega)) (k73b _ _ _ _ _ _) k73r (LeSt.refl _) fun lo => (tree lo).trans ?_) ⟨fun h => h.2, fun h => ⟨fun _ => ⟨hs, hs2⟩, h⟩⟩
          simp only [eqT h14, if_pos ha, neF hs, neF hs2, if_true, if_false, Bool.false_eq_true, reduceIte]; rfl
        · refine Ends.ret hC (fun h => hs2 (h.1 hj).2) fun lo => (tree lo).trans ?_
          simp only [eqT h14, if_pos ha, neF hs, neT hs2, if_true, if_false, Bool.false_eq_true, reduceIte]; rfl
      · refine Ends.ret hC (fun h => hs (h.1 hj).1) fun lo => (tree lo).trans ?_
        simp only [eqT h14, if_pos ha, neT hs, if_true, if_false, Bool.false_eq_true, reduceIte]; rfl
    by_cases h15 : op i = 15
    · have hj : Cv.jmp (op i) := .inr h15
      have ha := harg i hi' hj
      by_cases hs : L (arg i).toNat = L i
      · by_cases hs2 : W (arg i).toNat = W i
        · refine Ends.iff (Ends.next hC (ih (i + 1) (by omega)) (k73b _ _ _ _ _ _) k73r (LeSt.refl _) fun lo => (tree lo).trans ?_) ⟨fun h => h.2, fun h => ⟨fun _ => ⟨hs, hs2⟩, h⟩⟩
          simp only [eqF h14, eqT h15, if_pos ha, neF hs, neF hs2, if_true, if_false, Bool.false_eq_true, reduceIte]; rfl
        · refine Ends.ret hC (fun h => hs2 (h.1 hj).2) fun lo => (tree lo).trans ?_
          simp only [eqF h14, eqT h15, if_pos ha, neF hs, neT hs2, if_true, if_false, Bool.false_eq_true, reduceIte]; rfl
      · refine Ends.ret hC (fun h => hs (h.1 hj).1) fun lo => (tree lo).trans ?_
        simp only [eqF h14, eqT h15, if_pos ha, neT hs, if_true, if_false, Bool.false_eq_true, reduceIte]; rfl
    refine Ends.iff (Ends.next hC (ih (i + 1) (by omega)) (k73b _ _ _ _ _ _) k73r (LeSt.refl _) fun lo => (tree lo).trans ?_) ⟨fun h => h.2, fun h => ⟨fun hj => (hj.elim h14 h15).elim, h⟩⟩
    simp only [eqF h14, eqF h15, if_true, if_false, Bool.false_eq_true, reduceIte]; rfl
/-! ### The whole -/
open Classical in
noncomputable def valD (ps : Int) (c : Cv.Cd) : Bool := decide (¬ (c.n > 300 ∨ c.vars > 12) ∧ ¬ (ps < 0 ∨ ps > c.vars ∨ c.n = 0 ∨ ¬ Cv.VP c))
open Classical in
theorem valD_t {ps : Int} {c : Cv.Cd} (h : ¬ (c.n > 300 ∨ c.vars > 12) ∧ ¬ (ps < 0 ∨ ps > c.vars ∨ c.n = 0 ∨ ¬ Cv.VP c)) : valD ps c = true := by unfold valD; exact decide_eq_true h
open Classical in
theorem valD_f {ps : Int} {c : Cv.Cd} (h : ¬ (¬ (c.n > 300 ∨ c.vars > 12) ∧ ¬ (ps < 0 ∨ ps > c.vars ∨ c.n = 0 ∨ ¬ Cv.VP c))) : valD ps c = false := by unfold valD; exact decide_eq_false h
set_option maxRecDepth 100000 in
theorem valid_sc (nm : ByteArray) (ps vs : Int) (n : Nat) (op arg : Nat → Int) : SC E2 73 [codV nm ps vs n op arg] [] (.ret (bo (valD ps (mkC vs n op arg))) []) := by
  have hcn : (mkC vs n op arg).n = n := rfl
  have hcv : (mkC vs n op arg).vars = vs := rfl
  by_cases hp : ps < 0
  · rw [valD_f (fun h => h.2 (.inl hp))]
    refine SC.of hW2 hX2 tab_nil ltab2_nil ((f73_e ..).trans ?_)
    rw [if_pos (by simpa using hp)]
  have hpp : ¬ decide (ps < (0 : Int)) = true := by simpa using hp
  by_cases hp2 : ps > vs
  · rw [valD_f (fun h => h.2 (.inr (.inl hp2)))]
    refine SC.of hW2 hX2 tab_nil ltab2_nil ((f73_e ..).trans ?_)
    rw [if_neg hpp, if_pos (by simpa using hp2)]
  have hpp2 : ¬ decide (ps > vs) = true := by simpa using hp2
  by_cases hv : vs > 12
  · rw [valD_f (fun h => h.1 (.inr hv))]
    refine SC.of hW2 hX2 tab_nil ltab2_nil ((f73_e ..).trans ?_)
    rw [if_neg hpp, if_neg hpp2, if_pos (by simpa using hv)]
  have hvv : ¬ decide (vs > (12 : Int)) = true := by simpa using hv
  by_cases hz : n = 0
  · rw [valD_f (fun h => h.2 (.inr (.inr (.inl hz))))]
    refine SC.of hW2 hX2 tab_nil ltab2_nil ((f73_e ..).trans ?_)
    rw [if_neg hpp, if_neg hpp2, if_neg hvv, if_pos (by simp; omega)]
  have hzz : ¬ decide ((n : Int) < (1 : Int)) = true := by simp; omega
  by_cases hn : n > 300
  · rw [valD_f (fun h => h.1 (.inl hn))]
    refine SC.of hW2 hX2 tab_nil ltab2_nil ((f73_e ..).trans ?_)
    rw [if_neg hpp, if_neg hpp2, if_neg hvv, if_neg hzz, if_pos (by simp; omega)]
  have hnn : ¬ decide ((n : Int) > (300 : Int)) = true := by simp; omega
  have hn3 : n ≤ 300 := by omega
  have h0 : 0 ≤ vs := by omega
  have hv12 : vs ≤ 12 := by omega
  have bad : ¬ Cv.VP (mkC vs n op arg) → valD ps (mkC vs n op arg) = false := fun h => valD_f fun g => g.2 (.inr (.inr (.inr h)))
  have good : Cv.VP (mkC vs n op arg) → valD ps (mkC vs n op arg) = true := fun h => valD_t ⟨by rw [hcn, hcv]; omega, fun g => by rcases g with g | g | g | g; exact hp g; exact hp2 g; exact hz g; exact g h⟩
  have hpl : ∀ q, Cv.regR (mkC vs n op arg) n 0 rg0 = q → Cv.regR (mkC vs n op arg) (mkC vs n op arg).n 0 ⟨Cv.zero, Cv.zero, 0, Cv.zero, -1⟩ = q := fun q h => h
  rw [Cv.VP_VR] at bad good
  cases hx : Cv.regR (mkC vs n op arg) n 0 rg0 with
  | none =>
    have hC := sC73 (F := rgN) vs hn3 (by omega) (by rw [hx]; rfl)
    have l1 := loop73a (nm := nm) (ps := ps) (vs := vs) hC hn3 h0 hv12 n 0 (by omega)
    have hnv : ¬ Cv.VR (mkC vs n op arg) := by
      rintro ⟨_, ⟨q, hq, _⟩, _⟩
      rw [hpl _ hx] at hq
      cases hq
    rw [bad hnv]
    refine SC.of hW2 hX2 hC (ltab2_cons (x := ⟨0, _, _, _, _, _, _, _⟩) l1 ltab2_nil) ((f73n _ _ _ _ _ _ _ _ _).trans ?_)
    rw [if_neg hpp, if_neg hpp2, if_neg hvv, if_neg hzz, if_neg hnn, cl_pos ⟨rfl, LeSt.refl _⟩]
    by_cases hP : (∀ j, 0 ≤ j → j < n → Cv.stopOk (mkC vs n op arg) j ∧ Cv.opnd (mkC vs n op arg) j)
    · rw [cl_pos hP, cl_pos ⟨rfl, rfl⟩]
    · rw [cl_neg hP]
  | some q =>
    have hC := sC73 (F := rgS n q.L q.W (decide (q.m = 0 ∧ q.wa < 0))) vs hn3 (by omega) (by rw [hx]; rfl)
    have l1 := loop73a (nm := nm) (ps := ps) (vs := vs) hC hn3 h0 hv12 n 0 (by omega)
    by_cases hP : (∀ j, 0 ≤ j → j < n → Cv.stopOk (mkC vs n op arg) j ∧ Cv.opnd (mkC vs n op arg) j)
    · have hok : ∀ i, i < n → Cv.okOp (op i) := fun i hi => Cv.opnd_ok (c := mkC vs n op arg) (hP i (Nat.zero_le _) hi).2
      have harg : ∀ i, i < n → Cv.jmp (op i) → 0 ≤ arg i ∧ arg i < n := by
        intro i hi hj
        have h17 : ¬ (op i = 17) := fun h => by rcases hj with hj | hj <;> omega
        have h20 : ¬ (op i = 20) := fun h => by rcases hj with hj | hj <;> omega
        have h1 := Cv.rng_jump (c := mkC vs n op arg) (i := i) hj ((Cv.opnd_rng (c := mkC vs n op arg) (hok i hi) h17 h20).1 (hP i (Nat.zero_le _) hi).2)
        have e1 : (mkC vs n op arg).arg i = arg i := rfl
        rw [e1, hcn] at h1
        omega
      have l2 := loop73b (nm := nm) (ps := ps) (vs := vs) (L := q.L) (W := q.W) hC hn3 harg n 0 (by omega)
      refine SC.of hW2 hX2 hC (ltab2_cons (x := ⟨0, _, _, _, _, _, _, _⟩) l1 (ltab2_cons (x := ⟨2, _, _, _, _, _, _, _⟩) l2 ltab2_nil)) ((f73s _ _ _ _ _ _ _ _ _ _ _ _ _ _).trans ?_)
      rw [if_neg hpp, if_neg hpp2, if_neg hvv, if_neg hzz, if_neg hnn, cl_pos ⟨rfl, LeSt.refl _⟩, cl_pos hP, cl_pos ⟨rfl, rfl⟩]
      have hvp : Cv.VR (mkC vs n op arg) ↔ ((q.m = 0 ∧ q.wa < 0) ∧ (∀ j, 0 ≤ j → j < n → jump1 (mkC vs n op arg) q.L q.W j) ∧ depD (mkC vs n op arg) = true) := by
        rw [depD_iff]
        constructor
        · rintro ⟨g1, ⟨q', g2, g3, g4⟩, g5⟩
          rw [hpl _ hx] at g2
          cases g2
          exact ⟨g3, (jmps_all _ _ _).1 g4, g5⟩
        · rintro ⟨g1, g2, g3⟩
          exact ⟨fun i hi => hP i (Nat.zero_le _) hi, ⟨q, hpl _ hx, g1, (jmps_all _ _ _).2 g2⟩, g3⟩
      by_cases hb : q.m = 0 ∧ q.wa < 0
      · rw [if_neg (by rw [decide_eq_true hb]; decide), cl_pos ⟨rfl, LeSt.refl _⟩]
        by_cases hJ : ∀ j, 0 ≤ j → j < n → jump1 (mkC vs n op arg) q.L q.W j
        · rw [cl_pos hJ, cl_pos ⟨⟨rfl, hok, harg⟩, rfl⟩]
          cases hB : depD (mkC vs n op arg) with
          | true => rw [good (hvp.2 ⟨hb, hJ, hB⟩)]
          | false => rw [bad (fun h => by have := (hvp.1 h).2.2; rw [hB] at this; cases this)]
        · rw [cl_neg hJ, bad (fun h => hJ (hvp.1 h).2.1)]
      · rw [if_pos (by rw [decide_eq_false hb]; decide), bad (fun h => hb (hvp.1 h).1)]
    · refine SC.of hW2 hX2 hC (ltab2_cons (x := ⟨0, _, _, _, _, _, _, _⟩) l1 (ltab2_cons (x := ⟨2, _, S73b nm ps vs n op arg q.L q.W n, True, _, _, _, _⟩) (end73b (nm := nm) (ps := ps) (vs := vs) (L := q.L) (W := q.W) hC) ltab2_nil)) ((f73s _ _ _ _ _ _ _ _ _ _ _ _ _ _).trans ?_)
      rw [if_neg hpp, if_neg hpp2, if_neg hvv, if_neg hzz, if_neg hnn, cl_pos ⟨rfl, LeSt.refl _⟩, cl_neg hP, bad (fun h => hP fun j _ hj => h.1 j hj)]
def QVal (nm : ByteArray) (ps vs : Int) (n : Nat) (op arg : Nat → Int) (args : List V) : Prop := args = [codV nm ps vs n op arg]
noncomputable def C60 (nm : ByteArray) (ps vs : Int) (n : Nat) (op arg : Nat → Int) (B : Bool) : CallT := ptab 73 (QVal nm ps vs n op arg) (fun _ => bo B) (tab [])
theorem f60 (nm : ByteArray) (B : Bool) (ps vs : Int) (n : Nat) (op arg : Nat → Int) : callK E2 (C60 nm ps vs n op arg B) (ltab2 []) 60 [codV nm ps vs n op arg] [] K =
  if decide ((n : Int) > (300 : Int)) = true then
   some (Ans.c (CRes.ret (i64 2) []))
  else
   if decide (vs > (12 : Int)) = true then
    some (Ans.c (CRes.ret (i64 2) []))
   else
    cl ((QVal nm ps vs n op arg) ([V.agg [V.sc (Value.string nm), i64 ps, i64 vs, V.ro 2 n (ins op arg)]]) ∧ ([] : List (Option Chunk)) = []) (
     if (!B) = true then
      some (Ans.c (CRes.ret (i64 13) []))
     else
      some (Ans.c (CRes.ret (i64 0) []))) (
     none) := by kernel_rfl

theorem refVerify_sc (nm : ByteArray) (ps vs : Int) (n : Nat) (op arg : Nat → Int) : SC E2 60 [codV nm ps vs n op arg] [] (.ret (i64 (verV ps (mkC vs n op arg))) []) := by
  have hcn : (mkC vs n op arg).n = n := rfl
  have hcv : (mkC vs n op arg).vars = vs := rfl
  have hC : SoundC E2 (C60 nm ps vs n op arg (valD ps (mkC vs n op arg))) := ptab_cons (fun args h => by cases h; exact valid_sc nm ps vs n op arg) tab_nil
  refine SC.of hW2 hX2 hC ltab2_nil ((f60 _ _ _ _ _ _ _).trans ?_)
  by_cases hn : n > 300
  · rw [verV_2 (.inl hn), if_pos (by simp; omega)]
  by_cases hv : vs > 12
  · rw [verV_2 (.inr hv), if_neg (by simp; omega), if_pos (by simpa using hv)]
  have h2 : ¬ ((mkC vs n op arg).n > 300 ∨ (mkC vs n op arg).vars > 12) := by rw [hcn, hcv]; omega
  rw [if_neg (by simp; omega), if_neg (by simpa using hv), cl_pos ⟨rfl, rfl⟩]
  by_cases hV : (ps < 0 ∨ ps > (mkC vs n op arg).vars ∨ (mkC vs n op arg).n = 0 ∨ ¬ Cv.VP (mkC vs n op arg))
  · rw [verV_13 h2 hV, valD_f (fun h => h.2 hV), if_pos (by decide)]
  · rw [verV_0 h2 hV, valD_t ⟨h2, hV⟩, if_neg (by decide)]
end Go.Proofs.Ythegipdgillngaa
