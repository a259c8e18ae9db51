/- The law of Parse. -/
import Derived.Test.YtnjpgkaignfcaaaDoorVf
import Derived.Test.YtnjpgkaignfcaaaDoorUw
namespace Go.Proofs.YtnjpgkaignfcaaaDoor
open Go Go.Am
set_option linter.unusedSimpArgs false
set_option linter.unusedVariables false
/-- The results of Parse, as numbers. -/
def errQ (r : Int) : Acc × Int := (⟨0, 0, 0, 0, 0, 0⟩, r)
def ok6 (q : Acc) : Bool := valid6 q.n q.a q.b q.c q.d q.h
def accQ (q : Acc) : Acc × Int := (⟨pk (ok6 q) q.n, pk (ok6 q) q.a, pk (ok6 q) q.b, pk (ok6 q) q.c, pk (ok6 q) q.d, pk (ok6 q) q.h⟩, er (ok6 q) 5)
def endQ : Int ⊕ Acc → Acc × Int
  | .inl r => errQ r
  | .inr q => accQ q
open Classical in
noncomputable def pP (s : ByteArray) : Acc × Int :=
  if 100 < s.size then errQ 2
  else if nB (cA 32 s) = false then errQ 7
  else if cF 32 s = true then
    (if allF fO (cB 32 s) 0 then endQ (run2 (uP (cB 32 s)) (eP (cB 32 s)) (gP (cB 32 s)) (ptN 42 (cB 32 s)) 0 ⟨nV (cA 32 s), 0, 0, 0, 0, 0⟩) else errQ 7)
  else accQ ⟨nV (cA 32 s), 0, 0, 0, 0, 0⟩
noncomputable def pn (s : ByteArray) : Int := (pP s).1.n
noncomputable def pa (s : ByteArray) : Int := (pP s).1.a
noncomputable def pb (s : ByteArray) : Int := (pP s).1.b
noncomputable def pc (s : ByteArray) : Int := (pP s).1.c
noncomputable def pd (s : ByteArray) : Int := (pP s).1.d
noncomputable def ph (s : ByteArray) : Int := (pP s).1.h
noncomputable def pe (s : ByteArray) : Int := (pP s).2
noncomputable def vPar : List V → V
  | [.sc (.string s)] => .tup [q6 (pn s) (pa s) (pb s) (pc s) (pd s) (ph s), i64 (pe s)]
  | _ => .junk
def QStr (args : List V) : Prop := ∃ s, args = [st s]
theorem endV_Q (x : Int ⊕ Acc) : endV x = .tup [q6 (endQ x).1.n (endQ x).1.a (endQ x).1.b (endQ x).1.c (endQ x).1.d (endQ x).1.h, i64 (endQ x).2] := by cases x <;> rfl
theorem pV_eq (s : ByteArray) : pV s = vPar [st s] := by
  show pV s = .tup [q6 (pn s) (pa s) (pb s) (pc s) (pd s) (ph s), i64 (pe s)]
  unfold pV pn pa pb pc pd ph pe pP
  split
  · rfl
  · split
    · rfl
    · split
      · split
        · exact endV_Q _
        · rfl
      · rfl
noncomputable def C7 : CallT := ptab 21 QStr vPar (ptab 22 QStr vPar (tab [(16, t16)]))
theorem sC7 : SoundC E1 C7 := ptab_cons (fun args h => by obtain ⟨s, rfl⟩ := h; rw [← pV_eq]; exact parse21 s) (ptab_cons (fun args h => by obtain ⟨s, rfl⟩ := h; rw [← pV_eq]; exact parse22 s) (tab_cons ok16' tab_nil))
theorem law5 (s : ByteArray) : callK E1 C7 L0 5 [st s] [] K =
  cl (QStr ([V.sc (Value.string s)]) ∧ ([] : List (Option Chunk)) = []) (
   cl (QStr ([V.sc (Value.string s)]) ∧ ([] : List (Option Chunk)) = []) (
    if (if false = true then !(pn s == pn s && (pa s == pa s && (pb s == pb s && (pc s == pc s && (pd s == pd s && (ph s == ph s && true)))) && true)) else pn s == pn s && (pa s == pa s && (pb s == pb s && (pc s == pc s && (pd s == pd s && (ph s == ph s && true)))) && true)) = true then
     if (pe s == pe s) = true then
      some (Ans.c (CRes.ret (bo true) []))
     else
      some (Ans.c (CRes.ret (bo false) []))
    else
     some (Ans.c (CRes.ret (bo false) []))) (
    none)) (
   none) := by kernel_rfl

theorem unitParse (v0 : V) (h0 : WTV E.P 9 v0) : ∃ l', LeL [v0] l' ∧ SC E 5 l' [] (.ret (bo true) []) := by
  obtain ⟨s, rfl, _⟩ := h0.str (by kernel_rfl) (by kernel_rfl)
  refine ⟨_, LeL.refl _, sc1.1 (SC.of hW1 hX1 sC7 (soundL_none E1) ((law5 s).trans ?_))⟩
  have hq : QStr [V.sc (Value.string s)] ∧ ([] : List (Option Chunk)) = [] := ⟨⟨s, rfl⟩, rfl⟩
  rw [cl_pos hq, cl_pos hq, if_pos (by simp), if_pos (by simp)]
end Go.Proofs.YtnjpgkaignfcaaaDoor
