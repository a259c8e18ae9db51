/- What is computed, as functions of plain data: calls and loops by functions that may fail. -/
import Derived.Test.YtniogljhkjbcgaaDoorAmZ
namespace Go.Am
open Go Go.RowKit
set_option linter.unusedSimpArgs false
set_option linter.unusedVariables false
open Classical in
/-- What A makes this of. -/
noncomputable def invF {α τ : Type} (A : α → τ) (t : τ) : Option α := if h : ∃ x, A x = t then some (Classical.choose h) else none
noncomputable def viaF {α γ τ : Type} (A : α → τ) (p : α → Option γ) (t : τ) : Option γ := (invF A t).bind p
theorem viaF_some {α γ τ : Type} {A : α → τ} {p : α → Option γ} {t : τ} {z : γ} (h : viaF A p t = some z) : ∃ x, A x = t ∧ p x = some z := by
  unfold viaF invF at h
  split at h
  · rename_i hx
    exact ⟨_, Classical.choose_spec hx, h⟩
  · cases h
theorem via_eq {α γ τ : Type} {A : α → τ} (hi : ∀ x y, A x = A y → x = y) (p : α → Option γ) : (fun x => viaF A p (A x)) = p := by
  funext x
  unfold viaF invF
  have hx : ∃ y, A y = A x := ⟨x, rfl⟩
  rw [dif_pos hx]
  show p (Classical.choose hx) = p x
  rw [hi _ _ (Classical.choose_spec hx)]
/-- A function whose arguments and memory are A of plain data, by what it makes of them. -/
noncomputable def ftab {α γ : Type} (g : FuncId) (gd : List V → List (Option Chunk) → Bool) (A : α → List V × List (Option Chunk)) (ex : γ → (CRes → Option Ans) → Option Ans) (p : α → Option γ) (ca : CallT) : CallT := fun f args L k =>
  if (f == g && gd args L) = true then (viaF A p (args, L)).bind fun z => ex z k else ca f args L k
theorem ftab_cons {E : Env} {α γ : Type} {g : FuncId} {gd : List V → List (Option Chunk) → Bool} {A : α → List V × List (Option Chunk)} {ex : γ → (CRes → Option Ans) → Option Ans} {p : α → Option γ} {ca : CallT} {R : γ → CRes}
    (h : ∀ x z, p x = some z → SC E g (A x).1 (A x).2 (R z)) (hex : ∀ z k, ex z k = k (R z)) (hl : SoundC E ca) : SoundC E (ftab g gd A ex p ca) := by
  intro f args L k r hr
  simp only [ftab] at hr
  split at hr
  · rename_i e
    simp only [Bool.and_eq_true, beq_iff_eq] at e
    obtain ⟨rfl, _⟩ := e
    cases hv : viaF A p (args, L) with
    | none => rw [hv] at hr; cases hr
    | some z =>
      rw [hv] at hr
      obtain ⟨x, hx, hp⟩ := viaF_some hv
      have := h x z hp
      rw [hx] at this
      exact ⟨_, (hex z k) ▸ hr, this⟩
  · exact hl _ _ _ _ _ hr
/-- A loop (by its number) whose states are S of plain data. -/
noncomputable def ltabF {α γ : Type} (id : Nat) (gd : St → Bool) (body : ACode) (S : α → St) (ex : γ → KX → Option Ans) (p : α → Option γ) (lo : LoopT) : LoopT := fun id' live c s k =>
  if (id' == id && gd s) = true then (viaF (fun x => (body, S x)) p (c, s)).bind fun z => ex z k else lo id' live c s k
theorem ltabF_cons {E : Env} {α γ : Type} {id : Nat} {gd : St → Bool} {body : ACode} {S : α → St} {ex : γ → KX → Option Ans} {p : α → Option γ} {lo : LoopT} {T : γ → Ex × St}
    (h : ∀ x z, p x = some z → SL E body (S x) (T z).1 (T z).2) (hex : ∀ z k, ex z k = k (T z).1 (T z).2) (hl : SoundL E lo) : SoundL E (ltabF id gd body S ex p lo) := by
  intro id' live c s k r hr
  simp only [ltabF] at hr
  split at hr
  · cases hv : viaF (fun x => (body, S x)) p (c, s) with
    | none => rw [hv] at hr; cases hr
    | some z =>
      rw [hv] at hr
      obtain ⟨x, hx, hp⟩ := viaF_some hv
      simp only [Prod.mk.injEq] at hx
      obtain ⟨rfl, rfl⟩ := hx
      exact ⟨_, _, (hex z k) ▸ hr, h x z hp⟩
  · exact hl _ _ _ _ _ _ hr
theorem pair_inj {α : Type} {S : α → St} (body : ACode) (hi : ∀ x y, S x = S y → x = y) : ∀ x y, (body, S x) = (body, S y) → x = y := fun x y h => hi x y (Prod.mk.inj h).2
def lo0 : LoopT := fun _ _ _ _ _ => none
theorem lo0_sound {E : Env} : SoundL E lo0 := fun id live c s k r h => by cases h
def ca0 : CallT := fun _ _ _ _ => none
theorem ca0_sound {E : Env} : SoundC E ca0 := fun f args L k r h => by cases h
/-- A loop's end: of its frame, what is wanted where it goes on. -/
def KCM (ms : List (Nat × Nat)) (r : Nat) : Ex → St → Option Ans := fun e s =>
  canonK (match e with | .ret => r | .exit j => look ms j | .normal => 0 | .panic _ => 0) s fun s => some (.l e s)
theorem SL.byM {E : Env} {ca : CallT} {lo : LoopT} (hC : SoundC E ca) (hX : SoundX E) (hL : SoundL E lo) {id live : Nat} {ms : List (Nat × Nat)} {r : Nat} {c : ACode} {s t : St} {e : Ex} (h : loopK E ca lo id live c s (KCM ms r) = some (.l e t)) : SL E c s e t := by
  obtain ⟨e1, s1, h1, h2⟩ := loop_sound hC hX hL h
  simp only [KCM, canonK_eq, Option.some.injEq, Ans.l.injEq] at h1
  obtain ⟨rfl, rfl⟩ := h1
  exact h2.canon _
/-- Loops whose rounds are taken one by one, so many at most. -/
def loU (E : Env) (ca : CallT) (ids : List Nat) (lo : LoopT) : Nat → LoopT
  | 0 => lo
  | n + 1 => fun id live c s k => if ids.contains id = true then loopK E ca (loU E ca ids lo n) id live c s k else lo id live c s k
theorem loU_sound {E : Env} {ca : CallT} (hC : SoundC E ca) (hX : SoundX E) {ids : List Nat} {lo : LoopT} (hL : SoundL E lo) : ∀ n, SoundL E (loU E ca ids lo n)
  | 0 => hL
  | n + 1 => fun id live c s k r h => by
    simp only [loU] at h
    split at h
    · exact loop_sound hC hX (loU_sound hC hX hL n) h
    · exact hL _ _ _ _ _ _ h
/-- Rounds, so many at most. -/
def lpG {α γ : Type} (st : α → Option (α ⊕ γ)) : Nat → α → Option γ
  | 0, _ => none
  | n + 1, x => (st x).bind fun r => Sum.elim (lpG st n) some r
theorem SL.lp {E : Env} {ca : CallT} {LT : LoopT → LoopT} (hC : SoundC E ca) (hX : SoundX E) (hL : ∀ lo, SoundL E lo → SoundL E (LT lo)) {α γ : Type} {S : α → St} {T : γ → Ex × St} {st : α → Option (α ⊕ γ)} {id live : Nat} {ms : List (Nat × Nat)} {r : Nat} {c : ACode}
    (tr : ∀ lo x, loopK E ca (LT lo) id live c (S x) (KCM ms r) = (st x).bind fun r' => Sum.elim (fun y => lo id live c (S y) (KCM ms r)) (fun z => some (.l (T z).1 (T z).2)) r')
    (kT : ∀ z, KCM ms r (T z).1 (T z).2 = some (.l (T z).1 (T z).2)) : ∀ n x z, lpG st n x = some z → SL E c (S x) (T z).1 (T z).2 := by
  intro n
  induction n with
  | zero => intro x z h; cases h
  | succ n ih =>
    intro x z h
    rw [lpG] at h
    cases hs : st x with
    | none => rw [hs] at h; cases h
    | some q =>
      rw [hs] at h
      cases q with
      | inr z' =>
        simp only [Option.bind_some, Sum.elim_inr, Option.some.injEq] at h
        subst h
        exact SL.byM hC hX (hL _ lo0_sound) ((tr lo0 x).trans (by rw [hs]; rfl))
      | inl y =>
        simp only [Option.bind_some, Sum.elim_inl] at h
        have hy := ih y z h
        let lo : LoopT := fun _ _ c1 s1 k => cl (c1 = c ∧ s1 = S y) (k (T z).1 (T z).2) none
        have hlo : SoundL E lo := by
          intro id live c1 s1 k r hr
          rcases cl_some hr with ⟨⟨rfl, rfl⟩, h1⟩ | ⟨_, h1⟩
          · exact ⟨_, _, h1, hy⟩
          · cases h1
        refine SL.byM hC hX (hL _ hlo) ((tr lo x).trans ?_)
        rw [hs]
        exact (cl_pos ⟨rfl, rfl⟩).trans (kT z)
theorem lpG_succ {α γ : Type} {st : α → Option (α ⊕ γ)} {n : Nat} {x : α} : lpG st (n + 1) x = (st x).bind fun r => Sum.elim (lpG st n) some r := rfl
/-- More rounds do no harm. -/
theorem lpG_mono {α γ : Type} {st st' : α → Option (α ⊕ γ)} (hst : ∀ x r, st x = some r → st' x = some r) : ∀ {n m : Nat}, n ≤ m → ∀ {x : α} {z : γ}, lpG st n x = some z → lpG st' m x = some z
  | 0, _, _, _, _, h => by cases h
  | n + 1, 0, hm, _, _, _ => absurd hm (by omega)
  | n + 1, m + 1, hm, x, z, h => by
    rw [lpG_succ] at h ⊢
    cases hs : st x with
    | none => rw [hs] at h; cases h
    | some q =>
      rw [hs] at h
      rw [hst x q hs]
      cases q with
      | inr z' => exact h
      | inl y => exact lpG_mono hst (Nat.le_of_succ_le_succ hm) h
/-! ### Parts of values -/
def vI : V → Int | .sc (.int _ n) => n | _ => 0
def vB : V → Bool | .sc (.bool b) => b | _ => false
def vS : V → ByteArray | .sc (.string s) => s | _ => ByteArray.empty
def vAg : V → List V | .agg l => l | _ => []
def vTu : V → List V | .tup l => l | _ => []
def vRp : V → List V | .rp l => l | _ => []
def vFn : V → List V | .fn _ l => l | _ => []
def vIf : V → V | .ifc _ v => v | v => v
def vRoN : V → Nat | .ro _ n _ => n | _ => 0
def vRoF : V → Nat → List V | .ro _ _ f => f | _ => fun _ => []
def vSlO : V → Nat | .sl _ _ o _ => o | _ => 0
def vSlN : V → Nat | .sl _ _ _ n => n | _ => 0
def chB : Option Chunk → List V | some (.blk l) => l | _ => []
def chN : Option Chunk → Nat | some (.row _ _ n _) => n | _ => 0
def chF : Option Chunk → Nat → List V | some (.row _ _ _ f) => f | _ => fun _ => []
def chS : Option Chunk → ByteArray | some (.iter s _) => s | _ => ByteArray.empty
def chP : Option Chunk → Nat | some (.iter _ p) => p | _ => 0
def chM : Option Chunk → List (Int × V) | some (.map l) => l | _ => []

def smN : Option Chunk → Nat | some (.smap n _ _) => n | _ => 0
def smH : Option Chunk → ByteArray → Bool | some (.smap _ g _) => g | _ => fun _ => false
def smF : Option Chunk → ByteArray → V | some (.smap _ _ f) => f | _ => fun _ => .junk

/-! ### What goes on behind, taken out -/
theorem free_bind {α β γ : Type} {o : Option α} {f : α → Option β} {g : α → Option γ} {k : γ → Option β} (h : ∀ z, f z = (g z).bind k) : o.bind f = (o.bind g).bind k := by
  cases o with
  | none => rfl
  | some z => exact h z
theorem free_ite {c : Prop} [Decidable c] {β γ : Type} {a b : Option β} {a' b' : Option γ} {k : γ → Option β} (h1 : a = a'.bind k) (h2 : b = b'.bind k) : ite c a b = (ite c a' b').bind k := by
  split
  · exact h1
  · exact h2
theorem free_sum {α1 α2 β γ : Type} {f1 : α1 → Option β} {f2 : α2 → Option β} {g1 : α1 → Option γ} {g2 : α2 → Option γ} {k : γ → Option β} {z : α1 ⊕ α2} (h1 : ∀ z, f1 z = (g1 z).bind k) (h2 : ∀ z, f2 z = (g2 z).bind k) : Sum.elim f1 f2 z = (Sum.elim g1 g2 z).bind k := by
  cases z with
  | inl z => exact h1 z
  | inr z => exact h2 z
theorem free_none {β γ : Type} {k : γ → Option β} : (none : Option β) = (none : Option γ).bind k := rfl
theorem free_some {β γ : Type} {k : γ → Option β} {z : γ} : k z = (some z).bind k := rfl
end Go.Am
