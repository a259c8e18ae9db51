/- Texts joined. -/
import Derived.Test.YtniogljhkjbcgaaDoorQB
/- The quick executor, and that it is the executor. -/
namespace Go.Am
open Go
set_option linter.unusedSimpArgs false
set_option linter.unusedVariables false

abbrev OV := List (Nat × Option Chunk)
/-- Memory: what has changed, the newest first, over what was there. -/
noncomputable def lkp (hb : Hp) (ov : OV) : Hp := fun i => List.rec (motive := fun _ => Option Chunk) (hb i) (fun p _ ih => Prod.rec (motive := fun _ => Option Chunk) (fun j c => Bool.rec (motive := fun _ => Option Chunk) ih c (Nat.beq j i)) p) ov
theorem lkp_nil (hb : Hp) : lkp hb [] = hb := rfl
theorem lkp_cons (hb : Hp) (i : Nat) (c : Option Chunk) (ov : OV) : lkp hb ((i, c) :: ov) = upd (lkp hb ov) i c := by
  funext j
  show (Bool.rec (motive := fun _ => Option Chunk) (lkp hb ov j) c (Nat.beq i j) : Option Chunk) = if j = i then c else lkp hb ov j
  cases h : Nat.beq i j with
  | false => rw [if_neg (fun e => by subst e; simp at h)]
  | true => rw [if_pos (Nat.eq_of_beq_eq_true h).symm]
noncomputable def forceS {α : Type} (l : Nat) (k : Nat → α) : α := Nat.rec (motive := fun _ => α) (k 0) (fun n _ => k (Nat.succ n)) l
theorem forceS_eq {α : Type} (l : Nat) (k : Nat → α) : forceS l k = k l := by cases l <;> rfl
noncomputable def pushQ : List (Nat × Option Chunk) → OV → (OV → Option Ans) → Option Ans
  | [], ov, k => k ov
  | (i, c) :: l, ov, k => fC c fun c => pushQ l ((i, c) :: ov) k
theorem pushQ_spec (hb : Hp) : ∀ (us : List (Nat × Option Chunk)) (ov : OV) (k : OV → Option Ans), ∃ ov', pushQ us ov k = k ov' ∧ lkp hb ov' = updL (lkp hb ov) us
  | [], ov, k => ⟨ov, rfl, rfl⟩
  | (i, c) :: l, ov, k => by
    obtain ⟨ov', e1, e2⟩ := pushQ_spec hb l ((i, c) :: ov) k
    exact ⟨ov', by rw [pushQ, fC_eq]; exact e1, by rw [e2, lkp_cons]; rfl⟩
noncomputable def evQ (E : Env) (T : FT) : Operand → V
  | .tmp t => T.get t
  | .const v => ofVal1 v
  | .global g => match E.glob g with | some cs => .rp cs | none => .junk
  | .func f => .fn f []
theorem evQ_eq (E : Env) {T : FT} {n : Nat} (h : T.Inv n) : evQ E T = evA E (T.toL n) := by
  funext x
  cases x with
  | tmp t => exact (FT.toL_getD h t).symm
  | const v => rfl
  | global g => rfl
  | func f => rfl
noncomputable def guardQ (g : Option (Nat × Bool)) (ops : List Oper) (T : FT) (k : Bool → FT → Option Ans) : Option Ans :=
  match g with
  | none => k true T
  | some (j, b) => match ops[j]? with
    | some o => match o.dst with
      | some t => match T.get t with
        | .sc v => match v with
          | .bool c => if c = true then T.setK t (.sc (.bool true)) fun T => k b T else T.setK t (.sc (.bool false)) fun T => k (!b) T
          | _ => k false T
        | _ => none
      | none => none
    | none => none
theorem guardQ_eq {g : Option (Nat × Bool)} {ops : List Oper} {T : FT} {n : Nat} {k : Bool → FT → Option Ans} {K : Bool → List V → Option Ans} (h : T.Inv n) (hk : ∀ b T, T.Inv n → k b T = K b (T.toL n)) : guardQ g ops T k = guardR g ops (T.toL n) K := by
  unfold guardQ guardR
  cases g with
  | none => exact hk _ _ h
  | some p =>
    obtain ⟨j, b⟩ := p
    simp only
    cases ops[j]? with
    | none => rfl
    | some o =>
      simp only
      cases o.dst with
      | none => rfl
      | some t =>
        simp only [FT.toL_getD h]
        cases T.get t <;> try rfl
        rename_i v
        cases v <;> (try exact hk _ _ h)
        rename_i c
        simp only [FT.setK_eq, setK_eq]
        cases c
        · simp only [Bool.false_eq_true, if_false]; rw [hk _ _ (FT.inv_set h), FT.toL_set h]
        · simp only [if_true]; rw [hk _ _ (FT.inv_set h), FT.toL_set h]
noncomputable def putQ (T : FT) (d : Option Tmp) (v : V) (k : FT → Option Ans) : Option Ans :=
  match d with
  | some t => T.setK t v k
  | none => k T
noncomputable def doneQ (T : FT) (ov : OV) (d : Option Tmp) (v : V) (us : List (Nat × Option Chunk)) (k : FT → OV → Option Ans) : Option Ans :=
  fV v fun v => putQ T d v fun T => pushQ us ov fun ov => k T ov
noncomputable def absQ (T : FT) (n : Nat) (ov : OV) (hb : Hp) (nx rt : Nat) (me : FuncId) : St := { fr := T.toL n, H := lkp hb ov, nx := nx, rt := rt, me := me }
theorem doneQ_eq {T : FT} {n : Nat} {ov : OV} {hb : Hp} {nx rt : Nat} {me : FuncId} {d : Option Tmp} {v : V} {us : List (Nat × Option Chunk)} {k : FT → OV → Option Ans} {K : St → Option Ans} (h : T.Inv n)
    (hk : ∀ T ov, T.Inv n → k T ov = K (absQ T n ov hb nx rt me)) : doneQ T ov d v us k = doneK (absQ T n ov hb nx rt me) d v us K := by
  have key : ∀ T', T'.Inv n → pushQ us ov (fun ov => k T' ov) = K { fr := T'.toL n, H := updL (lkp hb ov) us, nx := nx, rt := rt, me := me } := by
    intro T' h'
    obtain ⟨ov', e1, e2⟩ := pushQ_spec hb us ov (fun ov => k T' ov)
    rw [e1, hk _ _ h', ← e2]; rfl
  unfold doneQ
  rw [fV_eq, doneK_eq]
  cases d with
  | none => exact key T h
  | some t =>
    show T.setK t v _ = _
    rw [FT.setK_eq, key _ (FT.inv_set h), FT.toL_set h]
    rfl
/-- What a region's end is told. -/
abbrev KS := Ex → FT → OV → Nat → Option Ans
noncomputable def stepOpsQ (E : Env) (ca : CallT) (ops : List Oper) (hb : Hp) (nx : Nat) (me : FuncId) : List Oper → Nat → FT → OV → KS → Option Ans
  | [], nw, T, ov, k => k .normal T ov nw
  | o :: rest, nw, T, ov, k =>
    guardQ o.guard ops T fun b T =>
      match b with
      | true =>
        opK E.P E.push E.rows o (evQ E T) (lkp hb ov) nw fun r =>
          match r with
          | .val v us => (match isLit o.op with
            | true => doneQ T ov o.dst (litV (E.lit me) (lkp hb ov) v us) (litU (E.lit me) v us) fun T ov => forceS (Nat.add nw wide) fun nw => stepOpsQ E ca ops hb nx me rest nw T ov k
            | false => doneQ T ov o.dst v us fun T ov => forceS (Nat.add nw wide) fun nw => stepOpsQ E ca ops hb nx me rest nw T ov k)
          | .pan v us => pushQ us ov fun ov => k (.panic v) T ov nw
          | .call f args => doCall E ca me f args (lkp hb ov) nw fun r =>
            match r with
            | .val v us => doneQ T ov o.dst v us fun T ov => forceS (Nat.add nw wide) fun nw => stepOpsQ E ca ops hb nx me rest nw T ov k
            | .pan v us => pushQ us ov fun ov => k (.panic v) T ov nw
            | .call _ _ => none
            | .dfr _ _ => none
          | .dfr f cs => match E.dfn me && (E.idle f == some cs.length) with
            | true => doneQ T ov o.dst (.sc undef) [] fun T ov => forceS (Nat.add nw wide) fun nw => stepOpsQ E ca ops hb nx me rest nw T ov k
            | false => none
      | false => doneQ T ov o.dst (.sc undef) [] fun T ov => forceS (Nat.add nw wide) fun nw => stepOpsQ E ca ops hb nx me rest nw T ov k
theorem stepOpsQ_eq {E : Env} {ca : CallT} {ops : List Oper} {hb : Hp} {nx rt n : Nat} {me : FuncId} {base : Nat} {k : KS} {K : KX} (hk : ∀ e T ov nx, T.Inv n → k e T ov nx = K e (absQ T n ov hb nx rt me)) :
    ∀ (l : List Oper) (i nw : Nat) (T : FT) (ov : OV), nw = base + i * wide → T.Inv n → stepOpsQ E ca ops hb nx me l nw T ov k = stepOps E ca ops base i l (absQ T n ov hb nx rt me) K
  | [], i, nw, T, ov, hw, h => by subst hw; exact hk _ _ _ _ h
  | o :: rest, i, nw, T, ov, hw, h => by
    have ih : ∀ T ov, T.Inv n → (forceS (Nat.add nw wide) fun nw => stepOpsQ E ca ops hb nx me rest nw T ov k) = stepOps E ca ops base (i + 1) rest (absQ T n ov hb nx rt me) K := fun T ov h => by
      rw [forceS_eq]
      exact stepOpsQ_eq hk rest (i + 1) _ T ov (by subst hw; show base + i * wide + wide = _; rw [Nat.add_mul, Nat.one_mul, Nat.add_assoc]) h
    rw [stepOpsQ, stepOps]
    refine guardQ_eq h fun b T h => ?_
    cases b with
    | false =>
      rw [if_neg Bool.false_ne_true]
      exact doneQ_eq h ih
    | true =>
      rw [if_pos rfl]
      simp only [evQ_eq E h]
      show opK E.P E.push E.rows o (evA E (T.toL n)) (lkp hb ov) nw _ = opK E.P E.push E.rows o (evA E (T.toL n)) (lkp hb ov) (base + i * wide) _
      subst hw
      congr 1
      funext r
      cases r with
      | val v us =>
        simp only
        cases hl : isLit o.op with
        | true => simp only [Bool.and_true]; exact doneQ_eq (rt := rt) h ih
        | false => simp only [Bool.and_false]; exact doneQ_eq (rt := rt) h ih
      | pan v us =>
        obtain ⟨ov', e1, e2⟩ := pushQ_spec hb us ov (fun ov => k (.panic v) T ov (base + i * wide))
        show pushQ us ov _ = _
        rw [e1, hk _ _ _ _ h]
        unfold absQ
        rw [e2]
      | call f args =>
        show doCall E ca me f args (lkp hb ov) (base + i * wide) _ = doCall E ca me f args (lkp hb ov) (base + i * wide) _
        congr 1
        funext r
        cases r with
        | val v us => exact doneQ_eq (rt := rt) h ih
        | pan v us =>
          obtain ⟨ov', e1, e2⟩ := pushQ_spec hb us ov (fun ov => k (.panic v) T ov (base + i * wide))
          show pushQ us ov _ = _
          rw [e1, hk _ _ _ _ h]
          unfold absQ
          rw [e2]
        | call f args => rfl
        | dfr f cs => rfl
      | dfr f cs =>
        show (match E.dfn me && (E.idle f == some cs.length) with | true => _ | false => none) = (match E.dfn me && (E.idle f == some cs.length) with | true => _ | false => none)
        cases E.dfn me && (E.idle f == some cs.length) with
        | true => exact doneQ_eq (rt := rt) h ih
        | false => rfl
noncomputable def vwQ (E : Env) (b : Nat) (T : FT) (h : Hp) (o : Oper) (k : Vw → Option Ans) : Option Ans :=
  fNL (if isCall o.op then reach h deep (idsL (o.op.operands.toList.map (evQ E T))) [] else if looksIn o.op then idsL (o.op.operands.toList.map (evQ E T)) ++ chIds h (idsL (o.op.operands.toList.map (evQ E T))) else idsL (o.op.operands.toList.map (evQ E T))) fun l => k ⟨b, some l⟩
theorem vwQ_eq (E : Env) {b n : Nat} {T : FT} {h : Hp} {o : Oper} {k : Vw → Option Ans} (hi : T.Inv n) : vwQ E b T h o k = vwK E b (T.toL n) h o k := by
  unfold vwQ vwK nearIds opIds
  rw [evQ_eq E hi]
noncomputable def stepDQ (E : Env) (ca : CallT) (ops : List Oper) (befs : List Nat) (base : Nat) (hb : Hp) (nx : Nat) (me : FuncId) : List Oper → Nat → Nat → List (Nat × Bool × Vw × List Nat) → FT → OV → KS → Option Ans
  | [], i, nw, _, T, ov, k => k .normal T ov nw
  | o :: rest, i, nw, done, T, ov, k =>
    guardQ o.guard ops T fun b T =>
      match b with
      | true =>
        vwQ E (befs.getD i 0) T (lkp hb ov) o fun vw =>
        opK E.P E.push E.rows o (evQ E T) (visH base vw (lkp hb ov)) nw fun r =>
          match r with
          | .val v us =>
            if seenOk base vw nw v us && pairsOk ops base o vw (us.map (·.1)) done then
              doneQ T ov o.dst v us fun T ov => forceS (Nat.succ i) fun i' => forceS (Nat.add nw wide) fun nw => stepDQ E ca ops befs base hb nx me rest i' nw ((i, readsOp o.op, vw, us.map (·.1)) :: done) T ov k
            else none
          | .pan _ _ => none
          | .dfr _ _ => none
          | .call f args => doCall E ca me f args (visH base vw (lkp hb ov)) nw fun r =>
            match r with
            | .val v us =>
              if readsOp o.op && (seenOk base vw nw v us && pairsOk ops base o vw (us.map (·.1)) done) then
                doneQ T ov o.dst v us fun T ov => forceS (Nat.succ i) fun i' => forceS (Nat.add nw wide) fun nw => stepDQ E ca ops befs base hb nx me rest i' nw ((i, readsOp o.op, vw, us.map (·.1)) :: done) T ov k
              else none
            | _ => none
      | false =>
        if pairsOk ops base o ⟨befs.getD i 0, some []⟩ [] done then
          doneQ T ov o.dst (.sc undef) [] fun T ov => forceS (Nat.succ i) fun i' => forceS (Nat.add nw wide) fun nw => stepDQ E ca ops befs base hb nx me rest i' nw ((i, readsOp o.op, ⟨befs.getD i 0, some []⟩, []) :: done) T ov k
        else none
theorem stepDQ_eq {E : Env} {ca : CallT} {ops : List Oper} {befs : List Nat} {hb : Hp} {nx rt n : Nat} {me : FuncId} {base : Nat} {k : KS} {K : KX} (hk : ∀ e T ov nx, T.Inv n → k e T ov nx = K e (absQ T n ov hb nx rt me)) :
    ∀ (l : List Oper) (i nw : Nat) (done : List (Nat × Bool × Vw × List Nat)) (T : FT) (ov : OV), nw = base + i * wide → T.Inv n → stepDQ E ca ops befs base hb nx me l i nw done T ov k = stepD E ca ops befs base i l done (absQ T n ov hb nx rt me) K
  | [], i, nw, done, T, ov, hw, h => by subst hw; exact hk _ _ _ _ h
  | o :: rest, i, nw, done, T, ov, hw, h => by
    have ih : ∀ done T ov, T.Inv n → (forceS (Nat.succ i) fun i' => forceS (Nat.add nw wide) fun nw => stepDQ E ca ops befs base hb nx me rest i' nw done T ov k) = stepD E ca ops befs base (i + 1) rest done (absQ T n ov hb nx rt me) K := fun done T ov h => by
      rw [forceS_eq, forceS_eq]
      exact stepDQ_eq hk rest (i + 1) _ done T ov (by subst hw; show base + i * wide + wide = _; rw [Nat.add_mul, Nat.one_mul, Nat.add_assoc]) h
    rw [stepDQ, stepD]
    refine guardQ_eq h fun b T h => ?_
    cases b with
    | false =>
      rw [if_neg Bool.false_ne_true]
      by_cases hp : pairsOk ops base o ⟨befs.getD i 0, some []⟩ [] done = true
      · rw [if_pos hp, if_pos hp]
        exact doneQ_eq h (ih _)
      · rw [if_neg hp, if_neg hp]
    | true =>
      rw [if_pos rfl]
      subst hw
      refine (vwQ_eq E h).trans ?_
      show vwK E (befs.getD i 0) (T.toL n) (lkp hb ov) o _ = vwK E (befs.getD i 0) (T.toL n) (lkp hb ov) o _
      congr 1
      funext vw
      simp only [evQ_eq E h]
      show opK E.P E.push E.rows o (evA E (T.toL n)) (visH base vw (lkp hb ov)) (base + i * wide) _ = opK E.P E.push E.rows o (evA E (T.toL n)) (visH base vw (lkp hb ov)) (base + i * wide) _
      congr 1
      funext r
      cases r with
      | val v us =>
        simp only
        by_cases hp : (seenOk base vw (base + i * wide) v us && pairsOk ops base o vw (us.map (·.1)) done) = true
        · rw [if_pos hp, if_pos hp]; exact doneQ_eq (rt := rt) h (ih _)
        · rw [if_neg hp, if_neg hp]
      | pan v us => rfl
      | dfr f cs => rfl
      | call f args =>
        show doCall E ca me f args (visH base vw (lkp hb ov)) (base + i * wide) _ = doCall E ca me f args (visH base vw (lkp hb ov)) (base + i * wide) _
        congr 1
        funext r
        cases r with
        | val v us =>
          simp only
          by_cases hp : (readsOp o.op && (seenOk base vw (base + i * wide) v us && pairsOk ops base o vw (us.map (·.1)) done)) = true
          · rw [if_pos hp, if_pos hp]; exact doneQ_eq (rt := rt) h (ih _)
          · rw [if_neg hp, if_neg hp]
        | pan v us => rfl
        | call f args => rfl
        | dfr f cs => rfl
/-- A state of lists seen as one of trees. -/
noncomputable def ofStQ (s : St) (k : FT → Nat → OV → Hp → Nat → Nat → FuncId → Option Ans) : Option Ans :=
  match s with
  | ⟨fr, H, nx, rt, me⟩ => FT.ofK fr 0 .e fun T n => k T n [] H nx rt me
theorem ofStQ_eq {s : St} {k : FT → Nat → OV → Hp → Nat → Nat → FuncId → Option Ans} {K : St → Option Ans} (hk : ∀ T n ov hb nx rt me, T.Inv n → k T n ov hb nx rt me = K (absQ T n ov hb nx rt me)) : ofStQ s k = K s := by
  obtain ⟨fr, H, nx, rt, me⟩ := s
  obtain ⟨T, e1, e2, e3⟩ := FT.ofK_spec fr 0 .e (fun T n => k T n [] H nx rt me) FT.inv_e
  show FT.ofK fr 0 .e _ = _
  rw [e1, hk _ _ _ _ _ _ _ e2]
  unfold absQ
  rw [e3, lkp_nil]
  simp [FT.toL]
noncomputable def settleQ (on : Bool) (c : Operand) (b : Bool) (T : FT) (k : FT → Option Ans) : Option Ans :=
  match on with
  | true => match c with
    | .tmp t => T.setK t (.sc (.bool b)) k
    | _ => k T
  | false => k T
noncomputable def toLK (T : FT) : Nat → List V → (List V → Option Ans) → Option Ans
  | 0, l, k => k l
  | n + 1, l, k => toLK T n (T.get n :: l) k
theorem toLK_eq (T : FT) : ∀ (n : Nat) (l : List V) (k : List V → Option Ans), toLK T n l k = k (T.toL n ++ l)
  | 0, l, k => by simp [toLK, FT.toL]
  | n + 1, l, k => by rw [toLK, toLK_eq T n]; simp [FT.toL, List.range_succ]
noncomputable def canonQ (live : Nat) (T : FT) (n : Nat) (ov : OV) (hb : Hp) (nx rt : Nat) (me : FuncId) (k : St → Option Ans) : Option Ans :=
  toLK T n [] fun l => fL (zap live 0 l) fun z =>
  fNL (reach (lkp hb ov) deep (chIds (lkp hb ov) (List.range rt) ++ idsL z) (List.range rt)) fun order =>
  fL (renL (posOf order) z) fun fr => fCL (keep (lkp hb ov) order) fun l => forceS order.length fun nx => k { fr := fr, H := hp l, nx := nx, rt := rt, me := me }
theorem canonQ_eq {live : Nat} {T : FT} {n : Nat} {ov : OV} {hb : Hp} {nx rt : Nat} {me : FuncId} {k : St → Option Ans} : canonQ live T n ov hb nx rt me k = canonK live (absQ T n ov hb nx rt me) k := by
  unfold canonQ canonK renK
  simp only [toLK_eq, fL_eq, fNL_eq, fCL_eq, forceS_eq, List.append_nil]
  rfl
abbrev KQ := Ex → FT → Nat → OV → Hp → Nat → Nat → FuncId → Option Ans
noncomputable def execQ (E : Env) (ca : CallT) (lo : LoopT) : ACode → FT → Nat → OV → Hp → Nat → Nat → FuncId → KQ → Option Ans
  | .skip, T, n, ov, hb, nx, rt, me, k => k .normal T n ov hb nx rt me
  | .region _ ops d, T, n, ov, hb, nx, rt, me, k =>
    match d with
    | true => if drawOk E.P ops then fNL (Region.before ops.toArray).toList fun befs => stepDQ E ca ops befs nx hb nx me ops 0 nx [] T ov fun e T ov nx => k e T n ov hb nx rt me else none
    | false => stepOpsQ E ca ops hb nx me ops nx T ov fun e T ov nx => k e T n ov hb nx rt me
  | .seq a b, T, n, ov, hb, nx, rt, me, k => execQ E ca lo a T n ov hb nx rt me fun e T n ov hb nx rt me => match e with
    | .normal => execQ E ca lo b T n ov hb nx rt me k
    | e => k e T n ov hb nx rt me
  | .cond c x y, T, n, ov, hb, nx, rt, me, k =>
    match evQ E T c with
    | .sc (.bool b) => if b then settleQ (E.sett me) c true T fun T => execQ E ca lo x T n ov hb nx rt me k else settleQ (E.sett me) c false T fun T => execQ E ca lo y T n ov hb nx rt me k
    | _ => none
  | .block id c, T, n, ov, hb, nx, rt, me, k => execQ E ca lo c T n ov hb nx rt me fun e T n ov hb nx rt me => match e with
    | .exit j => if j = id then k .normal T n ov hb nx rt me else k (.exit j) T n ov hb nx rt me
    | e => k e T n ov hb nx rt me
  | .loop id live c, T, n, ov, hb, nx, rt, me, k => canonQ live T n ov hb nx rt me fun s => lo id live c s fun e s => ofStQ s fun T n ov hb nx rt me => k e T n ov hb nx rt me
  | .exit id, T, n, ov, hb, nx, rt, me, k => k (.exit id) T n ov hb nx rt me
  | .ret, T, n, ov, hb, nx, rt, me, k => k .ret T n ov hb nx rt me
  | .no _, _, _, _, _, _, _, _, _ => none
def Sim (k : KQ) (K : KX) : Prop := ∀ e T n ov hb nx rt me, T.Inv n → k e T n ov hb nx rt me = K e (absQ T n ov hb nx rt me)
theorem settleQ_eq {on : Bool} {c : Operand} {b : Bool} {T : FT} {n : Nat} {ov : OV} {hb : Hp} {nx rt : Nat} {me : FuncId} {k : FT → Option Ans} {K : St → Option Ans} (h : T.Inv n) (hk : ∀ T, T.Inv n → k T = K (absQ T n ov hb nx rt me)) :
    settleQ on c b T k = settleK on c b (absQ T n ov hb nx rt me) K := by
  unfold settleQ settleK
  cases on with
  | false => exact hk _ h
  | true =>
    cases c with
    | tmp t => simp only [FT.setK_eq, setK_eq]; rw [hk _ (FT.inv_set h)]; unfold absQ; rw [FT.toL_set h]
    | const v => exact hk _ h
    | global g => exact hk _ h
    | func f => exact hk _ h
theorem execQ_eq {E : Env} {ca : CallT} {lo : LoopT} : ∀ (c : ACode) (T : FT) (n : Nat) (ov : OV) (hb : Hp) (nx rt : Nat) (me : FuncId) (k : KQ) (K : KX), T.Inv n → Sim k K → execQ E ca lo c T n ov hb nx rt me k = execK E ca lo c (absQ T n ov hb nx rt me) K
  | .skip, T, n, ov, hb, nx, rt, me, k, K, h, hk => hk _ _ _ _ _ _ _ _ h
  | .region _ ops d, T, n, ov, hb, nx, rt, me, k, K, h, hk => by
    cases d with
    | false =>
      rw [execQ, execK, if_neg Bool.false_ne_true]
      exact stepOpsQ_eq (fun e T ov nx h => hk e T n ov hb nx rt me h) ops 0 nx T ov (by simp [absQ]) h
    | true =>
      rw [execQ, execK, if_pos rfl]
      by_cases hd : drawOk E.P ops = true
      · rw [if_pos hd, if_pos hd, fNL_eq, fNL_eq]
        exact stepDQ_eq (fun e T ov nx h => hk e T n ov hb nx rt me h) ops 0 nx [] T ov (by simp [absQ]) h
      · rw [if_neg hd, if_neg hd]
  | .seq a b, T, n, ov, hb, nx, rt, me, k, K, h, hk => by
    rw [execQ, execK]
    refine execQ_eq a T n ov hb nx rt me _ _ h fun e T n ov hb nx rt me h => ?_
    cases e with
    | normal => exact execQ_eq b T n ov hb nx rt me k K h hk
    | exit j => exact hk _ _ _ _ _ _ _ _ h
    | ret => exact hk _ _ _ _ _ _ _ _ h
    | panic v => exact hk _ _ _ _ _ _ _ _ h
  | .cond c x y, T, n, ov, hb, nx, rt, me, k, K, h, hk => by
    rw [execQ, execK, evQ_eq E h]
    show (match evA E (T.toL n) c with | .sc (.bool b) => _ | _ => _) = (match evA E (T.toL n) c with | .sc (.bool b) => _ | _ => _)
    cases evA E (T.toL n) c <;> try rfl
    rename_i v
    cases v <;> try rfl
    rename_i b
    cases b with
    | false => exact settleQ_eq (K := fun s => execK E ca lo y s K) h fun T h => execQ_eq y T n ov hb nx rt me k K h hk
    | true => exact settleQ_eq (K := fun s => execK E ca lo x s K) h fun T h => execQ_eq x T n ov hb nx rt me k K h hk
  | .block id c, T, n, ov, hb, nx, rt, me, k, K, h, hk => by
    rw [execQ, execK]
    refine execQ_eq c T n ov hb nx rt me _ _ h fun e T n ov hb nx rt me h => ?_
    cases e with
    | normal => exact hk _ _ _ _ _ _ _ _ h
    | exit j =>
      simp only
      by_cases hj : j = id
      · rw [if_pos hj, if_pos hj]; exact hk _ _ _ _ _ _ _ _ h
      · rw [if_neg hj, if_neg hj]; exact hk _ _ _ _ _ _ _ _ h
    | ret => exact hk _ _ _ _ _ _ _ _ h
    | panic v => exact hk _ _ _ _ _ _ _ _ h
  | .loop id live c, T, n, ov, hb, nx, rt, me, k, K, h, hk => by
    rw [execQ, execK, canonQ_eq]
    congr 1
    funext s
    congr 1
    funext e s
    exact ofStQ_eq fun T n ov hb nx rt me h => hk e T n ov hb nx rt me h
  | .exit id, T, n, ov, hb, nx, rt, me, k, K, h, hk => hk _ _ _ _ _ _ _ _ h
  | .ret, T, n, ov, hb, nx, rt, me, k, K, h, hk => hk _ _ _ _ _ _ _ _ h
  | .no _, _, _, _, _, _, _, _, _, _, _, _ => rfl
noncomputable def loopQ (E : Env) (ca : CallT) (lo : LoopT) (id live : Nat) (c : ACode) (s : St) (k : KX) : Option Ans :=
  ofStQ s fun T n ov hb nx rt me => execQ E ca lo c T n ov hb nx rt me fun e T n ov hb nx rt me => match e with
    | .normal => canonQ live T n ov hb nx rt me fun s => lo id live c s k
    | e => toLK T n [] fun l => k e { fr := l, H := lkp hb ov, nx := nx, rt := rt, me := me }
theorem loopQ_eq {E : Env} {ca : CallT} {lo : LoopT} {id live : Nat} {c : ACode} {s : St} {k : KX} : loopQ E ca lo id live c s k = loopK E ca lo id live c s k := by
  unfold loopQ loopK
  refine ofStQ_eq (K := fun s => execK E ca lo c s fun e s => match e with | .normal => canonK live s fun s => lo id live c s k | e => k e s) fun T n ov hb nx rt me h => execQ_eq c T n ov hb nx rt me _ _ h fun e T n ov hb nx rt me h => ?_
  cases e with
  | normal => exact canonQ_eq
  | exit j => simp only [toLK_eq, List.append_nil]; rfl
  | ret => simp only [toLK_eq, List.append_nil]; rfl
  | panic v => simp only [toLK_eq, List.append_nil]; rfl
noncomputable def callQ (E : Env) (ca : CallT) (lo : LoopT) (f : FuncId) (args : List V) (L : List (Option Chunk)) (k : CRes → Option Ans) : Option Ans :=
  match E.code f with
  | some c => match E.P.funcs[f]? with
    | some fn => fL args fun args => FT.ofK (args ++ List.replicate (fn.ntmps - args.length) (.sc undef)) 0 .e fun T n =>
      forceS (dd [] (idsL args)).length fun rt => if rt ≤ L.length then
        forceS L.length fun nx => execQ E ca lo c T n [] (hp L) nx rt f fun e T n ov hb nx rt me => toLK T n [] fun l => endK E fn k e { fr := l, H := lkp hb ov, nx := nx, rt := rt, me := me }
      else none
    | none => none
  | none => none
theorem callQ_eq {E : Env} {ca : CallT} {lo : LoopT} {f : FuncId} {args : List V} {L : List (Option Chunk)} {k : CRes → Option Ans} : callQ E ca lo f args L k = callK E ca lo f args L k := by
  unfold callQ callK
  cases E.code f with
  | none => rfl
  | some c =>
    simp only
    cases E.P.funcs[f]? with
    | none => rfl
    | some fn =>
      simp only [fL_eq]
      obtain ⟨T, e1, e2, e3⟩ := FT.ofK_spec (args ++ List.replicate (fn.ntmps - args.length) (.sc undef)) 0 .e (fun T n =>
        forceS (dd [] (idsL args)).length fun rt => if rt ≤ L.length then
          forceS L.length fun nx => execQ E ca lo c T n [] (hp L) nx rt f fun e T n ov hb nx rt me => toLK T n [] fun l => endK E fn k e { fr := l, H := lkp hb ov, nx := nx, rt := rt, me := me }
        else none) FT.inv_e
      rw [e1]
      simp only [forceS_eq]
      by_cases hle : (dd [] (idsL args)).length ≤ L.length
      · rw [if_pos hle, if_pos hle, execQ_eq c T _ [] (hp L) L.length _ f _ (endK E fn k) e2 (fun e T n ov hb nx rt me h => by simp only [toLK_eq, List.append_nil]; rfl)]
        unfold absQ
        rw [e3, lkp_nil]
        simp [FT.toL]
      · rw [if_neg hle, if_neg hle]
mutual
noncomputable def callFQ (E : Env) : Nat → CallT
  | 0 => fun _ _ _ _ => none
  | n + 1 => fun f args L k => match callQ E (callFQ E n) (loopFQ E n) f args L (fun r => some (.c r)) with
    | some (.c r) => k r
    | _ => none
noncomputable def loopFQ (E : Env) : Nat → LoopT
  | 0 => fun _ _ _ _ _ => none
  | n + 1 => fun id live c s k => match loopQ E (callFQ E n) (loopFQ E n) id live c s (fun e s => some (.l e s)) with
    | some (.l e s) => k e s
    | _ => none
end
theorem fQ_eq (E : Env) : ∀ n, callFQ E n = callF E n ∧ loopFQ E n = loopF E n
  | 0 => by simp [callFQ, callF, loopFQ, loopF]
  | n + 1 => by
    obtain ⟨h1, h2⟩ := fQ_eq E n
    constructor
    · funext f args L k
      rw [callFQ, callF, h1, h2]
      simp only [callQ_eq]
      rfl
    · funext id live c s k
      rw [loopFQ, loopF, h1, h2]
      simp only [loopQ_eq]
      rfl
theorem SC.closedQ {E : Env} (hW : WF E) (hX : SoundX E) (n : Nat) {f : FuncId} {args : List V} {L : List (Option Chunk)} {cr : CRes} (h : callFQ E n f args L (fun r => some (.c r)) = some (.c cr)) : SC E f args L cr :=
  SC.closed hW hX n (by rw [← (fQ_eq E n).1]; exact h)
end Go.Am
/- What comes in, where it is bounded: strings and slices no longer than what is read weighs. -/
namespace Go.Am
open Go Go.RowKit
set_option linter.unusedSimpArgs false
set_option linter.unusedVariables false
/-- Strings and rows are so long at most, so far down. -/
def SmV (B : Nat) : Nat → List V → Prop
  | 0, _ => False
  | d + 1, l => ∀ v ∈ l, match v with
    | .sc (.string s) => s.size ≤ B
    | .ro _ n f => n ≤ B ∧ ∀ j, j < n → SmV B d (f j)
    | .agg m => SmV B d m
    | _ => True
theorem SmV.succ {B : Nat} : ∀ {d : Nat} {l : List V}, SmV B d l → SmV B (d + 1) l
  | 0, _, h => h.elim
  | d + 1, l, h => by
    intro v hv
    have := h v hv
    split
    · exact this
    · exact ⟨this.1, fun j hj => SmV.succ (this.2 j hj)⟩
    · exact SmV.succ this
    · trivial
theorem SmV.app {B d : Nat} {a b : List V} (h : SmV B d a) (g : SmV B d b) : SmV B d (a ++ b) := by
  cases d with
  | zero => exact h.elim
  | succ d =>
    intro v hv
    rcases List.mem_append.1 hv with hv | hv
    · exact h v hv
    · exact g v hv
theorem SmV.nil {B d : Nat} : SmV B (d + 1) [] := fun v hv => by cases hv
theorem SmV.left {B d : Nat} {a b : List V} (h : SmV B d (a ++ b)) : SmV B d a := by
  cases d with
  | zero => exact h.elim
  | succ d => exact fun v hv => h v (List.mem_append_left _ hv)
theorem SmV.right {B d : Nat} {a b : List V} (h : SmV B d (a ++ b)) : SmV B d b := by
  cases d with
  | zero => exact h.elim
  | succ d => exact fun v hv => h v (List.mem_append_right _ hv)
theorem SmV.str {B d : Nat} {l : List V} {s : ByteArray} (h : SmV B d l) (hm : V.sc (.string s) ∈ l) : s.size ≤ B := by
  cases d with
  | zero => exact h.elim
  | succ d => exact h _ hm
theorem SmV.row {B d : Nat} {l : List V} {c n : Nat} {f : Nat → List V} (h : SmV B (d + 1) l) (hm : V.ro c n f ∈ l) : n ≤ B ∧ ∀ j, j < n → SmV B d (f j) := h _ hm
theorem SmV.row' {B d : Nat} {l : List V} {c n : Nat} {f : Nat → List V} (h : SmV B d l) (hm : V.ro c n f ∈ l) : n ≤ B ∧ ∃ d', ∀ j, j < n → SmV B d' (f j) := by
  cases d with
  | zero => exact h.elim
  | succ d => exact ⟨(h _ hm).1, d, (h _ hm).2⟩
/-- What is read is bounded, by its type. -/
structure SzOk {H : Type} (P : Program) (B : Nat) (Q : TypeId → DataW H → Prop) : Prop where
  str : ∀ t l, Q t (.lit (.string l)) → l.length ≤ B
  sl : ∀ t e es r, P.underlying t = some (.slice e) → Q t (.slice es r) → es.length * P.bytesOf e ≤ B ∧ ∀ d ∈ es, Q e d
  st : ∀ t fs l, P.underlying t = some (.struct fs) → Q t (.agg l) → ∀ (i : Nat) (f : Field) d, fs.toList[i]? = some f → l[i]? = some d → Q f.type d
  ar : ∀ t n e l, P.underlying t = some (.array n e) → Q t (.agg l) → ∀ d ∈ l, Q e d
/-- Elements of slices take room. -/
def bytesB (P : Program) : Bool := (List.range P.types.size).all fun t => match P.underlying t with
  | some (.slice e) => decide (1 ≤ P.bytesOf e) || P.cellsOf e == 0
  | _ => true
theorem mapM_at {α β : Type} {f : α → Option β} : ∀ {l : List α} {ys : List β}, l.mapM f = some ys → ys.length = l.length ∧ ∀ (i : Nat) x, l[i]? = some x → ∃ y, ys[i]? = some y ∧ f x = some y
  | [], ys, h => by
    simp only [List.mapM_nil] at h
    cases h
    exact ⟨rfl, fun i x hx => by simp at hx⟩
  | a :: l, ys, h => by
    rw [List.mapM_cons] at h
    cases ha : f a with
    | none => rw [ha] at h; simp at h
    | some y =>
      rw [ha] at h
      cases hl : l.mapM f with
      | none => rw [hl] at h; simp at h
      | some zs =>
        rw [hl] at h
        simp at h
        subst h
        obtain ⟨e, g⟩ := mapM_at hl
        refine ⟨by simp [e], fun i x hx => ?_⟩
        cases i with
        | zero => simp only [List.getElem?_cons_zero, Option.some.injEq] at hx; subst hx; exact ⟨y, rfl, ha⟩
        | succ i =>
          obtain ⟨z, h1, h2⟩ := g i x (by simpa using hx)
          exact ⟨z, by simpa using h1, h2⟩
theorem mapM_memB {α β : Type} {f : α → Option β} {l : List α} {ys : List β} (h : l.mapM f = some ys) : ys.length = l.length ∧ ∀ x ∈ l, ∃ y ∈ ys, f x = some y := by
  obtain ⟨h1, h2⟩ := mapM_at h
  refine ⟨h1, fun x hx => ?_⟩
  obtain ⟨i, hi⟩ := List.mem_iff_getElem?.1 hx
  obtain ⟨y, g1, g2⟩ := h2 i x hi
  exact ⟨y, List.mem_iff_getElem?.2 ⟨i, g1⟩, g2⟩
theorem cat_piecesB {S : Pr} {w : World} {cs : List Value} {n : Nat} {p : List V → Prop} {q : List V → Prop} (hq : ∀ a b, q a → q b → q (a ++ b)) (hn : n ≤ cs.length) (h : ∃ vs, Gd S w vs (cs.take n) ∧ p vs ∧ q vs) {ps : List (List V → Prop)} (g : ∃ vs, Gd S w vs (cs.drop n) ∧ Cat ps vs ∧ q vs) :
    ∃ vs, Gd S w vs cs ∧ Cat (p :: ps) vs ∧ q vs := by
  obtain ⟨a, ha, pa, qa⟩ := h
  obtain ⟨b, hb, pb, qb⟩ := g
  exact ⟨a ++ b, by have := ha.app hb; rwa [List.take_append_drop] at this, ⟨a, b, rfl, pa, pb⟩, hq _ _ qa qb⟩

theorem open_cellsB {H : Type} {enc : TypeId × Value → H} {P : Program} {w : World} {sp : Nat → Bool} {held : Bool} (hp : packB P = true) (hby : bytesB P = true) {B : Nat} {Q : TypeId → DataW H → Prop} (hb : SzOk P B Q) :
    ∀ (d : Nat) (t : TypeId) (cs : List Value) (x : DataW H × List MemPlace), t < P.types.size → DataW.trod enc P w 0 sp held d t cs = some x → Q t x.1 → ∃ vs, Gd (· < w.heap.size) w vs cs ∧ WT P d t vs ∧ SmV B d vs := by
  intro d
  induction d with
  | zero => intro t cs x _ h; simp [DataW.trod] at h
  | succ d ih =>
    intro t cs x ht h hx
    have nil1 : ∀ {q : Value}, (∀ s, q ≠ .string s) → SmV B (d + 1) [.sc q] := fun {q} hq v hv => by
      simp only [List.mem_singleton] at hv
      subst hv
      cases q <;> first | trivial | exact absurd rfl (hq _)
    have fields : ∀ (fs : List Field) (o m : Nat) (cs : List Value), packL P fs o = some m → cs.length = m →
        (∀ f ∈ fs, ∃ y, DataW.trod enc P w 0 sp held d f.type ((cs.drop f.offset).take (P.cellsOf f.type)) = some y ∧ Q f.type y.1) →
        ∃ vs, Gd (· < w.heap.size) w vs (cs.drop o) ∧ Cat (fs.map fun f => WT P d f.type) vs ∧ SmV B (d + 1) vs := by
      intro fs
      induction fs with
      | nil =>
        intro o m cs hp hl _
        simp only [packL, Option.some.injEq] at hp
        subst hp
        refine ⟨[], ?_, rfl, SmV.nil⟩
        rw [List.drop_of_length_le (by omega)]
        exact Gd.nil
      | cons f fs ihf =>
        intro o m cs hp hl hm
        simp only [packL] at hp
        split at hp
        · rename_i ho
          obtain ⟨ho, hft⟩ := ho
          obtain ⟨y, hy, hyB⟩ := hm f (.head _)
          have hle : o + P.cellsOf f.type ≤ m := by
            have : ∀ (l : List Field) (o m : Nat), packL P l o = some m → o ≤ m := by
              intro l
              induction l with
              | nil => intro o m h; simp only [packL, Option.some.injEq] at h; omega
              | cons g l ih => intro o m h; simp only [packL] at h; split at h; have := ih _ _ h; omega; cases h
            exact this _ _ _ hp
          refine cat_piecesB (n := P.cellsOf f.type) (fun _ _ h g => SmV.app h g) (by simp only [List.length_drop]; omega) ?_ ?_
          · rw [ho] at hy
            obtain ⟨vs, g1, g2, g3⟩ := ih _ _ _ hft hy hyB
            exact ⟨vs, g1, g2, g3.succ⟩
          · rw [List.drop_drop]
            exact ihf _ _ _ hp hl fun g hg => hm g (.tail _ hg)
        · cases hp
    have items : ∀ (n : Nat) (e : TypeId) (cs : List Value), e < P.types.size → cs.length = n * P.cellsOf e →
        (∀ i, i < n → ∃ y, DataW.trod enc P w 0 sp held d e ((cs.drop (i * P.cellsOf e)).take (P.cellsOf e)) = some y ∧ Q e y.1) →
        ∃ vs, Gd (· < w.heap.size) w vs cs ∧ Cat ((List.replicate n e).map fun e => WT P d e) vs ∧ SmV B (d + 1) vs := by
      intro n
      induction n with
      | zero =>
        intro e cs _ hl _
        have : cs = [] := List.length_eq_zero_iff.1 (by omega)
        subst this
        exact ⟨[], Gd.nil, rfl, SmV.nil⟩
      | succ n ihn =>
        intro e cs het hl h
        simp only [List.replicate_succ, List.map_cons]
        refine cat_piecesB (n := P.cellsOf e) (fun _ _ h g => SmV.app h g) (by rw [hl, Nat.add_mul]; omega) ?_ ?_
        · obtain ⟨y, hy, hyB⟩ := h 0 (by omega)
          simp only [Nat.zero_mul, List.drop_zero] at hy
          obtain ⟨vs, g1, g2, g3⟩ := ih _ _ _ het hy hyB
          exact ⟨vs, g1, g2, g3.succ⟩
        · refine ihn e _ het (by rw [List.length_drop, hl, Nat.add_mul]; omega) fun i hi => ?_
          obtain ⟨y, hy, hyB⟩ := h (i + 1) (by omega)
          refine ⟨y, ?_, hyB⟩
          rw [List.drop_drop, show P.cellsOf e + i * P.cellsOf e = (i + 1) * P.cellsOf e by rw [Nat.add_mul]; omega]
          exact hy
    have hpk : ∀ x, P.underlying t = some x → (match (some x : Option TypeDesc) with
        | some (.struct fs) => packL P fs.toList 0 == some (P.cellsOf t)
        | some (.array n e) => P.cellsOf t == n * P.cellsOf e && decide (e < P.types.size)
        | some (.slice e) => decide (e < P.types.size)
        | _ => true) = true := by
      intro x hx
      have := List.all_eq_true.1 hp t (by simp only [List.mem_range]; exact ht)
      rwa [hx] at this
    unfold DataW.trod at h
    unfold WT
    split at h
    · rename_i b hu; rw [hu]; exact ⟨_, Gd.one1 rfl, ⟨_, rfl⟩, nil1 (fun _ h => by cases h)⟩
    · rename_i k k' n hu
      rw [hu]
      split at h
      · rename_i hc; obtain ⟨rfl, hw⟩ := hc; exact ⟨_, Gd.one1 rfl, ⟨_, rfl, hw⟩, nil1 (fun _ h => by cases h)⟩
      · cases h
    · rename_i hu; rw [hu]; exact ⟨_, Gd.one1 rfl, trivial, nil1 (fun _ h => by cases h)⟩
    · rename_i s hu
      rw [hu]
      split at h
      · rename_i hc
        cases h
        refine ⟨_, Gd.one1 rfl, ⟨_, rfl, hc⟩, fun v hv => ?_⟩
        simp only [List.mem_singleton] at hv
        subst hv
        have h2 : s.size = s.data.toList.length := Array.length_toList.symm
        show s.size ≤ B
        rw [h2]
        exact hb.str _ _ hx
      · cases h
    · rename_i hu; rw [hu]; exact ⟨_, Gd.one1 rfl, trivial, nil1 (fun _ h => by cases h)⟩
    · rename_i hu; rw [hu]; exact ⟨_, Gd.one1 rfl, trivial, nil1 (fun _ h => by cases h)⟩
    · rename_i e hu
      rw [hu]
      by_cases he : 0 < P.cellsOf e
      · refine ⟨[.ro (P.cellsOf e) 0 (fun _ => [])], ⟨?_, rfl, rfl⟩, fun _ => ⟨0, _, rfl, Nat.zero_le _, fun j hj => absurd hj (Nat.not_lt_zero _)⟩, fun v hv => ?_⟩
        · simp only [denL, Am.den]
          exact ⟨_, _, rfl, ⟨Nat.zero_le _, none, 0, ⟨0, 0, none⟩, fun _ => [], rfl, Nat.le_refl _, fun h => absurd h (Nat.lt_irrefl _), fun j hj => absurd hj (Nat.not_lt_zero _)⟩, rfl⟩
        · simp only [List.mem_singleton] at hv
          subst hv
          exact ⟨Nat.zero_le _, fun j hj => absurd hj (Nat.not_lt_zero _)⟩
      · exact ⟨_, Gd.one1 rfl, fun h => absurd h he, nil1 (fun _ h => by cases h)⟩
    · rename_i e a len cap hu
      rw [hu]
      by_cases he : 0 < P.cellsOf e
      · simp only at h
        split at h
        · rename_i hc
          obtain ⟨_, h1, h2⟩ := hc
          cases hm : (List.range len).mapM (fun i => (w.cells? 0 (a.add (i * P.cellsOf e)) (P.cellsOf e)).bind (DataW.trod enc P w 0 sp held d e)) with
          | none => rw [hm] at h; simp at h
          | some zs =>
            rw [hm] at h
            simp only [Option.bind_some] at h
            obtain ⟨hzl, hzm⟩ := mapM_memB hm
            have hsl : (zs.map (·.1)).length * P.bytesOf e ≤ B ∧ ∀ y ∈ zs, Q e y.1 := by
              have : ∃ r, x.1 = .slice (zs.map (·.1)) r := by
                split at h
                · cases hr : (List.range (cap - len)).mapM (fun j => (w.cells? 0 (a.add ((len + j) * P.cellsOf e)) (P.cellsOf e)).bind (DataW.trod enc P w 0 sp held d e)) with
                  | none => rw [hr] at h; simp at h
                  | some rs => rw [hr] at h; simp only [Option.map_some, Option.some.injEq] at h; rw [← h]; exact ⟨_, rfl⟩
                · simp only [Option.map_some, Option.some.injEq] at h; rw [← h]; exact ⟨_, rfl⟩
              obtain ⟨r, hr⟩ := this
              rw [hr] at hx
              obtain ⟨q1, q2⟩ := hb.sl _ _ _ _ hu hx
              exact ⟨q1, fun y hy => q2 _ (List.mem_map_of_mem hy)⟩
            have hby1 : 1 ≤ P.bytesOf e := by
              have := List.all_eq_true.1 hby t (by simp only [List.mem_range]; exact ht)
              rw [hu] at this
              simp only [Bool.or_eq_true, decide_eq_true_eq, beq_iff_eq] at this
              omega
            have hlen : len ≤ B := by
              have := hsl.1
              rw [List.length_map, hzl, List.length_range] at this
              exact Nat.le_trans (Nat.le_mul_of_pos_right _ hby1) this
            have key : ∀ j, j < len → ∃ (vs : List V) (us : List Value), Gd (· < w.heap.size) w vs us ∧ (WT P d e vs ∧ SmV B d vs) ∧ us.length = P.cellsOf e ∧ a.block < w.heap.size ∧ ∀ i x, us[i]? = some x → w.cell? (a.add (j * P.cellsOf e + i)) = some x := by
              intro j hj
              obtain ⟨y, hyz, hy⟩ := hzm j (by simpa using hj)
              cases hcs : w.cells? 0 (a.add (j * P.cellsOf e)) (P.cellsOf e) with
              | none => rw [hcs] at hy; simp at hy
              | some us =>
                rw [hcs] at hy
                obtain ⟨vs, g1, g2, g3⟩ := ih _ _ _ (by simpa using hpk _ hu) hy (hsl.2 y hyz)
                obtain ⟨_, q1, q2⟩ := World.cells?_some hcs
                have hb := World.cells?_block hcs he
                rw [add_block] at hb
                refine ⟨vs, us, g1, ⟨g2, g3⟩, q1, hb, fun i x hx => ?_⟩
                have hi : i < P.cellsOf e := by
                  rcases Nat.lt_or_ge i us.length with g | g
                  · omega
                  · rw [List.getElem?_eq_none g] at hx; cases hx
                rw [← add_add, q2 i hi, hx]
            let f : Nat → List V := fun j => if hj : j < len then Classical.choose (key j hj) else []
            let us : Nat → List Value := fun j => if hj : j < len then Classical.choose (Classical.choose_spec (key j hj)) else []
            have hf : ∀ j, j < len → Gd (· < w.heap.size) w (f j) (us j) ∧ (WT P d e (f j) ∧ SmV B d (f j)) ∧ (us j).length = P.cellsOf e ∧ a.block < w.heap.size ∧ ∀ i x, (us j)[i]? = some x → w.cell? (a.add (j * P.cellsOf e + i)) = some x := by
              intro j hj
              have := Classical.choose_spec (Classical.choose_spec (key j hj))
              simp only [f, us, hj, dif_pos]
              exact this
            refine ⟨[.ro (P.cellsOf e) len f], ⟨?_, rfl, rfl⟩, fun _ => ⟨len, f, rfl, Nat.le_trans h1 h2, fun j hj => (hf j hj).2.1.1⟩, fun v hv => ?_⟩
            · simp only [denL, Am.den]
              refine ⟨_, _, rfl, ⟨Nat.le_trans h1 h2, some a, cap, a, us, rfl, h1, fun h0 => ⟨rfl, (hf 0 h0).2.2.2.1⟩, fun j hj => ?_⟩, rfl⟩
              obtain ⟨g1, g2, g3, g4, g5⟩ := hf j hj
              exact ⟨g1.den, g1.pure, g3, g1.one, g5⟩
            · simp only [List.mem_singleton] at hv
              subst hv
              exact ⟨hlen, fun j hj => (hf j hj).2.1.2⟩
        · cases h
      · exact ⟨_, Gd.one1 rfl, fun h => absurd h he, nil1 (fun _ h => by cases h)⟩
    · rename_i cs _x c2 fs hu
      rw [hu]
      split at h
      · rename_i hc
        have hk := hpk _ hu
        simp only [beq_iff_eq] at hk
        cases hm : fs.toList.mapM (fun f => DataW.trod enc P w 0 sp held d f.type ((cs.drop f.offset).take (P.cellsOf f.type))) with
        | none => rw [hm] at h; simp at h
        | some ys =>
          rw [hm] at h
          simp only [Option.map_some, Option.some.injEq] at h
          rw [← h] at hx
          have := fields fs.toList 0 _ cs hk hc fun f hf => by
            obtain ⟨i, hi⟩ := List.mem_iff_getElem?.1 hf
            obtain ⟨y, h1, h2⟩ := (mapM_at hm).2 i f hi
            exact ⟨y, h2, hb.st _ _ _ hu hx i f _ hi (by rw [List.getElem?_map, h1]; rfl)⟩
          simpa using this
      · cases h
    · rename_i cs _x c2 n e hu
      rw [hu]
      split at h
      · rename_i hc
        have hk := hpk _ hu
        simp only [Bool.and_eq_true, beq_iff_eq, decide_eq_true_eq] at hk
        cases hm : (List.range n).mapM (fun i => DataW.trod enc P w 0 sp held d e ((cs.drop (i * P.cellsOf e)).take (P.cellsOf e))) with
        | none => rw [hm] at h; simp at h
        | some ys =>
          rw [hm] at h
          simp only [Option.map_some, Option.some.injEq] at h
          rw [← h] at hx
          exact items _ _ _ hk.2 (by rw [hc, hk.1]) fun i hi => by
            obtain ⟨y, h1, h2⟩ := (mapM_memB hm).2 i (by simpa using hi)
            exact ⟨y, h2, hb.ar _ _ _ _ hu hx _ (List.mem_map_of_mem h1)⟩
      · cases h
    all_goals first
      | (cases h; done)
      | (rename_i hu; rw [hu]; exact ⟨_, Gd.one1 rfl, trivial, nil1 (fun _ h => by cases h)⟩)
      | skip
/-- A parameter, and how long its parts are. -/
def SmP (B : Nat) (v : V) : Prop := ∃ d, SmV B d [v]
theorem SmP.agg {B : Nat} {l : List V} (h : SmP B (.agg l)) : ∃ d, SmV B d l := by
  obtain ⟨d, h⟩ := h
  cases d with
  | zero => exact h.elim
  | succ d => exact ⟨d, h _ (.head _)⟩
theorem SmP.str {B : Nat} {s : ByteArray} (h : SmP B (.sc (.string s))) : s.size ≤ B := by
  obtain ⟨d, h⟩ := h
  exact h.str (.head _)
theorem SmV.box {B d : Nat} {l : List V} (h : SmV B d l) : SmV B (d + 1) [.agg l] := fun v hv => by
  simp only [List.mem_singleton] at hv
  subst hv
  exact h
theorem open_paramB {H : Type} {enc : TypeId × Value → H} {P : Program} {w : World} {sp : Nat → Bool} {held : Bool} (hp : packB P = true) (hby : bytesB P = true) {B : Nat} {Q : TypeId → DataW H → Prop} (hb : SzOk P B Q) {t : TypeId} (ht : t < P.types.size) {v : Value} {base : Nat} (hok : Value.okWide P w .any base t v)
    {x : DataW H} {ps : List MemPlace} (h : DataW.Trod enc P w 0 sp held t v x ps) (hx : Q t x) : ∃ y : V, den DB (· < w.heap.size) w DD y v ∧ WTV P t y ∧ SmP B y := by
  obtain ⟨d, hd⟩ := h
  obtain ⟨vs, g, hw, hs⟩ := open_cellsB hp hby hb d t _ _ ht hd hx
  rcases okWide_agg hok with ⟨fs, hu, cs, rfl⟩ | ⟨n, e, hu, cs, rfl⟩ | ⟨h1, h2, hv⟩
  · refine ⟨.agg vs, ?_, ⟨d, ?_⟩, d + 1, hs.box⟩
    · simp only [Am.den]
      exact ⟨cs.toList, rfl, g.den, g.one⟩
    · rw [hu]; exact ⟨vs, rfl, hw⟩
  · refine ⟨.agg vs, ?_, ⟨d, ?_⟩, d + 1, hs.box⟩
    · simp only [Am.den]
      exact ⟨cs.toList, rfl, g.den, g.one⟩
    · rw [hu]; exact ⟨vs, rfl, hw⟩
  · rw [hv] at g
    have hl := g.den
    cases vs with
    | nil => simp [denL] at hl
    | cons y ys =>
      simp only [denL] at hl
      obtain ⟨a, b, e1, e2, e3⟩ := hl
      simp only [List.cons.injEq] at e1
      obtain ⟨rfl, rfl⟩ := e1
      cases ys with
      | cons z zs => simp [denL] at e3
      | nil =>
        refine ⟨y, e2, ⟨d, ?_⟩, d, hs⟩
        split
        · rename_i fs hu; exact absurd hu (h1 _)
        · rename_i n e hu; exact absurd hu (h2 _ _)
        · exact hw
def Wt (P : Program) (H : Type) (t : TypeId) (d : DataW H) : Prop := ∀ n ∈ d.weights P t, n ≤ reachBytes
theorem wt_all {P : Program} {H : Type} {e : TypeId} : ∀ {l : List (DataW H)}, (∀ n ∈ DataW.weightsAll P e l, n ≤ reachBytes) → ∀ d ∈ l, Wt P H e d
  | [], _, d, hd => by cases hd
  | x :: l, h, d, hd => by
    rw [DataW.weightsAll] at h
    rcases List.mem_cons.1 hd with e | e
    · subst e; exact fun n hn => h n (List.mem_append_left _ hn)
    · exact wt_all (fun n hn => h n (List.mem_append_right _ hn)) d e
theorem wt_each {P : Program} {H : Type} : ∀ {ts : List TypeId} {l : List (DataW H)}, (∀ n ∈ DataW.weightsEach P ts l, n ≤ reachBytes) → ∀ (i : Nat) t d, ts[i]? = some t → l[i]? = some d → Wt P H t d
  | [], _, _, i, t, d, h, _ => by simp at h
  | _ :: _, [], _, i, t, d, _, h => by simp at h
  | t' :: ts, x :: l, h, 0, t, d, h1, h2 => by
    rw [DataW.weightsEach] at h
    simp only [List.getElem?_cons_zero, Option.some.injEq] at h1 h2
    subst h1; subst h2
    exact fun n hn => h n (List.mem_append_left _ hn)
  | t' :: ts, x :: l, h, i + 1, t, d, h1, h2 => by
    rw [DataW.weightsEach] at h
    exact wt_each (fun n hn => h n (List.mem_append_right _ hn)) i t d (by simpa using h1) (by simpa using h2)
theorem szWt {P : Program} {H : Type} : SzOk P reachBytes (Wt P H) where
  str := fun t l h => h _ (by rw [DataW.weights]; exact .head _)
  sl := fun t e es r hu h => by
    unfold Wt at h
    rw [DataW.weights, hu] at h
    refine ⟨Nat.le_trans (Nat.mul_le_mul_right _ (Nat.le_add_right _ _)) (h _ (.head _)), wt_all fun n hn => h n (.tail _ (List.mem_append_left _ hn))⟩
  st := fun t fs l hu h i f d h1 h2 => by
    unfold Wt at h
    rw [DataW.weights, hu] at h
    exact wt_each h i f.type d (by rw [List.getElem?_map, h1]; rfl) h2
  ar := fun t n e l hu h => by
    unfold Wt at h
    rw [DataW.weights, hu] at h
    exact wt_all h
theorem wt_args {P : Program} {H : Type} {ts : List TypeId} {l : List (DataW H)} (h : (DataW.weightsEach P ts l).all (· ≤ reachBytes) = true) (i : Nat) {t : TypeId} {d : DataW H} (h1 : ts[i]? = some t) (h2 : l[i]? = some d) : Wt P H t d :=
  wt_each (fun n hn => by simpa using List.all_eq_true.1 h n hn) i t d h1 h2
end Go.Am
/- States weakened; loops by tables of facts. -/
namespace Go.Am
open Go Go.RowKit
set_option linter.unusedSimpArgs false
set_option linter.unusedVariables false

noncomputable def cl (p : Prop) (x y : Option Ans) : Option Ans := @ite _ p (Classical.propDecidable p) x y
theorem cl_pos {p : Prop} {x y : Option Ans} (h : p) : cl p x y = x := by unfold cl; exact if_pos h
theorem cl_some {p : Prop} {x y : Option Ans} {r : Ans} (h : cl p x y = some r) : (p ∧ x = some r) ∨ (¬ p ∧ y = some r) := by
  unfold cl at h
  split at h
  · exact .inl ⟨by assumption, h⟩
  · exact .inr ⟨by assumption, h⟩

theorem Le.junk (v : V) : Le v .junk := fun _ _ _ _ _ _ => by simp [den]
theorem LeL.nil : LeL [] [] := fun _ _ _ _ _ h => h
theorem Le.trans {a b c : V} (h : Le a b) (g : Le b c) : Le a c := fun β S w D u hd => g β S w D u (h β S w D u hd)
theorem LeL.trans {a b c : List V} (h : LeL a b) (g : LeL b c) : LeL a c := fun β S w D u hd => g β S w D u (h β S w D u hd)
theorem Le.tup {a b : List V} (h : LeL a b) : Le (.tup a) (.tup b) := by
  intro β S w D u hd
  simp only [Am.den] at hd ⊢
  obtain ⟨us, h1, h2⟩ := hd
  exact ⟨us, h1, h _ _ _ _ _ h2⟩
theorem Le.of_eq {a b : V} (h : a = b) : Le a b := h ▸ Le.refl _
/-- What stands in memory, weakened. -/
def ChLe (c c' : Chunk) : Prop := ∀ β S w D b m, chunkRel β S w D b m c → chunkRel β S w D b m c'
theorem ChLe.refl (c : Chunk) : ChLe c c := fun _ _ _ _ _ _ h => h
theorem ChLe.blk {a b : List V} (h : LeL a b) : ChLe (.blk a) (.blk b) := by
  intro β S w D bb m hd
  simp only [chunkRel] at hd ⊢
  obtain ⟨us, T, h1, h2, h3⟩ := hd
  exact ⟨us, T, h1, h _ _ _ _ _ h2, h3⟩
theorem ChLe.row {e k n : Nat} {f g : Nat → List V} (h : ∀ j, j < n → f j = g j) : ChLe (.row e k n f) (.row e k n g) := by
  intro β S w D b m hd
  simp only [chunkRel] at hd ⊢
  obtain ⟨h1, h2, h3, cur, h4, h5, h6⟩ := hd
  exact ⟨h1, h2, h3, cur, h4, h5, fun j hj => by rw [← h j hj]; exact h6 j hj⟩
def OcLe : Option Chunk → Option Chunk → Prop
  | none, none => True
  | some c, some c' => ChLe c c'
  | _, _ => False
/-- A state of which less is said. -/
structure LeSt (s s' : St) : Prop where
  fr : LeL s.fr s'.fr
  H : ∀ i, OcLe (s.H i) (s'.H i)
  nx : s.nx = s'.nx
  rt : s.rt = s'.rt
  me : s.me = s'.me
theorem OcLe.refl (c : Option Chunk) : OcLe c c := by cases c with | none => exact trivial | some c => exact ChLe.refl c
theorem LeSt.refl (s : St) : LeSt s s := ⟨LeL.refl _, fun _ => OcLe.refl _, rfl, rfl, rfl⟩
theorem Mem.le {β : Bt} {S D : Pr} {H H' : Hp} {w : World} (h : Mem β S D H w) (hl : ∀ i, OcLe (H i) (H' i)) : Mem β S D H' w := by
  refine ⟨fun i c hc => ?_, fun i hi => ?_, h.dom, h.own, h.inj, h.st⟩
  · have := hl i
    rw [hc] at this
    cases hH : H i with
    | none => rw [hH] at this; exact this.elim
    | some c0 =>
      rw [hH] at this
      obtain ⟨b, m, h1, h2⟩ := h.live i c0 hH
      exact ⟨b, m, h1, this _ _ _ _ _ _ h2⟩
  · have := hl i
    rw [hi] at this
    cases hH : H i with
    | none => exact h.dead i hH
    | some c0 => rw [hH] at this; exact this.elim
theorem Rel.le {E : Env} {β : Bt} {S D : Pr} {s s' : St} {a : Act} {w : World} (h : Rel E β S D s a w) (hl : LeSt s s') : Rel E β S D s' a w :=
  ⟨hl.fr _ _ _ _ _ h.fr, h.mem.le hl.H, (by rw [← hl.me]; exact h.df), by rw [← hl.nx]; exact h.lt, h.gl, by rw [← hl.rt]; exact h.rtD⟩
theorem SL.le {E : Env} {c : ACode} {s s' t : St} {e : Ex} (h : SL E c s' e t) (hl : LeSt s s') : SL E c s e t := by
  intro β S D a w hR b k cs
  obtain ⟨e', a', w', hP, hA⟩ := h β S D a w (hR.le hl) b k cs
  refine ⟨e', a', w', ?_, hA⟩
  obtain ⟨β', S', D', h1, h2, h3, h4, h5, h6⟩ := hP.ex
  exact ⟨β', S', D', h1, h2, h3, by rw [hl.rt]; exact h4, by rw [hl.rt]; exact h5, by rw [hl.me]; exact h6⟩
/-- A loop's end weakened. -/
theorem RelX.le {E : Env} {e : Ex} {β : Bt} {S D : Pr} {s s' : St} {a : Act} {w : World} (h : RelX E e β S D s a w) (hl : LeSt s s') : RelX E e β S D s' a w := by
  exact Rel.le h hl
theorem SL.post {E : Env} {c : ACode} {s t t' : St} {e : Ex} (h : SL E c s e t) (hl : LeSt t t') : SL E c s e t' := by
  intro β S D a w hR b k cs
  obtain ⟨e', a', w', hP, hA⟩ := h β S D a w hR b k cs
  refine ⟨e', a', w', ?_, hA⟩
  obtain ⟨β', S', D', h1, h2, h3, h4, h5, h6⟩ := hP.ex
  exact ⟨β', S', D', h1, h2.le hl, h3, h4, by rw [← hl.rt]; exact h5, by rw [← hl.me]; exact h6⟩
theorem SC.le {E : Env} {f : FuncId} {args : List V} {L : List (Option Chunk)} {v v' : V} {L' : List (Option Chunk)} (h : SC E f args L (.ret v L')) (hl : Le v v') : SC E f args L (.ret v' L') := by
  refine ⟨h.1, fun β S w us h1 h2 h3 => (h.2 β S w us h1 h2 h3).mono ?_⟩
  rintro e w' ⟨u, β', S', g1, g2, g3, g4, g5⟩
  exact ⟨u, β', S', g1, g2, hl _ _ _ _ _ g3, g4, g5⟩
/-- What a call hands back, given up: to be read only. -/
theorem SC.give {E : Env} {f : FuncId} {args : List V} {L0 : List (Option Chunk)} {v : V} {L : List (Option Chunk)} (h : SC E f args L0 (.ret v L)) (hp' : (v.bw (hp L)).pure = true) : SC E f args L0 (.ret (v.bw (hp L)) []) := by
  refine ⟨h.1, fun β S w us h1 h2 h3 => (h.2 β S w us h1 h2 h3).mono ?_⟩
  rintro e w' ⟨u, β', S', rfl, g1, g2, g3, g4⟩
  refine ⟨u, fun _ => none, fun b => S' b ∨ ∃ j m', β' j = some (b, m'), rfl, ⟨fun i c hc => (by simp [hp] at hc), fun _ _ => rfl, fun i b m h => (by cases h), fun i b m h => (by cases h), fun i j b m m' h => (by cases h), ?_⟩, ?_, ⟨g3.os, g3.tape, g3.output, g3.size, g3.keep, fun b h => .inl (g3.sub b h), ?_, fun i b m h => (by cases h)⟩, fun i bm _ h => (by cases h)⟩
  · rintro b (hs | ⟨j, m', hj⟩)
    · exact g1.st b hs
    · exact (g1.own j b m' hj).1
  · have := bw_sound (S' := fun b => S' b ∨ ∃ j m', β' j = some (b, m')) (β' := fun _ => none) g1 (fun _ _ => .inr rfl) (fun _ h => .inl h) (fun i b m hb => .inr ⟨i, m, hb⟩) g2
    exact den_pure (fun _ h => h) (fun _ _ => rfl) _ _ hp' this
  · rintro b (hs | ⟨j, m', hj⟩)
    · exact g3.newS b hs
    · rcases g3.newO j b m' hj with h | ⟨j', m'', h⟩
      · exact .inr (.inl h)
      · exact .inr (.inr ⟨j', m'', h⟩)
theorem Le.nil_ro {k : Nat} {f : Nat → List V} : Le (.sc (.slice none 0 0)) (.ro k 0 f) := by
  intro β S w D u hd
  simp only [Am.den] at hd ⊢
  subst hd
  exact ⟨Nat.zero_le _, none, 0, ⟨0, 0, none⟩, fun _ => [], rfl, Nat.le_refl _, fun h => absurd h (Nat.lt_irrefl _), fun j hj => absurd hj (Nat.not_lt_zero _)⟩
/-- The arguments weakened. -/
theorem SC.arg {E : Env} {f : FuncId} {args args' : List V} {cr : CRes} (h : SC E f args' [] cr) (hl : LeL args args') (hi : idsL args = []) (hi' : idsL args' = []) : SC E f args [] cr := by
  refine ⟨h.1, fun β S w us h1 h2 h3 => ?_⟩
  have := h.2 β S w us (hl _ _ _ _ _ h1) h2 h3
  rw [hi'] at this
  rw [hi]
  exact this

theorem SL.canon {E : Env} {c : ACode} {s t : St} {e : Ex} (h : SL E c s e t) (live : Nat) : SL E c s e (canonS live t) := by
  intro β S D a w hR b k cs
  obtain ⟨e', a', w', hP, hA⟩ := h β S D a w hR b k cs
  refine ⟨e', a', w', ?_, hA⟩
  obtain ⟨β', S', D', h1, h2, h3, h4, h5, h6⟩ := hP.ex
  obtain ⟨β2, D2, g1, g2, g3⟩ := canon_rel h2 live
  exact ⟨β2, S', D2, h1, g1, h3.trans g2, fun i bm hi hb => h4 i bm hi (g3 i bm (by rw [h5]; exact hi) hb), h5, h6⟩
/-- A loop's end: of its frame, what is wanted. -/
def KC (live : Nat) : Ex → St → Option Ans := fun e s => canonK live s fun s => some (.l e s)
/-- A loop from this state on. -/
theorem SL.by {E : Env} {ca : CallT} {lo : LoopT} (hC : SoundC E ca) (hX : SoundX E) (hL : SoundL E lo) {id live m : Nat} {c : ACode} {s t : St} {e : Ex} (h : loopK E ca lo id live c s (KC m) = some (.l e t)) : SL E c s e t := by
  obtain ⟨e1, s1, h1, h2⟩ := loop_sound hC hX hL h
  simp only [KC, canonK_eq, Option.some.injEq, Ans.l.injEq] at h1
  obtain ⟨rfl, rfl⟩ := h1
  exact h2.canon _

/-- One round, and on from there. -/
theorem SL.next {E : Env} {ca : CallT} (hC : SoundC E ca) (hX : SoundX E) {id live : Nat} {c : ACode} {s s' t : St} {e : Ex} (h : ∀ (lo : LoopT) (k : Ex → St → Option Ans), loopK E ca lo id live c s k = lo id live c s' k) (hn : SL E c s' e t) : SL E c s e t := by
  let lo : LoopT := fun id live c1 s1 k => cl (c1 = c ∧ s1 = s') (k e t) none
  have hlo : SoundL E lo := by
    intro id live c1 s1 k r hr
    rcases cl_some hr with ⟨⟨rfl, rfl⟩, h1⟩ | ⟨_, h1⟩
    · exact ⟨_, _, h1, hn⟩
    · cases h1
  have h1 : loopK E ca lo id live c s (fun e s => some (.l e s)) = some (.l e t) := (h lo _).trans (cl_pos ⟨rfl, rfl⟩)
  obtain ⟨e1, s1, h2, h3⟩ := loop_sound hC hX hlo h1
  simp only [Option.some.injEq, Ans.l.injEq] at h2
  obtain ⟨rfl, rfl⟩ := h2
  exact h3

/-- The loop with this number. -/
def findLoop (id : Nat) : ACode → Option ACode
  | .seq a b => match findLoop id a with | some c => some c | none => findLoop id b
  | .cond _ a b => match findLoop id a with | some c => some c | none => findLoop id b
  | .block _ c => findLoop id c
  | .loop j _ c => if j = id then some c else findLoop id c
  | _ => none
def bodyOf (E : Env) (f : FuncId) (id : Nat) : ACode := ((E.code f).bind (findLoop id)).getD .skip
end Go.Am
/- What is computed, as functions of plain data: calls and loops by functions that may fail. -/
namespace Go.Am
open Go Go.RowKit
set_option linter.unusedSimpArgs false
set_option linter.unusedVariables false
open Classical in
/-- What A makes this of. -/
noncomputable def invF {α τ : Type} (A : α → τ) (t : τ) : Option α := if h : ∃ x, A x = t then some (Classical.choose h) else none
noncomputable def viaF {α γ τ : Type} (A : α → τ) (p : α → Option γ) (t : τ) : Option γ := (invF A t).bind p
theorem viaF_some {α γ τ : Type} {A : α → τ} {p : α → Option γ} {t : τ} {z : γ} (h : viaF A p t = some z) : ∃ x, A x = t ∧ p x = some z := by
  unfold viaF invF at h
  split at h
  · rename_i hx
    exact ⟨_, Classical.choose_spec hx, h⟩
  · cases h
theorem via_eq {α γ τ : Type} {A : α → τ} (hi : ∀ x y, A x = A y → x = y) (p : α → Option γ) : (fun x => viaF A p (A x)) = p := by
  funext x
  unfold viaF invF
  have hx : ∃ y, A y = A x := ⟨x, rfl⟩
  rw [dif_pos hx]
  show p (Classical.choose hx) = p x
  rw [hi _ _ (Classical.choose_spec hx)]
/-- A function whose arguments and memory are A of plain data, by what it makes of them. -/
noncomputable def ftab {α γ : Type} (g : FuncId) (gd : List V → List (Option Chunk) → Bool) (A : α → List V × List (Option Chunk)) (ex : γ → (CRes → Option Ans) → Option Ans) (p : α → Option γ) (ca : CallT) : CallT := fun f args L k =>
  if (f == g && gd args L) = true then (viaF A p (args, L)).bind fun z => ex z k else ca f args L k
theorem ftab_cons {E : Env} {α γ : Type} {g : FuncId} {gd : List V → List (Option Chunk) → Bool} {A : α → List V × List (Option Chunk)} {ex : γ → (CRes → Option Ans) → Option Ans} {p : α → Option γ} {ca : CallT} {R : γ → CRes}
    (h : ∀ x z, p x = some z → SC E g (A x).1 (A x).2 (R z)) (hex : ∀ z k, ex z k = k (R z)) (hl : SoundC E ca) : SoundC E (ftab g gd A ex p ca) := by
  intro f args L k r hr
  simp only [ftab] at hr
  split at hr
  · rename_i e
    simp only [Bool.and_eq_true, beq_iff_eq] at e
    obtain ⟨rfl, _⟩ := e
    cases hv : viaF A p (args, L) with
    | none => rw [hv] at hr; cases hr
    | some z =>
      rw [hv] at hr
      obtain ⟨x, hx, hp⟩ := viaF_some hv
      have := h x z hp
      rw [hx] at this
      exact ⟨_, (hex z k) ▸ hr, this⟩
  · exact hl _ _ _ _ _ hr
/-- A loop (by its number) whose states are S of plain data. -/
noncomputable def ltabF {α γ : Type} (id : Nat) (gd : St → Bool) (body : ACode) (S : α → St) (ex : γ → KX → Option Ans) (p : α → Option γ) (lo : LoopT) : LoopT := fun id' live c s k =>
  if (id' == id && gd s) = true then (viaF (fun x => (body, S x)) p (c, s)).bind fun z => ex z k else lo id' live c s k
theorem ltabF_cons {E : Env} {α γ : Type} {id : Nat} {gd : St → Bool} {body : ACode} {S : α → St} {ex : γ → KX → Option Ans} {p : α → Option γ} {lo : LoopT} {T : γ → Ex × St}
    (h : ∀ x z, p x = some z → SL E body (S x) (T z).1 (T z).2) (hex : ∀ z k, ex z k = k (T z).1 (T z).2) (hl : SoundL E lo) : SoundL E (ltabF id gd body S ex p lo) := by
  intro id' live c s k r hr
  simp only [ltabF] at hr
  split at hr
  · cases hv : viaF (fun x => (body, S x)) p (c, s) with
    | none => rw [hv] at hr; cases hr
    | some z =>
      rw [hv] at hr
      obtain ⟨x, hx, hp⟩ := viaF_some hv
      simp only [Prod.mk.injEq] at hx
      obtain ⟨rfl, rfl⟩ := hx
      exact ⟨_, _, (hex z k) ▸ hr, h x z hp⟩
  · exact hl _ _ _ _ _ _ hr
theorem pair_inj {α : Type} {S : α → St} (body : ACode) (hi : ∀ x y, S x = S y → x = y) : ∀ x y, (body, S x) = (body, S y) → x = y := fun x y h => hi x y (Prod.mk.inj h).2
def lo0 : LoopT := fun _ _ _ _ _ => none
theorem lo0_sound {E : Env} : SoundL E lo0 := fun id live c s k r h => by cases h
def ca0 : CallT := fun _ _ _ _ => none
theorem ca0_sound {E : Env} : SoundC E ca0 := fun f args L k r h => by cases h
/-- A loop's end: of its frame, what is wanted where it goes on. -/
def KCM (ms : List (Nat × Nat)) (r : Nat) : Ex → St → Option Ans := fun e s =>
  canonK (match e with | .ret => r | .exit j => look ms j | .normal => 0 | .panic _ => 0) s fun s => some (.l e s)
theorem SL.byM {E : Env} {ca : CallT} {lo : LoopT} (hC : SoundC E ca) (hX : SoundX E) (hL : SoundL E lo) {id live : Nat} {ms : List (Nat × Nat)} {r : Nat} {c : ACode} {s t : St} {e : Ex} (h : loopK E ca lo id live c s (KCM ms r) = some (.l e t)) : SL E c s e t := by
  obtain ⟨e1, s1, h1, h2⟩ := loop_sound hC hX hL h
  simp only [KCM, canonK_eq, Option.some.injEq, Ans.l.injEq] at h1
  obtain ⟨rfl, rfl⟩ := h1
  exact h2.canon _
/-- Loops whose rounds are taken one by one, so many at most. -/
def loU (E : Env) (ca : CallT) (ids : List Nat) (lo : LoopT) : Nat → LoopT
  | 0 => lo
  | n + 1 => fun id live c s k => if ids.contains id = true then loopK E ca (loU E ca ids lo n) id live c s k else lo id live c s k
theorem loU_sound {E : Env} {ca : CallT} (hC : SoundC E ca) (hX : SoundX E) {ids : List Nat} {lo : LoopT} (hL : SoundL E lo) : ∀ n, SoundL E (loU E ca ids lo n)
  | 0 => hL
  | n + 1 => fun id live c s k r h => by
    simp only [loU] at h
    split at h
    · exact loop_sound hC hX (loU_sound hC hX hL n) h
    · exact hL _ _ _ _ _ _ h
/-- Rounds, so many at most. -/
def lpG {α γ : Type} (st : α → Option (α ⊕ γ)) : Nat → α → Option γ
  | 0, _ => none
  | n + 1, x => (st x).bind fun r => Sum.elim (lpG st n) some r
theorem SL.lp {E : Env} {ca : CallT} {LT : LoopT → LoopT} (hC : SoundC E ca) (hX : SoundX E) (hL : ∀ lo, SoundL E lo → SoundL E (LT lo)) {α γ : Type} {S : α → St} {T : γ → Ex × St} {st : α → Option (α ⊕ γ)} {id live : Nat} {ms : List (Nat × Nat)} {r : Nat} {c : ACode}
    (tr : ∀ lo x, loopK E ca (LT lo) id live c (S x) (KCM ms r) = (st x).bind fun r' => Sum.elim (fun y => lo id live c (S y) (KCM ms r)) (fun z => some (.l (T z).1 (T z).2)) r')
    (kT : ∀ z, KCM ms r (T z).1 (T z).2 = some (.l (T z).1 (T z).2)) : ∀ n x z, lpG st n x = some z → SL E c (S x) (T z).1 (T z).2 := by
  intro n
  induction n with
  | zero => intro x z h; cases h
  | succ n ih =>
    intro x z h
    rw [lpG] at h
    cases hs : st x with
    | none => rw [hs] at h; cases h
    | some q =>
      rw [hs] at h
      cases q with
      | inr z' =>
        simp only [Option.bind_some, Sum.elim_inr, Option.some.injEq] at h
        subst h
        exact SL.byM hC hX (hL _ lo0_sound) ((tr lo0 x).trans (by rw [hs]; rfl))
      | inl y =>
        simp only [Option.bind_some, Sum.elim_inl] at h
        have hy := ih y z h
        let lo : LoopT := fun _ _ c1 s1 k => cl (c1 = c ∧ s1 = S y) (k (T z).1 (T z).2) none
        have hlo : SoundL E lo := by
          intro id live c1 s1 k r hr
          rcases cl_some hr with ⟨⟨rfl, rfl⟩, h1⟩ | ⟨_, h1⟩
          · exact ⟨_, _, h1, hy⟩
          · cases h1
        refine SL.byM hC hX (hL _ hlo) ((tr lo x).trans ?_)
        rw [hs]
        exact (cl_pos ⟨rfl, rfl⟩).trans (kT z)
theorem lpG_succ {α γ : Type} {st : α → Option (α ⊕ γ)} {n : Nat} {x : α} : lpG st (n + 1) x = (st x).bind fun r => Sum.elim (lpG st n) some r := rfl
def vI : V → Int | .sc (.int _ n) => n | _ => 0
def vB : V → Bool | .sc (.bool b) => b | _ => false
def vS : V → ByteArray | .sc (.string s) => s | _ => ByteArray.empty
def vAg : V → List V | .agg l => l | _ => []
def vRoN : V → Nat | .ro _ n _ => n | _ => 0
def vRoF : V → Nat → List V | .ro _ _ f => f | _ => fun _ => []
def vSlN : V → Nat | .sl _ _ _ n => n | _ => 0
def chB : Option Chunk → List V | some (.blk l) => l | _ => []
def chF : Option Chunk → Nat → List V | some (.row _ _ _ f) => f | _ => fun _ => []
def smN : Option Chunk → Nat | some (.smap n _ _) => n | _ => 0
def smH : Option Chunk → ByteArray → Bool | some (.smap _ g _) => g | _ => fun _ => false
def smF : Option Chunk → ByteArray → V | some (.smap _ _ f) => f | _ => fun _ => .junk

theorem free_bind {α β γ : Type} {o : Option α} {f : α → Option β} {g : α → Option γ} {k : γ → Option β} (h : ∀ z, f z = (g z).bind k) : o.bind f = (o.bind g).bind k := by
  cases o with
  | none => rfl
  | some z => exact h z
theorem free_ite {c : Prop} [Decidable c] {β γ : Type} {a b : Option β} {a' b' : Option γ} {k : γ → Option β} (h1 : a = a'.bind k) (h2 : b = b'.bind k) : ite c a b = (ite c a' b').bind k := by
  split
  · exact h1
  · exact h2
theorem free_sum {α1 α2 β γ : Type} {f1 : α1 → Option β} {f2 : α2 → Option β} {g1 : α1 → Option γ} {g2 : α2 → Option γ} {k : γ → Option β} {z : α1 ⊕ α2} (h1 : ∀ z, f1 z = (g1 z).bind k) (h2 : ∀ z, f2 z = (g2 z).bind k) : Sum.elim f1 f2 z = (Sum.elim g1 g2 z).bind k := by
  cases z with
  | inl z => exact h1 z
  | inr z => exact h2 z
theorem free_none {β γ : Type} {k : γ → Option β} : (none : Option β) = (none : Option γ).bind k := rfl
end Go.Am
