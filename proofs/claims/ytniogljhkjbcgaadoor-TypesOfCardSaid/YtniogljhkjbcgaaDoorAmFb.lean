/- The quick executor, and that it is the executor. -/
import Derived.Test.YtniogljhkjbcgaaDoorAmFa
namespace Go.Am
open Go
set_option linter.unusedSimpArgs false
set_option linter.unusedVariables false

abbrev OV := List (Nat × Option Chunk)
/-- Memory: what has changed, the newest first, over what was there. -/
noncomputable def lkp (hb : Hp) (ov : OV) : Hp := fun i => List.rec (motive := fun _ => Option Chunk) (hb i) (fun p _ ih => Prod.rec (motive := fun _ => Option Chunk) (fun j c => Bool.rec (motive := fun _ => Option Chunk) ih c (Nat.beq j i)) p) ov
theorem lkp_nil (hb : Hp) : lkp hb [] = hb := rfl
theorem lkp_cons (hb : Hp) (i : Nat) (c : Option Chunk) (ov : OV) : lkp hb ((i, c) :: ov) = upd (lkp hb ov) i c := by
  funext j
  show (Bool.rec (motive := fun _ => Option Chunk) (lkp hb ov j) c (Nat.beq i j) : Option Chunk) = if j = i then c else lkp hb ov j
  cases h : Nat.beq i j with
  | false => rw [if_neg (fun e => by subst e; simp at h)]
  | true => rw [if_pos (Nat.eq_of_beq_eq_true h).symm]
noncomputable def forceS {α : Type} (l : Nat) (k : Nat → α) : α := Nat.rec (motive := fun _ => α) (k 0) (fun n _ => k (Nat.succ n)) l
theorem forceS_eq {α : Type} (l : Nat) (k : Nat → α) : forceS l k = k l := by cases l <;> rfl
noncomputable def pushQ : List (Nat × Option Chunk) → OV → (OV → Option Ans) → Option Ans
  | [], ov, k => k ov
  | (i, c) :: l, ov, k => fC c fun c => pushQ l ((i, c) :: ov) k
theorem pushQ_spec (hb : Hp) : ∀ (us : List (Nat × Option Chunk)) (ov : OV) (k : OV → Option Ans), ∃ ov', pushQ us ov k = k ov' ∧ lkp hb ov' = updL (lkp hb ov) us
  | [], ov, k => ⟨ov, rfl, rfl⟩
  | (i, c) :: l, ov, k => by
    obtain ⟨ov', e1, e2⟩ := pushQ_spec hb l ((i, c) :: ov) k
    exact ⟨ov', by rw [pushQ, fC_eq]; exact e1, by rw [e2, lkp_cons]; rfl⟩
noncomputable def evQ (E : Env) (T : FT) : Operand → V
  | .tmp t => T.get t
  | .const v => ofVal1 v
  | .global g => match E.glob g with | some cs => .rp cs | none => .junk
  | .func f => .fn f []
theorem evQ_eq (E : Env) {T : FT} {n : Nat} (h : T.Inv n) : evQ E T = evA E (T.toL n) := by
  funext x
  cases x with
  | tmp t => exact (FT.toL_getD h t).symm
  | const v => rfl
  | global g => rfl
  | func f => rfl
noncomputable def guardQ (g : Option (Nat × Bool)) (ops : List Oper) (T : FT) (k : Bool → FT → Option Ans) : Option Ans :=
  match g with
  | none => k true T
  | some (j, b) => match ops[j]? with
    | some o => match o.dst with
      | some t => match T.get t with
        | .sc v => match v with
          | .bool c => if c = true then T.setK t (.sc (.bool true)) fun T => k b T else T.setK t (.sc (.bool false)) fun T => k (!b) T
          | _ => k false T
        | _ => none
      | none => none
    | none => none
theorem guardQ_eq {g : Option (Nat × Bool)} {ops : List Oper} {T : FT} {n : Nat} {k : Bool → FT → Option Ans} {K : Bool → List V → Option Ans} (h : T.Inv n) (hk : ∀ b T, T.Inv n → k b T = K b (T.toL n)) : guardQ g ops T k = guardR g ops (T.toL n) K := by
  unfold guardQ guardR
  cases g with
  | none => exact hk _ _ h
  | some p =>
    obtain ⟨j, b⟩ := p
    simp only
    cases ops[j]? with
    | none => rfl
    | some o =>
      simp only
      cases o.dst with
      | none => rfl
      | some t =>
        simp only [FT.toL_getD h]
        cases T.get t <;> try rfl
        rename_i v
        cases v <;> (try exact hk _ _ h)
        rename_i c
        simp only [FT.setK_eq, setK_eq]
        cases c
        · simp only [Bool.false_eq_true, if_false]; rw [hk _ _ (FT.inv_set h), FT.toL_set h]
        · simp only [if_true]; rw [hk _ _ (FT.inv_set h), FT.toL_set h]
noncomputable def putQ (T : FT) (d : Option Tmp) (v : V) (k : FT → Option Ans) : Option Ans :=
  match d with
  | some t => T.setK t v k
  | none => k T
noncomputable def doneQ (T : FT) (ov : OV) (d : Option Tmp) (v : V) (us : List (Nat × Option Chunk)) (k : FT → OV → Option Ans) : Option Ans :=
  fV v fun v => putQ T d v fun T => pushQ us ov fun ov => k T ov
noncomputable def absQ (T : FT) (n : Nat) (ov : OV) (hb : Hp) (nx rt : Nat) (me : FuncId) : St := { fr := T.toL n, H := lkp hb ov, nx := nx, rt := rt, me := me }
theorem doneQ_eq {T : FT} {n : Nat} {ov : OV} {hb : Hp} {nx rt : Nat} {me : FuncId} {d : Option Tmp} {v : V} {us : List (Nat × Option Chunk)} {k : FT → OV → Option Ans} {K : St → Option Ans} (h : T.Inv n)
    (hk : ∀ T ov, T.Inv n → k T ov = K (absQ T n ov hb nx rt me)) : doneQ T ov d v us k = doneK (absQ T n ov hb nx rt me) d v us K := by
  have key : ∀ T', T'.Inv n → pushQ us ov (fun ov => k T' ov) = K { fr := T'.toL n, H := updL (lkp hb ov) us, nx := nx, rt := rt, me := me } := by
    intro T' h'
    obtain ⟨ov', e1, e2⟩ := pushQ_spec hb us ov (fun ov => k T' ov)
    rw [e1, hk _ _ h', ← e2]; rfl
  unfold doneQ
  rw [fV_eq, doneK_eq]
  cases d with
  | none => exact key T h
  | some t =>
    show T.setK t v _ = _
    rw [FT.setK_eq, key _ (FT.inv_set h), FT.toL_set h]
    rfl
/-- What a region's end is told. -/
abbrev KS := Ex → FT → OV → Nat → Option Ans
noncomputable def stepOpsQ (E : Env) (ca : CallT) (ops : List Oper) (hb : Hp) (nx : Nat) (me : FuncId) : List Oper → Nat → FT → OV → KS → Option Ans
  | [], nw, T, ov, k => k .normal T ov nw
  | o :: rest, nw, T, ov, k =>
    guardQ o.guard ops T fun b T =>
      match b with
      | true =>
        opK E.P E.push E.rows o (evQ E T) (lkp hb ov) nw fun r =>
          match r with
          | .val v us => (match isLit o.op with
            | true => doneQ T ov o.dst (litV (E.lit me) (lkp hb ov) v us) (litU (E.lit me) v us) fun T ov => forceS (Nat.add nw wide) fun nw => stepOpsQ E ca ops hb nx me rest nw T ov k
            | false => doneQ T ov o.dst v us fun T ov => forceS (Nat.add nw wide) fun nw => stepOpsQ E ca ops hb nx me rest nw T ov k)
          | .pan v us => pushQ us ov fun ov => k (.panic v) T ov nw
          | .call f args => doCall E ca me f args (lkp hb ov) nw fun r =>
            match r with
            | .val v us => doneQ T ov o.dst v us fun T ov => forceS (Nat.add nw wide) fun nw => stepOpsQ E ca ops hb nx me rest nw T ov k
            | .pan v us => pushQ us ov fun ov => k (.panic v) T ov nw
            | .call _ _ => none
            | .dfr _ _ => none
          | .dfr f cs => match E.dfn me && (E.idle f == some cs.length) with
            | true => doneQ T ov o.dst (.sc undef) [] fun T ov => forceS (Nat.add nw wide) fun nw => stepOpsQ E ca ops hb nx me rest nw T ov k
            | false => none
      | false => doneQ T ov o.dst (.sc undef) [] fun T ov => forceS (Nat.add nw wide) fun nw => stepOpsQ E ca ops hb nx me rest nw T ov k
theorem stepOpsQ_eq {E : Env} {ca : CallT} {ops : List Oper} {hb : Hp} {nx rt n : Nat} {me : FuncId} {base : Nat} {k : KS} {K : KX} (hk : ∀ e T ov nx, T.Inv n → k e T ov nx = K e (absQ T n ov hb nx rt me)) :
    ∀ (l : List Oper) (i nw : Nat) (T : FT) (ov : OV), nw = base + i * wide → T.Inv n → stepOpsQ E ca ops hb nx me l nw T ov k = stepOps E ca ops base i l (absQ T n ov hb nx rt me) K
  | [], i, nw, T, ov, hw, h => by subst hw; exact hk _ _ _ _ h
  | o :: rest, i, nw, T, ov, hw, h => by
    have ih : ∀ T ov, T.Inv n → (forceS (Nat.add nw wide) fun nw => stepOpsQ E ca ops hb nx me rest nw T ov k) = stepOps E ca ops base (i + 1) rest (absQ T n ov hb nx rt me) K := fun T ov h => by
      rw [forceS_eq]
      exact stepOpsQ_eq hk rest (i + 1) _ T ov (by subst hw; show base + i * wide + wide = _; rw [Nat.add_mul, Nat.one_mul, Nat.add_assoc]) h
    rw [stepOpsQ, stepOps]
    refine guardQ_eq h fun b T h => ?_
    cases b with
    | false =>
      rw [if_neg Bool.false_ne_true]
      exact doneQ_eq h ih
    | true =>
      rw [if_pos rfl]
      simp only [evQ_eq E h]
      show opK E.P E.push E.rows o (evA E (T.toL n)) (lkp hb ov) nw _ = opK E.P E.push E.rows o (evA E (T.toL n)) (lkp hb ov) (base + i * wide) _
      subst hw
      congr 1
      funext r
      cases r with
      | val v us =>
        simp only
        cases hl : isLit o.op with
        | true => simp only [Bool.and_true]; exact doneQ_eq (rt := rt) h ih
        | false => simp only [Bool.and_false]; exact doneQ_eq (rt := rt) h ih
      | pan v us =>
        obtain ⟨ov', e1, e2⟩ := pushQ_spec hb us ov (fun ov => k (.panic v) T ov (base + i * wide))
        show pushQ us ov _ = _
        rw [e1, hk _ _ _ _ h]
        unfold absQ
        rw [e2]
      | call f args =>
        show doCall E ca me f args (lkp hb ov) (base + i * wide) _ = doCall E ca me f args (lkp hb ov) (base + i * wide) _
        congr 1
        funext r
        cases r with
        | val v us => exact doneQ_eq (rt := rt) h ih
        | pan v us =>
          obtain ⟨ov', e1, e2⟩ := pushQ_spec hb us ov (fun ov => k (.panic v) T ov (base + i * wide))
          show pushQ us ov _ = _
          rw [e1, hk _ _ _ _ h]
          unfold absQ
          rw [e2]
        | call f args => rfl
        | dfr f cs => rfl
      | dfr f cs =>
        show (match E.dfn me && (E.idle f == some cs.length) with | true => _ | false => none) = (match E.dfn me && (E.idle f == some cs.length) with | true => _ | false => none)
        cases E.dfn me && (E.idle f == some cs.length) with
        | true => exact doneQ_eq (rt := rt) h ih
        | false => rfl
noncomputable def vwQ (E : Env) (b : Nat) (T : FT) (h : Hp) (o : Oper) (k : Vw → Option Ans) : Option Ans :=
  fNL (if isCall o.op then reach h deep (idsL (o.op.operands.toList.map (evQ E T))) [] else if looksIn o.op then idsL (o.op.operands.toList.map (evQ E T)) ++ chIds h (idsL (o.op.operands.toList.map (evQ E T))) else idsL (o.op.operands.toList.map (evQ E T))) fun l => k ⟨b, some l⟩
theorem vwQ_eq (E : Env) {b n : Nat} {T : FT} {h : Hp} {o : Oper} {k : Vw → Option Ans} (hi : T.Inv n) : vwQ E b T h o k = vwK E b (T.toL n) h o k := by
  unfold vwQ vwK nearIds opIds
  rw [evQ_eq E hi]
noncomputable def stepDQ (E : Env) (ca : CallT) (ops : List Oper) (befs : List Nat) (base : Nat) (hb : Hp) (nx : Nat) (me : FuncId) : List Oper → Nat → Nat → List (Nat × Bool × Vw × List Nat) → FT → OV → KS → Option Ans
  | [], i, nw, _, T, ov, k => k .normal T ov nw
  | o :: rest, i, nw, done, T, ov, k =>
    guardQ o.guard ops T fun b T =>
      match b with
      | true =>
        vwQ E (befs.getD i 0) T (lkp hb ov) o fun vw =>
        opK E.P E.push E.rows o (evQ E T) (visH base vw (lkp hb ov)) nw fun r =>
          match r with
          | .val v us =>
            if seenOk base vw nw v us && pairsOk ops base o vw (us.map (·.1)) done then
              doneQ T ov o.dst v us fun T ov => forceS (Nat.succ i) fun i' => forceS (Nat.add nw wide) fun nw => stepDQ E ca ops befs base hb nx me rest i' nw ((i, readsOp o.op, vw, us.map (·.1)) :: done) T ov k
            else none
          | .pan _ _ => none
          | .dfr _ _ => none
          | .call f args => doCall E ca me f args (visH base vw (lkp hb ov)) nw fun r =>
            match r with
            | .val v us =>
              if readsOp o.op && (seenOk base vw nw v us && pairsOk ops base o vw (us.map (·.1)) done) then
                doneQ T ov o.dst v us fun T ov => forceS (Nat.succ i) fun i' => forceS (Nat.add nw wide) fun nw => stepDQ E ca ops befs base hb nx me rest i' nw ((i, readsOp o.op, vw, us.map (·.1)) :: done) T ov k
              else none
            | _ => none
      | false =>
        if pairsOk ops base o ⟨befs.getD i 0, some []⟩ [] done then
          doneQ T ov o.dst (.sc undef) [] fun T ov => forceS (Nat.succ i) fun i' => forceS (Nat.add nw wide) fun nw => stepDQ E ca ops befs base hb nx me rest i' nw ((i, readsOp o.op, ⟨befs.getD i 0, some []⟩, []) :: done) T ov k
        else none
theorem stepDQ_eq {E : Env} {ca : CallT} {ops : List Oper} {befs : List Nat} {hb : Hp} {nx rt n : Nat} {me : FuncId} {base : Nat} {k : KS} {K : KX} (hk : ∀ e T ov nx, T.Inv n → k e T ov nx = K e (absQ T n ov hb nx rt me)) :
    ∀ (l : List Oper) (i nw : Nat) (done : List (Nat × Bool × Vw × List Nat)) (T : FT) (ov : OV), nw = base + i * wide → T.Inv n → stepDQ E ca ops befs base hb nx me l i nw done T ov k = stepD E ca ops befs base i l done (absQ T n ov hb nx rt me) K
  | [], i, nw, done, T, ov, hw, h => by subst hw; exact hk _ _ _ _ h
  | o :: rest, i, nw, done, T, ov, hw, h => by
    have ih : ∀ done T ov, T.Inv n → (forceS (Nat.succ i) fun i' => forceS (Nat.add nw wide) fun nw => stepDQ E ca ops befs base hb nx me rest i' nw done T ov k) = stepD E ca ops befs base (i + 1) rest done (absQ T n ov hb nx rt me) K := fun done T ov h => by
      rw [forceS_eq, forceS_eq]
      exact stepDQ_eq hk rest (i + 1) _ done T ov (by subst hw; show base + i * wide + wide = _; rw [Nat.add_mul, Nat.one_mul, Nat.add_assoc]) h
    rw [stepDQ, stepD]
    refine guardQ_eq h fun b T h => ?_
    cases b with
    | false =>
      rw [if_neg Bool.false_ne_true]
      by_cases hp : pairsOk ops base o ⟨befs.getD i 0, some []⟩ [] done = true
      · rw [if_pos hp, if_pos hp]
        exact doneQ_eq h (ih _)
      · rw [if_neg hp, if_neg hp]
    | true =>
      rw [if_pos rfl]
      subst hw
      refine (vwQ_eq E h).trans ?_
      show vwK E (befs.getD i 0) (T.toL n) (lkp hb ov) o _ = vwK E (befs.getD i 0) (T.toL n) (lkp hb ov) o _
      congr 1
      funext vw
      simp only [evQ_eq E h]
      show opK E.P E.push E.rows o (evA E (T.toL n)) (visH base vw (lkp hb ov)) (base + i * wide) _ = opK E.P E.push E.rows o (evA E (T.toL n)) (visH base vw (lkp hb ov)) (base + i * wide) _
      congr 1
      funext r
      cases r with
      | val v us =>
        simp only
        by_cases hp : (seenOk base vw (base + i * wide) v us && pairsOk ops base o vw (us.map (·.1)) done) = true
        · rw [if_pos hp, if_pos hp]; exact doneQ_eq (rt := rt) h (ih _)
        · rw [if_neg hp, if_neg hp]
      | pan v us => rfl
      | dfr f cs => rfl
      | call f args =>
        show doCall E ca me f args (visH base vw (lkp hb ov)) (base + i * wide) _ = doCall E ca me f args (visH base vw (lkp hb ov)) (base + i * wide) _
        congr 1
        funext r
        cases r with
        | val v us =>
          simp only
          by_cases hp : (readsOp o.op && (seenOk base vw (base + i * wide) v us && pairsOk ops base o vw (us.map (·.1)) done)) = true
          · rw [if_pos hp, if_pos hp]; exact doneQ_eq (rt := rt) h (ih _)
          · rw [if_neg hp, if_neg hp]
        | pan v us => rfl
        | call f args => rfl
        | dfr f cs => rfl
/-- A state of lists seen as one of trees. -/
noncomputable def ofStQ (s : St) (k : FT → Nat → OV → Hp → Nat → Nat → FuncId → Option Ans) : Option Ans :=
  match s with
  | ⟨fr, H, nx, rt, me⟩ => FT.ofK fr 0 .e fun T n => k T n [] H nx rt me
theorem ofStQ_eq {s : St} {k : FT → Nat → OV → Hp → Nat → Nat → FuncId → Option Ans} {K : St → Option Ans} (hk : ∀ T n ov hb nx rt me, T.Inv n → k T n ov hb nx rt me = K (absQ T n ov hb nx rt me)) : ofStQ s k = K s := by
  obtain ⟨fr, H, nx, rt, me⟩ := s
  obtain ⟨T, e1, e2, e3⟩ := FT.ofK_spec fr 0 .e (fun T n => k T n [] H nx rt me) FT.inv_e
  show FT.ofK fr 0 .e _ = _
  rw [e1, hk _ _ _ _ _ _ _ e2]
  unfold absQ
  rw [e3, lkp_nil]
  simp [FT.toL]
noncomputable def settleQ (on : Bool) (c : Operand) (b : Bool) (T : FT) (k : FT → Option Ans) : Option Ans :=
  match on with
  | true => match c with
    | .tmp t => T.setK t (.sc (.bool b)) k
    | _ => k T
  | false => k T
noncomputable def toLK (T : FT) : Nat → List V → (List V → Option Ans) → Option Ans
  | 0, l, k => k l
  | n + 1, l, k => toLK T n (T.get n :: l) k
theorem toLK_eq (T : FT) : ∀ (n : Nat) (l : List V) (k : List V → Option Ans), toLK T n l k = k (T.toL n ++ l)
  | 0, l, k => by simp [toLK, FT.toL]
  | n + 1, l, k => by rw [toLK, toLK_eq T n]; simp [FT.toL, List.range_succ]
noncomputable def canonQ (live : Nat) (T : FT) (n : Nat) (ov : OV) (hb : Hp) (nx rt : Nat) (me : FuncId) (k : St → Option Ans) : Option Ans :=
  toLK T n [] fun l => fL (zap live 0 l) fun z =>
  fNL (reach (lkp hb ov) deep (chIds (lkp hb ov) (List.range rt) ++ idsL z) (List.range rt)) fun order =>
  fL (renL (posOf order) z) fun fr => fCL (keep (lkp hb ov) order) fun l => forceS order.length fun nx => k { fr := fr, H := hp l, nx := nx, rt := rt, me := me }
theorem canonQ_eq {live : Nat} {T : FT} {n : Nat} {ov : OV} {hb : Hp} {nx rt : Nat} {me : FuncId} {k : St → Option Ans} : canonQ live T n ov hb nx rt me k = canonK live (absQ T n ov hb nx rt me) k := by
  unfold canonQ canonK renK
  simp only [toLK_eq, fL_eq, fNL_eq, fCL_eq, forceS_eq, List.append_nil]
  rfl
abbrev KQ := Ex → FT → Nat → OV → Hp → Nat → Nat → FuncId → Option Ans
noncomputable def execQ (E : Env) (ca : CallT) (lo : LoopT) : ACode → FT → Nat → OV → Hp → Nat → Nat → FuncId → KQ → Option Ans
  | .skip, T, n, ov, hb, nx, rt, me, k => k .normal T n ov hb nx rt me
  | .region _ ops d, T, n, ov, hb, nx, rt, me, k =>
    match d with
    | true => if drawOk E.P ops then fNL (Region.before ops.toArray).toList fun befs => stepDQ E ca ops befs nx hb nx me ops 0 nx [] T ov fun e T ov nx => k e T n ov hb nx rt me else none
    | false => stepOpsQ E ca ops hb nx me ops nx T ov fun e T ov nx => k e T n ov hb nx rt me
  | .seq a b, T, n, ov, hb, nx, rt, me, k => execQ E ca lo a T n ov hb nx rt me fun e T n ov hb nx rt me => match e with
    | .normal => execQ E ca lo b T n ov hb nx rt me k
    | e => k e T n ov hb nx rt me
  | .cond c x y, T, n, ov, hb, nx, rt, me, k =>
    match evQ E T c with
    | .sc (.bool b) => if b then settleQ (E.sett me) c true T fun T => execQ E ca lo x T n ov hb nx rt me k else settleQ (E.sett me) c false T fun T => execQ E ca lo y T n ov hb nx rt me k
    | _ => none
  | .block id c, T, n, ov, hb, nx, rt, me, k => execQ E ca lo c T n ov hb nx rt me fun e T n ov hb nx rt me => match e with
    | .exit j => if j = id then k .normal T n ov hb nx rt me else k (.exit j) T n ov hb nx rt me
    | e => k e T n ov hb nx rt me
  | .loop id live c, T, n, ov, hb, nx, rt, me, k => canonQ live T n ov hb nx rt me fun s => lo id live c s fun e s => ofStQ s fun T n ov hb nx rt me => k e T n ov hb nx rt me
  | .exit id, T, n, ov, hb, nx, rt, me, k => k (.exit id) T n ov hb nx rt me
  | .ret, T, n, ov, hb, nx, rt, me, k => k .ret T n ov hb nx rt me
  | .no _, _, _, _, _, _, _, _, _ => none
def Sim (k : KQ) (K : KX) : Prop := ∀ e T n ov hb nx rt me, T.Inv n → k e T n ov hb nx rt me = K e (absQ T n ov hb nx rt me)
theorem settleQ_eq {on : Bool} {c : Operand} {b : Bool} {T : FT} {n : Nat} {ov : OV} {hb : Hp} {nx rt : Nat} {me : FuncId} {k : FT → Option Ans} {K : St → Option Ans} (h : T.Inv n) (hk : ∀ T, T.Inv n → k T = K (absQ T n ov hb nx rt me)) :
    settleQ on c b T k = settleK on c b (absQ T n ov hb nx rt me) K := by
  unfold settleQ settleK
  cases on with
  | false => exact hk _ h
  | true =>
    cases c with
    | tmp t => simp only [FT.setK_eq, setK_eq]; rw [hk _ (FT.inv_set h)]; unfold absQ; rw [FT.toL_set h]
    | const v => exact hk _ h
    | global g => exact hk _ h
    | func f => exact hk _ h
theorem execQ_eq {E : Env} {ca : CallT} {lo : LoopT} : ∀ (c : ACode) (T : FT) (n : Nat) (ov : OV) (hb : Hp) (nx rt : Nat) (me : FuncId) (k : KQ) (K : KX), T.Inv n → Sim k K → execQ E ca lo c T n ov hb nx rt me k = execK E ca lo c (absQ T n ov hb nx rt me) K
  | .skip, T, n, ov, hb, nx, rt, me, k, K, h, hk => hk _ _ _ _ _ _ _ _ h
  | .region _ ops d, T, n, ov, hb, nx, rt, me, k, K, h, hk => by
    cases d with
    | false =>
      rw [execQ, execK, if_neg Bool.false_ne_true]
      exact stepOpsQ_eq (fun e T ov nx h => hk e T n ov hb nx rt me h) ops 0 nx T ov (by simp [absQ]) h
    | true =>
      rw [execQ, execK, if_pos rfl]
      by_cases hd : drawOk E.P ops = true
      · rw [if_pos hd, if_pos hd, fNL_eq, fNL_eq]
        exact stepDQ_eq (fun e T ov nx h => hk e T n ov hb nx rt me h) ops 0 nx [] T ov (by simp [absQ]) h
      · rw [if_neg hd, if_neg hd]
  | .seq a b, T, n, ov, hb, nx, rt, me, k, K, h, hk => by
    rw [execQ, execK]
    refine execQ_eq a T n ov hb nx rt me _ _ h fun e T n ov hb nx rt me h => ?_
    cases e with
    | normal => exact execQ_eq b T n ov hb nx rt me k K h hk
    | exit j => exact hk _ _ _ _ _ _ _ _ h
    | ret => exact hk _ _ _ _ _ _ _ _ h
    | panic v => exact hk _ _ _ _ _ _ _ _ h
  | .cond c x y, T, n, ov, hb, nx, rt, me, k, K, h, hk => by
    rw [execQ, execK, evQ_eq E h]
    show (match evA E (T.toL n) c with | .sc (.bool b) => _ | _ => _) = (match evA E (T.toL n) c with | .sc (.bool b) => _ | _ => _)
    cases evA E (T.toL n) c <;> try rfl
    rename_i v
    cases v <;> try rfl
    rename_i b
    cases b with
    | false => exact settleQ_eq (K := fun s => execK E ca lo y s K) h fun T h => execQ_eq y T n ov hb nx rt me k K h hk
    | true => exact settleQ_eq (K := fun s => execK E ca lo x s K) h fun T h => execQ_eq x T n ov hb nx rt me k K h hk
  | .block id c, T, n, ov, hb, nx, rt, me, k, K, h, hk => by
    rw [execQ, execK]
    refine execQ_eq c T n ov hb nx rt me _ _ h fun e T n ov hb nx rt me h => ?_
    cases e with
    | normal => exact hk _ _ _ _ _ _ _ _ h
    | exit j =>
      simp only
      by_cases hj : j = id
      · rw [if_pos hj, if_pos hj]; exact hk _ _ _ _ _ _ _ _ h
      · rw [if_neg hj, if_neg hj]; exact hk _ _ _ _ _ _ _ _ h
    | ret => exact hk _ _ _ _ _ _ _ _ h
    | panic v => exact hk _ _ _ _ _ _ _ _ h
  | .loop id live c, T, n, ov, hb, nx, rt, me, k, K, h, hk => by
    rw [execQ, execK, canonQ_eq]
    congr 1
    funext s
    congr 1
    funext e s
    exact ofStQ_eq fun T n ov hb nx rt me h => hk e T n ov hb nx rt me h
  | .exit id, T, n, ov, hb, nx, rt, me, k, K, h, hk => hk _ _ _ _ _ _ _ _ h
  | .ret, T, n, ov, hb, nx, rt, me, k, K, h, hk => hk _ _ _ _ _ _ _ _ h
  | .no _, _, _, _, _, _, _, _, _, _, _, _ => rfl
noncomputable def loopQ (E : Env) (ca : CallT) (lo : LoopT) (id live : Nat) (c : ACode) (s : St) (k : KX) : Option Ans :=
  ofStQ s fun T n ov hb nx rt me => execQ E ca lo c T n ov hb nx rt me fun e T n ov hb nx rt me => match e with
    | .normal => canonQ live T n ov hb nx rt me fun s => lo id live c s k
    | e => toLK T n [] fun l => k e { fr := l, H := lkp hb ov, nx := nx, rt := rt, me := me }
theorem loopQ_eq {E : Env} {ca : CallT} {lo : LoopT} {id live : Nat} {c : ACode} {s : St} {k : KX} : loopQ E ca lo id live c s k = loopK E ca lo id live c s k := by
  unfold loopQ loopK
  refine ofStQ_eq (K := fun s => execK E ca lo c s fun e s => match e with | .normal => canonK live s fun s => lo id live c s k | e => k e s) fun T n ov hb nx rt me h => execQ_eq c T n ov hb nx rt me _ _ h fun e T n ov hb nx rt me h => ?_
  cases e with
  | normal => exact canonQ_eq
  | exit j => simp only [toLK_eq, List.append_nil]; rfl
  | ret => simp only [toLK_eq, List.append_nil]; rfl
  | panic v => simp only [toLK_eq, List.append_nil]; rfl
noncomputable def callQ (E : Env) (ca : CallT) (lo : LoopT) (f : FuncId) (args : List V) (L : List (Option Chunk)) (k : CRes → Option Ans) : Option Ans :=
  match E.code f with
  | some c => match E.P.funcs[f]? with
    | some fn => fL args fun args => FT.ofK (args ++ List.replicate (fn.ntmps - args.length) (.sc undef)) 0 .e fun T n =>
      forceS (dd [] (idsL args)).length fun rt => if rt ≤ L.length then
        forceS L.length fun nx => execQ E ca lo c T n [] (hp L) nx rt f fun e T n ov hb nx rt me => toLK T n [] fun l => endK E fn k e { fr := l, H := lkp hb ov, nx := nx, rt := rt, me := me }
      else none
    | none => none
  | none => none
theorem callQ_eq {E : Env} {ca : CallT} {lo : LoopT} {f : FuncId} {args : List V} {L : List (Option Chunk)} {k : CRes → Option Ans} : callQ E ca lo f args L k = callK E ca lo f args L k := by
  unfold callQ callK
  cases E.code f with
  | none => rfl
  | some c =>
    simp only
    cases E.P.funcs[f]? with
    | none => rfl
    | some fn =>
      simp only [fL_eq]
      obtain ⟨T, e1, e2, e3⟩ := FT.ofK_spec (args ++ List.replicate (fn.ntmps - args.length) (.sc undef)) 0 .e (fun T n =>
        forceS (dd [] (idsL args)).length fun rt => if rt ≤ L.length then
          forceS L.length fun nx => execQ E ca lo c T n [] (hp L) nx rt f fun e T n ov hb nx rt me => toLK T n [] fun l => endK E fn k e { fr := l, H := lkp hb ov, nx := nx, rt := rt, me := me }
        else none) FT.inv_e
      rw [e1]
      simp only [forceS_eq]
      by_cases hle : (dd [] (idsL args)).length ≤ L.length
      · rw [if_pos hle, if_pos hle, execQ_eq c T _ [] (hp L) L.length _ f _ (endK E fn k) e2 (fun e T n ov hb nx rt me h => by simp only [toLK_eq, List.append_nil]; rfl)]
        unfold absQ
        rw [e3, lkp_nil]
        simp [FT.toL]
      · rw [if_neg hle, if_neg hle]
mutual
noncomputable def callFQ (E : Env) : Nat → CallT
  | 0 => fun _ _ _ _ => none
  | n + 1 => fun f args L k => match callQ E (callFQ E n) (loopFQ E n) f args L (fun r => some (.c r)) with
    | some (.c r) => k r
    | _ => none
noncomputable def loopFQ (E : Env) : Nat → LoopT
  | 0 => fun _ _ _ _ _ => none
  | n + 1 => fun id live c s k => match loopQ E (callFQ E n) (loopFQ E n) id live c s (fun e s => some (.l e s)) with
    | some (.l e s) => k e s
    | _ => none
end
theorem fQ_eq (E : Env) : ∀ n, callFQ E n = callF E n ∧ loopFQ E n = loopF E n
  | 0 => by simp [callFQ, callF, loopFQ, loopF]
  | n + 1 => by
    obtain ⟨h1, h2⟩ := fQ_eq E n
    constructor
    · funext f args L k
      rw [callFQ, callF, h1, h2]
      simp only [callQ_eq]
      rfl
    · funext id live c s k
      rw [loopFQ, loopF, h1, h2]
      simp only [loopQ_eq]
      rfl
theorem SC.closedQ {E : Env} (hW : WF E) (hX : SoundX E) (n : Nat) {f : FuncId} {args : List V} {L : List (Option Chunk)} {cr : CRes} (h : callFQ E n f args L (fun r => some (.c r)) = some (.c cr)) : SC E f args L cr :=
  SC.closed hW hX n (by rw [← (fQ_eq E n).1]; exact h)
end Go.Am
