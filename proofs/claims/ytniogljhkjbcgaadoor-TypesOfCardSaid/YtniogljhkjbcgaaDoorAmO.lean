/- Functions: what a run of the executor says of a call in the model. -/
import Derived.Test.YtniogljhkjbcgaaDoorAmN
import Derived.Recover
namespace Go.Am
open Go Go.RowKit
set_option linter.unusedSimpArgs false
set_option linter.unusedVariables false

/-- Deferred, it leaves what is there where the one below returns. -/
def Idle (P : Program) (g : FuncId) (n : Nat) : Prop := ∀ (us : Array Value) (w : World), us.size = n → (callFunc g us).run P w = .ok (.enter g us) w ∧ CallsD P g us .returning w fun e u' w' => (∃ v, e = .returned v) ∧ u' = .returning ∧ Below w.heap.size w w'
theorem below_trans {w w' w'' : World} (h : Below w.heap.size w w') (g : Below w'.heap.size w' w'') : Below w.heap.size w w'' :=
  ⟨g.os.trans h.os, g.tape.trans h.tape, g.output.trans h.output, Nat.le_trans h.size g.size, fun b hb => (g.block b (Nat.lt_of_lt_of_le hb h.size)).trans (h.block b hb)⟩
theorem below_refl (w : World) : Below w.heap.size w w := ⟨rfl, rfl, rfl, Nat.le_refl _, fun _ _ => rfl⟩
theorem leaves_idle {E : Env} (hI : ∀ g n, E.idle g = some n → Idle E.P g n) {fn : Func} {tmps : Array Value} {R : Ending → World → Prop} :
    ∀ (ds : List Deferred) (w : World), (∀ w', Below w.heap.size w w' → ∃ v, (results fn tmps).run E.P w' = .ok v w' ∧ R (.returned v) w') → (∀ d, d ∈ ds → ∃ (g : FuncId) (us : Array Value), E.idle g = some us.size ∧ d = { target := .fn (.func g) us, args := #[] }) → Leaves E.P fn tmps R ds .returning w := by
  intro ds
  induction ds with
  | nil => intro w hR _; exact hR w (below_refl w)
  | cons d ds ih =>
    intro w hR h
    obtain ⟨g, us, h1, rfl⟩ := h d (.head _)
    obtain ⟨h2, h3⟩ := hI g us.size h1 us w rfl
    refine leaves_cons (f := g) (args := us) (by simp) (by simpa [invoke] using h2) (h3.mono ?_)
    rintro e u' w' ⟨⟨v', rfl⟩, rfl, hb⟩
    exact ih w' (fun w'' hb' => hR w'' (below_trans hb hb')) fun d hd => h d (.tail _ hd)
theorem Rel.below {E : Env} {β : Bt} {S D : Pr} {s : St} {a : Act} {w w' : World} (h : Rel E β S D s a w) (hb : Below w.heap.size w w') : Rel E β S D s a w' :=
  have hk : Kept S w w' := fun b hs => hb.block b (h.mem.st b hs)
  Rel.mk (denL_later (fun _ _ => .inl rfl) (fun _ h => h) (fun _ h => h) hk _ _ h.fr) (h.mem.below hb) h.df h.lt (h.gl.later (fun _ h => h) hk) h.rtD
/-- The code of E is the program's. -/
def WF (E : Env) : Prop := (∀ g n, E.idle g = some n → Idle E.P g n) ∧ ∀ f c, E.code f = some c → ∃ fn, E.P.funcs[f]? = some fn ∧ fn.body = some c.erase ∧ fn.name ≠ "runtime.NumGoroutine"

def resF (tmps : Array Value) (r0 : ResultVar) : Sem Value :=
  match r0 with
  | .tmp t => pure (tmps.getD t undef)
  | .cell q t => do loadVar t (← asAddr (tmps.getD q undef))
theorem results_eq (fn : Func) (tmps : Array Value) : results fn tmps = (do let vs ← fn.results.mapM (resF tmps); pure (if h : vs.size = 1 then vs[0] else .tuple vs)) := rfl
section
variable {E : Env} {β : Bt} {S D : Pr} {w : World}
theorem res_sound {s : St} {r0 : ResultVar} {k : V → Option Ans} {r : Ans} (h : resK E s r0 k = some r) : ∃ v, k v = some r ∧ ∀ (β : Bt) (S D : Pr) (a : Act) (w : World), Rel E β S D s a w →
    ∃ u, (resF a.tmps r0).run E.P w = .ok u w ∧ den β S w D v u := by
  unfold resK at h
  split at h
  · rename_i t
    refine ⟨_, h, fun β S D a w hR => ⟨a.tmps.getD t undef, rfl, ?_⟩⟩
    have := denL_getD hR.fr t
    simpa using this
  · rename_i t ty
    split at h
    · rename_i i o hp
      split at h
      · rename_i cs hi
        split at h
        · rename_i v hv
          refine ⟨v, h, fun β S D a w hR => ?_⟩
          have hd := denL_getD hR.fr t
          rw [hp] at hd
          obtain ⟨b, m, hb, hr⟩ := hR.mem.live i _ hi
          simp only [chunkRel] at hr
          obtain ⟨us, T, h1, h2, h3⟩ := hr
          simp only [den] at hd
          have hu := hd.2 b m hb
          have hu' : a.tmps.getD t undef = .pointer (some ⟨b, o, none⟩) := by simpa using hu
          obtain ⟨y, hy1, hy2⟩ := seg_load (p := ⟨b, o, none⟩) hv h2 h3 (fun i x hx => by rw [add_lit, cell_of_row w b (o + i) _ _ _ h1]; simpa using hx)
          refine ⟨y, ?_, hy2⟩
          simp only [resF]
          rw [hu']
          simp [asAddr, hy1]
        · cases h
      · cases h
    · cases h
theorem resL_sound {s : St} : ∀ (rs : List ResultVar) {k : List V → Option Ans} {r : Ans}, resLK E s rs k = some r → ∃ vs, k vs = some r ∧ ∀ (β : Bt) (S D : Pr) (a : Act) (w : World), Rel E β S D s a w →
    ∃ us : List Value, (rs.mapM (resF a.tmps)).run E.P w = .ok us w ∧ denL β S w D vs us
  | [], k, r, h => ⟨_, h, fun β S D a w hR => ⟨[], rfl, by simp [denL]⟩⟩
  | r0 :: rs, k, r, h => by
    simp only [resLK] at h
    obtain ⟨v, h1, h2⟩ := res_sound h
    obtain ⟨vs, h3, h4⟩ := resL_sound rs h1
    refine ⟨v :: vs, h3, fun β S D a w hR => ?_⟩
    obtain ⟨u, g1, g2⟩ := h2 β S D a w hR
    obtain ⟨us, g3, g4⟩ := h4 β S D a w hR
    refine ⟨u :: us, ?_, by simp only [denL]; exact ⟨u, us, rfl, g2, g4⟩⟩
    rw [List.mapM_cons, Sem.run_bind, g1, Result.andThen_ok, Sem.run_bind, g3]
    rfl
theorem one1_den {vs : List V} {us : List Value} (h : denL β S w D vs us) : den β S w D (one1 vs) (if h : us.toArray.size = 1 then us.toArray[0] else .tuple us.toArray) := by
  have hl := denL_len h
  unfold one1
  split
  · rename_i v
    simp only [denL] at h
    obtain ⟨x, xs, rfl, h1, rfl⟩ := h
    simpa using h1
  · rename_i hne
    have : ¬ us.toArray.size = 1 := by
      intro h1
      simp only [List.size_toArray] at h1
      rw [h1] at hl
      obtain ⟨v, rfl⟩ := List.length_eq_one_iff.1 hl
      exact hne v rfl
    rw [dif_neg this]
    simp only [den]
    exact ⟨us, rfl, h⟩

theorem call_rule {ca : CallT} {lo : LoopT} (hW : WF E) (hC : SoundC E ca) (hX : SoundX E) (hL : SoundL E lo) {f : FuncId} {args : List V} {L : List (Option Chunk)} {k : CRes → Option Ans} {r : Ans}
    (h : callK E ca lo f args L k = some r) : ∃ cr, k cr = some r ∧ SC E f args L cr := by
  unfold callK at h
  split at h
  · rename_i c hc
    obtain ⟨fn, hf, hb, hname⟩ := hW.2 f c hc
    simp only [hf, fL_eq] at h
    split at h
    · rename_i hrt
      obtain ⟨e, s', h1, h2⟩ := exec_sound hC hX hL c _ _ r h
      have hcal : callable E.P f := ⟨fn, hf, by rw [hb]; rfl, hname⟩
      -- the state at the beginning
      have hstart : ∀ (β : Bt) (S : Pr) (w : World) (us : List Value), denL β S w (· < L.length) args us → Mem β S (· < L.length) (hp L) w → Glob E S w →
          Rel E β S (· < L.length) { fr := args ++ List.replicate (fn.ntmps - args.length) (.sc undef), H := hp L, nx := L.length, rt := (dd [] (idsL args)).length, me := f } { tmps := us.toArray ++ Array.replicate (fn.ntmps - us.toArray.size) undef, defers := [] } w := by
        intro β S w us hus hm hg
        refine ⟨?_, hm, ⟨fun _ => rfl, fun d hd => by cases hd⟩, fun i hi => hi, hg, fun i hi => Nat.lt_of_lt_of_le hi hrt⟩
        have hl := denL_len hus
        simp only [Array.toList_append, Array.toList_replicate]
        refine denL_append hus ?_
        rw [List.size_toArray, ← hl]
        have := denL_map (β := β) (S := S) (w := w) (D := (· < L.length)) (f := fun _ : Nat => V.sc undef) (g := fun _ => undef) (l := List.range (fn.ntmps - args.length)) (fun _ _ => by simp [den])
        simpa [List.map_const'] using this
      have hend : ∀ (e : Ex) (s' : St), (e = .normal ∨ e = .ret) → Ends E c { fr := args ++ List.replicate (fn.ntmps - args.length) (.sc undef), H := hp L, nx := L.length, rt := (dd [] (idsL args)).length, me := f } e s' →
          (resLK E s' fn.results.toList fun vs => leaveK s' (one1 vs) k) = some r → ∃ cr, k cr = some r ∧ SC E f args L cr := by
        intro e s' he h2 h1
        obtain ⟨vs, h3, h4⟩ := resL_sound _ h1
        simp only [leaveK, fNL_eq, fV_eq, fCL_eq] at h3
        refine ⟨_, h3, hcal, fun β S w us hus hm hg => calls_of_wp_defers hf hb (wp_mono (h2 β S _ _ w (hstart β S w us hus hm hg)) fun e' a' w' hp => ?_)⟩
        obtain ⟨β', S', D', q1, q2, q3, q4, q5, q6⟩ := hp.ex
        have hrel : Rel E β' S' D' s' a' w' := by rcases he with rfl | rfl <;> exact q2
        have hroots := q4
        have hbody : ∀ w2, Below w'.heap.size w' w2 → ∃ v, (results fn a'.tmps).run E.P w2 = .ok v w2 ∧ callPost β S w (dd [] (idsL args)).length
            (.ret ((one1 vs).ren (posOf (reach s'.H deep (chIds s'.H (List.range s'.rt) ++ (one1 vs).ids) (List.range s'.rt)))) (keep s'.H (reach s'.H deep (chIds s'.H (List.range s'.rt) ++ (one1 vs).ids) (List.range s'.rt)))) (.returned v) w2 := by
          intro w2 hbw
          have hrel := hrel.below hbw
          have q3 := q3.trans (Evo.below hbw)
          obtain ⟨rs, g1, g2⟩ := h4 β' S' D' a' w2 hrel
          refine ⟨(if h : rs.toArray.size = 1 then rs.toArray[0] else .tuple rs.toArray), ?_, ?_⟩
          · have hrun : (fn.results.mapM (resF a'.tmps)).run E.P w2 = .ok rs.toArray w2 := by
              rw [Array.mapM_eq_mapM_toList, Sem.run_map, g1]
              rfl
            rw [results_eq, Sem.run_bind, hrun]
            rfl
          · obtain ⟨hn, ex, hex⟩ := reach_spec s'.H deep (chIds s'.H (List.range s'.rt) ++ (one1 vs).ids) (List.range s'.rt) List.nodup_range
            generalize reach s'.H deep (chIds s'.H (List.range s'.rt) ++ (one1 vs).ids) (List.range s'.rt) = order at *
            simp only [callPost]
            have hlen : (keep s'.H order).length = order.length := by simp [keep]
            rw [hlen]
            refine ⟨_, ofOrder β' order, S', rfl, hrel.mem.renum hn, den_ren ren_order _ _ (one1_den g2), ?_, ?_⟩
            · exact q3.trans ⟨rfl, rfl, rfl, Nat.le_refl _, fun _ _ _ => rfl, fun _ h => h, fun _ h => .inl h, fun i b m hb => by
                obtain ⟨j, _, hj⟩ := ofOrder_some hb
                exact .inr ⟨j, m, hj⟩⟩
            · intro i bm hi hb
              have hi' : i < s'.rt := by rw [q5]; exact hi
              have hio : order[i]? = some i := by
                rw [hex, List.getElem?_append, if_pos (by simpa using hi')]
                simp [hi']
              unfold ofOrder at hb
              rw [hio] at hb
              exact hroots i bm hi hb
        have hleave : Leaves E.P fn a'.tmps (callPost β S w (dd [] (idsL args)).length (.ret ((one1 vs).ren (posOf (reach s'.H deep (chIds s'.H (List.range s'.rt) ++ (one1 vs).ids) (List.range s'.rt)))) (keep s'.H (reach s'.H deep (chIds s'.H (List.range s'.rt) ++ (one1 vs).ids) (List.range s'.rt))))) a'.defers .returning w' := by
          exact leaves_idle hW.1 _ _ hbody hrel.df.2
        rcases he with rfl | rfl
        · cases e' <;> simp only [ExR] at q1
          exact hleave
        · cases e' <;> simp only [ExR] at q1
          exact hleave
      unfold endK at h1
      split at h1
      · exact hend _ _ (.inl rfl) h2 h1
      · exact hend _ _ (.inr rfl) h2 h1
      · rename_i v
        split at h1
        · cases h1
        rename_i hdn
        refine ⟨_, h1, hcal, fun β S w us hus hm hg => calls_of_wp_defers hf hb (wp_mono (h2 β S _ _ w (hstart β S w us hus hm hg)) fun e' a' w' hp => ?_)⟩
        obtain ⟨β', S', D', q1, q2, q3, q4, q5, q6⟩ := hp.ex
        cases e' <;> simp only [ExR] at q1
        obtain ⟨u, rfl, g1, g2⟩ := q1
        show Leaves E.P fn a'.tmps _ a'.defers (.panicking _) w'
        rw [q2.df.1 hdn]
        exact ⟨u, β', S', rfl, g1, g2, q3, q2.mem.st⟩
      · cases h1
    · cases h
  · cases h
end
end Go.Am
