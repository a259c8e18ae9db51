/- Append; operations of the model's that name no memory; all operations. -/
import Derived.Test.YtniogljhkjbcgaaDoorAmH
namespace Go.Am
open Go Go.RowKit
set_option linter.unusedSimpArgs false
set_option linter.unusedVariables false

section
variable {P : Program} {β : Bt} {S D : Pr} {H : Hp} {w : World} {new : Nat} {o : Oper} {a : Act} {k : KR} {r : Ans}

theorem run_call_builtin {b : Builtin} {c : Call} (hc : c.callee = .builtin b) (ho : o.op = .call c) : ∃ cs, execOp a.eval o = builtin b c.argTypes o.type cs (c.args.map a.eval) := by
  refine ⟨c.args.map fun | .const _ => true | _ => false, ?_⟩
  simp [execOp, ho, resolve, hc, invoke]
  rfl
/-- The cells of a row, element by element. -/
theorem news_get {c m : Nat} {us : Nat → List Value} (hl : ∀ j, j < m → (us j).length = c) {j i : Nat} (hj : j < m) (hi : i < c) : (((List.range m).map us).flatten)[j * c + i]? = (us j)[i]? :=
  flatten_get (fun vs hvs => by obtain ⟨j, hj, rfl⟩ := List.mem_map.1 hvs; exact hl j (by simpa using hj)) j (us j) (by simp [hj]) i hi
theorem news_len {c m : Nat} {us : Nat → List Value} (hl : ∀ j, j < m → (us j).length = c) : (((List.range m).map us).flatten).length = m * c := by
  rw [flatten_len (k := c) (fun vs hvs => by obtain ⟨j, hj, rfl⟩ := List.mem_map.1 hvs; exact hl j (by simpa using hj))]
  simp

theorem zeroOk_spec {e : TypeId} {c : Nat} {i : TypeInfo} (hi : P.info? e = some i) (h : zeroOk P e c = true) : ∃ z : Value, i.zero = some z ∧ z.cells.size = c := by
  unfold zeroOk at h
  rw [hi] at h
  simp only at h
  split at h
  · rename_i z hz; exact ⟨z, hz, by simpa using h⟩
  · cases h

theorem append_sound {pr : Bool} (hM : Mem β S D H w) (hn : ¬ D new) {t : TypeId} {x y : Operand} {vx vy : V} {c : Call} (hc : c.callee = .builtin .append) (ho : o.op = .call c) (hargs : c.args = #[x, y]) (hts : c.argTypes = #[t, t])
    (hx : den β S w D vx (a.eval x)) (hy : den β S w D vy (a.eval y)) (h : effAppend P pr t vx vy H new k = some r) : Good P β S D H new o a w k r := by
  have hex : ∀ v w', (Builtin.append_ #[t, t] o.type #[a.eval x, a.eval y]).run P w = .ok v w' → (execOp a.eval o).run P w = .ok (.value v) w' := by
    intro v w' hr
    obtain ⟨cs, hcs⟩ := run_call_builtin (a := a) hc ho
    rw [hcs, hargs, hts]
    simp [builtin, Sem.run_bind, hr]
  unfold effAppend at h
  split at h
  · rename_i e he
    split at h
    · rename_i z by_ hz hb
      replace h := bw1K_elems (F := appK P pr e z by_ vx H new k) h
      unfold appK at h
      simp only [ifand] at h
      split at h
      case h_2 => cases h
      rename_i cc m g hel
      obtain ⟨A, cap, ad, us, hu, hA, hus⟩ := elems_den hM hel hy
      -- the element's type
      cases hi : P.info? e with
      | none => simp [szP, hi] at hz
      | some i =>
        have hz1 : i.size = z := by simpa [szP, hi] using hz
        have hb1 : i.bytes = by_ := by simpa [bytesP, hi] using hb
        split at h
        · -- nil
          simp only [den] at hx
          split at h
          · rename_i hm
            subst hm
            refine ⟨_, h, good_same hM (u := .slice none 0 0) (hex _ _ ?_) (by simp only [den])⟩
            rw [hx, hu]
            exact run_append_none (elem_under he) hz (Nat.le_refl _)
          · rename_i hm
            split at h
            · rename_i hcond
              obtain ⟨⟨hz0, hcz, hzo⟩, hroom, hmax⟩ := hcond
              obtain ⟨zv, hzv, hzs⟩ := zeroOk_spec hi hzo
              subst hcz
              have hl : ∀ j, j < m → (us j).length = cc := fun j hj => (hus j hj).2.2.1
              have hA' := hA (by omega)
              subst hA'
              obtain ⟨v', w', r1, r2, r3, r4, r5⟩ := run_append_own_at (P := P) w 0 t o.type e i zv cc by_ (elem_under he) hi hzv hz1 hb1 hzs hz0 (.slice none 0 0) 0 [] (World.ownsRow_nil _ _ _ _) ad m cap (((List.range m).map us).flatten)
                (news_len hl) (fun q v hq => by
                  have hql := (List.getElem?_eq_some_iff.1 hq).1
                  rw [news_len hl] at hql
                  have hqm : q / cc < m := Nat.div_lt_of_lt_mul (by rw [Nat.mul_comm]; exact hql)
                  have hqc : q % cc < cc := Nat.mod_lt _ hz0
                  have e1 : q / cc * cc + q % cc = q := by rw [Nat.mul_comm]; exact Nat.div_add_mod _ _
                  have := news_get hl hqm hqc
                  rw [e1, hq] at this
                  have := (hus _ hqm).2.2.2.2 (q % cc) v this.symm
                  rwa [e1] at this) (fun v hv => by
                  obtain ⟨vs, hvs, hv'⟩ := List.mem_flatten.1 hv
                  obtain ⟨j, hj, rfl⟩ := List.mem_map.1 hvs
                  exact one_mem (hus j (by simpa using hj)).2.2.2.1 v hv') (by simpa using hmax) (by simpa [roomBound] using hroom) (Nat.zero_le _)
              rcases r2.2 with ⟨rfl, _⟩ | ⟨g1, cap1, cur, rfl, _, c1, c2, c3, c4, c5⟩
              · exact absurd (r4.1 rfl).2 hm
              · have hg1 : g1 = w.heap.size := by
                  rcases r5 with r5 | r5
                  · simp [Value.ownBlock] at r5
                  · simpa [Value.ownBlock] using r5
                subst hg1
                have hlt : w.heap.size < w'.heap.size := (Array.getElem?_eq_some_iff.1 c1).1
                refine ⟨_, h, good_row hM hn (m := cap1) (cur := cur) (b := w.heap.size) hz0 (by omega) c3 c4 ⟨r3.os, r3.tape, r3.output, r3.size, fun b hb => r3.block b hb (by simp [Value.ownBlock])⟩ (Nat.le_refl _) hlt c1 ?_ (hex _ _ (by rw [hx, hu]; simpa using r1))⟩
                intro j hj
                obtain ⟨q1, q2, q3, q4, q5⟩ := hus j hj
                refine ⟨us j, q1, q2, q3, q4, fun q v hq => ?_⟩
                have hqc : q < cc := by rw [← q3]; exact (List.getElem?_eq_some_iff.1 hq).1
                have h1 := news_get hl hj hqc
                rw [hq] at h1
                have : (cur.toList.take ((0 + m) * cc))[j * cc + q]? = some v := by rw [c5]; simpa using h1
                rw [List.getElem?_take] at this
                split at this
                · simpa using this
                · cases this
            · cases h
        · -- one's own
          rename_i ii zz oo l
          split at h
          · rename_i e' c' n f hrow
            split at h
            · rename_i hcond
              obtain ⟨⟨hz0, hmc', rfl, rfl, rfl, hzz, hzo⟩, hroom, hmax, hln⟩ := hcond
              have hmc := hmc'.symm
              obtain ⟨zv, hzv, hzs⟩ := zeroOk_spec hi hzo
              obtain ⟨b, M, hb, hr⟩ := hM.live ii _ hrow
              simp only [chunkRel] at hr
              obtain ⟨h1, h2, h3, cur, h4, h5, h6⟩ := hr
              simp only [den] at hx
              obtain ⟨g1, B, hxu, g2⟩ := hx.2 b M hb
              have hB := g2 (.inr trivial)
              simp only [Nat.zero_mul, Nat.sub_zero] at hB hxu g1
              subst hB
              have hrowl : ∀ j, j < l → ∃ us', denL β S w D (f j) us' ∧ pureL (f j) = true ∧ us'.length = z ∧ us'.all Value.oneCell' = true ∧ ∀ q v, us'[q]? = some v → cur[j * z + q]? = some v := fun j hj => h6 j (by omega)
              have hlM : l * z ≤ M * z := Nat.mul_le_mul_right z (by omega)
              by_cases hm : m = 0
              · subst hm
                have hrun := run_append_none (P := P) (w := w) (t := t) (ty := o.type) (A := some ⟨b, 0, none⟩) (A' := A) (cap' := cap) (elem_under he) hz (show l ≤ M by omega)
                obtain ⟨q1, q2, q3⟩ := hM.move (D' := span D new) (w' := w) (g := b) (cap := M) (n := new) (c' := .row e z (l + 0) (joinR pr 0 l f g)) hrow hb hn (span_sub D new) (span_new D new) ⟨rfl, rfl, rfl, Nat.le_refl _, fun _ _ _ => rfl⟩ (.inl rfl) (hM.own _ _ _ hb).1 (by
                  simp only [chunkRel]
                  refine ⟨by omega, h2, hz0, cur, h4, h5, fun j hj => ?_⟩
                  obtain ⟨us', p1, p2, p3, p4, p5⟩ := hrowl j (by omega)
                  rw [joinR_eq (c := z) (by omega) (fun j hj => by obtain ⟨us', p1, _, p3, _⟩ := hrowl j hj; rw [denL_len p1]; exact p3) (fun j hj => absurd hj (Nat.not_lt_zero j)) (by omega)]
                  simp only [joinF, if_pos (show j < l by omega)]
                  exact ⟨us', denL_pure (fun _ h => h) (fun _ _ => rfl) _ _ p2 p1, p2, p3, p4, p5⟩)
                refine ⟨_, h, _, _, _, _, .inl (hex _ _ (by rw [hxu, hu]; exact hrun)), q1, ?_, q2, q3, Same.refl _ _ _⟩
                simp only [den]
                refine ⟨⟨span_new D new, rfl⟩, fun b' m' hb' => ?_⟩
                rw [upd_same] at hb'
                cases hb'
                exact ⟨by omega, ⟨b, 0, none⟩, by simp, fun _ => by simp⟩
              · have hcz := hmc.resolve_left hm
                subst hcz
                have hl : ∀ j, j < m → (us j).length = cc := fun j hj => (hus j hj).2.2.1
                have hA' := hA (by omega)
                subst hA'
                obtain ⟨v', w', r1, r2, r3, r4, r5⟩ := run_append_own_at (P := P) w 0 t o.type e i zv cc by_ (elem_under he) hi hzv hz1 hb1 hzs hz0 (.slice (some ⟨b, 0, none⟩) l M) l (cur.toList.take (l * cc))
                  ⟨by simp; omega, .inr ⟨b, M, cur, rfl, Nat.zero_le _, h4, by omega, h2, h5, rfl⟩⟩ ad m cap (((List.range m).map us).flatten)
                  (news_len hl) (fun q v hq => by
                    have hql := (List.getElem?_eq_some_iff.1 hq).1
                    rw [news_len hl] at hql
                    have hqm : q / cc < m := Nat.div_lt_of_lt_mul (by rw [Nat.mul_comm]; exact hql)
                    have hqc : q % cc < cc := Nat.mod_lt _ hz0
                    have e1 : q / cc * cc + q % cc = q := by rw [Nat.mul_comm]; exact Nat.div_add_mod _ _
                    have := news_get hl hqm hqc
                    rw [e1, hq] at this
                    have := (hus _ hqm).2.2.2.2 (q % cc) v this.symm
                    rwa [e1] at this) (fun v hv => by
                    obtain ⟨vs, hvs, hv'⟩ := List.mem_flatten.1 hv
                    obtain ⟨j, hj, rfl⟩ := List.mem_map.1 hvs
                    exact one_mem (hus j (by simpa using hj)).2.2.2.1 v hv') hmax (by simpa [roomBound] using hroom) (Nat.zero_le _)
                rcases r2.2 with ⟨rfl, _⟩ | ⟨g3, cap1, cur1, rfl, _, c1, c2, c3, c4, c5⟩
                · exact absurd (r4.1 rfl).2 hm
                · have hg3 : g3 = b ∨ w.heap.size ≤ g3 := by
                    rcases r5 with r5 | r5
                    · left; simpa [Value.ownBlock] using r5
                    · right; simp only [Value.ownBlock, Option.some.injEq] at r5; omega
                  have hlt : g3 < w'.heap.size := (Array.getElem?_eq_some_iff.1 c1).1
                  have hk : Kept S w w' := fun x hx => r3.block x (hM.st x hx) (fun e => by simp only [Value.ownBlock, Option.some.injEq] at e; subst e; exact (hM.own ii _ M hb).2 hx)
                  have htake : ∀ (q : Nat) (v : Value), (cur.toList.take (l * cc) ++ ((List.range m).map us).flatten)[q]? = some v → cur1[q]? = some v := by
                    intro q v hq
                    rw [← c5, List.getElem?_take] at hq
                    split at hq
                    · simpa using hq
                    · cases hq
                  have hcl : (cur.toList.take (l * cc)).length = l * cc := by simp; omega
                  obtain ⟨q1, q2, q3⟩ := hM.move (D' := span D new) (w' := w') (g := g3) (cap := cap1) (n := new) (c' := .row e cc (l + m) (joinR pr m l f g)) hrow hb hn (span_sub D new) (span_new D new) (by simpa [Value.ownBlock] using r3) hg3 hlt (by
                    simp only [chunkRel]
                    refine ⟨c2, c3, hz0, cur1, c1, c4, fun j hj => ?_⟩
                    rw [joinR_eq (c := cc) (by omega) (fun j hj => by obtain ⟨us', p1, _, p3, _⟩ := hrowl j hj; rw [denL_len p1]; exact p3) (fun j hj => by obtain ⟨p1, _, p3, _⟩ := hus j hj; rw [denL_len p1]; exact p3) (by omega)]
                    by_cases hjl : j < l
                    · obtain ⟨us', p1, p2, p3, p4, p5⟩ := hrowl j hjl
                      simp only [joinF, if_pos hjl]
                      refine ⟨us', denL_pure (fun _ h => h) hk _ _ p2 p1, p2, p3, p4, fun q v hq => htake _ _ ?_⟩
                      have hqc : q < cc := by rw [← p3]; exact (List.getElem?_eq_some_iff.1 hq).1
                      have : (j + 1) * cc ≤ l * cc := Nat.mul_le_mul_right cc (by omega)
                      rw [Nat.add_mul] at this
                      rw [List.getElem?_append, if_pos (by omega), List.getElem?_take, if_pos (by omega)]
                      simpa using p5 q v hq
                    · obtain ⟨p1, p2, p3, p4, p5⟩ := hus (j - l) (by omega)
                      simp only [joinF, if_neg hjl]
                      refine ⟨us (j - l), denL_pure (fun _ h => h) hk _ _ p2 p1, p2, p3, p4, fun q v hq => htake _ _ ?_⟩
                      have hqc : q < cc := by rw [← p3]; exact (List.getElem?_eq_some_iff.1 hq).1
                      have h7 := news_get hl (show j - l < m by omega) hqc
                      have : l * cc ≤ j * cc := Nat.mul_le_mul_right cc (by omega)
                      rw [List.getElem?_append, if_neg (by omega), hcl, show j * cc + q - l * cc = (j - l) * cc + q by rw [Nat.sub_mul]; omega, h7]
                      exact hq)
                  refine ⟨_, h, _, _, _, _, .inl (hex _ _ (by rw [hxu, hu]; exact r1)), q1, ?_, q2, q3, fun i' b' m' hi' hn' => r3.block b' (hM.own i' b' m' hi').1 (fun e => by
                    simp only [Value.ownBlock, Option.some.injEq] at e
                    subst e
                    exact hn' (by have := hM.inj i' ii _ _ _ hi' hb; simp [this]))⟩
                  simp only [den]
                  refine ⟨⟨span_new D new, rfl⟩, fun b' m' hb' => ?_⟩
                  rw [upd_same] at hb'
                  cases hb'
                  exact ⟨by omega, ⟨g3, 0, none⟩, by simp, fun _ => by simp⟩
            · cases h
          · cases h
        · cases h
    · cases h
  · cases h
end
end Go.Am
