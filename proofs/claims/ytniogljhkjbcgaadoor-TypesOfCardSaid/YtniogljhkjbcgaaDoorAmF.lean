/- Stores; slices made, and grown. -/
import Derived.Test.YtniogljhkjbcgaaDoorAmE
namespace Go.Am
open Go Go.RowKit
set_option linter.unusedSimpArgs false
set_option linter.unusedVariables false

theorem one_mem {us : List Value} (h : us.all Value.oneCell' = true) : ∀ v ∈ us, v.oneCell' = true := by simpa [List.all_eq_true] using h
section
variable {P : Program} {β : Bt} {S D : Pr} {H : Hp} {w : World} {new : Nat} {o : Oper} {a : Act} {k : KR} {r : Ans}

theorem pureL_append {l l' : List V} : pureL (l ++ l') = (pureL l && pureL l') := by
  rw [Bool.eq_iff_iff]
  simp only [Bool.and_eq_true, pureL_all, List.mem_append]
  exact ⟨fun h => ⟨fun v hv => h v (.inl hv), fun v hv => h v (.inr hv)⟩, fun h v hv => hv.elim (h.1 v) (h.2 v)⟩
theorem pureL_take {l : List V} (n : Nat) (h : pureL l = true) : pureL (l.take n) = true := pureL_all.2 fun v hv => pureL_all.1 h v (List.mem_of_mem_take hv)

/-- Cells stored into a block. -/
theorem run_store_row {T T' : TypeId} {n b p : Nat} {cur : Array Value} {us : List Value} {v : Value} (hsz : szP P T = some n) (hv : v.cells = us.toArray) (hl : us.length = n) (h1 : us.all Value.oneCell' = true)
    (hb : w.heap[b]? = some (.cells cur T' (0, 0))) (hle : p + n ≤ cur.size) :
    (Instr.storeAt T (.pointer (some ⟨b, p, none⟩)) v).run P w = .ok () (w.setRow b (cur.toList.take p ++ us ++ cur.toList.drop (p + us.length)).toArray) := by
  have hrun := run_storeCells_at (P := P) b p T' us 0 cur w hb (by omega) (one_mem h1)
  simp only [Nat.add_zero] at hrun
  simp only [Instr.storeAt, Instr.sureAddr, storeVar, Sem.run_bind, Sem.run_pure, Result.andThen_ok, run_sz hsz, hv]
  simp [hl, hrun]
theorem setRow_grown (w : World) (b : Nat) (cs : Array Value) : w.grownBy (w.setRow b cs) (some b) :=
  ⟨rfl, rfl, rfl, by simp [World.setRow], fun i _ hi => setRow_other w b i cs (fun e => hi (by rw [e]))⟩
theorem splice_den {cs vs : List V} {us xs : List Value} {p : Nat} (h : denL β S w D cs us) (hv : denL β S w D vs xs) : denL β S w D (splice cs p vs) (us.take p ++ xs ++ us.drop (p + xs.length)) := by
  unfold splice
  rw [denL_len hv]
  exact denL_append (denL_append (denL_take p h) hv) (denL_drop _ h)

theorem store_sound {pb : Bool} (hM : Mem β S D H w) {t : TypeId} {x y : Operand} {vx vy : V} (ho : o.op = .store t x y) (hx : den β S w D vx (a.eval x)) (hy : den β S w D vy (a.eval y))
    (h : effStore P pb t vx vy H k = some r) : Good P β S D H new o a w k r := by
  unfold effStore at h
  simp only [fL_eq, putF_eq] at h
  split at h
  · rename_i n hn
    split at h
    · rename_i hc
      obtain ⟨hl, h1⟩ := hc
      obtain ⟨xs, e1, e2, e3⟩ := cells_den h1 hy
      have hlx := denL_len e2
      split at h
      · rename_i i p
        split at h
        · rename_i cs hi
          split at h
          · rename_i hle
            obtain ⟨b, m, hb, hr⟩ := hM.live i _ hi
            simp only [chunkRel] at hr
            obtain ⟨us, T, g1, g2, g3⟩ := hr
            have hlu := denL_len g2
            simp only [den] at hx
            have hu := hx.2 b m hb
            have hrun := run_store_row (w := w) hn e1 (by omega) e3 g1 (p := p) (by simp; omega)
            have hg := setRow_grown w b (us.take p ++ xs ++ us.drop (p + xs.length)).toArray
            have hk : Kept S w (w.setRow b (us.take p ++ xs ++ us.drop (p + xs.length)).toArray) := fun y hy => hg.block y (hM.st y hy) (fun e => by cases e; exact (hM.own i b m hb).2 hy)
            obtain ⟨q1, q2⟩ := hM.put (c' := .blk (splice cs p vy.cells)) hi hb hg (by
              simp only [chunkRel]
              refine ⟨_, T, setRow_heap w b us.toArray _ T (0, 0) g1, ?_, ?_⟩
              · exact denL_later (fun _ _ => .inl rfl) (fun _ hh => hh) (fun _ hh => hh) hk _ _ (splice_den g2 e2)
              · simp only [List.all_append, all_take p g3, e3, all_drop _ g3, Bool.and_true])
            refine ⟨_, h, undef, _, β, S, .inr ⟨?_, rfl⟩, q1.mono (span_sub D new), by simp [den], q2, Hb.refl _ _, fun i' b' m' hi' hn' => hg.block b' (hM.own i' b' m' hi').1 (fun e => by cases e; exact hn' (by have := hM.inj i' i _ _ _ hi' hb; simp [this]))⟩
            simp only [execOp, ho, hu, Sem.run_bind, hrun, Result.andThen_ok, Sem.run_pure]
          · cases h
        · cases h
      · rename_i i z j p
        split at h
        · rename_i e kk m f hi
          split at h
          · rename_i hjm
            obtain ⟨hj, rfl⟩ := hjm
            split at h
            · rename_i hc
              obtain ⟨hle, hp, hne⟩ := hc
              obtain ⟨b, M, hb, hr⟩ := hM.live i _ hi
              obtain ⟨d1, d2, d3⟩ := hM.drop (fzU vy.cells) (fzU_none _)
              have hni : i ∉ (fzU vy.cells).map (·.1) := by
                intro hm
                simp only [List.mem_map] at hm
                obtain ⟨u, hu, rfl⟩ := hm
                rw [List.all_eq_true] at hne
                have := hne u hu
                simp at this
              have hfz := fzL_sound hM d3 (S' := goneB β S ((fzU vy.cells).map (·.1))) (fun _ h => .inl h) (l := vy.cells) (fun i' b' m' hi' hb' => .inr ⟨i', m', List.mem_map.2 ⟨_, hi', rfl⟩, hb'⟩) e2
              have hi' : updL H (fzU vy.cells) i = some (.row e z m f) := by rw [updL_none _ (fzU_none _), if_neg hni]; exact hi
              have hb' : dropB β ((fzU vy.cells).map (·.1)) i = some (b, M) := by unfold dropB; rw [if_neg hni]; exact hb
              simp only [chunkRel] at hr
              obtain ⟨c1, c2, c3, cur, c4, c5, c6⟩ := hr
              obtain ⟨us, g1, g2, g3, g4, g5⟩ := c6 j hj
              have hlf := denL_len g1
              simp only [den] at hx
              have hu := hx.2 b M hb
              have hjz : (j + 1) * z ≤ M * z := Nat.mul_le_mul_right z (by omega)
              rw [Nat.add_mul] at hjz
              have hrun := run_store_row (w := w) hn e1 (by omega) e3 c4 (p := j * z + p) (by omega)
              have hg := setRow_grown w b (cur.toList.take (j * z + p) ++ xs ++ cur.toList.drop (j * z + p + xs.length)).toArray
              have hk : Kept (goneB β S ((fzU vy.cells).map (·.1))) w (w.setRow b (cur.toList.take (j * z + p) ++ xs ++ cur.toList.drop (j * z + p + xs.length)).toArray) := fun y hy => hg.block y (d1.st y hy) (fun e => by cases e; exact (d1.own i b M hb').2 hy)
              obtain ⟨q1, q2⟩ := d1.put (c' := .row e z m (fun h => if h = j then splice (f j) p (fzL H vy.cells) else f h)) hi' hb' hg (by
                simp only [chunkRel]
                refine ⟨c1, c2, c3, _, setRow_heap w b cur _ e (0, 0) c4, by simp; omega, ?_⟩
                intro g0 hg0
                by_cases hhj : g0 = j
                · subst hhj
                  simp only [if_true]
                  have hlz := denL_len hfz
                  refine ⟨us.take p ++ xs ++ us.drop (p + xs.length), ?_, ?_, ?_, ?_, ?_⟩
                  · exact denL_later (fun _ _ => .inl rfl) (fun _ hh => hh) (fun _ hh => hh) hk _ _ (splice_den (denL_pure (fun _ hh => .inl hh) (fun _ _ => rfl) _ _ g2 g1) hfz)
                  · unfold splice; rw [pureL_append, pureL_append, pureL_take _ g2, hp, pureL_drop _ g2]; rfl
                  · simp; omega
                  · simp only [List.all_append, all_take p g4, e3, all_drop _ g4, Bool.and_true]
                  · intro q y hy
                    have hql : q < z := by
                      have := (List.getElem?_eq_some_iff.1 hy).1
                      simp at this
                      omega
                    simp only [List.getElem?_toArray]
                    rw [List.append_assoc, List.getElem?_append] at hy ⊢
                    have ht1 : (us.take p).length = p := by simp; omega
                    have ht2 : (cur.toList.take (g0 * z + p)).length = g0 * z + p := by simp; omega
                    rw [ht1] at hy
                    rw [ht2]
                    by_cases hqp : q < p
                    · rw [if_pos hqp] at hy
                      rw [if_pos (by omega), List.getElem?_take, if_pos (by omega)]
                      rw [List.getElem?_take, if_pos hqp] at hy
                      simpa using g5 q y hy
                    · rw [if_neg hqp] at hy
                      rw [if_neg (by omega), show g0 * z + q - (g0 * z + p) = q - p by omega]
                      rw [List.getElem?_append] at hy ⊢
                      by_cases hqx : q - p < xs.length
                      · rw [if_pos hqx] at hy ⊢; exact hy
                      · rw [if_neg hqx] at hy ⊢
                        rw [List.getElem?_drop] at hy ⊢
                        rw [show p + xs.length + (q - p - xs.length) = q by omega] at hy
                        rw [show g0 * z + p + xs.length + (q - p - xs.length) = g0 * z + q by omega]
                        simpa using g5 q y hy
                · simp only [if_neg hhj]
                  obtain ⟨us', r1, r2, r3, r4, r5⟩ := c6 g0 hg0
                  refine ⟨us', denL_pure (fun x hx => .inl hx) (fun y hy => hk y (.inl hy)) _ _ r2 r1, r2, r3, r4, fun q y hy => ?_⟩
                  have hql : q < z := by have := (List.getElem?_eq_some_iff.1 hy).1; omega
                  have hrow := r5 q y hy
                  simp only [List.getElem?_toArray]
                  rw [List.append_assoc, List.getElem?_append]
                  have ht2 : (cur.toList.take (j * z + p)).length = j * z + p := by simp; omega
                  rw [ht2]
                  rcases Nat.lt_or_ge g0 j with hlt | hge
                  · have : (g0 + 1) * z ≤ j * z := Nat.mul_le_mul_right z (by omega)
                    rw [Nat.add_mul] at this
                    rw [if_pos (by omega), List.getElem?_take, if_pos (by omega)]
                    simpa using hrow
                  · have : (j + 1) * z ≤ g0 * z := Nat.mul_le_mul_right z (by omega)
                    rw [Nat.add_mul] at this
                    rw [if_neg (by omega), List.getElem?_append, if_neg (by omega), List.getElem?_drop, show j * z + p + xs.length + (g0 * z + q - (j * z + p) - xs.length) = g0 * z + q by omega]
                    simpa using hrow)
              refine ⟨_, h, undef, _, _, _, .inr ⟨?_, rfl⟩, ?_, by simp [den], d2.trans q2, d3, fun i' b' m' hi' hn' => hg.block b' (hM.own i' b' m' hi').1 (fun e => by cases e; exact hn' (by have := hM.inj i' i _ _ _ hi' hb; simp [this]))⟩
              · simp only [execOp, ho, hu, Sem.run_bind, hrun, Result.andThen_ok, Sem.run_pure]
              · rw [updL_append]; exact q1.mono (span_sub D new)
            · cases h
          · cases h
        · cases h
      · cases h
    · cases h
  · cases h
end
end Go.Am
