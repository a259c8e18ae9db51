/- Regions in their text's order, code, functions. -/
import Derived.Test.YtniogljhkjbcgaaDoorAmS
namespace Go.Am
open Go Go.RowKit
set_option linter.unusedSimpArgs false
set_option linter.unusedVariables false

theorem wpList_mono {P : Program} {ops : Array Oper} {Q Q' : Exit → Act → World → Prop} (hq : ∀ e a w, Q e a w → Q' e a w) : ∀ (l : List Oper) (a : Act) (w : World), wpList P ops Q l a w → wpList P ops Q' l a w
  | [], a, w, h => hq _ _ _ h
  | o :: l, a, w, h => by
    unfold wpList at h ⊢
    split
    · rename_i hw
      rw [if_pos hw] at h
      rcases h with h | ⟨h1, a0, w0, h2⟩
      · left
        unfold Oper.wp at h ⊢
        generalize (execOp a.eval o).run P w = r at h ⊢
        cases r with
        | ok n w' =>
          cases n <;> simp only [Oper.upon] at h ⊢ <;> first | exact wpList_mono hq l _ _ h | exact h | skip
          · refine h.mono fun e w'' he => ?_
            cases e with
            | returned v => exact wpList_mono hq l _ _ he
            | panicked ch => exact hq _ _ _ he
            | outgrown => obtain ⟨a1, w1, h1⟩ := he; exact ⟨a1, w1, hq _ _ _ h1⟩
          · exact h.mono fun v w'' hv => wpList_mono hq l _ _ hv
        | halt x w' => cases x <;> simp only [Oper.upon] at h ⊢ <;> first | exact hq _ _ _ h | exact h
      · exact .inr ⟨h1, a0, w0, hq _ _ _ h2⟩
    · rename_i hw
      rw [if_neg hw] at h
      exact wpList_mono hq l _ _ h
/-- A value given up to be read only. -/
theorem lit_sound {β β' : Bt} {S S' D : Pr} {H : Hp} {w w' : World} {v : V} {u : Value} {us : List (Nat × Option Chunk)} (b : Bool) (hM : Mem β' S' D (updL H us) w') (hd : den β' S' w' D v u) (hev : Evo β S w β' S' w') :
    ∃ β2 S2, Mem β2 S2 D (updL H (litU b v us)) w' ∧ den β2 S2 w' D (litV b H v us) u ∧ Evo β S w β2 S2 w' ∧ Hb β' β2 D := by
  cases b with
  | false => exact ⟨β', S', hM, hd, hev, Hb.refl _ _⟩
  | true =>
    have hn : ∀ x ∈ gone1 v, x.2 = none := by
      intro x hx
      unfold gone1 at hx
      split at hx
      · simp only [List.mem_singleton] at hx; subst hx; rfl
      · cases hx
    obtain ⟨g1, g2, g3⟩ := hM.drop (gone1 v) hn
    refine ⟨_, _, by rw [litU, if_pos rfl, updL_append]; exact g1, ?_, hev.trans g2, g3⟩
    rw [litV, if_pos rfl]
    refine bw1_sound hM g3 (fun _ h => .inl h) (fun i z o l b m e hb => .inr ⟨i, m, ?_, hb⟩) hd
    subst e; simp [gone1]
theorem steps_sound {E : Env} {ca : CallT} (hC : SoundC E ca) (hX : SoundX E) {ops : List Oper} {base : Nat} : ∀ (l : List Oper) (i : Nat) (s : St) (k : KX) (r : Ans), stepOps E ca ops base i l s k = some r →
    ∃ e s', k e s' = some r ∧ ∀ (β : Bt) (S D : Pr) (a : Act) (w : World), RelN E β S D (base + i * wide) s a w → wpList E.P ops.toArray (Post E β S w s e s') l a w
  | [], i, s, k, r, h => by
    simp only [stepOps] at h
    refine ⟨_, _, h, fun β S D a w hR => ?_⟩
    exact ⟨⟨β, S, D, trivial, Rel.mk hR.fr hR.mem hR.df hR.lt hR.gl hR.rtD, Evo.refl _ _ _, (fun _ _ _ h => h), rfl, rfl⟩⟩
  | o :: l, i, s, k, r, h => by
    simp only [stepOps] at h
    replace h := guardR_some h
    obtain ⟨b, hb, hw⟩ := guard_sound h
    -- the way on behind an operation
    have next : ∀ (v : V) (us : List (Nat × Option Chunk)) (k : KX) (r : Ans), stepOps E ca ops base (i + 1) l { fr := putL s.fr o.dst v, H := updL s.H us, nx := s.nx, rt := s.rt, me := s.me } k = some r →
        ∃ e s', k e s' = some r ∧ ∀ (β β' : Bt) (S S' D : Pr) (a : Act) (w w' : World) (u : Value), RelN E β S D (base + i * wide) s a w → Mem β' S' (span D (base + i * wide)) (updL s.H us) w' → den β' S' w' (span D (base + i * wide)) v u → Evo β S w β' S' w' → Hb β β' D →
          wpList E.P ops.toArray (Post E β S w s e s') l (a.put o.dst u) w' := by
      intro v us k r h
      obtain ⟨e, s', h1, h2⟩ := steps_sound hC hX l (i + 1) _ k r h
      refine ⟨e, s', h1, fun β β' S S' D a w w' u hR hM hd hev hHb => ?_⟩
      have hk := hev.kept hR.mem
      have := h2 β' S' (span D (base + i * wide)) (a.put o.dst u) w' ⟨put_den (denL_later hHb hev.sub (span_sub _ _) hk _ _ hR.fr) hd, hM, by rw [put_defers]; exact hR.df, fun j hj => by
        rcases hj with hj | hj
        · have := hR.lt j hj; rw [Nat.add_mul]; omega
        · rw [Nat.add_mul]; omega, hR.gl.later hev.sub hk, fun j hj => .inl (hR.rtD j hj)⟩
      have hroots : Roots s.rt β β' := fun j bm hj hb => by
        rcases hHb j (hR.rtD j hj) with e' | e'
        · rw [← e']; exact hb
        · rw [e'] at hb; cases hb
      exact wpList_mono (Q := Post E β' S' w' { fr := putL s.fr o.dst v, H := updL s.H us, nx := s.nx, rt := s.rt, me := s.me } e s') (Q' := Post E β S w s e s') (fun e' a' w'' hp => Post.trans (s1 := { fr := putL s.fr o.dst v, H := updL s.H us, nx := s.nx, rt := s.rt, me := s.me }) hev hroots rfl rfl hp) _ _ _ this
    cases b with
    | false =>
      simp only [Bool.false_eq_true, if_false, doneK_eq] at hb
      obtain ⟨e, s', h1, h2⟩ := next _ _ _ _ hb
      refine ⟨e, s', h1, fun β S D a w hR => ?_⟩
      unfold wpList
      rw [if_neg (by rw [hw β S D w a hR.fr]; simp)]
      exact h2 β β S S D a w w undef hR (hR.mem.mono (span_sub _ _)) (by simp [den]) (Evo.refl _ _ _) (Hb.refl _ _)
    | true =>
      simp only [if_true] at hb
      obtain ⟨res, hk, hgood⟩ := opK_unif hb
      have hfresh : ∀ (β : Bt) (S D : Pr) (a : Act) (w : World), RelN E β S D (base + i * wide) s a w → ∀ j, base + i * wide ≤ j → j < base + i * wide + wide → ¬ D j := fun β S D a w hR j h1 _ hj => by
        have := hR.lt j hj; omega
      have hg := fun (β : Bt) (S D : Pr) (a : Act) (w : World) (hR : RelN E β S D (base + i * wide) s a w) => hgood β S D a w hR.mem (hfresh β S D a w hR _ (Nat.le_refl _) (by simp [wide])) (fun x => evA_sound hR.fr hR.gl x)
      cases res with
      | val v us =>
        simp only [doneK_eq] at hk
        obtain ⟨e, s', h1, h2⟩ := next _ _ _ _ hk
        refine ⟨e, s', h1, fun β S D a w hR => ?_⟩
        obtain ⟨u, w', β0, S0, g1, g2, g3, g4, g5, _⟩ := hg β S D a w hR
        obtain ⟨β', S', l1, l2, l3, l4⟩ := lit_sound (E.lit s.me && isLit o.op) g2 g3 g4
        have := h2 β β' S S' D a w w' u hR l1 l2 l3 (fun j hj => by
          rcases l4 j (span_sub _ _ j hj) with e1 | e1
          · rcases g5 j hj with e2 | e2
            · exact .inl (e1.trans e2)
            · exact .inr (e1.trans e2)
          · exact .inr e1)
        unfold wpList
        rw [if_pos (hw β S D w a hR.fr)]
        left
        unfold Oper.wp
        rcases g1 with g1 | ⟨g1, rfl⟩
        · rw [g1]; exact this
        · rw [g1]; exact this
      | pan v us =>
        simp only at hk
        refine ⟨_, _, hk, fun β S D a w hR => ?_⟩
        obtain ⟨rfl, u, g1, g2, g3⟩ := hg β S D a w hR
        unfold wpList
        rw [if_pos (hw β S D w a hR.fr)]
        left
        unfold Oper.wp
        rw [g1]
        exact ⟨⟨β, S, D, ⟨u, rfl, g2, den_pure (fun _ h => h) (fun _ _ => rfl) _ _ g2 g3⟩, Rel.mk hR.fr hR.mem hR.df hR.lt hR.gl hR.rtD, Evo.refl _ _ _, (fun _ _ _ h => h), rfl, rfl⟩⟩
      | call f args =>
        simp only at hk
        obtain ⟨res2, hk2, hcall⟩ := doCall_sound hC hX hk
        cases res2 with
        | val v us =>
          simp only [doneK_eq] at hk2
          obtain ⟨e, s', h1, h2⟩ := next _ _ _ _ hk2
          refine ⟨e, s', h1, fun β S D a w hR => ?_⟩
          obtain ⟨cs, g1, g2⟩ := hg β S D a w hR
          obtain ⟨c1, c2⟩ := hcall β S D w hR.mem hR.gl (hfresh β S D a w hR)
          unfold wpList
          rw [if_pos (hw β S D w a hR.fr)]
          left
          unfold Oper.wp
          rw [g1 c1]
          refine (c2 cs g2).mono ?_
          rintro e' w' ⟨u, β', S', rfl, q1, q2, q3, q4, _⟩
          exact h2 β β' S S' D a w w' u hR q1 q2 q3 q4
        | pan v us =>
          simp only at hk2
          refine ⟨_, _, hk2, fun β S D a w hR => ?_⟩
          obtain ⟨cs, g1, g2⟩ := hg β S D a w hR
          obtain ⟨c1, c2⟩ := hcall β S D w hR.mem hR.gl (hfresh β S D a w hR)
          unfold wpList
          rw [if_pos (hw β S D w a hR.fr)]
          left
          unfold Oper.wp
          rw [g1 c1]
          refine (c2 cs g2).mono ?_
          rintro e' w' ⟨u, β', S', rfl, q1, q2, q3, q4, q5⟩
          have hk := q3.kept hR.mem
          exact ⟨⟨β', S', D, ⟨u, rfl, q1, q2⟩, Rel.mk (denL_later q5 q3.sub (fun _ h => h) hk _ _ hR.fr) q4 hR.df hR.lt (hR.gl.later q3.sub hk) hR.rtD, q3, (fun j bm hj hb => by
            rcases q5 j (hR.rtD j hj) with e' | e'
            · rw [← e']; exact hb
            · rw [e'] at hb; cases hb), rfl, rfl⟩⟩
        | call _ _ => simp only at hk2; cases hk2
        | dfr _ _ => simp only at hk2; cases hk2
      | dfr f cs =>
        simp only at hk
        split at hk
        case h_2 => cases hk
        rename_i hdf
        simp only [Bool.and_eq_true, beq_iff_eq] at hdf
        rw [doneK_eq] at hk
        obtain ⟨e, s', h1, h2⟩ := steps_sound hC hX l (i + 1) _ k r hk
        refine ⟨e, s', h1, fun β S D a w hR => ?_⟩
        obtain ⟨us, g1, g2⟩ := hg β S D a w hR
        unfold wpList
        rw [if_pos (hw β S D w a hR.fr)]
        left
        unfold Oper.wp
        rw [g1]
        have hdd : Dfs E s.me ({ target := .fn (.func f) us.toArray, args := #[] } :: a.defers) := by
          refine ⟨fun hf => (by rw [hf] at hdf; cases hdf.1), fun d hd => ?_⟩
          rcases List.mem_cons.1 hd with rfl | hd
          · exact ⟨f, us.toArray, by rw [List.size_toArray, g2]; exact hdf.2, rfl⟩
          · exact hR.df.2 d hd
        have hrel : RelN E β S D (base + (i + 1) * wide) { fr := putL s.fr o.dst (.sc undef), H := updL s.H [], nx := s.nx, rt := s.rt, me := s.me } ({ a with defers := { target := .fn (.func f) us.toArray, args := #[] } :: a.defers }.put o.dst undef) w :=
          ⟨put_den (a := { a with defers := { target := .fn (.func f) us.toArray, args := #[] } :: a.defers }) hR.fr (by simp [den]), hR.mem, by rw [put_defers]; exact hdd, fun j hj => by have := hR.lt j hj; rw [Nat.add_mul]; omega, hR.gl, hR.rtD⟩
        rw [Oper.upon_defer]
        exact wpList_mono (Q := Post E β S w { fr := putL s.fr o.dst (.sc undef), H := updL s.H [], nx := s.nx, rt := s.rt, me := s.me } e s') (Q' := Post E β S w s e s') (fun _ _ _ hp => ⟨hp.ex⟩) _ _ _ (h2 β S D _ w hrel)

/-! ### Code -/
def Ends (E : Env) (c : ACode) (s : St) (e : Ex) (s' : St) : Prop := ∀ β S D a w, Rel E β S D s a w → c.erase.wp E.P (Post E β S w s e s') a w
theorem post_normal {E : Env} {β : Bt} {S : Pr} {w : World} {s s' : St} {e' : Exit} {a' : Act} {w' : World} (h : Post E β S w s .normal s' e' a' w') :
    e' = .normal ∧ ∃ β' S' D', Rel E β' S' D' s' a' w' ∧ Evo β S w β' S' w' ∧ Roots s.rt β β' ∧ s'.rt = s.rt ∧ s'.me = s.me := by
  obtain ⟨β', S', D', h1, h2, h3, h4, h5, h6⟩ := h.ex
  cases e' <;> simp only [ExR] at h1
  exact ⟨rfl, β', S', D', h2, h3, h4, h5, h6⟩
theorem post_not {E : Env} {β : Bt} {S : Pr} {w : World} {s s' : St} {e : Ex} {a' : Act} {w' : World} (he : e ≠ .normal) (h : Post E β S w s e s' .normal a' w') : False := by
  obtain ⟨β', S', D', h1, _⟩ := h.ex
  cases e <;> simp only [ExR] at h1
  exact he rfl

theorem settle_eq {E : Env} {on : Bool} {c : Operand} {b : Bool} {s : St} {k : St → Option Ans} (hb : evA E s.fr c = .sc (.bool b)) : settleK on c b s k = k s := by
  unfold settleK
  split
  · split
    · rename_i t
      rw [setK_eq]
      have hv : s.fr.getD t .junk = .sc (.bool b) := hb
      have hq : s.fr[t]? = some (.sc (.bool b)) := by
        cases hq : s.fr[t]? with
        | none => simp [List.getD, hq] at hv
        | some q => simp only [List.getD, hq, Option.getD_some] at hv; rw [hv]
      have hs : s.fr.set t (.sc (.bool b)) = s.fr := by
        apply List.ext_getElem?
        intro n
        by_cases hn : n = t
        · subst hn
          have hl : n < s.fr.length := (List.getElem?_eq_some_iff.1 hq).1
          rw [List.getElem?_set_self hl, hq]
        · rw [List.getElem?_set_ne (fun e => hn e.symm)]
      rw [hs]
    · rfl
  · rfl
theorem exec_sound {E : Env} {ca : CallT} {lo : LoopT} (hC : SoundC E ca) (hX : SoundX E) (hL : SoundL E lo) : ∀ (c : ACode) (s : St) (k : KX) (r : Ans), execK E ca lo c s k = some r → ∃ e s', k e s' = some r ∧ Ends E c s e s'
  | .skip, s, k, r, h => ⟨_, _, h, fun β S D a w hR => wp_skip ⟨⟨β, S, D, trivial, hR, Evo.refl _ _ _, (fun _ _ _ h => h), rfl, rfl⟩⟩⟩
  | .ret, s, k, r, h => ⟨_, _, h, fun β S D a w hR => wp_ret ⟨⟨β, S, D, trivial, hR, Evo.refl _ _ _, (fun _ _ _ h => h), rfl, rfl⟩⟩⟩
  | .exit id, s, k, r, h => ⟨_, _, h, fun β S D a w hR => wp_exit ⟨⟨β, S, D, rfl, hR, Evo.refl _ _ _, (fun _ _ _ h => h), rfl, rfl⟩⟩⟩
  | .no _, s, k, r, h => by simp [execK] at h
  | .region id ops d, s, k, r, h => by
    simp only [execK] at h
    split at h
    · rename_i hd
      subst hd
      split at h
      · rename_i hok
        rw [fNL_eq] at h
        obtain ⟨s', h1, h2, h3, h4⟩ := draw_sound (id := id) hC hX hok h
        refine ⟨.normal, s', h1, fun β S D a w hR => h4 β S D a w ⟨hR.fr, hR.mem, hR.df, hR.lt, hR.gl, hR.rtD⟩ _ fun β' S' D' a' w' q1 q2 q3 => ?_⟩
        exact ⟨⟨β', S', D', trivial, Rel.mk q1.fr q1.mem q1.df q1.lt q1.gl q1.rtD, q2, q3, h2, h3⟩⟩
      · cases h
    · rename_i hd
      have hd' : d = false := by cases d <;> simp_all
      subst hd'
      obtain ⟨e, s', h1, h2⟩ := steps_sound hC hX ops 0 s k r h
      refine ⟨e, s', h1, fun β S D a w hR => wp_region_lit (h2 β S D a w ⟨hR.fr, hR.mem, hR.df, fun i hi => by have := hR.lt i hi; omega, hR.gl, hR.rtD⟩)⟩
  | .seq x y, s, k, r, h => by
    simp only [execK] at h
    obtain ⟨e, s', h1, h2⟩ := exec_sound hC hX hL x s _ r h
    by_cases he : e = .normal
    · subst he
      simp only at h1
      obtain ⟨e2, s2, h3, h4⟩ := exec_sound hC hX hL y s' k r h1
      refine ⟨e2, s2, h3, fun β S D a w hR => wp_seq (wp_mono (h2 β S D a w hR) fun e' a' w' hp => ?_)⟩
      obtain ⟨rfl, β', S', D', g1, g2, g3, g4, g5⟩ := post_normal hp
      exact wp_mono (h4 β' S' D' a' w' g1) fun _ _ _ hp => Post.trans g2 g3 g4 g5 hp
    · have h1' : k e s' = some r := by
        split at h1
        · exact absurd rfl he
        · exact h1
      refine ⟨e, s', h1', fun β S D a w hR => wp_seq (wp_mono (h2 β S D a w hR) fun e' a' w' hp => ?_)⟩
      cases e' with
      | normal => exact (post_not he hp).elim
      | _ => exact hp
  | .cond c x y, s, k, r, h => by
    simp only [execK] at h
    split at h
    · rename_i b hb
      have hc := fun (β : Bt) (S D : Pr) (a : Act) (w : World) (hR : Rel E β S D s a w) => evA_sound hR.fr hR.gl c
      rw [hb] at hc
      simp only [den] at hc
      split at h
      · rename_i hbt
        subst hbt
        rw [settle_eq hb] at h
        obtain ⟨e, s', h1, h2⟩ := exec_sound hC hX hL x s k r h
        exact ⟨e, s', h1, fun β S D a w hR => wp_cond_true (hc β S D a w hR) (h2 β S D a w hR)⟩
      · rename_i hbt
        have hbf : b = false := by simpa using hbt
        subst hbf
        rw [settle_eq hb] at h
        obtain ⟨e, s', h1, h2⟩ := exec_sound hC hX hL y s k r h
        exact ⟨e, s', h1, fun β S D a w hR => wp_cond_false (hc β S D a w hR) (h2 β S D a w hR)⟩
    · cases h
  | .block id c, s, k, r, h => by
    simp only [execK] at h
    obtain ⟨e, s', h1, h2⟩ := exec_sound hC hX hL c s _ r h
    have key : ∀ e2, (∀ (β : Bt) (S : Pr) (w : World) (e' : Exit) (a' : Act) (w' : World), Post E β S w s e s' e' a' w' → Exit.inBlock id (Post E β S w s e2 s') e' a' w') → Ends E (.block id c) s e2 s' :=
      fun e2 hh β S D a w hR => wp_block (wp_mono (h2 β S D a w hR) fun e' a' w' hp => hh β S w e' a' w' hp)
    cases e with
    | exit j =>
      simp only at h1
      split at h1
      · rename_i hj
        subst hj
        refine ⟨_, _, h1, key _ fun β S w e' a' w' hp => ?_⟩
        obtain ⟨β', S', D', q1, q2, q3, q4, q5, q6⟩ := hp.ex
        cases e' <;> simp only [ExR] at q1
        subst q1
        simp only [Exit.inBlock, if_true]
        exact ⟨⟨β', S', D', trivial, q2, q3, q4, q5, q6⟩⟩
      · rename_i hj
        refine ⟨_, _, h1, key _ fun β S w e' a' w' hp => ?_⟩
        obtain ⟨β', S', D', q1, q2⟩ := hp.ex
        cases e' <;> simp only [ExR] at q1
        subst q1
        simp only [Exit.inBlock, if_neg hj]
        exact hp
    | normal =>
      refine ⟨_, _, h1, key _ fun β S w e' a' w' hp => ?_⟩
      obtain ⟨rfl, _⟩ := post_normal hp
      exact hp
    | ret =>
      refine ⟨_, _, h1, key _ fun β S w e' a' w' hp => ?_⟩
      obtain ⟨β', S', D', q1, q2⟩ := hp.ex
      cases e' <;> simp only [ExR] at q1
      exact hp
    | panic v =>
      refine ⟨_, _, h1, key _ fun β S w e' a' w' hp => ?_⟩
      obtain ⟨β', S', D', q1, q2⟩ := hp.ex
      cases e' <;> simp only [ExR] at q1
      exact hp
  | .loop id live c, s, k, r, h => by
    simp only [execK] at h
    rw [canonK_eq] at h
    obtain ⟨e, s', h1, h2⟩ := hL _ _ _ _ _ _ h
    refine ⟨e, s', h1, fun β S D a w hR => ?_⟩
    obtain ⟨β', D', q1, q2, q3⟩ := canon_rel hR live
    refine loop_of_rounds (fun b kk cs => ?_)
    obtain ⟨ee, aa, ww, qq, rr⟩ := h2 β' S D' a w q1 b kk cs
    exact ⟨ee, aa, ww, Post.trans (s1 := canonS live s) q2 q3 rfl rfl qq, rr⟩

/-- A round, and what stands behind it: the rule for a table of loops. -/
theorem loop_sound {E : Env} {ca : CallT} {lo : LoopT} (hC : SoundC E ca) (hX : SoundX E) (hL : SoundL E lo) {id live : Nat} {c : ACode} {s : St} {k : KX} {r : Ans} (h : loopK E ca lo id live c s k = some r) : ∃ e s', k e s' = some r ∧ SL E c s e s' := by
  simp only [loopK] at h
  obtain ⟨e, s1, h1, h2⟩ := exec_sound hC hX hL c s _ r h
  by_cases he : e = .normal
  · subst he
    simp only [canonK_eq] at h1
    obtain ⟨e2, s2, h3, h4⟩ := hL _ _ _ _ _ _ h1
    refine ⟨e2, s2, h3, fun β S D a w hR => round_next (wp_mono (h2 β S D a w hR) fun e' a' w' hp => ?_)⟩
    obtain ⟨rfl, β', S', D', g1, g2, g3, g4, g5⟩ := post_normal hp
    obtain ⟨β'', D'', q1, q2, q3⟩ := canon_rel g1 live
    intro b kk cs
    obtain ⟨ee, aa, ww, qq, rr⟩ := h4 β'' S' D'' a' w' q1 b kk cs
    exact ⟨ee, aa, ww, Post.trans g2 g3 g4 g5 (Post.trans (s1 := canonS live s1) q2 q3 rfl rfl qq), rr⟩
  · have h1' : k e s1 = some r := by
      split at h1
      · exact absurd rfl he
      · exact h1
    refine ⟨e, s1, h1', fun β S D a w hR => round_next (wp_mono (h2 β S D a w hR) fun e' a' w' hp => ?_)⟩
    cases e' with
    | normal => exact (post_not he hp).elim
    | _ => exact hp
end Go.Am
