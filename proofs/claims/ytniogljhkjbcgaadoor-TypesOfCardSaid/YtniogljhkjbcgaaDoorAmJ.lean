/- All operations. -/
import Derived.Test.YtniogljhkjbcgaaDoorAmMp
import Derived.Orders
namespace Go.Am
open Go Go.RowKit
set_option linter.unusedSimpArgs false
set_option linter.unusedVariables false

theorem pureRun_sound {P : Program} {α : Type} : ∀ (s : Sem α) (x : α), pureRun P s = some x → ∀ w, s.run P w = .ok x w := by
  intro s
  induction s with
  | pure a => intro x h w; simp only [pureRun, Option.some.injEq] at h; subst h; rfl
  | program k ih => intro x h w; simp only [pureRun] at h; exact ih P x h w
  | mark m k ih => intro x h w; simp only [pureRun] at h; exact ih x h w
  | _ => intro x h; simp [pureRun] at h

section
variable {P : Program} {β : Bt} {S D : Pr} {H : Hp} {w : World} {new : Nat} {o : Oper} {a : Act} {ev : Operand → V} {k : KR} {r : Ans}

theorem fall_sound (hM : Mem β S D H w) (hev : ∀ x, den β S w D (ev x) (a.eval x)) (hs : ∀ cs b, o.op ≠ .select cs b) (h : effFall P o ev k = some r) : Good P β S D H new o a w k r := by
  unfold effFall at h
  split at h
  · rename_i hall
    have hex : execOp a.eval o = execOp (fun x => ((ev x).toVal).getD undef) o := execOp_congr o hs fun x hx => by
      rw [List.all_eq_true] at hall
      obtain ⟨v, hv⟩ := Option.isSome_iff_exists.1 (hall x (by simpa using hx))
      simp only [hv, Option.getD_some]
      exact den_toVal (ev x) v _ hv (hev x)
    split at h
    · rename_i v hr
      exact ⟨_, h, good_same hM (u := v) (by rw [hex]; exact pureRun_sound _ _ hr w) (den_ofVal v)⟩
    · rename_i f args hr
      refine ⟨_, h, args.toList, fun _ => by rw [hex]; simpa using pureRun_sound _ _ hr w, ?_⟩
      have := denL_map (β := β) (S := S) (w := w) (D := D) (f := ofVal1) (g := fun u => u) (l := args.toList) (fun x _ => den_ofVal1 x)
      simpa using this
    · cases h
  · cases h

theorem pick_sound (hM : Mem β S D H w) (hev : ∀ x, den β S w D (ev x) (a.eval x)) {c x y : Operand} (ho : o.op = .pick c x y) (h : effPick (ev c) (ev x) (ev y) k = some r) : Good P β S D H new o a w k r := by
  have hc := hev c
  unfold effPick at h
  split at h
  · rename_i t ht
    rw [ht] at hc
    simp only [den] at hc
    split at h
    · rename_i h1
      exact ⟨_, h, good_same hM (u := a.eval x) (by simp [execOp, ho, hc, h1, asBool]) (hev x)⟩
    · rename_i h1
      exact ⟨_, h, good_same hM (u := a.eval y) (by simp [execOp, ho, hc, h1, asBool]) (hev y)⟩
  · cases h
theorem field_sound (hM : Mem β S D H w) (hev : ∀ x, den β S w D (ev x) (a.eval x)) {t : TypeId} {x : Operand} {f : Nat} (ho : o.op = .field t x f) (h : effField P o ev t (ev x) f k = some r) : Good P β S D H new o a w k r := by
  have hx := hev x
  unfold effField at h
  split at h
  · rename_i cs hcs
    rw [hcs] at hx
    simp only [den] at hx
    obtain ⟨us, hu, h2, h3⟩ := hx
    split at h
    · rename_i p u hf
      obtain ⟨fs, fd, e1, e2, e3, e4⟩ := fld_under hf
      split at h
      · rename_i v hv
        obtain ⟨y, hy, hd⟩ := seg_part hv h2 h3
        refine ⟨_, h, good_same hM (u := y) ?_ hd⟩
        simp [execOp, ho, hu, Instr.field, Sem.run_bind, run_underlying e1, e2, e3, e4, asAgg, hy]
      · cases h
    · cases h
  · exact fall_sound hM hev (by rw [ho]; intros; simp) h
theorem index_sound (hM : Mem β S D H w) (hev : ∀ x, den β S w D (ev x) (a.eval x)) {t : TypeId} {x y : Operand} (ho : o.op = .index t x y) (h : effIndex P o ev t (ev x) (ev y) k = some r) : Good P β S D H new o a w k r := by
  have hx := hev x
  unfold effIndex at h
  simp only [ifand] at h
  split at h
  · rename_i cs n hcs hn
    obtain ⟨kd, hy⟩ := intV_den (hev y) hn
    rw [hcs] at hx
    simp only [den] at hx
    obtain ⟨us, hu, h2, h3⟩ := hx
    split at h
    · rename_i l e ha
      split at h
      · rename_i z hz
        split at h
        · rename_i hc
          obtain ⟨h0, hl⟩ := hc
          obtain ⟨j, rfl⟩ := Int.eq_ofNat_of_zero_le h0
          split at h
          · rename_i v hv
            simp only [Int.toNat_natCast] at hv
            obtain ⟨u, hu', hd⟩ := seg_part hv h2 h3
            refine ⟨_, h, good_same hM (u := u) ?_ hd⟩
            have hl' : j < l := by omega
            simp [execOp, ho, hu, hy, Instr.index, asIntOf, Sem.run_bind, run_underlying (arr_under ha), hl', run_sz hz, hu']
          · cases h
        · cases h
      · cases h
    · cases h
  · rename_i s n hcs hn
    obtain ⟨kd, hy⟩ := intV_den (hev y) hn
    rw [hcs] at hx
    simp only [den] at hx
    split at h
    · rename_i hc
      obtain ⟨hus, h0, hl⟩ := hc
      obtain ⟨j, rfl⟩ := Int.eq_ofNat_of_zero_le h0
      have hl' : j < s.size := by omega
      have hu' : P.underlying t = some .string := by
        unfold isStrP at hus
        split at hus
        · assumption
        · cases hus
      refine ⟨_, h, good_same hM (u := .int .u8 (s.data.toList.getD j 0).toNat) ?_ (by simp [den])⟩
      have hg : s[j]? = some (s.data.toList.getD j 0) := by
        have hl2 : j < s.data.toList.length := by simpa using hl'
        have : s.data.toList.getD j 0 = s[j] := by
          rw [List.getD, List.getElem?_eq_getElem hl2]; rfl
        rw [this]
        exact getElem?_pos s j hl'
      simp [execOp, ho, hx, hy, Instr.index, asIntOf, Sem.run_bind, run_underlying hu', hg]
    · cases h
  · exact fall_sound hM hev (by rw [ho]; intros; simp) h
theorem extract_sound (hM : Mem β S D H w) (hev : ∀ x, den β S w D (ev x) (a.eval x)) {x : Operand} {n : Nat} (ho : o.op = .extract x n) (h : effExtract P o ev (ev x) n k = some r) : Good P β S D H new o a w k r := by
  have hx := hev x
  unfold effExtract at h
  split at h
  · rename_i vs hvs
    rw [hvs] at hx
    simp only [den] at hx
    obtain ⟨us, hu, h2⟩ := hx
    split at h
    · rename_i v hv
      obtain ⟨u, hu', hd⟩ := denL_get h2 n v hv
      exact ⟨_, h, good_same hM (u := u) (by simp [execOp, ho, hu, Instr.extract, hu']) hd⟩
    · cases h
  · exact fall_sound hM hev (by rw [ho]; intros; simp) h
theorem build_sound (hM : Mem β S D H w) (hev : ∀ x, den β S w D (ev x) (a.eval x)) {t : TypeId} {ps : Array (Nat × Operand)} (ho : o.op = .build t ps) (h : effBuild P t ps.toList ev k = some r) : Good P β S D H new o a w k r := by
  have key : ∀ cells : Array Value, P.built t (ps.toList.map fun p => (p.1, a.eval p.2)) = some cells → (execOp a.eval o).run P w = .ok (.value (.agg cells)) w := by
    intro cells hb
    have := run_build (P := P) w t (ps.map fun (i, x) => (i, a.eval x)) cells (by simpa using hb)
    simp [execOp, ho, Sem.run_bind, this]
  unfold effBuild at h
  split at h
  · rename_i z hz
    split at h
    · rename_i h1
      have hz' := hz
      unfold zeroP at hz'
      cases hi : P.info? t with
      | none => rw [hi] at hz'; cases hz'
      | some it =>
        rw [hi] at hz'
        simp only [Option.bind_some, Option.map_eq_some_iff] at hz'
        obtain ⟨zv, hzv, rfl⟩ := hz'
        have ho1 := denL_one (β := β) (S := S) (w := w) (D := D) h1 (denL_sc zv.cells.toList)
        split at h
        · rename_i fs hu
          split at h
          · rename_i pl hpl
            split at h
            · rename_i cs hcs
              obtain ⟨us, e1, e2, e3⟩ := fillA_sound hev (denL_sc zv.cells.toList) ho1 hcs
              refine ⟨_, h, good_same hM (key us.toArray ?_) (by simp only [den]; exact ⟨us, rfl, e2, e3⟩)⟩
              unfold placesP at hpl
              simp only [Program.built, hi, hu, hzv, hpl]
              simpa using e1
            · cases h
          · cases h
        · rename_i n e hu
          split at h
          · rename_i sz hsz
            split at h
            · rename_i cs hcs
              obtain ⟨us, e1, e2, e3⟩ := fillA_sound hev (denL_sc zv.cells.toList) ho1 hcs
              refine ⟨_, h, good_same hM (u := .agg us.toArray) ?_ (by simp only [den]; exact ⟨us, rfl, e2, e3⟩)⟩
              have hzr : (zeroValue t).run P w = .ok zv w := by simp [zeroValue, typeInfo, hi, hzv]
              have hm : (ps.map fun (i, x) => (i, a.eval x) : Array (Nat × Value)).toList = ps.toList.map fun p => (p.1, a.eval p.2) := by simp
              simp only [execOp, ho, Instr.build, Sem.run_bind, hzr, Result.andThen_ok, run_underlying hu, run_sz hsz, hm]
              rw [show (zv.cells : Array Value) = zv.cells.toList.toArray by simp, e1]
              simp
            · cases h
          · cases h
        · cases h
    · cases h
  · cases h
theorem makeFunc_sound (hM : Mem β S D H w) (hev : ∀ x, den β S w D (ev x) (a.eval x)) {f : FuncId} {fi cs : Array Operand} (ho : o.op = .makeFunc (.func f) fi cs) (hfi : fi.size = 0) :
    GoodR P β S D H new o a w (.val (.fn f (cs.toList.map ev)) []) := by
  have hfi' : fi = #[] := Array.eq_empty_of_size_eq_zero hfi
  refine good_same hM (u := .func (.func f) #[] (cs.map a.eval)) (by simp [execOp, ho, hfi', Instr.makeFunc]) ?_
  simp only [den]
  exact ⟨cs.toList.map a.eval, by rw [← Array.toList_map], denL_map fun x _ => hev x⟩
theorem makeBound_sound (hM : Mem β S D H w) (hev : ∀ x, den β S w D (ev x) (a.eval x)) {f : FuncId} {fi cs : Array Operand} (ho : o.op = .makeFunc (.func f) fi cs) :
    GoodR P β S D H new o a w (.val (.bf f (fi.toList.map ev) (cs.toList.map ev)) []) := by
  refine good_same hM (u := .func (.func f) (fi.map a.eval) (cs.map a.eval)) (by simp [execOp, ho, Instr.makeFunc]) ?_
  simp only [den]
  exact ⟨fi.toList.map a.eval, cs.toList.map a.eval, by rw [← Array.toList_map, ← Array.toList_map], denL_map fun x _ => hev x, denL_map fun x _ => hev x⟩
theorem func_neq {t u : TypeId} {x y : Operand} {g : Fn} {fs cs : Array Value} (hM : Mem β S D H w) (ho : o.op = .binOp .neq t x y u) (ht : isFuncT P t = true) (hx : a.eval x = .func g fs cs) (hy : a.eval y = .nilFunc) :
    GoodR P β S D H new o a w (.val (.sc (.bool true)) []) := by
  unfold isFuncT at ht
  split at ht
  · rename_i p q s hu
    refine good_same hM (u := .bool true) ?_ (by simp [den])
    have he0 : ∀ n, (Op.equalIn (n + 1) t (.func g fs cs) .nilFunc).run P w = .ok false w := fun n => by
      simp [Op.equalIn, Sem.run_bind, run_underlying hu]
    have he : (Op.equal t (.func g fs cs) .nilFunc).run P w = .ok false w := he0 9999
    simp [execOp, ho, hx, hy, eqGuard, binOp, Sem.run_bind, he]
  · cases ht
theorem iface_neq {t u d : TypeId} {x y : Operand} {q : Value} (hM : Mem β S D H w) (ho : o.op = .binOp .neq t x y u) (ht : isIface P t = some true) (hx : a.eval x = .iface d q) (hy : a.eval y = .nilIface) :
    GoodR P β S D H new o a w (.val (.sc (.bool true)) []) := by
  unfold isIface at ht
  split at ht
  · rename_i m hu
    refine good_same hM (u := .bool true) ?_ (by simp [den])
    have he0 : ∀ n, (Op.equalIn (n + 1) t (.iface d q) .nilIface).run P w = .ok false w := fun n => by
      simp [Op.equalIn, Sem.run_bind, run_underlying hu]
    have he : (Op.equal t (.iface d q) .nilIface).run P w = .ok false w := he0 9999
    simp [execOp, ho, hx, hy, eqGuard, binOp, Sem.run_bind, he]
  · cases ht
  · cases ht
theorem nil_sound (hM : Mem β S D H w) (hev : ∀ x, den β S w D (ev x) (a.eval x)) {x : Operand} (ho : o.op = .nilCheck x) (h : effNil P o ev (ev x) H k = some r) : Good P β S D H new o a w k r := by
  have hx := hev x
  unfold effNil at h
  split at h
  · rename_i i p hp
    obtain ⟨h, b, m, hb⟩ := lives_some hM h
    rw [hp] at hx
    have hx' := hx
    simp only [den] at hx'
    exact ⟨_, h, good_same hM (u := a.eval x) (by rw [hx'.2 b m hb]; simp [execOp, ho, hx'.2 b m hb]) hx⟩
  · rename_i i z j p hp
    obtain ⟨h, b, m, hb⟩ := lives_some hM h
    rw [hp] at hx
    have hx' := hx
    simp only [den] at hx'
    exact ⟨_, h, good_same hM (u := a.eval x) (by rw [hx'.2 b m hb]; simp [execOp, ho, hx'.2 b m hb]) hx⟩
  · rename_i f cs hp
    rw [hp] at hx
    have hx' := hx
    simp only [den] at hx'
    obtain ⟨us, hu, _⟩ := hx'
    exact ⟨_, h, good_same hM (u := a.eval x) (by rw [hu]; simp [execOp, ho, hu]) hx⟩
  · exact fall_sound hM hev (by rw [ho]; intros; simp) h
theorem run_partP {t : TypeId} {xs : Array Value} {o : Nat} {v : Value} (h : partP P t xs.toList o = some v) : (part t xs o).run P w = .ok v w := by
  unfold partP at h
  unfold part
  split at h
  · rename_i ha
    split at h
    · rename_i n hn
      cases h
      simp only [Sem.run_bind, run_agg ha, Result.andThen_ok, if_true, run_sz hn, Sem.run_pure]
      congr 2
      apply Array.ext'
      simp [Array.toList_extract, List.extract_eq_take_drop]
    · cases h
  · rename_i ha
    simp only [Sem.run_bind, run_agg ha, Result.andThen_ok, Bool.false_eq_true, if_false]
    have : xs[o]? = some v := by simpa using h
    rw [this]
    rfl
  · cases h
theorem eqFs_run {d : Nat} {r : TypeId → Value → Value → Option Bool} (hr : ∀ t x y b, r t x y = some b → (Op.equalIn d t x y).run P w = .ok b w) {xs ys : Array Value} : ∀ (fs : List Field) (b : Bool), eqFs P r xs.toList ys.toList fs = some b → (Op.eqFields d xs ys fs).run P w = .ok b w
  | [], b, h => by cases h; rfl
  | f :: fs, b, h => by
    simp only [eqFs] at h
    simp only [Op.eqFields, Sem.run_ite]
    split at h
    · rename_i hn
      rw [if_neg (by simpa using hn)]
      exact eqFs_run hr fs b h
    · rename_i hn
      rw [if_pos (by simpa using hn)]
      split at h
      · rename_i u v hu hv
        split at h
        · rename_i p q hp hq
          cases h
          simp only [Sem.run_bind, run_partP hu, run_partP hv, Result.andThen_ok, hr _ _ _ _ hp, Sem.run_ite]
          cases p
          · simp
          · simpa using eqFs_run hr fs q hq
        · cases h
      · cases h
theorem eqIs_run {d : Nat} {r : TypeId → Value → Value → Option Bool} (hr : ∀ t x y b, r t x y = some b → (Op.equalIn d t x y).run P w = .ok b w) {e : TypeId} {n : Nat} {xs ys : Array Value} : ∀ (is : List Nat) (b : Bool), eqIs P r e n xs.toList ys.toList is = some b → (Op.eqItems d e n xs ys is).run P w = .ok b w
  | [], b, h => by cases h; rfl
  | i :: is, b, h => by
    simp only [eqIs] at h
    simp only [Op.eqItems]
    split at h
    · rename_i u v hu hv
      split at h
      · rename_i p q hp hq
        cases h
        simp only [Sem.run_bind, run_partP hu, run_partP hv, Result.andThen_ok, hr _ _ _ _ hp, Sem.run_ite]
        cases p
        · simp
        · simpa using eqIs_run hr is q hq
      · cases h
    · cases h
theorem eqP_run : ∀ (d : Nat) (t : TypeId) (x y : Value) (b : Bool), eqP P d t x y = some b → (Op.equalIn d t x y).run P w = .ok b w
  | 0, _, _, _, _, h => by cases h
  | d + 1, t, x, y, b, h => by
    simp only [eqP] at h
    split at h
    · rename_i hu
      unfold leafB at h
      split at h
      · cases h; exact run_equalIn_bool w d t _ _ hu
      · cases h
    · rename_i hu
      unfold leafI at h
      split at h
      · split at h
        · cases h; rename_i hk; subst hk; exact run_equalIn_int w d t _ _ _ _ hu
        · cases h
      · cases h
    · rename_i hu
      unfold leafS at h
      split at h
      · cases h; exact run_equalIn_string w d t _ _ hu
      · cases h
    · rename_i fs hu
      split at h
      · split at h
        · cases h
        · rename_i hs
          have hf : P.fieldsOf t = fs := by simp [Program.fieldsOf, hu]
          rw [run_equalIn_struct w d t _ _ (by rw [hf]; exact hu) (by simpa using hs), hf]
          exact eqFs_run (fun t x y b => eqP_run d t x y b) _ _ h
      · cases h
    · rename_i n e hu
      split at h
      · split at h
        · rename_i z hz
          cases hi : P.info? e with
          | none => simp [szP, hi] at hz
          | some i =>
            have hc : P.cellsOf e = z := by simpa [szP, hi, Program.cellsOf] using hz
            rw [run_equalIn_array w d _ _ hu hi, hc]
            exact eqIs_run (fun t x y b => eqP_run d t x y b) _ _ h
        · cases h
      · cases h
    · cases h
theorem eq_sound (hM : Mem β S D H w) {neg : Bool} {t u : TypeId} {x y : Operand} {cs ds : List V} (ho : o.op = .binOp (if neg then .neq else .eql) t x y u) (hx : den β S w D (.agg cs) (a.eval x)) (hy : den β S w D (.agg ds) (a.eval y))
    (h : effEq P t neg (.agg cs) (.agg ds) k = some r) : Good P β S D H new o a w k r := by
  unfold effEq at h
  split at h
  · rename_i u0 v0 hu hv
    split at h
    · cases h
    · rename_i hg
      split at h
      · rename_i b hb
        have e1 := den_toVal _ _ _ hu hx
        have e2 := den_toVal _ _ _ hv hy
        obtain ⟨xs, rfl⟩ : ∃ xs, u0 = .agg xs := by
          simp only [V.toVal, Option.map_eq_some_iff] at hu
          obtain ⟨l, _, rfl⟩ := hu
          exact ⟨_, rfl⟩
        obtain ⟨ys, rfl⟩ : ∃ xs, v0 = .agg xs := by
          simp only [V.toVal, Option.map_eq_some_iff] at hv
          obtain ⟨l, _, rfl⟩ := hv
          exact ⟨_, rfl⟩
        have hg' : P.eqGuardType P.depth t = false := by simpa using hg
        refine ⟨_, h, good_same hM (u := .bool (if neg then !b else b)) ?_ (by simp [den])⟩
        cases neg
        · simp only [Bool.false_eq_true, if_false] at ho
          simp only [execOp, ho, e1, e2, Sem.run_bind, run_eqGuard_agg w _ _ _ _ _ _ hg', Result.andThen_ok, run_eql_struct, eqP_run _ _ _ _ _ hb]
          rfl
        · simp only [if_true] at ho
          simp only [execOp, ho, e1, e2, Sem.run_bind, run_eqGuard_agg w _ _ _ _ _ _ hg', Result.andThen_ok, run_neq_struct, eqP_run _ _ _ _ _ hb]
          rfl
      · cases h
  · cases h
theorem orN_eq : ∀ (f a b : Nat), a < 2 ^ f → b < 2 ^ f → orN f a b = a ||| b
  | 0, a, b, ha, hb => by
    obtain rfl : a = 0 := by omega
    obtain rfl : b = 0 := by omega
    rfl
  | f + 1, a, b, ha, hb => by
    have h := orN_eq f (a / 2) (b / 2) (by omega) (by omega)
    have h1 : (a ||| b) / 2 = a / 2 ||| b / 2 := Nat.or_div_two
    have h2 : (a ||| b) % 2 = if a % 2 = 1 ∨ b % 2 = 1 then 1 else 0 := by
      have h3 := Nat.or_mod_two_eq_one (a := a) (b := b)
      by_cases h4 : a % 2 = 1 ∨ b % 2 = 1
      · rw [if_pos h4]; exact h3.2 h4
      · rw [if_neg h4]
        have : ¬ (a ||| b) % 2 = 1 := fun e => h4 (h3.1 e)
        omega
    rw [orN, h, ← h1, ← h2]
    omega
theorem orI_eq (k : IntKind) (m n : Int) : orI k m n = k.wrap ((BitVec.ofInt k.bits m ||| BitVec.ofInt k.bits n).toNat : Int) := by
  unfold orI
  have hp : (0 : Int) < 2 ^ k.bits := Int.pow_pos (by decide)
  have hb : ∀ z : Int, (z % 2 ^ k.bits).toNat < 2 ^ k.bits := by
    intro z
    have h1 := Int.emod_lt_of_pos z hp
    have h2 := Int.emod_nonneg z (Int.ne_of_gt hp)
    have : ((2 ^ k.bits : Nat) : Int) = 2 ^ k.bits := by simp
    omega
  have e : ∀ z : Int, (BitVec.ofInt k.bits z).toNat = (z % 2 ^ k.bits).toNat := by
    intro z
    rw [BitVec.toNat_ofInt]
    simp
  rw [orN_eq _ _ _ (hb m) (hb n), BitVec.toNat_or, e, e]
theorem bin_sound (hM : Mem β S D H w) (hev : ∀ x, den β S w D (ev x) (a.eval x)) {b : BinOp} {t u : TypeId} {x y : Operand} (ho : o.op = .binOp b t x y u) (h : effBin P o ev b t (ev x) (ev y) k = some r) : Good P β S D H new o a w k r := by
  have hx := hev x
  have hy := hev y
  unfold effBin at h
  split at h
  · rename_i hdiv
    split at h
    · rename_i kd m kd' n hm hn
      rw [hm] at hx
      rw [hn] at hy
      simp only [den] at hx hy
      split at h
      · rename_i hk
        subst hk
        unfold effDiv at h
        split at h
        · split at h
          · cases h
          · rename_i h0
            exact ⟨_, h, good_same hM (u := .int kd (kd.wrap (m.tdiv n))) (by simp [execOp, ho, hx, hy, eqGuard, binOp, Op.intDiv, h0]) (by simp [den])⟩
        · split at h
          · cases h
          · rename_i h0
            exact ⟨_, h, good_same hM (u := .int kd (m.tmod n)) (by simp [execOp, ho, hx, hy, eqGuard, binOp, Op.intDiv, h0]) (by simp [den])⟩
        · cases h
      · cases h
    · cases h
  · split at h
    · rename_i s s' hs hs' _
      rw [hs] at hx
      rw [hs'] at hy
      simp only [den] at hx hy
      split at h
      · rename_i hle
        unfold maxLen at hle
        have hlt : ¬ (((s.size + s'.size : Nat) : Int) > IntKind.i64.max) := by
          have : IntKind.i64.max = 9223372036854775807 := by decide
          rw [this]; omega
        refine ⟨_, h, good_same hM (u := .string (s ++ s')) ?_ (by simp [den])⟩
        simp only [execOp, ho, hx, hy, eqGuard, binOp, Op.stringOp, Sem.run_bind]
        rw [if_neg hlt]
        rfl
      · cases h
    · rename_i kd m kd' n hm hn _
      rw [hm] at hx
      rw [hn] at hy
      simp only [den] at hx hy
      split at h
      · rename_i hk
        subst hk
        exact ⟨_, h, good_same hM (u := .int kd (orI kd m n)) (by rw [orI_eq]; simp [execOp, ho, hx, hy, eqGuard, binOp, Op.intBits]) (by simp [den])⟩
      · cases h
    · rename_i cs ds hs hs' _
      exact eq_sound hM (neg := false) ho (hs ▸ hx) (hs' ▸ hy) h
    · rename_i f cs hs hs' _
      rw [hs] at hx
      rw [hs'] at hy
      simp only [den] at hx hy
      obtain ⟨us, hu, _⟩ := hx
      split at h
      · rename_i ht; exact ⟨_, h, func_neq hM ho ht hu hy⟩
      · cases h
    · rename_i f fs cs hs hs' _
      rw [hs] at hx
      rw [hs'] at hy
      simp only [den] at hx hy
      obtain ⟨xs, us, hu, _⟩ := hx
      split at h
      · rename_i ht; exact ⟨_, h, func_neq hM ho ht hu hy⟩
      · cases h
    · rename_i d v hs hs' _
      rw [hs] at hx
      rw [hs'] at hy
      simp only [den] at hx hy
      obtain ⟨q, hu, _⟩ := hx
      split at h
      · rename_i ht; exact ⟨_, h, iface_neq hM ho ht hu hy⟩
      · cases h
    · rename_i cs ds hs hs' _
      exact eq_sound hM (neg := true) ho (hs ▸ hx) (hs' ▸ hy) h
    · exact fall_sound hM hev (by rw [ho]; intros; simp) h
theorem len_sound {pr : Bool} (hM : Mem β S D H w) (hev : ∀ x, den β S w D (ev x) (a.eval x)) {c : Call} (hc : c.callee = .builtin .len) (ho : o.op = .call c) (h : effBuiltin P pr o ev .len c.args.toList c.argTypes.toList H new k = some r) : Good P β S D H new o a w k r := by
  unfold effBuiltin at h
  simp only at h
  split at h
  · rename_i x hx
    have hargs : c.args = #[x] := by rw [← Array.toArray_toList (xs := c.args), hx]
    have hex : ∀ t, c.argTypes = #[t] → ∀ v, (Builtin.len_ #[t] o.type #[a.eval x]).run P w = .ok v w → (execOp a.eval o).run P w = .ok (.value v) w := by
      intro t ht v hr
      obtain ⟨cs, hcs⟩ := run_call_builtin (a := a) hc ho
      rw [hcs, hargs, ht]
      simp [builtin, Sem.run_bind, hr]
    have hd := hev x
    split at h
    · rename_i i z p n hv
      rw [hv] at hd
      simp only [den] at hd
      split at h
      · rename_i t ht
        have hts : c.argTypes = #[t] := by rw [← Array.toArray_toList (xs := c.argTypes), ht]
        split at h
        · rename_i e he
          obtain ⟨h, b, m, hb⟩ := lives_some hM h
          obtain ⟨g1, A, hu, g2⟩ := hd.2 b m hb
          exact ⟨_, h, good_same hM (u := .int .i64 n) (hex t hts _ (by rw [hu]; simp [Builtin.len_, Sem.run_bind, run_underlying (elem_under he), goInt])) (by simp [den])⟩
        · cases h
      · cases h
    · rename_i z n f hv
      rw [hv] at hd
      simp only [den] at hd
      split at h
      · rename_i t ht
        have hts : c.argTypes = #[t] := by rw [← Array.toArray_toList (xs := c.argTypes), ht]
        split at h
        · rename_i e he
          obtain ⟨_, A, m, ad, us, hu, _⟩ := hd
          exact ⟨_, h, good_same hM (u := .int .i64 n) (hex t hts _ (by rw [hu]; simp [Builtin.len_, Sem.run_bind, run_underlying (elem_under he), goInt])) (by simp [den])⟩
        · cases h
      · cases h
    · rename_i i hv
      rw [hv] at hd
      simp only [den] at hd
      split at h
      · rename_i t ht
        have hts : c.argTypes = #[t] := by rw [← Array.toArray_toList (xs := c.argTypes), ht]
        split at h
        · rename_i p hp
          obtain ⟨kt, e⟩ := p
          obtain ⟨kk, hu, _⟩ := mapP_spec hp
          have fin : ∀ (es : List MapEntry) (clock b : Nat), a.eval x = .map (some b) → w.heap[b]? = some (.map es.toArray clock) → ∀ n : Nat, es.length = n → k (.val (.sc (.int .i64 n)) []) = some r → Good P β S D H new o a w k r := fun es clock b hx hb n hn h =>
            ⟨_, h, good_same hM (u := .int .i64 n) (hex t hts _ (by rw [hx]; simp [Builtin.len_, Sem.run_bind, run_underlying hu, getMap_run hb, goInt, hn])) (by simp [den])⟩
          split at h
          · rename_i l hi
            obtain ⟨b, m, hb, hr⟩ := hM.live i _ hi
            simp only [chunkRel] at hr
            obtain ⟨es, clock, h1, h2⟩ := hr
            exact fin es clock b (hd.2 b m hb) h1 _ (mapOK_len h2).symm h
          · rename_i n g f hi
            obtain ⟨b, m, hb, hr⟩ := hM.live i _ hi
            simp only [chunkRel] at hr
            obtain ⟨es, clock, h1, h2, _⟩ := hr
            exact fin es clock b (hd.2 b m hb) h1 _ h2 h
          · cases h
        · cases h
      · cases h
    · exact fall_sound hM hev (by rw [ho]; intros; simp) h
  · cases h
theorem defer_sound (hev : ∀ x, den β S w D (ev x) (a.eval x)) {c : Call} (ho : o.op = .defer c) (h : effDefer ev c k = some r) : Good P β S D H new o a w k r := by
  unfold effDefer at h
  split at h
  · rename_i f hc
    have hf := hev f
    split at h
    · rename_i g cs hg
      rw [hg] at hf
      simp only [den] at hf
      obtain ⟨us, hu, hd⟩ := hf
      split at h
      · rename_i ha
        refine ⟨_, h, us, ?_, (denL_len hd).symm⟩
        have he : c.args = #[] := by rw [← Array.toArray_toList (xs := c.args), ha]
        simp [execOp, ho, resolve, hc, hu, he, Deferred.ofValue, Sem.run_bind]
      · cases h
    · cases h
  · cases h
theorem call_sound {pr : Bool} (hM : Mem β S D H w) (hn : ¬ D new) (hev : ∀ x, den β S w D (ev x) (a.eval x)) {c : Call} (ho : o.op = .call c) (h : effCall P pr o ev c H new k = some r) : Good P β S D H new o a w k r := by
  unfold effCall at h
  split at h
  · rename_i b hc
    by_cases h1 : b = .len
    · subst h1; exact len_sound hM hev hc ho h
    · by_cases h2 : b = .append
      · subst h2
        unfold effBuiltin at h
        simp only at h
        split at h
        · rename_i x y t t' hx ht
          split at h
          · rename_i he
            subst he
            exact append_sound hM hn hc ho (by rw [← Array.toArray_toList (xs := c.args), hx]) (by rw [← Array.toArray_toList (xs := c.argTypes), ht]) (hev x) (hev y) h
          · cases h
        · cases h
      · have h' : effFall P o ev k = some r := by
          unfold effBuiltin at h
          split at h
          · exact absurd rfl h1
          · exact absurd rfl h2
          · exact h
        exact fall_sound hM hev (by rw [ho]; intros; simp) h'
  · rename_i f hc
    have hf := hev f
    have key : ∀ (g : FuncId) (cs : List Value), a.eval f = .func (.func g) #[] cs.toArray → callable P g → (execOp a.eval o).run P w = .ok (.enter g ((c.args.toList.map a.eval) ++ cs).toArray) w := by
      rintro g cs hfe ⟨fn, h1, h2, h3⟩
      have hb : ¬ fn.body = none := by intro hb; rw [hb] at h2; cases h2
      simp [execOp, ho, resolve, hc, hfe, Deferred.ofValue, invoke, callFunc, Sem.run_bind, h1, h3, hb, program, Sem.run]
    split at h
    · rename_i g cs hg
      rw [hg] at hf
      simp only [den] at hf
      obtain ⟨us, hu, hd⟩ := hf
      exact ⟨_, h, _, key g us hu, denL_append (denL_map fun x _ => hev x) hd⟩
    · rename_i g fs cs hg
      rw [hg] at hf
      simp only [den] at hf
      obtain ⟨xs, us, hu, hd1, hd2⟩ := hf
      refine ⟨_, h, (xs ++ c.args.toList.map a.eval) ++ us, ?_, denL_append (denL_append hd1 (denL_map fun x _ => hev x)) hd2⟩
      rintro ⟨fn, h1, h2, h3⟩
      have hb : ¬ fn.body = none := by intro hb; rw [hb] at h2; cases h2
      simp [execOp, ho, resolve, hc, hu, Deferred.ofValue, invoke, callFunc, Sem.run_bind, h1, h3, hb, program, Sem.run]
    · rename_i g first cs hg
      rw [hg] at hf
      simp only [den] at hf
      split at h
      · rename_i hc0
        have e1 : first = #[] := Array.eq_empty_of_size_eq_zero hc0.1
        have e2 : cs = #[] := Array.eq_empty_of_size_eq_zero hc0.2
        subst e1 e2
        refine ⟨_, h, _, fun hcal => by have := key g [] hf hcal; simpa using this, denL_map fun x _ => hev x⟩
      · cases h
    · cases h
  · cases h

theorem opK_sound {pb pr : Bool} (hM : Mem β S D H w) (hn : ¬ D new) (hev : ∀ x, den β S w D (ev x) (a.eval x)) (h : opK P pb pr o ev H new k = some r) : Good P β S D H new o a w k r := by
  unfold opK at h
  split at h
  · rename_i x ho; exact ⟨_, h, good_same hM (u := a.eval x) (by simp [execOp, ho]) (hev x)⟩
  · rename_i x ho; exact ⟨_, h, good_same hM (u := a.eval x) (by simp [execOp, ho]) (hev x)⟩
  · rename_i c x y ho; exact pick_sound hM hev ho h
  · rename_i t ho; exact alloc_sound hM hn ho h
  · rename_i t x ho; exact box_sound hM hn ho (hev x) h
  · rename_i t x ho; exact good_reads hM (by simp only [execOp, ho]) (load_sound hM (hev x) h)
  · rename_i t x y ho; exact store_sound hM ho (hev x) (hev y) h
  · rename_i t x f ho; exact good_reads hM (by simp only [execOp, ho]) (fieldAddr_sound hM (hev x) h)
  · rename_i t x f ho; exact field_sound hM hev ho h
  · rename_i t x y ho; exact good_reads hM (by simp only [execOp, ho]) (indexAddr_sound hM (hev x) (hev y) h)
  · rename_i t x y ho; exact index_sound hM hev ho h
  · rename_i t x lo hi mx ho
    split at h
    · rename_i hmx
      have hmx' : mx = none := by cases mx <;> simp_all
      subst hmx'
      have hv : ∀ (y : Operand) (l : Option Int), intV (ev y) = l → l.isSome = true → ∃ kd n, some (a.eval y) = some (Value.int kd n) ∧ l = some n := by
        intro y l hl hs
        obtain ⟨n, hn⟩ := Option.isSome_iff_exists.1 hs
        subst hn
        obtain ⟨kd, hk⟩ := intV_den (hev y) hl
        exact ⟨kd, n, by rw [hk], rfl⟩
      refine good_reads hM (s := Instr.sliceAt t (a.eval x) (lo.map a.eval) (hi.map a.eval) none) (by simp only [execOp, ho, Option.map_none]) ?_
      have hsome : ∃ l q, (match lo with | some y => intV (ev y) | none => some 0) = some l ∧ (match hi with | some y => intV (ev y) | none => lenV (ev x)) = some q := by
        unfold effSlice at h
        split at h
        · rename_i l q h1 h2; exact ⟨l, q, h1, h2⟩
        · cases h
      obtain ⟨l, q, h1, h2⟩ := hsome
      refine slice_sound hM (hev x) ?_ ?_ h
      · cases lo with
        | none => exact .inl ⟨rfl, rfl⟩
        | some y =>
          simp only at h1
          obtain ⟨kd, hk⟩ := intV_den (hev y) h1
          exact .inr ⟨kd, l, by simp [hk], h1⟩
      · cases hi with
        | none => exact .inl ⟨rfl, rfl⟩
        | some y =>
          simp only at h2
          obtain ⟨kd, hk⟩ := intV_den (hev y) h2
          exact .inr ⟨kd, q, by simp [hk], h2⟩
    · cases h
  · rename_i x n ho; exact extract_sound hM hev ho h
  · rename_i t ps ho; exact build_sound hM hev ho h
  · rename_i t n ps ho; exact buildSlice_sound hM hn hev ho h
  · rename_i t x y ho; exact makeSlice_sound hM hn ho (hev x) (hev y) h
  · rename_i fn fi cs ho
    split at h
    · split at h
      · rename_i f hfi
        exact ⟨_, h, makeFunc_sound hM hev ho hfi⟩
      · exact ⟨_, h, makeBound_sound hM hev ho⟩
    · cases h
  · rename_i t x ho
    split at h
    · rename_i s hs
      split at h
      · rename_i hu
        exact ⟨_, h, range_sound hM hn ho hu (by rw [← hs]; exact hev x)⟩
      · cases h
    · cases h
  · rename_i x b ho
    split at h
    · rename_i hb
      subst hb
      exact next_sound hM ho (hev x) h
    · cases h
  · rename_i x ho; exact nil_sound hM hev ho h
  · rename_i c ho; exact call_sound hM hn hev ho h
  · rename_i b t x y u ho; exact bin_sound hM hev ho h
  · rename_i op t x ho; exact fall_sound hM hev (by rw [ho]; intros; simp) h
  · rename_i s d x ho; exact fall_sound hM hev (by rw [ho]; intros; simp) h
  · rename_i t ho; exact makeMap_sound hM hn ho h
  · rename_i t x y ok ho; exact lookup_sound hM ho (hev x) (hev y) h
  · rename_i t x y v ho; exact mapSet_sound hM (.inl ho) (hev x) (hev y) (hev v) h
  · rename_i t x y v ho; exact mapSet_sound hM (.inr ho) (hev x) (hev y) (hev v) h
  · rename_i t x ho; exact makeIface_sound hM ho (hev x) h
  · rename_i x u t ok ho; exact assert_sound hM ho (hev x) h
  · rename_i x ho; exact panic_sound ho (hev x) h
  · rename_i c ho; exact defer_sound hev ho h
  · cases h
end
end Go.Am
