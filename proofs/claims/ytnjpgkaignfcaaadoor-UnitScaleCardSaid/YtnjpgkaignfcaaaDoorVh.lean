/- What is printed is read: plain. -/
import Derived.Test.YtnjpgkaignfcaaaDoorVg
namespace Go.Proofs.YtnjpgkaignfcaaaDoor
open Go Go.Am
set_option linter.unusedSimpArgs false
set_option linter.unusedVariables false
/-! ### Numbers -/
theorem dg_one {d : Nat} (h : d < 10) (l : List UInt8) (v : Int) (h0 : 0 ≤ v) (hv : 10 * v + d ≤ 2147483648) : dg (UInt8.ofNat (48 + d) :: l) v = dg l (10 * v + d) := by
  have e : (UInt8.ofNat (48 + d)).toNat = 48 + d := by simp; omega
  rw [dg, e, if_neg (by omega)]
  have : nstep v (48 + d) = 10 * v + d := by unfold nstep; split <;> omega
  rw [this]
theorem dg_digits (u : Nat) : u ≤ 2147483647 → ∀ l, dg (Lib.decDigits u ++ l) 0 = dg l u := by
  induction u using Nat.strongRecOn with
  | ind u ih =>
    intro hu l
    rw [Lib.decDigits]
    split
    · rename_i h
      rw [List.singleton_append, dg_one h _ _ (by omega) (by omega)]
      congr 1; omega
    · rename_i h
      rw [List.append_assoc, ih (u / 10) (by omega) (by omega), List.singleton_append, dg_one (by omega) _ _ (by omega) (by omega)]
      congr 1; omega
theorem dd_mem (u : Nat) : ∀ x ∈ Lib.decDigits u, 48 ≤ x.toNat ∧ x.toNat ≤ 57 := by
  induction u using Nat.strongRecOn with
  | ind u ih =>
    intro x hx
    rw [Lib.decDigits] at hx
    split at hx
    · rw [List.mem_singleton.1 hx]; simp; omega
    · rcases List.mem_append.1 hx with hx | hx
      · exact ih (u / 10) (by omega) x hx
      · rw [List.mem_singleton.1 hx]; simp; omega
theorem dd_head (u : Nat) : 0 < u → ∃ c t, Lib.decDigits u = c :: t ∧ 49 ≤ c.toNat ∧ c.toNat ≤ 57 := by
  induction u using Nat.strongRecOn with
  | ind u ih =>
    intro h0
    rw [Lib.decDigits]
    split
    · exact ⟨_, [], rfl, by simp; omega, by simp; omega⟩
    · obtain ⟨c, t, e, h1, h2⟩ := ih (u / 10) (by omega) (by omega)
      exact ⟨c, t ++ [UInt8.ofNat (48 + u % 10)], by rw [e]; rfl, h1, h2⟩
theorem it_data (n : Int) : (itS n).data.toList = Lib.itoa n := rfl
theorem it_mem (n : Int) : ∀ x ∈ (itS n).data.toList, x = 45 ∨ (48 ≤ x.toNat ∧ x.toNat ≤ 57) := by
  intro x hx
  rw [it_data] at hx
  unfold Lib.itoa at hx
  split at hx
  · rcases List.mem_cons.1 hx with hx | hx
    · exact .inl hx
    · exact .inr (dd_mem _ x hx)
  · exact .inr (dd_mem _ x hx)
theorem it_no (n : Int) {c : UInt8} (h1 : c ≠ 45) (h2 : c.toNat < 48 ∨ 57 < c.toNat) : c ∉ (itS n).data.toList := by
  intro h
  rcases it_mem n c h with h3 | h3
  · exact h1 h3
  · omega
theorem numS_it {n : Int} (h : -2147483647 ≤ n ∧ n ≤ 2147483647) : numS (itS n) = some n := by
  by_cases hn : n < 0
  · have e : (itS n).data.toList = 45 :: Lib.decDigits n.natAbs := by rw [it_data, Lib.itoa, if_pos hn]
    obtain ⟨h1, h2⟩ := body_neg e
    obtain ⟨c, t, e2, h3, h4⟩ := dd_head n.natAbs (by omega)
    have hd := dg_digits n.natAbs (by omega) []
    rw [List.append_nil, dg] at hd
    unfold numS
    rw [h1, h2]
    rw [e2] at hd ⊢
    simp only
    rw [if_neg (by omega), hd]
    simp; omega
  · have e : (itS n).data.toList = Lib.decDigits n.toNat := by rw [it_data, Lib.itoa, if_neg hn]
    have hd := dg_digits n.toNat (by omega) []
    rw [List.append_nil, dg] at hd
    by_cases h0 : n = 0
    · subst h0; decide +kernel
    · obtain ⟨c, t, e2, h3, h4⟩ := dd_head n.toNat (by omega)
      rw [e2] at e hd
      obtain ⟨h1, h2⟩ := body_pos e (by intro hc; subst hc; exact absurd h3 (by decide))
      unfold numS
      rw [h1, h2]
      simp only
      rw [if_neg (by omega), hd]
      simp; omega
theorem num_it {n : Int} (h : -2147483647 ≤ n ∧ n ≤ 2147483647) : nV (itS n) = n ∧ nB (itS n) = true := by
  unfold nV nB; rw [numS_it h]; exact ⟨rfl, rfl⟩
/-! ### Cuts -/
theorem cutA_app {c : UInt8} : ∀ {l r : List UInt8}, c ∉ l → cutA c (l ++ c :: r) = (l, r, true)
  | [], r, _ => by simp [cutA]
  | x :: l, r, h => by
    have h1 : x ≠ c := fun e => h (by simp [e])
    rw [List.cons_append, cutA, if_neg h1, cutA_app (fun hm => h (List.mem_cons_of_mem _ hm))]
theorem cutA_none {c : UInt8} : ∀ {l : List UInt8}, c ∉ l → cutA c l = (l, [], false)
  | [], _ => rfl
  | x :: l, h => by
    have h1 : x ≠ c := fun e => h (by simp [e])
    rw [cutA, if_neg h1, cutA_none (fun hm => h (List.mem_cons_of_mem _ hm))]
theorem splL_app {c : UInt8} : ∀ {l r : List UInt8}, c ∉ l → splL c (l ++ c :: r) = l :: splL c r
  | [], r, _ => by simp [splL]
  | x :: l, r, h => by
    have h1 : x ≠ c := fun e => h (by simp [e])
    rw [List.cons_append, splL, if_neg h1, splL_app (fun hm => h (List.mem_cons_of_mem _ hm))]
theorem splL_none {c : UInt8} : ∀ {l : List UInt8}, c ∉ l → splL c l = [l]
  | [], _ => rfl
  | x :: l, h => by
    have h1 : x ≠ c := fun e => h (by simp [e])
    rw [splL, if_neg h1, splL_none (fun hm => h (List.mem_cons_of_mem _ hm))]
theorem splL_join {c : UInt8} : ∀ (L : List (List UInt8)) (x : List UInt8), (∀ y ∈ x :: L, c ∉ y) → splL c (Lib.join (x :: L) [c]) = x :: L
  | [], x, h => by rw [Lib.join_one, splL_none (h x (by simp))]
  | y :: L, x, h => by
    have e : Lib.join (x :: y :: L) [c] = x ++ c :: Lib.join (y :: L) [c] := by
      rw [Lib.join_cons, Lib.join_cons]
      simp [Lib.joinTail]
    rw [e, splL_app (h x (by simp)), splL_join L y fun z hz => h z (List.mem_cons_of_mem _ hz)]
theorem pts_jn {L : List ByteArray} (hL : L ≠ []) (h : ∀ y ∈ L, (42 : UInt8) ∉ y.data.toList) : pts 42 (jn L) = L := by
  obtain ⟨x, r, rfl⟩ := List.exists_cons_of_ne_nil hL
  unfold pts
  have e : (jn (x :: r)).data.toList = Lib.join (x.data.toList :: r.map (·.data.toList)) [42] := by unfold jn; simp
  rw [e, splL_join]
  · rw [List.map_cons, List.map_map, show (fun l : List UInt8 => (⟨l.toArray⟩ : ByteArray)) ∘ (fun x : ByteArray => x.data.toList) = id from by funext x; simp, List.map_id]
  · intro y hy
    rcases List.mem_cons.1 hy with rfl | hy
    · exact h x (by simp)
    · obtain ⟨z, hz, rfl⟩ := List.mem_map.1 hy
      exact h z (List.mem_cons_of_mem _ hz)
/-! ### Segments -/
theorem allL_no {b : ByteArray} (h : allL b = true) {c : UInt8} (hc : isL c = false) : c ∉ b.data.toList := by
  intro hm
  have := List.all_eq_true.1 h c hm
  rw [hc] at this; cases this
theorem segB_data {b : ByteArray} {e : Int} (h : e ≠ 1) : (segB b e).data.toList = b.data.toList ++ 94 :: (itS e).data.toList := by
  unfold segB; rw [if_neg h]; simp
theorem seg_spec {b : ByteArray} {e : Int} (hb : allL b = true) (hn : ne b = true) (he : -8 ≤ e ∧ e ≤ 8) : fU (segB b e) = b ∧ fE (segB b e) = e ∧ fO (segB b e) = true := by
  have hno := allL_no hb (c := 94) (by decide)
  by_cases h1 : e = 1
  · subst h1
    have e1 : segB b 1 = b := if_pos rfl
    have hc := cutA_none hno
    have hA : cA 94 b = b := by unfold cA; rw [hc]
    have hF : cF 94 b = false := by unfold cF; rw [hc]
    rw [e1]
    simp [fU, fE, fO, hA, hF, hb, hn]
  · have hc := cutA_app (r := (itS e).data.toList) hno
    rw [← segB_data h1] at hc
    have hA : cA 94 (segB b e) = b := by unfold cA; rw [hc]
    have hF : cF 94 (segB b e) = true := by unfold cF; rw [hc]
    have hB : cB 94 (segB b e) = itS e := by unfold cB; rw [hc]
    obtain ⟨n1, n2⟩ := num_it (n := e) (by omega)
    simp [fU, fE, fO, hA, hF, hB, hb, hn, n1, n2]
theorem seg_no {b : ByteArray} {e : Int} (hb : allL b = true) : (42 : UInt8) ∉ (segB b e).data.toList := by
  have h1 := allL_no hb (c := 42) (by decide)
  by_cases h : e = 1
  · subst h
    have e1 : segB b 1 = b := if_pos rfl
    rw [e1]; exact h1
  · rw [segB_data h]
    intro hm
    rcases List.mem_append.1 hm with hm | hm
    · exact h1 hm
    · rcases List.mem_cons.1 hm with hm | hm
      · exact absurd hm (by decide)
      · exact it_no e (by decide) (.inl (by decide)) hm
def segP (p : ByteArray × Int) : ByteArray := segB p.1 p.2
def okP (p : ByteArray × Int) : Prop := allL p.1 = true ∧ ne p.1 = true ∧ p.2 ≠ 0 ∧ (-8 ≤ p.2 ∧ p.2 ≤ 8) ∧ lkB (lkI p.1) = true ∧ lkF (lkI p.1) = 1
def stP (q : Acc) (p : ByteArray × Int) : Acc := q.step (lkI p.1) p.2
theorem runP {P : List (ByteArray × Int)} {t : ByteArray} (hp : pts 42 t = P.map segP) (hok : ∀ p ∈ P, okP p) : ∀ (r k : Nat) (q : Acc), P.length - k = r → run2 (uP t) (eP t) (gP t) r k q = .inr ((P.drop k).foldl stP q) := by
  intro r
  induction r with
  | zero =>
    intro k q h
    rw [run2, List.drop_eq_nil_of_le (by omega)]; rfl
  | succ r ih =>
    intro k q h
    have hk : k < P.length := by omega
    have hpt : pt 42 t k = segP P[k] := by unfold pt; rw [hp]; simp [hk]
    obtain ⟨o1, o2, o3, o4, o5, o6⟩ := hok P[k] (List.getElem_mem hk)
    obtain ⟨s1, s2, s3⟩ := seg_spec o1 o2 o4
    have hU : uP t k = P[k].1 := by show fU (pt 42 t k) = _; rw [hpt]; exact s1
    have hE : eP t k = P[k].2 := by show fE (pt 42 t k) = _; rw [hpt]; exact s2
    have hf : facE (uP t k) (eP t k) (gP t k) = none := by
      unfold facE
      rw [hU, hE, if_neg (by rw [o5]; decide), if_neg (fun h => h.2 o6), if_neg (by omega)]
    rw [run2, hf, hU, hE, List.drop_eq_getElem_cons hk, List.foldl_cons]
    exact ih (k + 1) _ (by omega)
theorem allP {P : List (ByteArray × Int)} {t : ByteArray} (hp : pts 42 t = P.map segP) (hok : ∀ p ∈ P, okP p) : allF fO t 0 := by
  intro j _ hj
  have hj' : j < P.length := by unfold ptN at hj; rw [hp] at hj; simpa using hj
  have hpt : pt 42 t j = segP P[j] := by unfold pt; rw [hp]; simp [hj']
  obtain ⟨o1, o2, o3, o4, o5, o6⟩ := hok P[j] (List.getElem_mem hj')
  rw [hpt]
  exact (seg_spec o1 o2 o4).2.2
/-! ### The parts of a dimension -/
def nxtP (P : List (ByteArray × Int)) (b : ByteArray) (e : Int) : List (ByteArray × Int) := if e = 0 then P else P ++ [(b, e)]
def P5 (a b c d e : Int) : List (ByteArray × Int) := nxtP (nxtP (nxtP (nxtP (nxtP [] (⟨#[74]⟩ : ByteArray) a) (⟨#[66]⟩ : ByteArray) b) (⟨#[115]⟩ : ByteArray) c) (⟨#[100, 101, 103]⟩ : ByteArray) d) (⟨#[75]⟩ : ByteArray) e
theorem nxt_map (P : List (ByteArray × Int)) (b : ByteArray) (e : Int) : nxt (P.map segP) b e = (nxtP P b e).map segP := by
  unfold nxt nxtP
  split
  · rfl
  · rw [List.map_append]; rfl
theorem parts_map (a b c d e : Int) : parts a b c d e = (P5 a b c d e).map segP := by
  unfold parts P5
  rw [show ([] : List ByteArray) = ([] : List (ByteArray × Int)).map segP from rfl, nxt_map, nxt_map, nxt_map, nxt_map, nxt_map]
def i8 (e : Int) : Prop := -8 ≤ e ∧ e ≤ 8
theorem ok_nxt {P : List (ByteArray × Int)} {b : ByteArray} {e : Int} (h : ∀ p ∈ P, okP p) (h1 : allL b = true) (h2 : ne b = true) (he : i8 e) (h5 : lkB (lkI b) = true) (h6 : lkF (lkI b) = 1) : ∀ p ∈ nxtP P b e, okP p := by
  unfold nxtP
  split
  · exact h
  · rename_i h0
    intro p hp
    rcases List.mem_append.1 hp with hp | hp
    · exact h p hp
    · rw [List.mem_singleton.1 hp]; exact ⟨h1, h2, h0, he, h5, h6⟩
theorem ok5 {a b c d e : Int} (ha : i8 a) (hb : i8 b) (hc : i8 c) (hd : i8 d) (he : i8 e) : ∀ p ∈ P5 a b c d e, okP p := by
  unfold P5
  exact ok_nxt (ok_nxt (ok_nxt (ok_nxt (ok_nxt (fun p hp => by cases hp) (by kernel_rfl) (by kernel_rfl) ha (by kernel_rfl) (by kernel_rfl)) (by kernel_rfl) (by kernel_rfl) hb (by kernel_rfl) (by kernel_rfl)) (by kernel_rfl) (by kernel_rfl) hc (by kernel_rfl) (by kernel_rfl)) (by kernel_rfl) (by kernel_rfl) hd (by kernel_rfl) (by kernel_rfl)) (by kernel_rfl) (by kernel_rfl) he (by kernel_rfl) (by kernel_rfl)
theorem fold_nxt (P : List (ByteArray × Int)) (b : ByteArray) (e : Int) (q : Acc) : (nxtP P b e).foldl stP q = if e = 0 then P.foldl stP q else stP (P.foldl stP q) (b, e) := by
  unfold nxtP
  split
  · rfl
  · rw [List.foldl_append]; rfl
def sm (n : Int) : Prop := -2147483647 ≤ n ∧ n ≤ 2147483647
theorem nS_1 {n : Int} {i : Nat} (h : sm n) (hi : lkF i = 1) : nS n i = n := by
  unfold sm at h
  unfold nS
  rw [hi, Int.mul_one, w_in (by unfold inR; omega), if_neg (show ¬ (2147483648 : Int) < n by omega), if_pos (by omega)]
theorem wadd {x e m : Int} (hx : i8 x) (he : i8 e) (hm : m = 0 ∨ m = 1) : w (x + w (e * m)) = x + e * m := by
  unfold i8 at hx he
  rcases hm with rfl | rfl
  · rw [Int.mul_zero, w_in (n := 0) (by unfold inR; omega), w_in (by unfold inR; omega)]
  · rw [Int.mul_one, w_in (n := e) (by unfold inR; omega), w_in (by unfold inR; omega)]
theorem fold5 {n a b c d e : Int} (hn : sm n) (ha : i8 a) (hb : i8 b) (hc : i8 c) (hd : i8 d) (he : i8 e) : (P5 a b c d e).foldl stP ⟨n, 0, 0, 0, 0, 0⟩ = ⟨n, a, b, c, d, e⟩ := by
  have z : i8 0 := by unfold i8; omega
  have i0 : lkI (⟨#[74]⟩ : ByteArray) = 0 := by kernel_rfl
  have i3 : lkI (⟨#[66]⟩ : ByteArray) = 3 := by kernel_rfl
  have i5 : lkI (⟨#[115]⟩ : ByteArray) = 5 := by kernel_rfl
  have i8' : lkI (⟨#[100, 101, 103]⟩ : ByteArray) = 8 := by kernel_rfl
  have i9 : lkI (⟨#[75]⟩ : ByteArray) = 9 := by kernel_rfl
  have s1 : ([] : List (ByteArray × Int)).foldl stP ⟨n, 0, 0, 0, 0, 0⟩ = ⟨n, 0, 0, 0, 0, 0⟩ := rfl
  have t1 : (if a = 0 then (⟨n, 0, 0, 0, 0, 0⟩ : Acc) else stP ⟨n, 0, 0, 0, 0, 0⟩ (⟨#[74]⟩, a)) = ⟨n, a, 0, 0, 0, 0⟩ := by
    split
    · rename_i h; rw [h]
    · unfold stP Acc.step
      rw [i0]
      simp only [nS_1 hn (show lkF 0 = 1 from rfl), lkE, lkD, lkT, lkA, lkH, List.getD_cons_zero]
      rw [wadd z ha (.inr rfl), wadd z ha (.inl rfl)]
      simp
  have t2 : (if b = 0 then (⟨n, a, 0, 0, 0, 0⟩ : Acc) else stP ⟨n, a, 0, 0, 0, 0⟩ (⟨#[66]⟩, b)) = ⟨n, a, b, 0, 0, 0⟩ := by
    split
    · rename_i h; rw [h]
    · unfold stP Acc.step
      rw [i3]
      show (⟨nS n 3, w (a + w (b * 0)), w (0 + w (b * 1)), w (0 + w (b * 0)), w (0 + w (b * 0)), w (0 + w (b * 0))⟩ : Acc) = _
      rw [nS_1 hn rfl, wadd ha hb (.inl rfl), wadd z hb (.inr rfl), wadd z hb (.inl rfl)]
      simp
  have t3 : (if c = 0 then (⟨n, a, b, 0, 0, 0⟩ : Acc) else stP ⟨n, a, b, 0, 0, 0⟩ (⟨#[115]⟩, c)) = ⟨n, a, b, c, 0, 0⟩ := by
    split
    · rename_i h; rw [h]
    · unfold stP Acc.step
      rw [i5]
      show (⟨nS n 5, w (a + w (c * 0)), w (b + w (c * 0)), w (0 + w (c * 1)), w (0 + w (c * 0)), w (0 + w (c * 0))⟩ : Acc) = _
      rw [nS_1 hn rfl, wadd ha hc (.inl rfl), wadd hb hc (.inl rfl), wadd z hc (.inr rfl), wadd z hc (.inl rfl)]
      simp
  have t4 : (if d = 0 then (⟨n, a, b, c, 0, 0⟩ : Acc) else stP ⟨n, a, b, c, 0, 0⟩ (⟨#[100, 101, 103]⟩, d)) = ⟨n, a, b, c, d, 0⟩ := by
    split
    · rename_i h; rw [h]
    · unfold stP Acc.step
      rw [i8']
      show (⟨nS n 8, w (a + w (d * 0)), w (b + w (d * 0)), w (c + w (d * 0)), w (0 + w (d * 1)), w (0 + w (d * 0))⟩ : Acc) = _
      rw [nS_1 hn rfl, wadd ha hd (.inl rfl), wadd hb hd (.inl rfl), wadd hc hd (.inl rfl), wadd z hd (.inr rfl), wadd z hd (.inl rfl)]
      simp
  have t5 : (if e = 0 then (⟨n, a, b, c, d, 0⟩ : Acc) else stP ⟨n, a, b, c, d, 0⟩ (⟨#[75]⟩, e)) = ⟨n, a, b, c, d, e⟩ := by
    split
    · rename_i h; rw [h]
    · unfold stP Acc.step
      rw [i9]
      show (⟨nS n 9, w (a + w (e * 0)), w (b + w (e * 0)), w (c + w (e * 0)), w (d + w (e * 0)), w (0 + w (e * 1))⟩ : Acc) = _
      rw [nS_1 hn rfl, wadd ha he (.inl rfl), wadd hb he (.inl rfl), wadd hc he (.inl rfl), wadd hd he (.inl rfl), wadd z he (.inr rfl)]
      simp
  unfold P5
  rw [fold_nxt, fold_nxt, fold_nxt, fold_nxt, fold_nxt, s1, t1, t2, t3, t4, t5]
theorem P5_nil {a b c d e : Int} (h : P5 a b c d e = []) : a = 0 ∧ b = 0 ∧ c = 0 ∧ d = 0 ∧ e = 0 := by
  have key : ∀ (P : List (ByteArray × Int)) (b : ByteArray) (e : Int), nxtP P b e = [] → e = 0 ∧ P = [] := by
    intro P b e h
    unfold nxtP at h
    split at h
    · exact ⟨by assumption, h⟩
    · simp at h
  obtain ⟨h5, h⟩ := key _ _ _ h
  obtain ⟨h4, h⟩ := key _ _ _ h
  obtain ⟨h3, h⟩ := key _ _ _ h
  obtain ⟨h2, h⟩ := key _ _ _ h
  obtain ⟨h1, h⟩ := key _ _ _ h
  exact ⟨h1, h2, h3, h4, h5⟩
/-! ### Sizes -/
theorem it8_size {e : Int} (he : i8 e) : (itS e).size ≤ 2 := by
  unfold i8 at he
  have : ∀ k : Fin 17, (itS ((k.val : Int) - 8)).size ≤ 2 := by decide +kernel
  have h := this ⟨(e + 8).toNat, by omega⟩
  have e1 : (((e + 8).toNat : Nat) : Int) - 8 = e := by omega
  rw [e1] at h
  exact h
theorem seg_size {b : ByteArray} {e : Int} (hb : b.size ≤ 3) (he : i8 e) : (segB b e).size ≤ 6 := by
  unfold segB
  have := it8_size he
  split
  · omega
  · rw [ByteArray.size_append, ByteArray.size_append]
    have : (⟨#[94]⟩ : ByteArray).size = 1 := rfl
    omega
theorem jn_size6 : ∀ {L : List ByteArray}, (∀ s ∈ L, s.size ≤ 6) → (jn L).size ≤ 7 * L.length := by
  intro L h
  induction L using rev_ind with
  | h0 => decide
  | h1 r x ih =>
    have hx := h x (by simp)
    have := ih fun s hs => h s (List.mem_append_left _ hs)
    rw [List.length_append]
    by_cases h0 : r = []
    · subst h0; rw [List.nil_append, jn_one]; simp; omega
    · rw [jn_app h0, ByteArray.size_append, ByteArray.size_append]
      have : (⟨#[42]⟩ : ByteArray).size = 1 := rfl
      simp only [List.length_cons, List.length_nil]; omega
theorem parts_6 {a b c d e : Int} (ha : i8 a) (hb : i8 b) (hc : i8 c) (hd : i8 d) (he : i8 e) : ∀ s ∈ parts a b c d e, s.size ≤ 6 := by
  have key : ∀ (L : List ByteArray) (x : ByteArray) (y : Int), (∀ s ∈ L, s.size ≤ 6) → x.size ≤ 3 → i8 y → ∀ s ∈ nxt L x y, s.size ≤ 6 := by
    intro L x y h h1 h2
    unfold nxt
    split
    · exact h
    · intro s hs
      rcases List.mem_append.1 hs with hs | hs
      · exact h s hs
      · rw [List.mem_singleton.1 hs]; exact seg_size h1 h2
  unfold parts
  exact key _ _ _ (key _ _ _ (key _ _ _ (key _ _ _ (key _ _ _ (fun s hs => by cases hs) (by decide) ha) (by decide) hb) (by decide) hc) (by decide) hd) (by decide) he
/-! ### Parse of what Print gives -/
theorem round {n a b c d e : Int} (hn : sm n) (ha : i8 a) (hb : i8 b) (hc : i8 c) (hd : i8 d) (he : i8 e) : pP (prB n a b c d e) = (⟨n, a, b, c, d, e⟩, 0) := by
  have hr : ∀ {x : Int}, i8 x → inR x := fun h => by unfold i8 at h; unfold inR; omega
  have hok : ok6 ⟨n, a, b, c, d, e⟩ = true := by
    unfold sm at hn; unfold i8 at ha hb hc hd he
    simp [ok6, valid6, in8]; omega
  have hres : accQ ⟨n, a, b, c, d, e⟩ = (⟨n, a, b, c, d, e⟩, 0) := by
    unfold accQ; rw [hok]; rfl
  have hz := itS_size (n := n) (by unfold sm at hn; unfold inR; omega)
  have h32 : (32 : UInt8) ∉ (itS n).data.toList := it_no n (by decide) (.inl (by decide))
  obtain ⟨n1, n2⟩ := num_it hn
  have hm := parts_map a b c d e
  by_cases hP : P5 a b c d e = []
  · obtain ⟨rfl, rfl, rfl, rfl, rfl⟩ := P5_nil hP
    have hnm : nmB 0 0 0 0 0 = ByteArray.empty := by unfold nmB; rw [hm, hP]; rfl
    have hpr : prB n 0 0 0 0 0 = itS n := if_pos hnm
    have hk := cutA_none h32
    have hA : cA 32 (itS n) = itS n := by unfold cA; rw [hk]
    have hF : cF 32 (itS n) = false := by unfold cF; rw [hk]
    rw [hpr]
    unfold pP
    rw [if_neg (by omega), hA, n1, n2, hF, if_neg (by decide), if_neg (by decide)]
    exact hres
  · have hne : parts a b c d e ≠ [] := by rw [hm]; simpa using hP
    have hnm : nmB a b c d e ≠ ByteArray.empty := jn_ne (good_parts (hr ha) (hr hb) (hr hc) (hr hd) (hr he)) hne
    have hpr : prB n a b c d e = itS n ++ ⟨#[32]⟩ ++ nmB a b c d e := if_neg hnm
    have hdat : (prB n a b c d e).data.toList = (itS n).data.toList ++ 32 :: (nmB a b c d e).data.toList := by rw [hpr]; simp
    have hk := cutA_app (r := (nmB a b c d e).data.toList) h32
    rw [← hdat] at hk
    have hA : cA 32 (prB n a b c d e) = itS n := by unfold cA; rw [hk]
    have hF : cF 32 (prB n a b c d e) = true := by unfold cF; rw [hk]
    have hB : cB 32 (prB n a b c d e) = nmB a b c d e := by unfold cB; rw [hk]
    have h6 := jn_size6 (parts_6 ha hb hc hd he)
    have hl := parts_len a b c d e
    have hsz : (prB n a b c d e).size ≤ 100 := by
      rw [hpr, ByteArray.size_append, ByteArray.size_append]
      have : (⟨#[32]⟩ : ByteArray).size = 1 := rfl
      have : (nmB a b c d e).size = (jn (parts a b c d e)).size := rfl
      omega
    have hok5 := ok5 ha hb hc hd he
    have hp : pts 42 (nmB a b c d e) = (P5 a b c d e).map segP := by
      unfold nmB
      rw [pts_jn hne, hm]
      intro y hy
      rw [hm] at hy
      obtain ⟨p, hp, rfl⟩ := List.mem_map.1 hy
      exact seg_no (hok5 p hp).1
    have hN : ptN 42 (nmB a b c d e) = (P5 a b c d e).length := by unfold ptN; rw [hp]; simp
    unfold pP
    rw [if_neg (by omega), hA, hB, n1, n2, hF, if_neg (by decide), if_pos rfl, if_pos (allP hp hok5), hN, runP hp hok5 _ 0 _ (Nat.sub_zero _), List.drop_zero, fold5 hn ha hb hc hd he]
    exact hres
end Go.Proofs.YtnjpgkaignfcaaaDoor
