/- Split (66) and factor (67) of the reference. -/
import Derived.Test.YtnjpgkaignfcaaaDoorUv
namespace Go.Proofs.YtnjpgkaignfcaaaDoor
open Go Go.Am
set_option linter.unusedSimpArgs false
set_option linter.unusedVariables false
def DS (D : List ByteArray) (j : Nat) : ByteArray := D.getD j ByteArray.empty
def glue (p : List UInt8) : List (List UInt8) → List (List UInt8)
  | [] => [p]
  | h :: t => (p ++ h) :: t
def restP (c : UInt8) (s : ByteArray) (b k : Nat) : List ByteArray := (glue ((s.data.toList.drop b).take (k - b)) (splL c (s.data.toList.drop k))).map fun l => ⟨l.toArray⟩
theorem mk_toList (x : ByteArray) : (⟨x.data.toList.toArray⟩ : ByteArray) = x := by simp
theorem mk_ext (s : ByteArray) (b k : Nat) : (⟨((s.data.toList.drop b).take (k - b)).toArray⟩ : ByteArray) = s.extract b k := by
  rw [← Lib.extract_data, mk_toList]
theorem glue_nil {l : List (List UInt8)} (h : l ≠ []) : glue [] l = l := by
  cases l with
  | nil => exact absurd rfl h
  | cons a t => rfl
theorem splL_nn (c : UInt8) (l : List UInt8) : splL c l ≠ [] := by
  obtain ⟨h, t, e⟩ := splL_ne (c := c) l
  rw [e]; simp
theorem rest_hit {c : UInt8} {s : ByteArray} {b k : Nat} (h : s.data.toList.drop k = c :: s.data.toList.drop (k + 1)) : restP c s b k = s.extract b k :: restP c s (k + 1) (k + 1) := by
  unfold restP
  rw [h, splL, if_pos rfl, Nat.sub_self, List.take_zero, glue_nil (splL_nn _ _), glue, List.map_cons, List.append_nil, mk_ext]
theorem rest_miss {c x : UInt8} {s : ByteArray} {b k : Nat} (hb : b ≤ k) (h : s.data.toList.drop k = x :: s.data.toList.drop (k + 1)) (hx : x ≠ c) : restP c s b k = restP c s b (k + 1) := by
  unfold restP
  obtain ⟨a, t, e⟩ := splL_ne (c := c) (s.data.toList.drop (k + 1))
  have h1 : s.data.toList[k]? = some x := by
    have := congrArg List.head? h
    simpa [List.head?_drop] using this
  have h2 : (s.data.toList.drop b).take (k + 1 - b) = (s.data.toList.drop b).take (k - b) ++ [x] := by
    rw [show k + 1 - b = (k - b) + 1 from by omega, List.take_add_one, List.getElem?_drop, show b + (k - b) = k from by omega, h1]
    rfl
  rw [h, splL, if_neg hx, e, h2]
  simp [glue]
theorem rest_end {c : UInt8} {s : ByteArray} {b : Nat} : restP c s b s.size = [s.extract b s.size] := by
  unfold restP
  rw [at_end (p := s) (k := s.size) (by omega), splL, glue, List.append_nil, List.map_cons, mk_ext]
  rfl
theorem rest_0 (c : UInt8) (s : ByteArray) : restP c s 0 0 = pts c s := by
  unfold restP pts
  rw [Nat.sub_self, List.take_zero, glue_nil (splL_nn _ _), List.drop_zero]
theorem kPs (s : ByteArray) (b n : Nat) (u : Nat → ByteArray) : KC 97 (.exit 0) (TPs s b n u) = some (.l (.exit 0) (TPs s b n u)) := by kernel_rfl
theorem kPn (s : ByteArray) : KC 97 (.exit 0) (TPn s) = some (.l (.exit 0) (TPn s)) := by kernel_rfl
theorem roomL {n : Nat} (h : n ≤ 1000) : (n + 1) * 16 ≤ roomBound ∧ n + 1 ≤ Go.maxLen ∧ n ≤ n := by
  have : Go.maxLen = 9223372036854775807 := by decide
  unfold roomBound; omega
theorem one {c : ACode} {S T T' : St} {e e' : Ex} (id : Nat) (h : SL E1 c S e T) : SoundL E1 (ltab2 [⟨id, c, S, True, e, T, e', T'⟩]) := ltab2_cons ⟨fun _ => h, fun h => absurd trivial h⟩ ltab2_nil
set_option maxRecDepth 100000 in
theorem loop66s (s : ByteArray) (c : UInt8) (hs : s.size ≤ 1000) : ∀ (m k b : Nat) (D : List ByteArray), s.size - k = m → k ≤ s.size → b ≤ k → D.length ≤ k → pts c s = D ++ restP c s b k →
    ∃ b' D', SL E1 (bodyOf E1 66 0) (SPs s c b k D.length (DS D)) (.exit 0) (TPs s b' D'.length (DS D')) ∧ b' ≤ s.size ∧ D'.length ≤ 1000 ∧ pts c s = D' ++ [s.extract b' s.size] := by
  intro m
  induction m with
  | zero =>
    intro k b D hm hk hb hD hp
    have : k = s.size := by omega
    subst this
    rw [rest_end] at hp
    refine ⟨b, D, ?_, hb, by omega, hp⟩
    exact SL.by (m := 97) sT0 hX1 ltab2_nil ((r66s s c b s.size D.length (DS D) _).trans (by rw [if_neg (by simp)]; rfl))
  | succ m ih =>
    intro k b D hm hk hb hD hp
    have hk' : k < s.size := by omega
    obtain ⟨x, e1, e2⟩ := at_k hk'
    have hkd : decide ((k : Int) < (s.size : Int)) = true := by simpa using hk'
    have hbb : (0 : Int) ≤ (k : Int) ∧ (k : Int) < (s.size : Int) := by omega
    have ew : w ((k : Int) + 1) = ((k + 1 : Nat) : Int) := by rw [w_in (by unfold inR; omega)]; omega
    by_cases hx : x = c
    · subst hx
      rw [rest_hit e1] at hp
      obtain ⟨b', D', h1, h2, h3, h4⟩ := ih (k + 1) (k + 1) (D ++ [s.extract b k]) (by omega) (by omega) (by omega) (by simp; omega) (by rw [hp]; simp)
      refine ⟨b', D', ?_, h2, h3, h4⟩
      refine SL.by (m := 97) sT0 hX1 (one 0 (e' := .ret) (T' := TPn s) h1) ((r66s s x b k D.length (DS D) _).trans ?_)
      rw [e2, if_pos hkd, if_pos hbb, if_pos (by simp), if_pos (by omega), if_pos (roomL (by omega)), ew]
      refine (ltab2_hit ?_).trans ((cl_pos trivial).trans (kPs _ _ _ _))
      rw [List.length_append]
      exact LeSt.mk' (LeL.refl _) ⟨ChLe.row fun q hq => row_app D _ q hq, trivial⟩
    · rw [rest_miss hb e1 hx] at hp
      obtain ⟨b', D', h1, h2, h3, h4⟩ := ih (k + 1) b D (by omega) (by omega) (by omega) (by omega) hp
      refine ⟨b', D', ?_, h2, h3, h4⟩
      refine SL.by (m := 97) sT0 hX1 (one 0 (e' := .ret) (T' := TPn s) h1) ((r66s s c b k D.length (DS D) _).trans ?_)
      have hne : ¬ (((x.toNat : Nat) : Int) == ((c.toNat : Nat) : Int)) = true := by
        intro h
        have := beq_iff_eq.1 h
        exact hx (UInt8.toNat_inj.1 (by omega))
      rw [e2, if_pos hkd, if_pos hbb, if_neg hne, ew]
      exact (ltab2_hit (LeSt.refl _)).trans ((cl_pos trivial).trans (kPs _ _ _ _))
set_option maxRecDepth 100000 in
theorem loop66 (s : ByteArray) (c : UInt8) (hs : s.size ≤ 1000) : ∀ (m k : Nat), s.size - k = m → k ≤ s.size → pts c s = restP c s 0 k →
    (SL E1 (bodyOf E1 66 0) (SPn s c k) (.exit 0) (TPn s) ∧ pts c s = [s.extract 0 s.size]) ∨
    ∃ b' D', SL E1 (bodyOf E1 66 0) (SPn s c k) (.exit 0) (TPs s b' D'.length (DS D')) ∧ b' ≤ s.size ∧ D'.length ≤ 1000 ∧ pts c s = D' ++ [s.extract b' s.size] := by
  intro m
  induction m with
  | zero =>
    intro k hm hk hp
    have : k = s.size := by omega
    subst this
    rw [rest_end] at hp
    exact .inl ⟨SL.by (m := 97) sT0 hX1 ltab2_nil ((r66 s c s.size _).trans (by rw [if_neg (by simp)]; rfl)), hp⟩
  | succ m ih =>
    intro k hm hk hp
    have hk' : k < s.size := by omega
    obtain ⟨x, e1, e2⟩ := at_k hk'
    have hkd : decide ((k : Int) < (s.size : Int)) = true := by simpa using hk'
    have hbb : (0 : Int) ≤ (k : Int) ∧ (k : Int) < (s.size : Int) := by omega
    have ew : w ((k : Int) + 1) = ((k + 1 : Nat) : Int) := by rw [w_in (by unfold inR; omega)]; omega
    by_cases hx : x = c
    · subst hx
      rw [rest_hit e1] at hp
      obtain ⟨b', D', h1, h2, h3, h4⟩ := loop66s s x hs _ (k + 1) (k + 1) [s.extract 0 k] rfl (by omega) (by omega) (by simp) hp
      refine .inr ⟨b', D', ?_, h2, h3, h4⟩
      refine SL.by (m := 97) sT0 hX1 (one 0 (e' := .ret) (T' := TPn s) h1) ((r66 s x k _).trans ?_)
      rw [e2, if_pos hkd, if_pos hbb, if_pos (by simp), if_pos (by omega), ew]
      refine (ltab2_hit ?_).trans ((cl_pos trivial).trans (kPs _ _ _ _))
      exact LeSt.mk' (LeL.refl _) ⟨ChLe.row fun q hq => (by obtain rfl : q = 0 := (by omega); rfl), trivial⟩
    · have hne : ¬ (((x.toNat : Nat) : Int) == ((c.toNat : Nat) : Int)) = true := by
        intro h
        have := beq_iff_eq.1 h
        exact hx (UInt8.toNat_inj.1 (by omega))
      rw [rest_miss (by omega) e1 hx] at hp
      rcases ih (k + 1) (by omega) (by omega) hp with ⟨h1, h2⟩ | ⟨b', D', h1, h2, h3, h4⟩
      · refine .inl ⟨?_, h2⟩
        refine SL.by (m := 97) sT0 hX1 (one 0 (e' := .ret) (T' := TPn s) h1) ((r66 s c k _).trans ?_)
        rw [e2, if_pos hkd, if_pos hbb, if_neg hne, ew]
        exact (ltab2_hit (LeSt.refl _)).trans ((cl_pos trivial).trans (kPn _))
      · refine .inr ⟨b', D', ?_, h2, h3, h4⟩
        refine SL.by (m := 97) sT0 hX1 (one 0 (e' := .ret) (T' := TPn s) h1) ((r66 s c k _).trans ?_)
        rw [e2, if_pos hkd, if_pos hbb, if_neg hne, ew]
        exact (ltab2_hit (LeSt.refl _)).trans ((cl_pos trivial).trans (kPs _ _ _ _))
theorem bw_row {T z n : Nat} {f : Nat → List V} : V.bw (hp [some (Chunk.row T z n f)]) (V.sl 0 z 0 n) = .ro z n (fun j => f (0 + j)) := by
  show V.bw1 (hp [some (Chunk.row T z n f)]) (V.sl 0 z 0 n) = _
  simp [V.bw1, hp]
theorem ofNat_toNat (c : UInt8) : UInt8.ofNat c.toNat = c := by simp
theorem pt_eq {c : UInt8} {s : ByteArray} {D : List ByteArray} {x : ByteArray} (h : pts c s = D ++ [x]) (j : Nat) (hj : j < D.length + 1) : joinF D.length (rowS D) (fun j => List.getD [[st x]] (0 + j) []) j = [st (pt c s j)] := by
  rw [row_app D x j hj]
  show [st ((D ++ [x]).getD j ByteArray.empty)] = _
  rw [← h]
  simp [pt, List.getD]
set_option maxRecDepth 100000 in
theorem spl66_sc {s : ByteArray} {c : UInt8} (hs : s.size ≤ 1000) : SC E1 66 [st s, .sc (.int .u8 ((UInt8.toNat c : Nat) : Int))] [] (.ret (vSplR [st s, .sc (.int .u8 ((UInt8.toNat c : Nat) : Int))]) []) := by
  have hv : vSplR [st s, .sc (.int .u8 ((UInt8.toNat c : Nat) : Int))] = .ro 1 (ptN c s) (fun j => [st (pt c s j)]) := by
    show V.ro 1 (ptN (UInt8.ofNat c.toNat) s) (fun j => [st (pt (UInt8.ofNat c.toNat) s j)]) = _
    rw [ofNat_toNat]
  rw [hv]
  rcases loop66 s c hs _ 0 rfl (by omega) (rest_0 c s).symm with ⟨h1, h2⟩ | ⟨b, D, h1, h2, h3, h4⟩
  · have h : SC E1 66 [st s, .sc (.int .u8 ((UInt8.toNat c : Nat) : Int))] [] (.ret (.sl 0 1 0 1) [some (.row 9 1 1 (fun j => List.getD [[st (s.extract 0 s.size)]] (0 + j) []))]) := by
      refine SC.of hW1 hX1 sT0 (one 0 (e' := .ret) (T' := TPn s) h1) ((f66n s c _).trans ?_)
      rw [cl_pos ⟨rfl, LeSt.refl _⟩, cl_pos trivial, if_pos (by omega)]
      rfl
    refine (SC.give h rfl).le ?_
    have hn : ptN c s = 1 := by unfold ptN; rw [h2]; rfl
    rw [hn]
    refine Le.ro_eq fun j hj => ?_
    obtain rfl : j = 0 := by omega
    refine ⟨?_, rfl⟩
    have := pt_eq (D := []) h2 0 (by simp)
    exact this
  · have h : SC E1 66 [st s, .sc (.int .u8 ((UInt8.toNat c : Nat) : Int))] [] (.ret (.sl 0 1 0 (D.length + 1)) [some (.row 9 1 (D.length + 1) (joinF D.length (fun j => [st (DS D j)]) (fun j => List.getD [[st (s.extract b s.size)]] (0 + j) [])))]) := by
      refine SC.of hW1 hX1 sT0 (one 0 (e' := .ret) (T' := TPn s) h1) ((f66s s c b D.length (DS D) _).trans ?_)
      rw [cl_pos ⟨rfl, LeSt.refl _⟩, cl_pos trivial, if_pos (by omega), if_pos (roomL (by omega))]
      rfl
    have hbw := bw_row (T := 9) (z := 1) (n := D.length + 1) (f := joinF D.length (fun j => [st (DS D j)]) (fun j => List.getD [[st (s.extract b s.size)]] (0 + j) []))
    refine (SC.give h (by rw [hbw]; rfl)).le ?_
    rw [hbw]
    have hn : ptN c s = D.length + 1 := by unfold ptN; rw [h4]; simp
    rw [hn]
    refine Le.ro_eq fun j hj => ⟨?_, rfl⟩
    have := pt_eq h4 j hj
    refine Eq.trans ?_ this
    show joinF D.length (rowS D) (fun j => List.getD [[st (s.extract b s.size)]] (0 + j) []) (0 + j) = _
    rw [Nat.zero_add]
end Go.Proofs.YtnjpgkaignfcaaaDoor
