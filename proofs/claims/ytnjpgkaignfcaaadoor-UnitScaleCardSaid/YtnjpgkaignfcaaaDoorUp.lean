/- Names of dimensions, joined. -/
import Derived.Test.YtnjpgkaignfcaaaDoorUo
namespace Go.Proofs.YtnjpgkaignfcaaaDoor
open Go Go.Am
theorem loop17 {a b c d e : Int} {T : St} (ha : inR a) (hb : inR b) (hc : inR c) (hd : inR d) (he : inR e) (hend : SL E1 (bodyOf E1 17 0) (SN (d5 a b c d e) (parts a b c d e) 5) (.exit 0) T) : SL E1 (bodyOf E1 17 0) (SNn (d5 a b c d e) 0) (.exit 0) T := by
  have l1 := nxt_len [] (⟨#[74]⟩ : ByteArray) a
  have l2 := nxt_len (nxt [] (⟨#[74]⟩ : ByteArray) a) (⟨#[66]⟩ : ByteArray) b
  have l3 := nxt_len (nxt (nxt [] (⟨#[74]⟩ : ByteArray) a) (⟨#[66]⟩ : ByteArray) b) (⟨#[115]⟩ : ByteArray) c
  have l4 := nxt_len (nxt (nxt (nxt [] (⟨#[74]⟩ : ByteArray) a) (⟨#[66]⟩ : ByteArray) b) (⟨#[115]⟩ : ByteArray) c) (⟨#[100, 101, 103]⟩ : ByteArray) d
  simp only [List.length_nil] at l1
  exact rnd0 (L := []) ha (by simp) (rnd1 hb (by omega) (rnd2 hc (by omega) (rnd3 hd (by omega) (rnd4 he (by omega) hend))))
theorem ba_ne {b : ByteArray} (h : b.size ≠ 0) : b ≠ ByteArray.empty := fun e => h (by rw [e]; rfl)
theorem segB_sz {b : ByteArray} {e : Int} (hb : b.size ≤ 3) (he : inR e) : (segB b e).size ≤ 24 := by
  unfold segB
  have := itS_size he
  split
  · omega
  · rw [ByteArray.size_append, ByteArray.size_append]
    have : (⟨#[94]⟩ : ByteArray).size = 1 := rfl
    omega
theorem segB_pos {b : ByteArray} {e : Int} (hb : 1 ≤ b.size) : 1 ≤ (segB b e).size := by
  unfold segB
  split
  · omega
  · rw [ByteArray.size_append, ByteArray.size_append]
    omega
/-- Parts of fair length. -/
def Good (L : List ByteArray) : Prop := ∀ s ∈ L, 1 ≤ s.size ∧ s.size ≤ 24
theorem good_nxt {L : List ByteArray} {b : ByteArray} {e : Int} (h : Good L) (h1 : 1 ≤ b.size) (h3 : b.size ≤ 3) (he : inR e) : Good (nxt L b e) := by
  unfold nxt
  split
  · exact h
  · intro s hs
    rcases List.mem_append.1 hs with hs | hs
    · exact h s hs
    · rw [List.mem_singleton.1 hs]; exact ⟨segB_pos h1, segB_sz h3 he⟩
theorem jn_one (x : ByteArray) : jn [x] = x := by
  unfold jn
  apply ByteArray.ext
  simp [Lib.join_one]
theorem joinTail_app (sep : List UInt8) (r : List (List UInt8)) (x : List UInt8) : Lib.joinTail sep (r ++ [x]) = Lib.joinTail sep r ++ (sep ++ x) := by
  simp [Lib.joinTail]
theorem jn_app {L : List ByteArray} (h : L ≠ []) (x : ByteArray) : jn (L ++ [x]) = jn L ++ ⟨#[42]⟩ ++ x := by
  obtain ⟨y, r, rfl⟩ := List.exists_cons_of_ne_nil h
  unfold jn
  apply ByteArray.ext
  simp only [List.cons_append, List.map_cons, List.map_append, List.map_nil, Lib.join_cons, joinTail_app, ByteArray.data_append]
  apply Array.toList_inj.1
  simp
theorem rev_ind {P : List ByteArray → Prop} (h0 : P []) (h1 : ∀ r x, P r → P (r ++ [x])) (l : List ByteArray) : P l := by
  have : ∀ m : List ByteArray, P m.reverse := by
    intro m
    induction m with
    | nil => exact h0
    | cons x m ih => rw [List.reverse_cons]; exact h1 _ _ ih
  have := this l.reverse
  rwa [List.reverse_reverse] at this
theorem jn_size : ∀ {L : List ByteArray}, Good L → (jn L).size ≤ 25 * L.length := by
  intro L h
  induction L using rev_ind with
  | h0 => decide
  | h1 r x ih =>
    have hr : Good r := fun s hs => h s (List.mem_append_left _ hs)
    have hx := h x (by simp)
    have := ih hr
    rw [List.length_append]
    by_cases h0 : r = []
    · subst h0; rw [List.nil_append, jn_one]; simp; omega
    · rw [jn_app h0, ByteArray.size_append, ByteArray.size_append]
      have : (⟨#[42]⟩ : ByteArray).size = 1 := rfl
      simp only [List.length_cons, List.length_nil]; omega
theorem jn_nil : jn [] = ByteArray.empty := rfl
theorem jn_ne : ∀ {L : List ByteArray}, Good L → L ≠ [] → jn L ≠ ByteArray.empty := by
  intro L h h0
  induction L using rev_ind with
  | h0 => exact (h0 rfl).elim
  | h1 r x ih =>
    have hx := h x (by simp)
    by_cases h1 : r = []
    · subst h1; rw [List.nil_append, jn_one]; exact ba_ne (by omega)
    · rw [jn_app h1]; apply ba_ne; rw [ByteArray.size_append]; omega
theorem good_parts {a b c d e : Int} (ha : inR a) (hb : inR b) (hc : inR c) (hd : inR d) (he : inR e) : Good (parts a b c d e) := by
  unfold parts
  exact good_nxt (good_nxt (good_nxt (good_nxt (good_nxt (fun s hs => by simp at hs) (by decide) (by decide) ha) (by decide) (by decide) hb) (by decide) (by decide) hc) (by decide) (by decide) hd) (by decide) (by decide) he
set_option maxRecDepth 100000 in
theorem name17 {a b c d e : Int} (ha : inR a) (hb : inR b) (hc : inR c) (hd : inR d) (he : inR e) : SC E1 17 [d5 a b c d e] [] (.ret (st (jn (parts a b c d e))) []) := by
  have hlen := parts_len a b c d e
  have hsz : (jn (parts a b c d e)).size ≤ 140737488355328 := by
    have := jn_size (good_parts ha hb hc hd he)
    omega
  by_cases hL : parts a b c d e = []
  · have hend : SL E1 (bodyOf E1 17 0) (SN (d5 a b c d e) (parts a b c d e) 5) (.exit 0) TNn := by
      rw [hL]
      exact SL.by (m := 8) sCN hX1 ltab_nil (n17ne a b c d e)
    refine SC.of hW1 hX1 (sCJ (jn (parts a b c d e))) (ltab_cons (x := ⟨bodyOf E1 17 0, _, .exit 0, TNn⟩) (loop17 ha hb hc hd he hend) ltab_nil) ((f17n _ a b c d e _).trans ?_)
    rw [cl_pos ⟨rfl, LeSt.refl _⟩, cl_pos ⟨⟨parts a b c d e, rfl, hsz, by omega, .inl ⟨hL, rfl⟩⟩, rfl⟩]
  · have hend : SL E1 (bodyOf E1 17 0) (SN (d5 a b c d e) (parts a b c d e) 5) (.exit 0) (TNs (parts a b c d e).length (rowS (parts a b c d e))) := by
      rw [SN_ne hL]
      exact SL.by (m := 8) sCN hX1 ltab_nil (n17se _ _ a b c d e)
    refine SC.of hW1 hX1 (sCJ (jn (parts a b c d e))) (ltab_cons (x := ⟨bodyOf E1 17 0, _, .exit 0, TNs (parts a b c d e).length (rowS (parts a b c d e))⟩) (loop17 ha hb hc hd he hend) ltab_nil) ((f17s _ _ _ a b c d e _).trans ?_)
    rw [cl_pos ⟨rfl, LeSt.refl _⟩, if_pos ⟨by omega, rfl⟩, cl_pos ⟨⟨parts a b c d e, rfl, hsz, by omega, .inr rfl⟩, rfl⟩]
/-- A text with one more part. -/
def stp (s b : ByteArray) (e : Int) : ByteArray :=
  if e = 0 then s else if s = ByteArray.empty then (if e = 1 then s ++ b else s ++ b ++ ⟨#[94]⟩ ++ itS e) else (if e = 1 then s ++ ⟨#[42]⟩ ++ b else s ++ ⟨#[42]⟩ ++ b ++ ⟨#[94]⟩ ++ itS e)
theorem ba_nil (b : ByteArray) : ByteArray.empty ++ b = b := by apply ByteArray.ext; simp
theorem stp_nxt {L : List ByteArray} (hL : Good L) (b : ByteArray) (e : Int) : stp (jn L) b e = jn (nxt L b e) := by
  unfold stp nxt
  by_cases h0 : e = 0
  · rw [if_pos h0, if_pos h0]
  · rw [if_neg h0, if_neg h0]
    by_cases hl : L = []
    · subst hl
      rw [if_pos jn_nil, List.nil_append, jn_one, jn_nil, ba_nil]
      unfold segB
      rfl
    · rw [if_neg (jn_ne hL hl), jn_app hl]
      unfold segB
      split
      · rfl
      · simp only [ByteArray.append_assoc]
theorem tl_iff (s : ByteArray) : (!ByteArray.toList s == ByteArray.toList { data := #[] }) = true ↔ s ≠ ByteArray.empty := by
  rw [ByteArray.toList_eq, ByteArray.toList_eq, Bool.not_eq_true', beq_eq_false_iff_ne]
  constructor
  · rintro h rfl; exact h rfl
  · intro h h2; apply h; apply ByteArray.ext; apply Array.toList_inj.1; exact h2
theorem rn0 {a b c d e : Int} {s : ByteArray} {x : Ex} {T : St} (ha : inR a) (hs : s.size ≤ 400) (hn : SL E1 (bodyOf E1 18 0) (SM (stp s ⟨#[74]⟩ a) a b c d e 1) x T) : SL E1 (bodyOf E1 18 0) (SM s a b c d e 0) x T := by
  have ew : w (0 + 1) = 1 := by decide
  have hml : Go.maxLen = 9223372036854775807 := by decide
  have hi := itS_size ha
  have z1 : ByteArray.size { data := #[(42 : UInt8)] } = 1 := rfl
  have z2 : ByteArray.size { data := #[(94 : UInt8)] } = 1 := rfl
  have z3 : ByteArray.size (⟨#[74]⟩ : ByteArray) ≤ 3 := by decide
  refine SL.next sCN hX1 (s' := SM (stp s ⟨#[74]⟩ a) a b c d e (w (0 + 1))) (fun lo k => (n18r0 s a b c d e lo k).trans ?_) (by rw [ew]; exact hn)
  unfold stp
  by_cases h0 : a = 0
  · rw [if_pos (by simpa using h0), if_pos h0]; rfl
  · rw [if_neg (by simpa using h0), if_neg h0]
    have hq : QI [i64 a] ∧ ([] : List (Option Chunk)) = [] := ⟨⟨_, rfl, ha⟩, rfl⟩
    by_cases hs0 : s = ByteArray.empty
    · rw [if_neg (fun h => (tl_iff s).1 h hs0), if_pos hs0, if_pos (by omega)]
      by_cases h1 : a = 1
      · rw [if_neg (by simpa using h1), if_pos h1]; rfl
      · rw [if_pos (by simpa using h1), if_neg h1, if_pos (by rw [ByteArray.size_append]; omega), cl_pos hq, if_pos (by simp only [ByteArray.size_append]; omega)]; rfl
    · rw [if_pos ((tl_iff s).2 hs0), if_neg hs0, if_pos (by omega), if_pos (by rw [ByteArray.size_append]; omega)]
      by_cases h1 : a = 1
      · rw [if_neg (by simpa using h1), if_pos h1]; rfl
      · rw [if_pos (by simpa using h1), if_neg h1, if_pos (by simp only [ByteArray.size_append]; omega), cl_pos hq, if_pos (by simp only [ByteArray.size_append]; omega)]; rfl
theorem rn1 {a b c d e : Int} {s : ByteArray} {x : Ex} {T : St} (hb : inR b) (hs : s.size ≤ 400) (hn : SL E1 (bodyOf E1 18 0) (SM (stp s ⟨#[66]⟩ b) a b c d e 2) x T) : SL E1 (bodyOf E1 18 0) (SM s a b c d e 1) x T := by
  have ew : w (1 + 1) = 2 := by decide
  have hml : Go.maxLen = 9223372036854775807 := by decide
  have hi := itS_size hb
  have z1 : ByteArray.size { data := #[(42 : UInt8)] } = 1 := rfl
  have z2 : ByteArray.size { data := #[(94 : UInt8)] } = 1 := rfl
  have z3 : ByteArray.size (⟨#[66]⟩ : ByteArray) ≤ 3 := by decide
  refine SL.next sCN hX1 (s' := SM (stp s ⟨#[66]⟩ b) a b c d e (w (1 + 1))) (fun lo k => (n18r1 s a b c d e lo k).trans ?_) (by rw [ew]; exact hn)
  unfold stp
  by_cases h0 : b = 0
  · rw [if_pos (by simpa using h0), if_pos h0]; rfl
  · rw [if_neg (by simpa using h0), if_neg h0]
    have hq : QI [i64 b] ∧ ([] : List (Option Chunk)) = [] := ⟨⟨_, rfl, hb⟩, rfl⟩
    by_cases hs0 : s = ByteArray.empty
    · rw [if_neg (fun h => (tl_iff s).1 h hs0), if_pos hs0, if_pos (by omega)]
      by_cases h1 : b = 1
      · rw [if_neg (by simpa using h1), if_pos h1]; rfl
      · rw [if_pos (by simpa using h1), if_neg h1, if_pos (by rw [ByteArray.size_append]; omega), cl_pos hq, if_pos (by simp only [ByteArray.size_append]; omega)]; rfl
    · rw [if_pos ((tl_iff s).2 hs0), if_neg hs0, if_pos (by omega), if_pos (by rw [ByteArray.size_append]; omega)]
      by_cases h1 : b = 1
      · rw [if_neg (by simpa using h1), if_pos h1]; rfl
      · rw [if_pos (by simpa using h1), if_neg h1, if_pos (by simp only [ByteArray.size_append]; omega), cl_pos hq, if_pos (by simp only [ByteArray.size_append]; omega)]; rfl
theorem rn2 {a b c d e : Int} {s : ByteArray} {x : Ex} {T : St} (hc : inR c) (hs : s.size ≤ 400) (hn : SL E1 (bodyOf E1 18 0) (SM (stp s ⟨#[115]⟩ c) a b c d e 3) x T) : SL E1 (bodyOf E1 18 0) (SM s a b c d e 2) x T := by
  have ew : w (2 + 1) = 3 := by decide
  have hml : Go.maxLen = 9223372036854775807 := by decide
  have hi := itS_size hc
  have z1 : ByteArray.size { data := #[(42 : UInt8)] } = 1 := rfl
  have z2 : ByteArray.size { data := #[(94 : UInt8)] } = 1 := rfl
  have z3 : ByteArray.size (⟨#[115]⟩ : ByteArray) ≤ 3 := by decide
  refine SL.next sCN hX1 (s' := SM (stp s ⟨#[115]⟩ c) a b c d e (w (2 + 1))) (fun lo k => (n18r2 s a b c d e lo k).trans ?_) (by rw [ew]; exact hn)
  unfold stp
  by_cases h0 : c = 0
  · rw [if_pos (by simpa using h0), if_pos h0]; rfl
  · rw [if_neg (by simpa using h0), if_neg h0]
    have hq : QI [i64 c] ∧ ([] : List (Option Chunk)) = [] := ⟨⟨_, rfl, hc⟩, rfl⟩
    by_cases hs0 : s = ByteArray.empty
    · rw [if_neg (fun h => (tl_iff s).1 h hs0), if_pos hs0, if_pos (by omega)]
      by_cases h1 : c = 1
      · rw [if_neg (by simpa using h1), if_pos h1]; rfl
      · rw [if_pos (by simpa using h1), if_neg h1, if_pos (by rw [ByteArray.size_append]; omega), cl_pos hq, if_pos (by simp only [ByteArray.size_append]; omega)]; rfl
    · rw [if_pos ((tl_iff s).2 hs0), if_neg hs0, if_pos (by omega), if_pos (by rw [ByteArray.size_append]; omega)]
      by_cases h1 : c = 1
      · rw [if_neg (by simpa using h1), if_pos h1]; rfl
      · rw [if_pos (by simpa using h1), if_neg h1, if_pos (by simp only [ByteArray.size_append]; omega), cl_pos hq, if_pos (by simp only [ByteArray.size_append]; omega)]; rfl
theorem rn3 {a b c d e : Int} {s : ByteArray} {x : Ex} {T : St} (hd : inR d) (hs : s.size ≤ 400) (hn : SL E1 (bodyOf E1 18 0) (SM (stp s ⟨#[100, 101, 103]⟩ d) a b c d e 4) x T) : SL E1 (bodyOf E1 18 0) (SM s a b c d e 3) x T := by
  have ew : w (3 + 1) = 4 := by decide
  have hml : Go.maxLen = 9223372036854775807 := by decide
  have hi := itS_size hd
  have z1 : ByteArray.size { data := #[(42 : UInt8)] } = 1 := rfl
  have z2 : ByteArray.size { data := #[(94 : UInt8)] } = 1 := rfl
  have z3 : ByteArray.size (⟨#[100, 101, 103]⟩ : ByteArray) ≤ 3 := by decide
  refine SL.next sCN hX1 (s' := SM (stp s ⟨#[100, 101, 103]⟩ d) a b c d e (w (3 + 1))) (fun lo k => (n18r3 s a b c d e lo k).trans ?_) (by rw [ew]; exact hn)
  unfold stp
  by_cases h0 : d = 0
  · rw [if_pos (by simpa using h0), if_pos h0]; rfl
  · rw [if_neg (by simpa using h0), if_neg h0]
    have hq : QI [i64 d] ∧ ([] : List (Option Chunk)) = [] := ⟨⟨_, rfl, hd⟩, rfl⟩
    by_cases hs0 : s = ByteArray.empty
    · rw [if_neg (fun h => (tl_iff s).1 h hs0), if_pos hs0, if_pos (by omega)]
      by_cases h1 : d = 1
      · rw [if_neg (by simpa using h1), if_pos h1]; rfl
      · rw [if_pos (by simpa using h1), if_neg h1, if_pos (by rw [ByteArray.size_append]; omega), cl_pos hq, if_pos (by simp only [ByteArray.size_append]; omega)]; rfl
    · rw [if_pos ((tl_iff s).2 hs0), if_neg hs0, if_pos (by omega), if_pos (by rw [ByteArray.size_append]; omega)]
      by_cases h1 : d = 1
      · rw [if_neg (by simpa using h1), if_pos h1]; rfl
      · rw [if_pos (by simpa using h1), if_neg h1, if_pos (by simp only [ByteArray.size_append]; omega), cl_pos hq, if_pos (by simp only [ByteArray.size_append]; omega)]; rfl
theorem rn4 {a b c d e : Int} {s : ByteArray} {x : Ex} {T : St} (he : inR e) (hs : s.size ≤ 400) (hn : SL E1 (bodyOf E1 18 0) (SM (stp s ⟨#[75]⟩ e) a b c d e 5) x T) : SL E1 (bodyOf E1 18 0) (SM s a b c d e 4) x T := by
  have ew : w (4 + 1) = 5 := by decide
  have hml : Go.maxLen = 9223372036854775807 := by decide
  have hi := itS_size he
  have z1 : ByteArray.size { data := #[(42 : UInt8)] } = 1 := rfl
  have z2 : ByteArray.size { data := #[(94 : UInt8)] } = 1 := rfl
  have z3 : ByteArray.size (⟨#[75]⟩ : ByteArray) ≤ 3 := by decide
  refine SL.next sCN hX1 (s' := SM (stp s ⟨#[75]⟩ e) a b c d e (w (4 + 1))) (fun lo k => (n18r4 s a b c d e lo k).trans ?_) (by rw [ew]; exact hn)
  unfold stp
  by_cases h0 : e = 0
  · rw [if_pos (by simpa using h0), if_pos h0]; rfl
  · rw [if_neg (by simpa using h0), if_neg h0]
    have hq : QI [i64 e] ∧ ([] : List (Option Chunk)) = [] := ⟨⟨_, rfl, he⟩, rfl⟩
    by_cases hs0 : s = ByteArray.empty
    · rw [if_neg (fun h => (tl_iff s).1 h hs0), if_pos hs0, if_pos (by omega)]
      by_cases h1 : e = 1
      · rw [if_neg (by simpa using h1), if_pos h1]; rfl
      · rw [if_pos (by simpa using h1), if_neg h1, if_pos (by rw [ByteArray.size_append]; omega), cl_pos hq, if_pos (by simp only [ByteArray.size_append]; omega)]; rfl
    · rw [if_pos ((tl_iff s).2 hs0), if_neg hs0, if_pos (by omega), if_pos (by rw [ByteArray.size_append]; omega)]
      by_cases h1 : e = 1
      · rw [if_neg (by simpa using h1), if_pos h1]; rfl
      · rw [if_pos (by simpa using h1), if_neg h1, if_pos (by simp only [ByteArray.size_append]; omega), cl_pos hq, if_pos (by simp only [ByteArray.size_append]; omega)]; rfl
theorem loop18 {a b c d e : Int} {T : St} (ha : inR a) (hb : inR b) (hc : inR c) (hd : inR d) (he : inR e) (hend : SL E1 (bodyOf E1 18 0) (SM (jn (parts a b c d e)) a b c d e 5) (.exit 0) T) : SL E1 (bodyOf E1 18 0) (SM ⟨#[]⟩ a b c d e 0) (.exit 0) T := by
  have g0 : Good [] := fun s hs => by simp at hs
  have g1 := good_nxt (b := (⟨#[74]⟩ : ByteArray)) g0 (by decide) (by decide) ha
  have g2 := good_nxt (b := (⟨#[66]⟩ : ByteArray)) g1 (by decide) (by decide) hb
  have g3 := good_nxt (b := (⟨#[115]⟩ : ByteArray)) g2 (by decide) (by decide) hc
  have g4 := good_nxt (b := (⟨#[100, 101, 103]⟩ : ByteArray)) g3 (by decide) (by decide) hd
  have l1 := nxt_len [] (⟨#[74]⟩ : ByteArray) a
  have l2 := nxt_len (nxt [] (⟨#[74]⟩ : ByteArray) a) (⟨#[66]⟩ : ByteArray) b
  have l3 := nxt_len (nxt (nxt [] (⟨#[74]⟩ : ByteArray) a) (⟨#[66]⟩ : ByteArray) b) (⟨#[115]⟩ : ByteArray) c
  have l4 := nxt_len (nxt (nxt (nxt [] (⟨#[74]⟩ : ByteArray) a) (⟨#[66]⟩ : ByteArray) b) (⟨#[115]⟩ : ByteArray) c) (⟨#[100, 101, 103]⟩ : ByteArray) d
  simp only [List.length_nil] at l1
  have s1 := jn_size g1
  have s2 := jn_size g2
  have s3 := jn_size g3
  have s4 := jn_size g4
  have h := hend
  unfold parts at h
  rw [← stp_nxt g4] at h
  have h := rn4 he (by omega) h
  rw [← stp_nxt g3] at h
  have h := rn3 hd (by omega) h
  rw [← stp_nxt g2] at h
  have h := rn2 hc (by omega) h
  rw [← stp_nxt g1] at h
  have h := rn1 hb (by omega) h
  rw [← stp_nxt g0] at h
  exact rn0 ha (by decide) h
set_option maxRecDepth 100000 in
theorem name18 {a b c d e : Int} (ha : inR a) (hb : inR b) (hc : inR c) (hd : inR d) (he : inR e) : SC E1 18 [d5 a b c d e] [] (.ret (st (jn (parts a b c d e))) []) := by
  have hend : SL E1 (bodyOf E1 18 0) (SM (jn (parts a b c d e)) a b c d e 5) (.exit 0) (TM (jn (parts a b c d e))) := SL.by (m := 32) sCN hX1 ltab_nil (n18re _ a b c d e)
  refine SC.of hW1 hX1 sCN (ltab_cons (x := ⟨bodyOf E1 18 0, _, .exit 0, TM (jn (parts a b c d e))⟩) (loop18 ha hb hc hd he hend) ltab_nil) ((f18 _ a b c d e _).trans ?_)
  rw [cl_pos ⟨rfl, LeSt.refl _⟩]
def nmB (a b c d e : Int) : ByteArray := jn (parts a b c d e)
def prB (n a b c d e : Int) : ByteArray := if nmB a b c d e = ByteArray.empty then itS n else itS n ++ ⟨#[32]⟩ ++ nmB a b c d e
def vN : List V → V
  | [.agg [.sc (.int .i64 a), .sc (.int .i64 b), .sc (.int .i64 c), .sc (.int .i64 d), .sc (.int .i64 e)]] => st (nmB a b c d e)
  | _ => .junk
def vP : List V → V
  | [.agg [.sc (.int .i64 n), .sc (.int .i64 a), .sc (.int .i64 b), .sc (.int .i64 c), .sc (.int .i64 d), .sc (.int .i64 e)]] => st (prB n a b c d e)
  | _ => .junk
def QN (args : List V) : Prop := ∃ a b c d e, args = [d5 a b c d e] ∧ inR a ∧ inR b ∧ inR c ∧ inR d ∧ inR e
def QP (args : List V) : Prop := ∃ n a b c d e, args = [q6 n a b c d e] ∧ inR n ∧ inR a ∧ inR b ∧ inR c ∧ inR d ∧ inR e
noncomputable def C5 : CallT := ptab 17 QN vN (ptab 18 QN vN (ptab 42 QI vI (ptab 26 QI vI (tab []))))
noncomputable def C6 : CallT := ptab 17 QN vN (ptab 18 QN vN (ptab 19 QP vP (ptab 20 QP vP (tab [(16, t16)]))))
theorem ok17 : ∀ args, QN args → SC E1 17 args [] (.ret (vN args) []) := by
  rintro _ ⟨a, b, c, d, e, rfl, ha, hb, hc, hd, he⟩; exact name17 ha hb hc hd he
theorem ok18 : ∀ args, QN args → SC E1 18 args [] (.ret (vN args) []) := by
  rintro _ ⟨a, b, c, d, e, rfl, ha, hb, hc, hd, he⟩; exact name18 ha hb hc hd he
theorem sC5 : SoundC E1 C5 := ptab_cons ok17 (ptab_cons ok18 (ptab_cons (fun args h => by obtain ⟨n, rfl, hn⟩ := h; exact itoa_sc hn) (ptab_cons (fun args h => by obtain ⟨n, rfl, hn⟩ := h; exact decimal hn) tab_nil)))
theorem nmB_size {a b c d e : Int} (ha : inR a) (hb : inR b) (hc : inR c) (hd : inR d) (he : inR e) : (nmB a b c d e).size ≤ 125 := by
  have := jn_size (good_parts ha hb hc hd he)
  have := parts_len a b c d e
  unfold nmB
  omega
theorem p19 (n a b c d e : Int) : callK E1 C5 (ltab []) 19 [q6 n a b c d e] [] K =
  cl (QI ([i64 n]) ∧ ([] : List (Option Chunk)) = []) (
   cl (QN ([V.agg [i64 a, i64 b, i64 c, i64 d, i64 e]]) ∧ ([] : List (Option Chunk)) = []) (
    if (!ByteArray.toList (nmB a b c d e) == ByteArray.toList { data := #[] }) = true then
     if 1 + ByteArray.size (nmB a b c d e) ≤ maxLen then
      if ByteArray.size (itS n) + ByteArray.size ({ data := #[(32 : UInt8)] } ++ nmB a b c d e) ≤ maxLen then
       some (Ans.c (CRes.ret (V.sc (Value.string (itS n ++ ({ data := #[(32 : UInt8)] } ++ nmB a b c d e)))) []))
      else
       none
     else
      none
    else
     some (Ans.c (CRes.ret (V.sc (Value.string (itS n))) []))) (
    none)) (
   none) := by kernel_rfl
theorem p20 (n a b c d e : Int) : callK E1 C5 (ltab []) 20 [q6 n a b c d e] [] K =
  cl (QI ([i64 n]) ∧ ([] : List (Option Chunk)) = []) (
   cl (QN ([V.agg [i64 a, i64 b, i64 c, i64 d, i64 e]]) ∧ ([] : List (Option Chunk)) = []) (
    if (!ByteArray.toList (nmB a b c d e) == ByteArray.toList { data := #[] }) = true then
     if ByteArray.size (itS n) + 1 ≤ maxLen then
      cl (QN ([V.agg [i64 a, i64 b, i64 c, i64 d, i64 e]]) ∧ ([] : List (Option Chunk)) = []) (
       if ByteArray.size (itS n ++ { data := #[(32 : UInt8)] }) + ByteArray.size (nmB a b c d e) ≤ maxLen then
        some (Ans.c (CRes.ret (V.sc (Value.string (itS n ++ { data := #[(32 : UInt8)] } ++ nmB a b c d e))) []))
       else
        none) (
       none)
     else
      none
    else
     some (Ans.c (CRes.ret (V.sc (Value.string (itS n))) []))) (
    none)) (
   none) := by kernel_rfl
theorem print19 {n a b c d e : Int} (hn : inR n) (ha : inR a) (hb : inR b) (hc : inR c) (hd : inR d) (he : inR e) : SC E1 19 [q6 n a b c d e] [] (.ret (st (prB n a b c d e)) []) := by
  have hml : Go.maxLen = 9223372036854775807 := by decide
  have hi := itS_size hn
  have hz := nmB_size ha hb hc hd he
  have z1 : ByteArray.size { data := #[(32 : UInt8)] } = 1 := rfl
  have hq : QI [i64 n] ∧ ([] : List (Option Chunk)) = [] := ⟨⟨_, rfl, hn⟩, rfl⟩
  have hq2 : QN [.agg [i64 a, i64 b, i64 c, i64 d, i64 e]] ∧ ([] : List (Option Chunk)) = [] := ⟨⟨_, _, _, _, _, rfl, ha, hb, hc, hd, he⟩, rfl⟩
  refine SC.of hW1 hX1 sC5 ltab_nil ((p19 n a b c d e).trans ?_)
  rw [cl_pos hq, cl_pos hq2]
  unfold prB
  by_cases h : nmB a b c d e = ByteArray.empty
  · rw [if_neg (fun h2 => (tl_iff _).1 h2 h), if_pos h]
  · rw [if_pos ((tl_iff _).2 h), if_neg h, if_pos (by omega), if_pos (by rw [ByteArray.size_append]; omega), ByteArray.append_assoc]
theorem print20 {n a b c d e : Int} (hn : inR n) (ha : inR a) (hb : inR b) (hc : inR c) (hd : inR d) (he : inR e) : SC E1 20 [q6 n a b c d e] [] (.ret (st (prB n a b c d e)) []) := by
  have hml : Go.maxLen = 9223372036854775807 := by decide
  have hi := itS_size hn
  have hz := nmB_size ha hb hc hd he
  have z1 : ByteArray.size { data := #[(32 : UInt8)] } = 1 := rfl
  have hq : QI [i64 n] ∧ ([] : List (Option Chunk)) = [] := ⟨⟨_, rfl, hn⟩, rfl⟩
  have hq2 : QN [.agg [i64 a, i64 b, i64 c, i64 d, i64 e]] ∧ ([] : List (Option Chunk)) = [] := ⟨⟨_, _, _, _, _, rfl, ha, hb, hc, hd, he⟩, rfl⟩
  refine SC.of hW1 hX1 sC5 ltab_nil ((p20 n a b c d e).trans ?_)
  rw [cl_pos hq, cl_pos hq2]
  unfold prB
  by_cases h : nmB a b c d e = ByteArray.empty
  · rw [if_neg (fun h2 => (tl_iff _).1 h2 h), if_pos h]
  · rw [if_pos ((tl_iff _).2 h), if_neg h, if_pos (by omega), cl_pos hq2, if_pos (by rw [ByteArray.size_append]; omega)]
theorem ok19 : ∀ args, QP args → SC E1 19 args [] (.ret (vP args) []) := by
  rintro _ ⟨n, a, b, c, d, e, rfl, hn, ha, hb, hc, hd, he⟩; exact print19 hn ha hb hc hd he
theorem ok20 : ∀ args, QP args → SC E1 20 args [] (.ret (vP args) []) := by
  rintro _ ⟨n, a, b, c, d, e, rfl, hn, ha, hb, hc, hd, he⟩; exact print20 hn ha hb hc hd he
theorem ok16' : OkT E1 16 t16 := by
  intro args L k r h
  obtain ⟨cr, h1, h2⟩ := ok16 args L k r h
  exact ⟨cr, h1, sc1.2 h2⟩
theorem sC6 : SoundC E1 C6 := ptab_cons ok17 (ptab_cons ok18 (ptab_cons ok19 (ptab_cons ok20 (tab_cons ok16' tab_nil))))
theorem law4 (n a b c d e : Int) : callK E1 C6 (ltab []) 4 [q6 n a b c d e] [] K =
  cl (QN ([V.agg [i64 a, i64 b, i64 c, i64 d, i64 e]]) ∧ ([] : List (Option Chunk)) = []) (
   cl (QN ([V.agg [i64 a, i64 b, i64 c, i64 d, i64 e]]) ∧ ([] : List (Option Chunk)) = []) (
    if (ByteArray.toList (nmB a b c d e) == ByteArray.toList (nmB a b c d e)) = true then
     cl (QP ([V.agg [i64 n, i64 a, i64 b, i64 c, i64 d, i64 e]]) ∧ ([] : List (Option Chunk)) = []) (
      cl (QP ([V.agg [i64 n, i64 a, i64 b, i64 c, i64 d, i64 e]]) ∧ ([] : List (Option Chunk)) = []) (
       if (ByteArray.toList (prB n a b c d e) == ByteArray.toList (prB n a b c d e)) = true then
        some (Ans.c (CRes.ret (bo true) []))
       else
        some (Ans.c (CRes.ret (bo false) []))) (
       none)) (
      none)
    else
     some (Ans.c (CRes.ret (bo false) []))) (
    none)) (
   none) := by kernel_rfl
theorem unitName (v0 : V) (h0 : WTV E.P 29 v0) : ∃ l', LeL [v0] l' ∧ SC E 4 l' [] (.ret (bo true) []) := by
  obtain ⟨n, a, b, c, d, e, rfl, hn, ha, hb, hc, hd, he⟩ := v29 h0
  refine ⟨_, LeL.refl _, sc1.1 (SC.of hW1 hX1 sC6 ltab_nil ((law4 n a b c d e).trans ?_))⟩
  have hq2 : QN [.agg [i64 a, i64 b, i64 c, i64 d, i64 e]] ∧ ([] : List (Option Chunk)) = [] := ⟨⟨_, _, _, _, _, rfl, ha, hb, hc, hd, he⟩, rfl⟩
  have hq3 : QP [.agg [i64 n, i64 a, i64 b, i64 c, i64 d, i64 e]] ∧ ([] : List (Option Chunk)) = [] := ⟨⟨_, _, _, _, _, _, rfl, hn, ha, hb, hc, hd, he⟩, rfl⟩
  rw [cl_pos hq2, cl_pos hq2, if_pos (by simp), cl_pos hq3, cl_pos hq3, if_pos (by simp)]
end Go.Proofs.YtnjpgkaignfcaaaDoor
