/- Texts joined. -/
import Derived.Test.YthegipdgillngaaQE
import Derived.Test.YthegipdgillngaaQB
/- Statements and blocks of the maker (plain). -/
namespace Go.Proofs.Ythegipdgillngaa
open Go Go.Am Go.Proofs
set_option linter.unusedSimpArgs false
set_option linter.unusedVariables false
set_option maxRecDepth 100000
/-- A statement by its number. -/
noncomputable def chA (q : Nat) (e : Int) (s : MT) (u : Int) : Option MT :=
  if (u == (0 : Int)) = true then
   (nextA q (((8 : Int), s))).bind fun z899 =>
    (nextA q (((50 : Int), z899.2))).bind fun z908 =>
     (putA q (((23 : Int), w (w (z899.1 * (1000000 : Int)) + z908.1), z908.2))).bind fun z918 =>
      some (z918.2)
  else
   if (u == (1 : Int)) = true then
    (nextA q (((4000 : Int), s))).bind fun z927 =>
     (putA q (((24 : Int), z927))).bind fun z937 =>
      some (z937.2)
   else
    if (u == (2 : Int)) = true then
     (nextA q (((4000 : Int), s))).bind fun z946 =>
      (putA q (((25 : Int), z946))).bind fun z956 =>
       some (z956.2)
    else
     if (u == (3 : Int)) = true then
      (nextA q (((50 : Int), s))).bind fun z965 =>
       (putA q (((18 : Int), z965))).bind fun z975 =>
        some (z975.2)
     else
      if (u == (4 : Int)) = true then
       (nextA q (((720 : Int), s))).bind fun z984 =>
        (putA q (((1 : Int), w (z984.1 - (360 : Int)), z984.2))).bind fun z994 =>
         (putA q (((22 : Int), (0 : Int), z994.2))).bind fun z1004 =>
          some (z1004.2)
      else
       if (u == (5 : Int)) = true then
        (nextA q (((100 : Int), s))).bind fun z1013 =>
         (putA q (((26 : Int), z1013))).bind fun z1023 =>
          some (z1023.2)
       else
        if (u == (6 : Int)) = true then
         (condA q (s)).bind fun z1031 =>
          (putA q (((21 : Int), (0 : Int), z1031))).bind fun z1041 =>
           some (z1041.2)
        else
         if (u == (7 : Int)) = true then
          (nextA q (((4 : Int), s))).bind fun z1050 =>
           (putA q (((16 : Int), w ((1 : Int) + z1050.1), z1050.2))).bind fun z1060 =>
            ((made q).2 (((2 : Int), w (e - (1 : Int)), z1060.2))).bind fun z1070 =>
             (putA q (((17 : Int), w (z1060.1 + (1 : Int)), z1070))).bind fun z1080 =>
              some (z1080.2)
         else
          if (u == (8 : Int)) = true then
           (nextA q (((30 : Int), s))).bind fun z1089 =>
            (putA q (((19 : Int), z1089))).bind fun z1099 =>
             (condA q (z1099.2)).bind fun z1107 =>
              (putA q (((20 : Int), w (z1099.1 + (1 : Int)), z1107))).bind fun z1117 =>
               some (z1117.2)
          else
           if (u == (9 : Int)) = true then
            (nextA q (((1000 : Int), s))).bind fun z1126 =>
             (putA q (((27 : Int), z1126))).bind fun z1136 =>
              some (z1136.2)
           else
            (condA q (s)).bind fun z1144 =>
             (putA q (((15 : Int), (0 : Int), z1144))).bind fun z1154 =>
              ((made q).2 (((2 : Int), w (e - (1 : Int)), z1154.2))).bind fun z1164 =>
               if (u == (11 : Int)) = true then
                (putA q (((14 : Int), (0 : Int), z1164))).bind fun z1174 =>
                 if (0 : Int) ≤ z1154.1 ∧ z1154.1 < ((z1174.2.2.2.2.2.1 : Nat) : Int) then
                  if 0 + Int.toNat (z1154.1) < z1174.2.2.2.2.2.1 ∧ 2 = 2 then
                   ((made q).2 (((2 : Int), w (e - (1 : Int)), z1174.2.1, z1174.2.2.1, z1174.2.2.2.1, z1174.2.2.2.2.1, z1174.2.2.2.2.2.1, z1174.2.2.2.2.2.2.1, fun (j : Nat) => if j = 0 + Int.toNat (z1154.1) then ((z1174.2.2.2.2.2.1 : Nat) : Int) else z1174.2.2.2.2.2.2.2 j))).bind fun z1184 =>
                    if (0 : Int) ≤ z1174.1 ∧ z1174.1 < ((z1184.2.2.2.2.1 : Nat) : Int) then
                     if 0 + Int.toNat (z1174.1) < z1184.2.2.2.2.1 ∧ 2 = 2 then
                      some ((z1184.1, z1184.2.1, z1184.2.2.1, z1184.2.2.2.1, z1184.2.2.2.2.1, z1184.2.2.2.2.2.1, fun (j : Nat) => if j = 0 + Int.toNat (z1174.1) then ((z1184.2.2.2.2.1 : Nat) : Int) else z1184.2.2.2.2.2.2 j))
                     else
                      none
                    else
                     none
                  else
                   none
                 else
                  none
               else
                if (0 : Int) ≤ z1154.1 ∧ z1154.1 < ((z1164.2.2.2.2.1 : Nat) : Int) then
                 if 0 + Int.toNat (z1154.1) < z1164.2.2.2.2.1 ∧ 2 = 2 then
                  some ((z1164.1, z1164.2.1, z1164.2.2.1, z1164.2.2.2.1, z1164.2.2.2.2.1, z1164.2.2.2.2.2.1, fun (j : Nat) => if j = 0 + Int.toNat (z1154.1) then ((z1164.2.2.2.2.1 : Nat) : Int) else z1164.2.2.2.2.2.2 j))
                 else
                  none
                else
                 none
noncomputable def chZ (q : Nat) (e : Int) (s : Nat × (Nat → Int) × Int × Bool) (u : Int) : Option MT :=
  if (u == (0 : Int)) = true then
   (nextZ q (((8 : Int), s))).bind fun z704 =>
    (nextZ q (((50 : Int), z704.2))).bind fun z710 =>
     (putZ q (((23 : Int), w (w (z704.1 * (1000000 : Int)) + z710.1), z710.2))).bind fun z717 =>
      some ((z717.1, z717.2.1, z717.2.2.1, z717.2.2.2.1, 1, z717.2.2.2.2))
  else
   if (u == (1 : Int)) = true then
    (nextZ q (((4000 : Int), s))).bind fun z723 =>
     (putZ q (((24 : Int), z723))).bind fun z730 =>
      some ((z730.1, z730.2.1, z730.2.2.1, z730.2.2.2.1, 1, z730.2.2.2.2))
   else
    if (u == (2 : Int)) = true then
     (nextZ q (((4000 : Int), s))).bind fun z736 =>
      (putZ q (((25 : Int), z736))).bind fun z743 =>
       some ((z743.1, z743.2.1, z743.2.2.1, z743.2.2.2.1, 1, z743.2.2.2.2))
    else
     if (u == (3 : Int)) = true then
      (nextZ q (((50 : Int), s))).bind fun z749 =>
       (putZ q (((18 : Int), z749))).bind fun z756 =>
        some ((z756.1, z756.2.1, z756.2.2.1, z756.2.2.2.1, 1, z756.2.2.2.2))
     else
      if (u == (4 : Int)) = true then
       (nextZ q (((720 : Int), s))).bind fun z762 =>
        (putZ q (((1 : Int), w (z762.1 - (360 : Int)), z762.2))).bind fun z769 =>
         (putA q (((22 : Int), (0 : Int), z769.1, z769.2.1, z769.2.2.1, z769.2.2.2.1, 1, z769.2.2.2.2))).bind fun z779 =>
          some (z779.2)
      else
       if (u == (5 : Int)) = true then
        (nextZ q (((100 : Int), s))).bind fun z785 =>
         (putZ q (((26 : Int), z785))).bind fun z792 =>
          some ((z792.1, z792.2.1, z792.2.2.1, z792.2.2.2.1, 1, z792.2.2.2.2))
       else
        if (u == (6 : Int)) = true then
         (condZ q (s)).bind fun z797 =>
          (putA q (((21 : Int), (0 : Int), z797))).bind fun z807 =>
           some (z807.2)
        else
         if (u == (7 : Int)) = true then
          (nextZ q (((4 : Int), s))).bind fun z813 =>
           (putZ q (((16 : Int), w ((1 : Int) + z813.1), z813.2))).bind fun z820 =>
            ((made q).2 (((2 : Int), w (e - (1 : Int)), z820.1, z820.2.1, z820.2.2.1, z820.2.2.2.1, 1, z820.2.2.2.2))).bind fun z830 =>
             (putA q (((17 : Int), (1 : Int), z830))).bind fun z840 =>
              some (z840.2)
         else
          if (u == (8 : Int)) = true then
           (nextZ q (((30 : Int), s))).bind fun z846 =>
            (putZ q (((19 : Int), z846))).bind fun z853 =>
             (condA q ((z853.1, z853.2.1, z853.2.2.1, z853.2.2.2.1, 1, z853.2.2.2.2))).bind fun z861 =>
              (putA q (((20 : Int), (1 : Int), z861))).bind fun z871 =>
               some (z871.2)
          else
           if (u == (9 : Int)) = true then
            (nextZ q (((1000 : Int), s))).bind fun z877 =>
             (putZ q (((27 : Int), z877))).bind fun z884 =>
              some ((z884.1, z884.2.1, z884.2.2.1, z884.2.2.2.1, 1, z884.2.2.2.2))
           else
            (condZ q (s)).bind fun z889 =>
             (putA q (((15 : Int), (0 : Int), z889))).bind fun z899 =>
              ((made q).2 (((2 : Int), w (e - (1 : Int)), z899.2))).bind fun z909 =>
               if (u == (11 : Int)) = true then
                (putA q (((14 : Int), (0 : Int), z909))).bind fun z919 =>
                 if (0 : Int) ≤ z899.1 ∧ z899.1 < ((z919.2.2.2.2.2.1 : Nat) : Int) then
                  if 0 + Int.toNat (z899.1) < z919.2.2.2.2.2.1 ∧ 2 = 2 then
                   ((made q).2 (((2 : Int), w (e - (1 : Int)), z919.2.1, z919.2.2.1, z919.2.2.2.1, z919.2.2.2.2.1, z919.2.2.2.2.2.1, z919.2.2.2.2.2.2.1, fun (j : Nat) => if j = 0 + Int.toNat (z899.1) then ((z919.2.2.2.2.2.1 : Nat) : Int) else z919.2.2.2.2.2.2.2 j))).bind fun z929 =>
                    if (0 : Int) ≤ z919.1 ∧ z919.1 < ((z929.2.2.2.2.1 : Nat) : Int) then
                     if 0 + Int.toNat (z919.1) < z929.2.2.2.2.1 ∧ 2 = 2 then
                      some ((z929.1, z929.2.1, z929.2.2.1, z929.2.2.2.1, z929.2.2.2.2.1, z929.2.2.2.2.2.1, fun (j : Nat) => if j = 0 + Int.toNat (z919.1) then ((z929.2.2.2.2.1 : Nat) : Int) else z929.2.2.2.2.2.2 j))
                     else
                      none
                    else
                     none
                  else
                   none
                 else
                  none
               else
                if (0 : Int) ≤ z899.1 ∧ z899.1 < ((z909.2.2.2.2.1 : Nat) : Int) then
                 if 0 + Int.toNat (z899.1) < z909.2.2.2.2.1 ∧ 2 = 2 then
                  some ((z909.1, z909.2.1, z909.2.2.1, z909.2.2.2.1, z909.2.2.2.2.1, z909.2.2.2.2.2.1, fun (j : Nat) => if j = 0 + Int.toNat (z899.1) then ((z909.2.2.2.2.1 : Nat) : Int) else z909.2.2.2.2.2.2 j))
                 else
                  none
                else
                 none

section
variable {m : Nat} {y : Nat → Int} {tl : Bool} {q : Nat}
theorem set_mid (l r : Is) (p p' : Int × Int) : (l ++ p :: r).set l.length p' = l ++ p' :: r := by
  rw [List.set_append_right _ _ (Nat.le_refl _), Nat.sub_self]; rfl
theorem getD_set' (l : Is) (i : Nat) (p : Int × Int) (j : Nat) (hi : i < l.length) : (l.set i p).getD j (0, 0) = if j = i then p else l.getD j (0, 0) := by
  simp only [List.getD_eq_getElem?_getD, List.getElem?_set]
  by_cases h : i = j
  · subst h; simp [hi]
  · simp [h, Ne.symm h]
theorem patch {l : Is} {s : MT} (hs : MS m y tl l s) {a v : Int} {i : Nat} (hi : i < l.length) (ha : a = i) : MS m y tl (l.set i ((l.getD i (0, 0)).1, v)) (s.1, s.2.1, s.2.2.1, s.2.2.2.1, s.2.2.2.2.1, s.2.2.2.2.2.1, fun (j : Nat) => if j = 0 + Int.toNat a then v else s.2.2.2.2.2.2 j) := by
  obtain ⟨h1, h2, h3, h4, h5⟩ := hs
  refine ⟨h1, h2, h3, by simpa using h4, fun j hj => ?_⟩
  have hj' : j < l.length := by simpa using hj
  have e : (0 + Int.toNat a) = i := by omega
  simp only [e]
  rw [getD_set' l i _ j hi]
  by_cases h : j = i
  · subst h; simp only [if_true]; exact ⟨(h5 j hj').1, by simp⟩
  · simp only [h, if_false]; exact h5 j hj'
/-- What a statement at this level makes of the code. -/
def SP (m : Nat) (y : Nat → Int) (tl : Bool) (e : Nat) (l : Is) (z : MT) : Prop := ∃ s, Seg tl l.length s ∧ MS m y tl (l ++ s) z ∧ (l ++ s).length ≤ 206 + 2 * e
/-- What a block does. -/
def BP (m : Nat) (y : Nat → Int) (tl : Bool) (e : Nat) (l : Is) (z : MT) : Prop := ∃ s, Seg tl l.length s ∧ MS m y tl (l ++ s) z ∧ ((l ++ s).length ≤ 206 + 2 * e ∨ (l ++ s).length ≤ l.length)
def Blk (m : Nat) (y : Nat → Int) (tl : Bool) (q e : Nat) : Prop := ∀ (l : Is) (s : MT), MS m y tl l s → l.length ≤ 220 → Runs ((made q).2 (2, w ((e : Int) - 1), s)) (BP m y tl (e - 1) l)
theorem use_in {a b : Int} (ha : 0 ≤ a ∧ a < 8) (hb : 0 ≤ b ∧ b < 50) : okOne 23 (w (w (a * 1000000) + b)) := by
  rw [w_in (n := a * 1000000) (by unfold inR; omega), w_in (by unfold inR; omega)]
  left; omega
theorem chA_runs (hy : ∀ j, j < m → inR (y j)) {e : Nat} (he2 : e ≤ 2) (hB : 0 < e → Blk m y tl q e) {l : Is} {s : MT} (hs : MS m y tl l s) (hl : l.length < 200) {u : Int} (hu : 0 ≤ u ∧ u < 12) (h8 : 8 ≤ u → tl = false) (he : u = 7 ∨ 10 ≤ u → 0 < e) : Runs (chA q e s u) (SP m y tl e l) := by
  unfold chA
  refine Runs.ite (fun hk => ?_) fun k0 => ?_
  · simp only [beq_iff_eq] at hk
    refine Runs.bind (next_runs hy hs (by omega)) fun z1 h1 => ?_
    obtain ⟨g1, h1⟩ := h1
    refine Runs.bind (next_runs hy h1 (by omega)) fun z2 h2 => ?_
    obtain ⟨g2, h2⟩ := h2
    refine Runs.bind (put_runs h2 23 (w (w (z1.1 * 1000000) + z2.1)) (by omega)) fun z3 h3 => ?_
    obtain ⟨r3, h3⟩ := h3
    exact Runs.some ⟨_, .one (use_in g1 g2), h3, by simp <;> omega⟩
  refine Runs.ite (fun hk => ?_) fun k1 => ?_
  · simp only [beq_iff_eq] at hk
    refine Runs.bind (next_runs hy hs (by omega)) fun z1 h1 => ?_
    obtain ⟨g1, h1⟩ := h1
    refine Runs.bind (put_runs h1 24 z1.1 (by omega)) fun z2 h2 => ?_
    obtain ⟨r2, h2⟩ := h2
    exact Runs.some ⟨_, .one (.inr (.inl ⟨rfl, g1⟩)), h2, by simp <;> omega⟩
  refine Runs.ite (fun hk => ?_) fun k2 => ?_
  · simp only [beq_iff_eq] at hk
    refine Runs.bind (next_runs hy hs (by omega)) fun z1 h1 => ?_
    obtain ⟨g1, h1⟩ := h1
    refine Runs.bind (put_runs h1 25 z1.1 (by omega)) fun z2 h2 => ?_
    obtain ⟨r2, h2⟩ := h2
    exact Runs.some ⟨_, .one (.inr (.inr (.inl ⟨rfl, g1⟩))), h2, by simp <;> omega⟩
  refine Runs.ite (fun hk => ?_) fun k3 => ?_
  · simp only [beq_iff_eq] at hk
    refine Runs.bind (next_runs hy hs (by omega)) fun z1 h1 => ?_
    obtain ⟨g1, h1⟩ := h1
    refine Runs.bind (put_runs h1 18 z1.1 (by omega)) fun z2 h2 => ?_
    obtain ⟨r2, h2⟩ := h2
    exact Runs.some ⟨_, .one (.inr (.inr (.inr (.inl ⟨rfl, g1⟩)))), h2, by simp <;> omega⟩
  refine Runs.ite (fun hk => ?_) fun k4 => ?_
  · simp only [beq_iff_eq] at hk
    refine Runs.bind (next_runs hy hs (by omega)) fun z1 h1 => ?_
    obtain ⟨g1, h1⟩ := h1
    have hw : w (z1.1 - 360) = z1.1 - 360 := w_in (by unfold inR; omega)
    refine Runs.bind (put_runs h1 1 (w (z1.1 - 360)) (by omega)) fun z2 h2 => ?_
    obtain ⟨r2, h2⟩ := h2
    refine Runs.bind (put_runs h2 22 0 (by simp at * <;> omega)) fun z3 h3 => ?_
    obtain ⟨r3, h3⟩ := h3
    rw [hw, List.append_assoc] at h3
    exact Runs.some ⟨_, .point (by omega), h3, by simp <;> omega⟩
  refine Runs.ite (fun hk => ?_) fun k5 => ?_
  · simp only [beq_iff_eq] at hk
    refine Runs.bind (next_runs hy hs (by omega)) fun z1 h1 => ?_
    obtain ⟨g1, h1⟩ := h1
    refine Runs.bind (put_runs h1 26 z1.1 (by omega)) fun z2 h2 => ?_
    obtain ⟨r2, h2⟩ := h2
    exact Runs.some ⟨_, .one (.inr (.inr (.inr (.inr ⟨rfl, g1⟩)))), h2, by simp <;> omega⟩
  refine Runs.ite (fun hk => ?_) fun k6 => ?_
  · simp only [beq_iff_eq] at hk
    refine Runs.bind (cond_runs hy hs (by omega)) fun z1 h1 => ?_
    obtain ⟨c, hc, h1⟩ := h1
    have cl := hc.len
    refine Runs.bind (put_runs h1 21 0 (by simp <;> omega)) fun z2 h2 => ?_
    obtain ⟨r2, h2⟩ := h2
    rw [List.append_assoc] at h2
    exact Runs.some ⟨_, .req hc, h2, by simp <;> omega⟩
  refine Runs.ite (fun hk => ?_) fun k7 => ?_
  · simp only [beq_iff_eq] at hk
    refine Runs.bind (next_runs hy hs (by omega)) fun z1 h1 => ?_
    obtain ⟨g1, h1⟩ := h1
    have hw : w (1 + z1.1) = 1 + z1.1 := w_in (by unfold inR; omega)
    have he0 := he (.inl hk)
    refine Runs.bind (put_runs h1 16 (w (1 + z1.1)) (by omega)) fun z2 h2 => ?_
    obtain ⟨r2, h2⟩ := h2
    refine Runs.bind (hB he0 _ _ h2 (by simp <;> omega)) fun z3 h3 => ?_
    obtain ⟨b, hb, h3, hlen⟩ := h3
    have r2w : w (z2.1 + 1) = (l.length : Int) + 1 := by rw [r2, w_in (by unfold inR; omega)]
    rw [r2w]
    refine Runs.bind (put_runs h3 17 (((l.length : Nat) : Int) + 1) (by simp only [List.length_append, List.length_cons, List.length_nil] at hlen ⊢ <;> omega)) fun z4 h4 => ?_
    obtain ⟨r4, h4⟩ := h4
    refine Runs.some ⟨(16, 1 + z1.1) :: (b ++ [(17, ((l.length : Nat) : Int) + 1)]), .loop (by omega) (by simpa using hb), ?_, by simp only [List.length_append, List.length_cons, List.length_nil] at hlen ⊢ <;> omega⟩
    rw [hw] at h4
    simpa [List.append_assoc] using h4
  refine Runs.ite (fun hk => ?_) fun k8 => ?_
  · simp only [beq_iff_eq] at hk
    refine Runs.bind (next_runs hy hs (by omega)) fun z1 h1 => ?_
    obtain ⟨g1, h1⟩ := h1
    refine Runs.bind (put_runs h1 19 z1.1 (by omega)) fun z2 h2 => ?_
    obtain ⟨r2, h2⟩ := h2
    refine Runs.bind (cond_runs hy h2 (by simp <;> omega)) fun z3 h3 => ?_
    obtain ⟨c, hc, h3⟩ := h3
    have cl := hc.len
    have r2w : w (z2.1 + 1) = (l.length : Int) + 1 := by rw [r2, w_in (by unfold inR; omega)]
    rw [r2w]
    refine Runs.bind (put_runs h3 20 (((l.length : Nat) : Int) + 1) (by simp <;> omega)) fun z4 h4 => ?_
    obtain ⟨r4, h4⟩ := h4
    refine Runs.some ⟨(19, z1.1) :: (c ++ [(20, ((l.length : Nat) : Int) + 1)]), .wait (h8 (by omega)) g1 hc, ?_, by simp <;> omega⟩
    simpa [List.append_assoc] using h4
  refine Runs.ite (fun hk => ?_) fun k9 => ?_
  · simp only [beq_iff_eq] at hk
    refine Runs.bind (next_runs hy hs (by omega)) fun z1 h1 => ?_
    obtain ⟨g1, h1⟩ := h1
    refine Runs.bind (put_runs h1 27 z1.1 (by omega)) fun z2 h2 => ?_
    obtain ⟨r2, h2⟩ := h2
    exact Runs.some ⟨_, .abort (h8 (by omega)) g1, h2, by simp <;> omega⟩
  simp only [beq_iff_eq] at k0 k1 k2 k3 k4 k5 k6 k7 k8 k9
  have he0 := he (by omega)
  have hf := h8 (by omega)
  refine Runs.bind (cond_runs hy hs (by omega)) fun z1 h1 => ?_
  obtain ⟨c, hc, h1⟩ := h1
  have cl := hc.len
  refine Runs.bind (put_runs h1 15 0 (by simp <;> omega)) fun z2 h2 => ?_
  obtain ⟨r2, h2⟩ := h2
  refine Runs.bind (hB he0 _ _ h2 (by simp <;> omega)) fun z3 h3 => ?_
  obtain ⟨b, hb, h3, hlen⟩ := h3
  have hl1 : (l ++ c).length < 206 := by simp <;> omega
  have hb' : Seg tl (l.length + c.length + 1) b := by simpa [Nat.add_assoc] using hb
  refine Runs.ite (fun hk => ?_) fun hk => ?_
  · refine Runs.bind (put_runs h3 14 0 (by simp only [List.length_append, List.length_cons, List.length_nil] at hlen ⊢ <;> omega)) fun z4 h4 => ?_
    obtain ⟨r4, h4⟩ := h4
    have hn4 := h4.n
    refine Runs.if_pos ⟨by omega, by rw [r2, hn4]; simp <;> omega⟩ (Runs.if_pos ⟨by rw [r2, hn4]; simp <;> omega, rfl⟩ ?_)
    have h5 := patch h4 (a := z2.1) (v := ((z4.2.2.2.2.2.1 : Nat) : Int)) (i := (l ++ c).length) (by simp <;> omega) r2
    have e5 : (((l ++ c ++ [(15, 0)] ++ b) ++ [(14, 0)] : Is)) = (l ++ c) ++ (15, 0) :: (b ++ [(14, 0)]) := by simp [List.append_assoc]
    rw [hn4] at h5
    rw [e5] at h5 hn4
    rw [set_mid] at h5
    have g5 : (((l ++ c) ++ ((15 : Int), (0 : Int)) :: (b ++ [(14, 0)]) : Is).getD (l ++ c).length (0, 0)).1 = 15 := by simp [List.getD_eq_getElem?_getD, List.getElem?_append]
    rw [g5] at h5
    refine Runs.bind (hB he0 _ _ (by rw [hn4]; exact h5) (by simp only [List.length_append, List.length_cons, List.length_nil] at hlen ⊢ <;> omega)) fun z6 h6 => ?_
    obtain ⟨d, hd, h6, hlen6⟩ := h6
    have hn6 := h6.n
    have r4' : z4.1 = (((l ++ c) ++ (15, ((((l ++ c) ++ (15, 0) :: (b ++ [(14, 0)]) : Is)).length : Int)) :: b : Is).length : Int) := by rw [r4]; simp [Nat.add_assoc] <;> omega
    refine Runs.if_pos ⟨by omega, by rw [r4, hn6]; simp <;> omega⟩ (Runs.if_pos ⟨by rw [r4, hn6]; simp <;> omega, rfl⟩ ?_)
    have h7 := patch h6 (a := z4.1) (v := ((z6.2.2.2.2.1 : Nat) : Int)) (i := ((l ++ c) ++ (15, ((((l ++ c) ++ (15, 0) :: (b ++ [(14, 0)]) : Is)).length : Int)) :: b : Is).length) (by simp <;> omega) r4'
    have e7 : (((l ++ c) ++ (15, ((((l ++ c) ++ (15, 0) :: (b ++ [(14, 0)]) : Is)).length : Int)) :: (b ++ [(14, 0)])) ++ d : Is) = ((l ++ c) ++ (15, ((((l ++ c) ++ (15, 0) :: (b ++ [(14, 0)]) : Is)).length : Int)) :: b) ++ (14, 0) :: d := by simp [List.append_assoc]
    rw [hn6] at h7
    rw [e7] at h7 hn6
    rw [set_mid] at h7
    have g7 : ((((l ++ c) ++ (15, ((((l ++ c) ++ (15, 0) :: (b ++ [(14, 0)]) : Is)).length : Int)) :: b) ++ ((14 : Int), (0 : Int)) :: d : Is).getD ((l ++ c) ++ (15, ((((l ++ c) ++ (15, 0) :: (b ++ [(14, 0)]) : Is)).length : Int)) :: b : Is).length (0, 0)).1 = 14 := by
      rw [List.getD_eq_getElem?_getD, List.getElem?_append_right (Nat.le_refl _), Nat.sub_self]; rfl
    rw [g7] at h7
    have hd' : Seg tl (l.length + c.length + 1 + b.length + 1) d := by
      have e : ((l ++ c) ++ (15, ((((l ++ c) ++ (15, 0) :: (b ++ [(14, 0)]) : Is)).length : Int)) :: (b ++ [(14, 0)]) : Is).length = l.length + c.length + 1 + b.length + 1 := by simp <;> omega
      rw [← e]; exact hd
    refine Runs.some ⟨_, .ite2 hf hc hb' hd', ?_, by simp only [List.length_append, List.length_cons, List.length_nil] at hlen hlen6 ⊢ <;> omega⟩
    rw [hn6]
    have ea : (((l ++ c) ++ (15, 0) :: (b ++ [(14, 0)]) : Is).length : Int) = ((l.length + c.length + 1 + b.length + 1 : Nat) : Int) := by simp <;> omega
    have eb : ((((l ++ c) ++ (15, ((((l ++ c) ++ (15, 0) :: (b ++ [(14, 0)]) : Is)).length : Int)) :: b) ++ (14, 0) :: d : Is).length : Int) = ((l.length + c.length + 1 + b.length + 1 + d.length : Nat) : Int) := by simp <;> omega
    rw [eb] at h7 ⊢
    rw [ea] at h7 ⊢
    simpa [List.append_assoc] using h7
  · have hn3 := h3.n
    refine Runs.if_pos ⟨by omega, by rw [r2, hn3]; simp <;> omega⟩ (Runs.if_pos ⟨by rw [r2, hn3]; simp <;> omega, rfl⟩ ?_)
    have h5 := patch h3 (a := z2.1) (v := ((z3.2.2.2.2.1 : Nat) : Int)) (i := (l ++ c).length) (by simp <;> omega) r2
    have e5 : ((l ++ c ++ [(15, 0)] ++ b : Is)) = (l ++ c) ++ (15, 0) :: b := by simp [List.append_assoc]
    rw [hn3] at h5
    rw [e5] at h5 hn3
    rw [set_mid] at h5
    have g5 : (((l ++ c) ++ ((15 : Int), (0 : Int)) :: b : Is).getD (l ++ c).length (0, 0)).1 = 15 := by simp [List.getD_eq_getElem?_getD, List.getElem?_append]
    rw [g5] at h5
    refine Runs.some ⟨_, .ite1 hf hc hb', ?_, by simp only [List.length_append, List.length_cons, List.length_nil] at hlen ⊢ <;> omega⟩
    rw [hn3]
    have ea : (((l ++ c) ++ (15, 0) :: b : Is).length : Int) = ((l.length + c.length + 1 + b.length : Nat) : Int) := by simp <;> omega
    rw [ea] at h5 ⊢
    simpa [List.append_assoc] using h5
theorem chZ_runs (hy : ∀ j, j < m → inR (y j)) {e : Nat} (he2 : e ≤ 2) (hB : 0 < e → Blk m y tl q e) (a : Int) {u : Int} (hu : 0 ≤ u ∧ u < 12) (h8 : 8 ≤ u → tl = false) (he : u = 7 ∨ 10 ≤ u → 0 < e) : Runs (chZ q e (m, y, a, tl) u) (SP m y tl e ([] : Is)) := by
  unfold chZ
  have hl : ([] : Is).length < 200 := by decide
  refine Runs.ite (fun hk => ?_) fun k0 => ?_
  · simp only [beq_iff_eq] at hk
    refine Runs.bind (nextZ_runs hy (by omega)) fun z1 h1 => ?_
    obtain ⟨g1, a1, e1⟩ := h1
    obtain ⟨v1, s1⟩ := z1
    simp only at e1 g1
    subst e1
    refine Runs.bind (nextZ_runs hy (by omega)) fun z2 h2 => ?_
    obtain ⟨g2, a2, e2⟩ := h2
    obtain ⟨v2, s2⟩ := z2
    simp only at e2 g2
    subst e2
    refine Runs.bind (putZ_runs 23 (w (w (v1 * 1000000) + v2)) a2) fun z3 h3 => ?_
    exact Runs.some ⟨_, .one (use_in g1 g2), h3, by simp <;> omega⟩
  refine Runs.ite (fun hk => ?_) fun k1 => ?_
  · simp only [beq_iff_eq] at hk
    refine Runs.bind (nextZ_runs hy (by omega)) fun z1 h1 => ?_
    obtain ⟨g1, a1, e1⟩ := h1
    obtain ⟨v1, s1⟩ := z1
    simp only at e1 g1
    subst e1
    refine Runs.bind (putZ_runs 24 v1 a1) fun z2 h2 => ?_
    exact Runs.some ⟨_, .one (.inr (.inl ⟨rfl, g1⟩)), h2, by simp <;> omega⟩
  refine Runs.ite (fun hk => ?_) fun k2 => ?_
  · simp only [beq_iff_eq] at hk
    refine Runs.bind (nextZ_runs hy (by omega)) fun z1 h1 => ?_
    obtain ⟨g1, a1, e1⟩ := h1
    obtain ⟨v1, s1⟩ := z1
    simp only at e1 g1
    subst e1
    refine Runs.bind (putZ_runs 25 v1 a1) fun z2 h2 => ?_
    exact Runs.some ⟨_, .one (.inr (.inr (.inl ⟨rfl, g1⟩))), h2, by simp <;> omega⟩
  refine Runs.ite (fun hk => ?_) fun k3 => ?_
  · simp only [beq_iff_eq] at hk
    refine Runs.bind (nextZ_runs hy (by omega)) fun z1 h1 => ?_
    obtain ⟨g1, a1, e1⟩ := h1
    obtain ⟨v1, s1⟩ := z1
    simp only at e1 g1
    subst e1
    refine Runs.bind (putZ_runs 18 v1 a1) fun z2 h2 => ?_
    exact Runs.some ⟨_, .one (.inr (.inr (.inr (.inl ⟨rfl, g1⟩)))), h2, by simp <;> omega⟩
  refine Runs.ite (fun hk => ?_) fun k4 => ?_
  · simp only [beq_iff_eq] at hk
    refine Runs.bind (nextZ_runs hy (by omega)) fun z1 h1 => ?_
    obtain ⟨g1, a1, e1⟩ := h1
    obtain ⟨v1, s1⟩ := z1
    simp only at e1 g1
    subst e1
    have hw : w (v1 - 360) = v1 - 360 := w_in (by unfold inR; omega)
    refine Runs.bind (putZ_runs 1 (w (v1 - 360)) a1) fun z2 h2 => ?_
    refine Runs.bind (put_runs h2 22 0 (by simp at * <;> omega)) fun z3 h3 => ?_
    obtain ⟨r3, h3⟩ := h3
    rw [hw] at h3
    exact Runs.some ⟨_, .point (a := v1 - 360) (by omega), h3, by simp <;> omega⟩
  refine Runs.ite (fun hk => ?_) fun k5 => ?_
  · simp only [beq_iff_eq] at hk
    refine Runs.bind (nextZ_runs hy (by omega)) fun z1 h1 => ?_
    obtain ⟨g1, a1, e1⟩ := h1
    obtain ⟨v1, s1⟩ := z1
    simp only at e1 g1
    subst e1
    refine Runs.bind (putZ_runs 26 v1 a1) fun z2 h2 => ?_
    exact Runs.some ⟨_, .one (.inr (.inr (.inr (.inr ⟨rfl, g1⟩)))), h2, by simp <;> omega⟩
  refine Runs.ite (fun hk => ?_) fun k6 => ?_
  · simp only [beq_iff_eq] at hk
    refine Runs.bind (condZ_runs hy a) fun z1 h1 => ?_
    obtain ⟨c, hc, h1⟩ := h1
    have cl := hc.len
    refine Runs.bind (put_runs h1 21 0 (by simp <;> omega)) fun z2 h2 => ?_
    obtain ⟨r2, h2⟩ := h2
    rw [List.append_assoc] at h2
    exact Runs.some ⟨_, .req hc, h2, by simp <;> omega⟩
  refine Runs.ite (fun hk => ?_) fun k7 => ?_
  · simp only [beq_iff_eq] at hk
    refine Runs.bind (nextZ_runs hy (by omega)) fun z1 h1 => ?_
    obtain ⟨g1, a1, e1⟩ := h1
    obtain ⟨v1, s1⟩ := z1
    simp only at e1 g1
    subst e1
    have hw : w (1 + v1) = 1 + v1 := w_in (by unfold inR; omega)
    have he0 := he (.inl hk)
    refine Runs.bind (putZ_runs 16 (w (1 + v1)) a1) fun z2 h2 => ?_
    refine Runs.bind (hB he0 _ _ h2 (by simp <;> omega)) fun z3 h3 => ?_
    obtain ⟨b, hb, h3, hlen⟩ := h3
    refine Runs.bind (put_runs h3 17 1 (by simp only [List.length_append, List.length_cons, List.length_nil] at hlen ⊢ <;> omega)) fun z4 h4 => ?_
    obtain ⟨r4, h4⟩ := h4
    refine Runs.some ⟨(16, 1 + v1) :: (b ++ [(17, ((0 : Nat) : Int) + 1)]), .loop (by omega) (by simpa using hb), ?_, by simp only [List.length_append, List.length_cons, List.length_nil] at hlen ⊢ <;> omega⟩
    rw [hw] at h4
    simpa [List.append_assoc] using h4
  refine Runs.ite (fun hk => ?_) fun k8 => ?_
  · simp only [beq_iff_eq] at hk
    refine Runs.bind (nextZ_runs hy (by omega)) fun z1 h1 => ?_
    obtain ⟨g1, a1, e1⟩ := h1
    obtain ⟨v1, s1⟩ := z1
    simp only at e1 g1
    subst e1
    refine Runs.bind (putZ_runs 19 v1 a1) fun z2 h2 => ?_
    refine Runs.bind (cond_runs hy h2 (by simp <;> omega)) fun z3 h3 => ?_
    obtain ⟨c, hc, h3⟩ := h3
    have cl := hc.len
    refine Runs.bind (put_runs h3 20 1 (by simp <;> omega)) fun z4 h4 => ?_
    obtain ⟨r4, h4⟩ := h4
    refine Runs.some ⟨(19, v1) :: (c ++ [(20, ((0 : Nat) : Int) + 1)]), .wait (h8 (by omega)) g1 hc, ?_, by simp <;> omega⟩
    simpa [List.append_assoc] using h4
  refine Runs.ite (fun hk => ?_) fun k9 => ?_
  · simp only [beq_iff_eq] at hk
    refine Runs.bind (nextZ_runs hy (by omega)) fun z1 h1 => ?_
    obtain ⟨g1, a1, e1⟩ := h1
    obtain ⟨v1, s1⟩ := z1
    simp only at e1 g1
    subst e1
    refine Runs.bind (putZ_runs 27 v1 a1) fun z2 h2 => ?_
    exact Runs.some ⟨_, .abort (h8 (by omega)) g1, h2, by simp <;> omega⟩
  simp only [beq_iff_eq] at k0 k1 k2 k3 k4 k5 k6 k7 k8 k9
  have he0 := he (by omega)
  have hf := h8 (by omega)
  refine Runs.bind (condZ_runs hy a) fun z1 h1 => ?_
  obtain ⟨c, hc, h1⟩ := h1
  have cl := hc.len
  refine Runs.bind (put_runs h1 15 0 (by simp <;> omega)) fun z2 h2 => ?_
  obtain ⟨r2, h2⟩ := h2
  refine Runs.bind (hB he0 _ _ h2 (by simp <;> omega)) fun z3 h3 => ?_
  obtain ⟨b, hb, h3, hlen⟩ := h3
  have hl1 : (([] : Is) ++ c).length < 206 := by simp <;> omega
  have hb' : Seg tl (([] : Is).length + c.length + 1) b := by simpa [Nat.add_assoc] using hb
  refine Runs.ite (fun hk => ?_) fun hk => ?_
  · refine Runs.bind (put_runs h3 14 0 (by simp only [List.length_append, List.length_cons, List.length_nil] at hlen ⊢ <;> omega)) fun z4 h4 => ?_
    obtain ⟨r4, h4⟩ := h4
    have hn4 := h4.n
    refine Runs.if_pos ⟨by omega, by rw [r2, hn4]; simp <;> omega⟩ (Runs.if_pos ⟨by rw [r2, hn4]; simp <;> omega, rfl⟩ ?_)
    have h5 := patch h4 (a := z2.1) (v := ((z4.2.2.2.2.2.1 : Nat) : Int)) (i := (([] : Is) ++ c).length) (by simp <;> omega) r2
    have e5 : (((([] : Is) ++ c ++ [(15, 0)] ++ b) ++ [(14, 0)] : Is)) = (([] : Is) ++ c) ++ (15, 0) :: (b ++ [(14, 0)]) := by simp [List.append_assoc]
    rw [hn4] at h5
    rw [e5] at h5 hn4
    rw [set_mid] at h5
    have g5 : (((([] : Is) ++ c) ++ ((15 : Int), (0 : Int)) :: (b ++ [(14, 0)]) : Is).getD (([] : Is) ++ c).length (0, 0)).1 = 15 := by simp [List.getD_eq_getElem?_getD, List.getElem?_append]
    rw [g5] at h5
    refine Runs.bind (hB he0 _ _ (by rw [hn4]; exact h5) (by simp only [List.length_append, List.length_cons, List.length_nil] at hlen ⊢ <;> omega)) fun z6 h6 => ?_
    obtain ⟨d, hd, h6, hlen6⟩ := h6
    have hn6 := h6.n
    have r4' : z4.1 = (((([] : Is) ++ c) ++ (15, ((((([] : Is) ++ c) ++ (15, 0) :: (b ++ [(14, 0)]) : Is)).length : Int)) :: b : Is).length : Int) := by rw [r4]; simp [Nat.add_assoc] <;> omega
    refine Runs.if_pos ⟨by omega, by rw [r4, hn6]; simp <;> omega⟩ (Runs.if_pos ⟨by rw [r4, hn6]; simp <;> omega, rfl⟩ ?_)
    have h7 := patch h6 (a := z4.1) (v := ((z6.2.2.2.2.1 : Nat) : Int)) (i := ((([] : Is) ++ c) ++ (15, ((((([] : Is) ++ c) ++ (15, 0) :: (b ++ [(14, 0)]) : Is)).length : Int)) :: b : Is).length) (by simp <;> omega) r4'
    have e7 : (((([] : Is) ++ c) ++ (15, ((((([] : Is) ++ c) ++ (15, 0) :: (b ++ [(14, 0)]) : Is)).length : Int)) :: (b ++ [(14, 0)])) ++ d : Is) = ((([] : Is) ++ c) ++ (15, ((((([] : Is) ++ c) ++ (15, 0) :: (b ++ [(14, 0)]) : Is)).length : Int)) :: b) ++ (14, 0) :: d := by simp [List.append_assoc]
    rw [hn6] at h7
    rw [e7] at h7 hn6
    rw [set_mid] at h7
    have g7 : ((((([] : Is) ++ c) ++ (15, ((((([] : Is) ++ c) ++ (15, 0) :: (b ++ [(14, 0)]) : Is)).length : Int)) :: b) ++ ((14 : Int), (0 : Int)) :: d : Is).getD ((([] : Is) ++ c) ++ (15, ((((([] : Is) ++ c) ++ (15, 0) :: (b ++ [(14, 0)]) : Is)).length : Int)) :: b : Is).length (0, 0)).1 = 14 := by
      rw [List.getD_eq_getElem?_getD, List.getElem?_append_right (Nat.le_refl _), Nat.sub_self]; rfl
    rw [g7] at h7
    have hd' : Seg tl (([] : Is).length + c.length + 1 + b.length + 1) d := by
      have e : ((([] : Is) ++ c) ++ (15, ((((([] : Is) ++ c) ++ (15, 0) :: (b ++ [(14, 0)]) : Is)).length : Int)) :: (b ++ [(14, 0)]) : Is).length = ([] : Is).length + c.length + 1 + b.length + 1 := by simp <;> omega
      rw [← e]; exact hd
    refine Runs.some ⟨_, .ite2 hf hc hb' hd', ?_, by simp only [List.length_append, List.length_cons, List.length_nil] at hlen hlen6 ⊢ <;> omega⟩
    rw [hn6]
    have ea : (((([] : Is) ++ c) ++ (15, 0) :: (b ++ [(14, 0)]) : Is).length : Int) = ((([] : Is).length + c.length + 1 + b.length + 1 : Nat) : Int) := by simp <;> omega
    have eb : ((((([] : Is) ++ c) ++ (15, ((((([] : Is) ++ c) ++ (15, 0) :: (b ++ [(14, 0)]) : Is)).length : Int)) :: b) ++ (14, 0) :: d : Is).length : Int) = ((([] : Is).length + c.length + 1 + b.length + 1 + d.length : Nat) : Int) := by simp <;> omega
    rw [eb] at h7 ⊢
    rw [ea] at h7 ⊢
    simpa [List.append_assoc] using h7
  · have hn3 := h3.n
    refine Runs.if_pos ⟨by omega, by rw [r2, hn3]; simp <;> omega⟩ (Runs.if_pos ⟨by rw [r2, hn3]; simp <;> omega, rfl⟩ ?_)
    have h5 := patch h3 (a := z2.1) (v := ((z3.2.2.2.2.1 : Nat) : Int)) (i := (([] : Is) ++ c).length) (by simp <;> omega) r2
    have e5 : ((([] : Is) ++ c ++ [(15, 0)] ++ b : Is)) = (([] : Is) ++ c) ++ (15, 0) :: b := by simp [List.append_assoc]
    rw [hn3] at h5
    rw [e5] at h5 hn3
    rw [set_mid] at h5
    have g5 : (((([] : Is) ++ c) ++ ((15 : Int), (0 : Int)) :: b : Is).getD (([] : Is) ++ c).length (0, 0)).1 = 15 := by simp [List.getD_eq_getElem?_getD, List.getElem?_append]
    rw [g5] at h5
    refine Runs.some ⟨_, .ite1 hf hc hb', ?_, by simp only [List.length_append, List.length_cons, List.length_nil] at hlen ⊢ <;> omega⟩
    rw [hn3]
    have ea : (((([] : Is) ++ c) ++ (15, 0) :: b : Is).length : Int) = ((([] : Is).length + c.length + 1 + b.length : Nat) : Int) := by simp <;> omega
    rw [ea] at h5 ⊢
    simpa [List.append_assoc] using h5
end
end Go.Proofs.Ythegipdgillngaa
/- The code that is made: pieces put together (plain). -/
namespace Go.Proofs.Ythegipdgillngaa
open Go Go.Am Go.Proofs
set_option linter.unusedSimpArgs false
set_option linter.unusedVariables false
set_option maxRecDepth 100000
theorem lp_step {α γ : Type} {st : α → Option (α ⊕ γ)} {q : Nat} {y : α} {P : γ → Prop} (h : Runs (st y) (fun r => Sum.elim (fun y' => Runs (lpG st q y') P) P r)) : Runs (lpG st (q + 1) y) P := by
  obtain ⟨r, h1, h2⟩ := h
  rw [lpG_succ, h1]
  cases r with
  | inl y' => exact h2
  | inr z => exact ⟨z, rfl, h2⟩
section
variable {m : Nat} {y : Nat → Int} {tl : Bool}
def StA (m : Nat) (y : Nat → Int) (tl : Bool) (c : a_stmtA → Option g_stmtA) (e : Nat) : Prop := ∀ (l : Is) (s : MT), MS m y tl l s → l.length < 200 → Runs (c ((e : Int), s)) (SP m y tl e l)
theorem tmU {v : Int} (h : 0 ≤ v ∧ v < 12) : (v < 7 ∧ v.tmod 7 = v) ∨ (7 ≤ v ∧ v.tmod 7 = v - 7) := by
  have : v = 0 ∨ v = 1 ∨ v = 2 ∨ v = 3 ∨ v = 4 ∨ v = 5 ∨ v = 6 ∨ v = 7 ∨ v = 8 ∨ v = 9 ∨ v = 10 ∨ v = 11 := by omega
  rcases this with rfl | rfl | rfl | rfl | rfl | rfl | rfl | rfl | rfl | rfl | rfl | rfl <;> decide
theorem stmtA_runs (hy : ∀ j, j < m → inR (y j)) {q e : Nat} (he2 : e ≤ 2) (hB : 0 < e → Blk m y tl q e) : StA m y tl (made (q + 1)).1 e := by
  intro l s hs hl
  show Runs (t_stmtA (nextA q) (putA q) (condA q) (made q).2 ((e : Int), s) some) _
  unfold t_stmtA
  refine Runs.bind (next_runs hy hs (by omega)) fun z hz => ?_
  obtain ⟨hu, h⟩ := hz
  have key := fun (u : Int) (hu : 0 ≤ u ∧ u < 12) h8 he => chA_runs (q := q) hy he2 hB h hl hu h8 he
  have hU := tmU hu
  have htl := h.tl
  refine Runs.ite (fun ht => ?_) fun ht => ?_
  all_goals
    rw [htl] at ht
    repeat' first
    | exact key z.1 hu (by simp only [decide_eq_true_eq, beq_iff_eq, Bool.not_eq_true] at *; first | (intro; assumption) | omega) (by simp only [decide_eq_true_eq, beq_iff_eq, Bool.not_eq_true] at *; omega)
    | exact key (z.1.tmod 7) (by omega) (by simp only [decide_eq_true_eq, beq_iff_eq, Bool.not_eq_true] at *; first | (intro; assumption) | omega) (by simp only [decide_eq_true_eq, beq_iff_eq, Bool.not_eq_true] at *; omega)
    | refine Runs.ite (fun _ => ?_) (fun _ => ?_)
theorem stmtZ_runs (hy : ∀ j, j < m → inR (y j)) {q e : Nat} (he2 : e ≤ 2) (hB : 0 < e → Blk m y tl q e) (a : Int) : Runs (stmtZ q ((e : Int), m, y, a, tl)) (SP m y tl e []) := by
  show Runs (t_stmtZ (nextZ q) (putA q) (putZ q) (condA q) (condZ q) (made q).2 ((e : Int), m, y, a, tl) some) _
  unfold t_stmtZ
  refine Runs.bind (nextZ_runs hy (by omega)) fun z hz => ?_
  obtain ⟨hu, a', he⟩ := hz
  obtain ⟨v, s⟩ := z
  simp only at he hu
  subst he
  have key := fun (u : Int) (hu : 0 ≤ u ∧ u < 12) h8 he => chZ_runs (q := q) hy he2 hB a' hu h8 he
  have hU := tmU hu
  refine Runs.ite (fun ht => ?_) fun ht => ?_
  all_goals
    simp only at ht
    repeat' first
    | exact key v hu (by simp only [decide_eq_true_eq, beq_iff_eq, Bool.not_eq_true] at *; first | (intro; assumption) | omega) (by simp only [decide_eq_true_eq, beq_iff_eq, Bool.not_eq_true] at *; omega)
    | exact key (v.tmod 7) (by omega) (by simp only [decide_eq_true_eq, beq_iff_eq, Bool.not_eq_true] at *; first | (intro; assumption) | omega) (by simp only [decide_eq_true_eq, beq_iff_eq, Bool.not_eq_true] at *; omega)
    | refine Runs.ite (fun _ => ?_) (fun _ => ?_)
theorem BP.none {e : Nat} {l : Is} {s : MT} (h : MS m y tl l s) : BP m y tl e l s := ⟨[], .nil _, by simpa using h, .inr (by simp)⟩
theorem BP.next {e : Nat} {l s : Is} {z : MT} (h : Seg tl l.length s) (hl : (l ++ s).length ≤ 206 + 2 * e) (g : BP m y tl e (l ++ s) z) : BP m y tl e l z := by
  obtain ⟨t, h1, h2, h3⟩ := g
  refine ⟨s ++ t, .app h (by simpa using h1), by simpa [List.append_assoc] using h2, .inl ?_⟩
  rw [← List.append_assoc]
  rcases h3 with h3 | h3 <;> omega
theorem loopA_runs {x : a_blockA} {cN : a_nextA → Option g_nextA} {cS : a_stmtA → Option g_stmtA} {e : Nat} (hx : x.2.1 = e) (hst : StA m y tl cS e) : ∀ (r q : Nat) (k i : Int) (l : Is) (s : MT), 0 ≤ i → k ≤ 10 → k ≤ i + r → r < q → MS m y tl l s → Runs (blockA_l0 cN cS q x (k, s.1, s.2.1, s.2.2.1, s.2.2.2.1, s.2.2.2.2.1, s.2.2.2.2.2.1, s.2.2.2.2.2.2, i)) (BP m y tl e l) := by
  intro r
  induction r with
  | zero =>
    intro q k i l s h0 hk hr hq hs
    obtain ⟨q, rfl⟩ : ∃ q', q = q' + 1 := ⟨q - 1, by omega⟩
    refine lp_step ?_
    unfold blockA_l0_t
    exact Runs.if_neg (by simp; omega) (Runs.some (BP.none hs))
  | succ r ih =>
    intro q k i l s h0 hk hr hq hs
    obtain ⟨q, rfl⟩ : ∃ q', q = q' + 1 := ⟨q - 1, by omega⟩
    refine lp_step ?_
    unfold blockA_l0_t
    refine Runs.ite (fun h1 => ?_) fun _ => Runs.some (BP.none hs)
    refine Runs.ite (fun h2 => ?_) fun _ => Runs.some (BP.none hs)
    simp only [decide_eq_true_eq] at h1 h2
    have hn := hs.n
    rw [hn] at h2
    refine Runs.bind (P := SP m y tl e l) (by rw [hx]; exact hst l s hs (by omega)) fun z hz => Runs.some ?_
    obtain ⟨t, t1, t2, t3⟩ := hz
    have ew : w (i + 1) = i + 1 := w_in (by unfold inR; omega)
    show Runs (lpG _ q _) _
    refine Runs.mono (ih q k (w (i + 1)) (l ++ t) z (by omega) hk (by omega) (by omega) t2) fun z' hz' => BP.next t1 t3 hz'
theorem loopZ_runs {x : a_blockZ} {cN : a_nextZ → Option g_nextZ} {cS : a_stmtA → Option g_stmtA} {cZ : a_stmtZ → Option g_stmtZ} {e : Nat} (hx : x.2.1 = e) (hst : StA m y tl cS e) : ∀ (r q : Nat) (k i : Int) (l : Is) (s : MT), 0 ≤ i → k ≤ 10 → k ≤ i + r → r < q → MS m y tl l s → Runs (blockZ_l0 cN cS cZ q x (.inr (k, s.1, s.2.1, s.2.2.1, s.2.2.2.1, s.2.2.2.2.1, s.2.2.2.2.2.1, s.2.2.2.2.2.2, i))) (fun z => Sum.elim (fun _ => False) (BP m y tl e l) z) := by
  intro r
  induction r with
  | zero =>
    intro q k i l s h0 hk hr hq hs
    obtain ⟨q, rfl⟩ : ∃ q', q = q' + 1 := ⟨q - 1, by omega⟩
    refine lp_step ?_
    simp only [Sum.elim_inr]
    unfold blockZ_l0_t1
    exact Runs.if_neg (by simp; omega) (Runs.some (BP.none hs))
  | succ r ih =>
    intro q k i l s h0 hk hr hq hs
    obtain ⟨q, rfl⟩ : ∃ q', q = q' + 1 := ⟨q - 1, by omega⟩
    refine lp_step ?_
    simp only [Sum.elim_inr]
    unfold blockZ_l0_t1
    refine Runs.ite (fun h1 => ?_) fun _ => Runs.some (BP.none hs)
    refine Runs.ite (fun h2 => ?_) fun _ => Runs.some (BP.none hs)
    simp only [decide_eq_true_eq] at h1 h2
    have hn := hs.n
    rw [hn] at h2
    refine Runs.bind (P := SP m y tl e l) (by rw [hx]; exact hst l s hs (by omega)) fun z hz => Runs.some ?_
    obtain ⟨t, t1, t2, t3⟩ := hz
    have ew : w (i + 1) = i + 1 := w_in (by unfold inR; omega)
    show Runs (lpG _ q _) _
    refine Runs.mono (ih q k (w (i + 1)) (l ++ t) z (by omega) hk (by omega) (by omega) t2) fun z' hz' => ?_
    cases z' with
    | inl _ => exact hz'
    | inr z' => exact BP.next t1 t3 hz'
theorem blockA_runs (hy : ∀ j, j < m → inR (y j)) {q e : Nat} (hq : 7 ≤ q) (hst : StA m y tl (made q).1 e) {d : Int} (hd : 0 ≤ d ∧ d ≤ 5) {l : Is} {s : MT} (hs : MS m y tl l s) : Runs ((made (q + 1)).2 (d, (e : Int), s)) (BP m y tl e l) := by
  show Runs (t_blockA (nextA q) (made q).1 (blockA_l0 (nextA q) (made q).1 q (d, (e : Int), s)) (d, (e : Int), s) some) _
  unfold t_blockA
  have ew : w (d + 1) = d + 1 := w_in (by unfold inR; omega)
  refine Runs.bind (next_runs hy hs (by simp only; omega)) fun z hz => ?_
  obtain ⟨g, h⟩ := hz
  simp only at g
  refine Runs.bind (P := BP m y tl e l) ?_ fun z' hz' => Runs.some hz'
  exact loopA_runs rfl hst 6 q z.1 0 l z.2 (by omega) (by omega) (by omega) (by omega) h
theorem levels (hy : ∀ j, j < m → inR (y j)) : ∀ (e : Nat), e ≤ 2 → ∀ q, 10 + 2 * e ≤ q → StA m y tl (made q).1 e := by
  intro e
  induction e with
  | zero =>
    intro _ q hq
    obtain ⟨q, rfl⟩ : ∃ q', q = q' + 1 := ⟨q - 1, by omega⟩
    exact stmtA_runs hy (by omega) (fun h => absurd h (by omega))
  | succ e ih =>
    intro he q hq
    obtain ⟨q, rfl⟩ : ∃ q', q = q' + 1 + 1 := ⟨q - 2, by omega⟩
    refine stmtA_runs hy he fun _ l s hs hl => ?_
    have ew : w (((e + 1 : Nat) : Int) - 1) = (e : Int) := by rw [w_in (by unfold inR; omega)]; omega
    rw [ew]
    exact blockA_runs hy (by omega) (ih (by omega) q (by omega)) (by omega) hs
theorem blk2 (hy : ∀ j, j < m → inR (y j)) {q : Nat} (hq : 14 ≤ q) : Blk m y tl q 2 := by
  intro l s hs hl
  obtain ⟨q, rfl⟩ : ∃ q', q = q' + 1 := ⟨q - 1, by omega⟩
  have ew : w (((2 : Nat) : Int) - 1) = ((1 : Nat) : Int) := by decide
  rw [ew]
  exact blockA_runs hy (by omega) (levels hy 1 (by omega) q (by omega)) (by omega) hs
/-- A block from nothing on. -/
def BZ (m : Nat) (y : Nat → Int) (tl : Bool) (z : g_blockZ) : Prop := Sum.elim (fun z => ∃ s, Seg tl 0 s ∧ MS m y tl s z ∧ s.length ≤ 210) (fun z => ∃ a, z = (m, y, a, tl)) z
theorem blockZ_runs (hy : ∀ j, j < m → inR (y j)) {q : Nat} (hq : 20 ≤ q) (a : Int) : Runs (blockZ q (5, 2, m, y, a, tl)) (BZ m y tl) := by
  show Runs (t_blockZ (nextZ q) (stmtA q) (stmtZ q) (blockZ_l0 (nextZ q) (stmtA q) (stmtZ q) q (5, 2, m, y, a, tl)) (5, 2, m, y, a, tl) some) _
  unfold t_blockZ
  refine Runs.bind (nextZ_runs hy (show (0 : Int) < w (5 + 1) by decide)) fun z hz => ?_
  obtain ⟨g, a', he⟩ := hz
  obtain ⟨v, s⟩ := z
  simp only at he g
  subst he
  have e6 : w ((5 : Int) + 1) = 6 := by decide
  rw [e6] at g
  have hl : Runs (blockZ_l0 (nextZ q) (stmtA q) (stmtZ q) q (5, 2, m, y, a, tl) (.inl (v, m, y, a', tl))) (fun z => Sum.elim (fun z => ∃ a, z = (m, y, a, tl)) (fun z => ∃ s, Seg tl 0 s ∧ MS m y tl s z ∧ s.length ≤ 210) z) := by
    obtain ⟨q, rfl⟩ : ∃ q', q = q' + 1 := ⟨q - 1, by omega⟩
    refine lp_step ?_
    simp only [Sum.elim_inl]
    unfold blockZ_l0_t0
    refine Runs.ite (fun h1 => ?_) fun _ => Runs.some ⟨a', rfl⟩
    refine Runs.bind (stmtZ_runs (e := 2) hy (by omega) (fun _ => blk2 hy (by omega)) a') fun z hz => Runs.some ?_
    obtain ⟨t, t1, t2, t3⟩ := hz
    refine Runs.mono (loopZ_runs (e := 2) (x := (5, 2, m, y, a, tl)) (cS := stmtA (q + 1)) rfl (levels hy 2 (by omega) (q + 1) (by omega)) 6 q v 1 ([] ++ t) z (by omega) (by omega) (by omega) (by omega) t2) fun z' hz' => ?_
    cases z' with
    | inl _ => exact hz'.elim
    | inr z' =>
      obtain ⟨r, r1, r2, r3⟩ := BP.next (l := []) t1 t3 hz'
      exact ⟨r, r1, r2, by simp only [List.nil_append, List.length_nil] at r3; omega⟩
  refine Runs.bind hl fun z hz => ?_
  cases z with
  | inl z => exact Runs.some hz
  | inr z => exact Runs.some hz
end
end Go.Proofs.Ythegipdgillngaa
/- Ints, Code, changed; the laws, walked. -/
namespace Go.Proofs.Ythegipdgillngaa
open Go Go.Am Go.Proofs
set_option linter.unusedSimpArgs false
set_option linter.unusedVariables false
set_option maxRecDepth 100000
def pName : ByteArray := { data := #[(112 : UInt8)] }
def mk6 (a b c d e f : Nat → Int) (q : Nat) : Nat → Int := match q with | 0 => a | 1 => b | 2 => c | 3 => d | 4 => e | _ => f
abbrev aCert : Type := ByteArray × Int × Int × Nat × (Nat → Int) × (Nat → Int) × Nat × (Nat → Int) × (Nat → Int) × (Nat → Int) × Int × Int
noncomputable def certO (x : aCert) : Int × Nat × (Nat → Int) × (Nat → Int) × (Nat → Int) × (Nat → Int) × (Nat → Int) × (Nat → Int) :=
  (chkV x.2.1 x.2.2.1 x.2.2.2.1 x.2.2.2.2.1 x.2.2.2.2.2.1 x.2.2.2.2.2.2.1 x.2.2.2.2.2.2.2.1 x.2.2.2.2.2.2.2.2.1 x.2.2.2.2.2.2.2.2.2.1 x.2.2.2.2.2.2.2.2.2.2.1 x.2.2.2.2.2.2.2.2.2.2.2,
   certN x.2.1 x.2.2.1 x.2.2.2.1 x.2.2.2.2.1 x.2.2.2.2.2.1 x.2.2.2.2.2.2.1 x.2.2.2.2.2.2.2.1 x.2.2.2.2.2.2.2.2.1 x.2.2.2.2.2.2.2.2.2.1 x.2.2.2.2.2.2.2.2.2.2.1 x.2.2.2.2.2.2.2.2.2.2.2,
   certF x.2.2.1 x.2.2.2.1 x.2.2.2.2.1 x.2.2.2.2.2.1 x.2.2.2.2.2.2.2.1 x.2.2.2.2.2.2.2.2.1 x.2.2.2.2.2.2.2.2.2.2.1 x.2.2.2.2.2.2.2.2.2.2.2 0,
   certF x.2.2.1 x.2.2.2.1 x.2.2.2.2.1 x.2.2.2.2.2.1 x.2.2.2.2.2.2.2.1 x.2.2.2.2.2.2.2.2.1 x.2.2.2.2.2.2.2.2.2.2.1 x.2.2.2.2.2.2.2.2.2.2.2 1,
   certF x.2.2.1 x.2.2.2.1 x.2.2.2.2.1 x.2.2.2.2.2.1 x.2.2.2.2.2.2.2.1 x.2.2.2.2.2.2.2.2.1 x.2.2.2.2.2.2.2.2.2.2.1 x.2.2.2.2.2.2.2.2.2.2.2 2,
   certF x.2.2.1 x.2.2.2.1 x.2.2.2.2.1 x.2.2.2.2.2.1 x.2.2.2.2.2.2.2.1 x.2.2.2.2.2.2.2.2.1 x.2.2.2.2.2.2.2.2.2.2.1 x.2.2.2.2.2.2.2.2.2.2.2 3,
   certF x.2.2.1 x.2.2.2.1 x.2.2.2.2.1 x.2.2.2.2.2.1 x.2.2.2.2.2.2.2.1 x.2.2.2.2.2.2.2.2.1 x.2.2.2.2.2.2.2.2.2.2.1 x.2.2.2.2.2.2.2.2.2.2.2 4,
   certF x.2.2.1 x.2.2.2.1 x.2.2.2.2.1 x.2.2.2.2.2.1 x.2.2.2.2.2.2.2.1 x.2.2.2.2.2.2.2.2.1 x.2.2.2.2.2.2.2.2.2.2.1 x.2.2.2.2.2.2.2.2.2.2.2 5)
abbrev aCver : Type := ByteArray × Int × Int × Nat × (Nat → Int) × (Nat → Int) × Nat × (Nat → Int) × (Nat → Int) × (Nat → Int) × Int × Int × Nat × (Nat → Int) × (Nat → Int) × (Nat → Int) × (Nat → Int) × (Nat → Int) × (Nat → Int)
noncomputable def cverO (x : aCver) : Int := cverV x.2.1 x.2.2.1 x.2.2.2.1 x.2.2.2.2.1 x.2.2.2.2.2.1 x.2.2.2.2.2.2.1 x.2.2.2.2.2.2.2.1 x.2.2.2.2.2.2.2.2.1 x.2.2.2.2.2.2.2.2.2.1 x.2.2.2.2.2.2.2.2.2.2.1 x.2.2.2.2.2.2.2.2.2.2.2.1 x.2.2.2.2.2.2.2.2.2.2.2.2.1 (mk6 x.2.2.2.2.2.2.2.2.2.2.2.2.2.1 x.2.2.2.2.2.2.2.2.2.2.2.2.2.2.1 x.2.2.2.2.2.2.2.2.2.2.2.2.2.2.2.1 x.2.2.2.2.2.2.2.2.2.2.2.2.2.2.2.2.1 x.2.2.2.2.2.2.2.2.2.2.2.2.2.2.2.2.2.1 x.2.2.2.2.2.2.2.2.2.2.2.2.2.2.2.2.2.2)
abbrev a_Ints : Type := Nat × (Nat → Int) × Int
abbrev g_Ints : Type := (Unit) ⊕ (Nat × (Nat → Int))
def A_Ints : a_Ints → List V × List (Option Chunk) := (fun x => (fun (n : Nat) (y : Nat → Int) (k : Int) => (([.ro 1 n (fun j => [i64 (y j)]), i64 k] : List V), ([] : List (Option Chunk)))) x.1 x.2.1 x.2.2)
def R_Ints : g_Ints → CRes := Sum.elim ((fun z => CRes.ret (nilS) [] : (Unit) → CRes)) ((fun z => CRes.ret (V.sl 0 1 0 (z.1)) [some (Chunk.row 3 1 (z.1) fun (j : Nat) => [i64 (z.2 j)])] : (Nat × (Nat → Int)) → CRes))
def t_Ints {β : Type} (x : a_Ints) (dn : g_Ints → Option β) : Option β :=
 if (0 : Int) ≤ (0 : Int) ∧ ((0 : Int) ≤ if x.2.2 < ((x.1 : Nat) : Int) then x.2.2 else ((x.1 : Nat) : Int)) ∧ (if x.2.2 < ((x.1 : Nat) : Int) then x.2.2 else ((x.1 : Nat) : Int)) ≤ ((x.1 : Nat) : Int) then
  if Int.toNat (if x.2.2 < ((x.1 : Nat) : Int) then x.2.2 else ((x.1 : Nat) : Int)) - 0 = 0 then
   dn (.inl ())
  else
   if (Int.toNat (if x.2.2 < ((x.1 : Nat) : Int) then x.2.2 else ((x.1 : Nat) : Int)) - 0) * 8 ≤ roomBound ∧ Int.toNat (if x.2.2 < ((x.1 : Nat) : Int) then x.2.2 else ((x.1 : Nat) : Int)) - 0 ≤ maxLen then
    dn (.inr ((Int.toNat (if x.2.2 < ((x.1 : Nat) : Int) then x.2.2 else ((x.1 : Nat) : Int)) - 0, fun (j : Nat) => x.2.1 (0 + j))))
   else
    none
 else
  none
theorem n_Ints {β : Type} (x : a_Ints) (dn : g_Ints → Option β) : t_Ints x dn = (t_Ints x some).bind dn := by
  unfold t_Ints
  repeat' first | exact free_none | refine free_bind (fun z => ?_) | refine free_ite ?_ ?_ | refine free_sum (fun z => ?_) (fun z => ?_) | rfl
theorem r_Ints (x : a_Ints) : callK E3 ca0 lo0 35 (A_Ints x).1 (A_Ints x).2 K = t_Ints x (fun z => some (.c (R_Ints z))) := by kernel_rfl
theorem s_Ints (q : Nat) (x : a_Ints) (z : g_Ints) (h : t_Ints x some = some z) : SC E3 35 (A_Ints x).1 (A_Ints x).2 (R_Ints z) := by
  refine SC.of hW3 hX3 ca0_sound lo0_sound ((r_Ints x).trans ?_)
  rw [n_Ints, h]; rfl
noncomputable def Ints (q : Nat) (x : a_Ints) : Option g_Ints := t_Ints x some
theorem sc_Ints (q : Nat) : ∀ (x : a_Ints) (z : g_Ints), Ints q x = some z → SC E3 35 (A_Ints x).1 (A_Ints x).2 (R_Ints z) := fun x z h => s_Ints q x z h
abbrev a_IntsR : Type := Nat × (Nat → Int)
abbrev g_IntsR : Type := Nat × (Nat → Int)
def A_IntsR : a_IntsR → List V × List (Option Chunk) := (fun x => (fun (n : Nat) (y : Nat → Int) => (([.ro 1 n (fun j => [i64 (y j)]), i64 120] : List V), ([] : List (Option Chunk)))) x.1 x.2)
def d_IntsR (t : List V × List (Option Chunk)) : a_IntsR := ((vRoN (t.1.getD 0 .junk)), (fun j => (vI (((vRoF (t.1.getD 0 .junk)) j).getD 0 .junk))))
theorem i_IntsR : ∀ x y, A_IntsR x = A_IntsR y → x = y := fun x y h => (congrArg d_IntsR h :)
def R_IntsR : g_IntsR → CRes := (fun z => (fun (n : Nat) (y : Nat → Int) => .ret (.ro 1 n (fun j => [i64 (y j)])) []) z.1 z.2 : (Nat × (Nat → Int)) → CRes)
def x_IntsR (z : g_IntsR) (k : CRes → Option Ans) : Option Ans := k (R_IntsR z)
theorem xe_IntsR : ∀ z k, x_IntsR z k = k (R_IntsR z) := fun z k => rfl
noncomputable def IntsR (q : Nat) (x : a_IntsR) : Option g_IntsR := (Ints q (x.1, x.2, 120)).map fun z => Sum.elim (fun _ => (0, x.2)) id z
theorem sc_IntsR (q : Nat) : ∀ (x : a_IntsR) (z : g_IntsR), IntsR q x = some z → SC E3 35 (A_IntsR x).1 (A_IntsR x).2 (R_IntsR z) := by
  intro x z h
  unfold IntsR at h
  cases hI : Ints q (x.1, x.2, 120) with
  | none => rw [hI] at h; cases h
  | some r =>
    rw [hI] at h
    simp only [Option.map_some, Option.some.injEq] at h
    have g := sc_Ints q _ _ hI
    subst h
    cases r with
    | inl _ => exact g.le Le.nil_ro
    | inr r => exact (SC.give g (by simp [V.bw, V.bw2, V.bw1, hp, V.pure, pureL])).le (Le.of_eq (by simp [V.bw, V.bw2, V.bw1, hp]))
abbrev a_Code : Type := Bool × Nat × (Nat → Int)
abbrev g_Code : Type := Nat × (Nat → Int) × (Nat → Int)
def A_Code : a_Code → List V × List (Option Chunk) := (fun x => (fun (tl : Bool) (n : Nat) (y : Nat → Int) => (([.ro 1 n (fun j => [i64 (y j)]), bo tl] : List V), ([] : List (Option Chunk)))) x.1 x.2.1 x.2.2)
def R_Code : g_Code → CRes := (fun z => CRes.ret (V.agg [st { data := #[(112 : UInt8)] }, i64 (0 : Int), i64 (0 : Int), V.sl 0 2 0 (z.1)]) [some (Chunk.row 74 2 (z.1) fun (j : Nat) => [i64 (z.2.1 j), i64 (z.2.2 j)])] : (Nat × (Nat → Int) × (Nat → Int)) → CRes)
def t_Code {β : Type} (c_IntsR : a_IntsR → Option g_IntsR) (c_blockZ : a_blockZ → Option g_blockZ) (c_putA : a_putA → Option g_putA) (c_putZ : a_putZ → Option g_putZ) (x : a_Code) (dn : g_Code → Option β) : Option β :=
 (c_IntsR (x.2)).bind fun z2 =>
  (c_blockZ (((5 : Int), (2 : Int), z2.1, z2.2, (0 : Int), x.1))).bind fun z9 =>
   Sum.elim (fun z9a =>
   (c_putA (((28 : Int), (0 : Int), z9a))).bind fun z19 =>
    dn (z19.2.2.2.2.2)) (fun z9b =>
   (c_putZ (((28 : Int), (0 : Int), z9b))).bind fun z27 =>
    dn ((1, z27.2.2.2.2))) z9
theorem n_Code {β : Type} (c_IntsR : a_IntsR → Option g_IntsR) (c_blockZ : a_blockZ → Option g_blockZ) (c_putA : a_putA → Option g_putA) (c_putZ : a_putZ → Option g_putZ) (x : a_Code) (dn : g_Code → Option β) : t_Code c_IntsR c_blockZ c_putA c_putZ x dn = (t_Code c_IntsR c_blockZ c_putA c_putZ x some).bind dn := by
  unfold t_Code
  repeat' first | exact free_none | refine free_bind (fun z => ?_) | refine free_ite ?_ ?_ | refine free_sum (fun z => ?_) (fun z => ?_) | rfl
theorem r_Code (c_IntsR : a_IntsR → Option g_IntsR) (c_blockZ : a_blockZ → Option g_blockZ) (c_putA : a_putA → Option g_putA) (c_putZ : a_putZ → Option g_putZ) (x : a_Code) : callK E3 (ftab 35 (fun _ _ => true) A_IntsR x_IntsR c_IntsR (ftab 36 (fun _ L => L.length == 1) A_blockZ x_blockZ c_blockZ (ftab 37 (fun _ L => L.length == 2) A_putA x_putA c_putA (ftab 37 (fun _ L => L.length == 1) A_putZ x_putZ c_putZ ca0)))) lo0 12 (A_Code x).1 (A_Code x).2 K = t_Code (fun x => viaF A_IntsR c_IntsR (A_IntsR x)) (fun x => viaF A_blockZ c_blockZ (A_blockZ x)) (fun x => viaF A_putA c_putA (A_putA x)) (fun x => viaF A_putZ c_putZ (A_putZ x)) x (fun z => some (.c (R_Code z))) := by kernel_rfl
theorem s_Code (c_IntsR : a_IntsR → Option g_IntsR) (h_IntsR : ∀ x z, c_IntsR x = some z → SC E3 35 (A_IntsR x).1 (A_IntsR x).2 (R_IntsR z)) (c_blockZ : a_blockZ → Option g_blockZ) (h_blockZ : ∀ x z, c_blockZ x = some z → SC E3 36 (A_blockZ x).1 (A_blockZ x).2 (R_blockZ z)) (c_putA : a_putA → Option g_putA) (h_putA : ∀ x z, c_putA x = some z → SC E3 37 (A_putA x).1 (A_putA x).2 (R_putA z)) (c_putZ : a_putZ → Option g_putZ) (h_putZ : ∀ x z, c_putZ x = some z → SC E3 37 (A_putZ x).1 (A_putZ x).2 (R_putZ z)) (q : Nat) (x : a_Code) (z : g_Code) (h : t_Code c_IntsR c_blockZ c_putA c_putZ x some = some z) : SC E3 12 (A_Code x).1 (A_Code x).2 (R_Code z) := by
  refine SC.of hW3 hX3 (ftab_cons h_IntsR xe_IntsR (ftab_cons h_blockZ xe_blockZ (ftab_cons h_putA xe_putA (ftab_cons h_putZ xe_putZ ca0_sound)))) lo0_sound ((r_Code c_IntsR c_blockZ c_putA c_putZ x).trans ?_)
  rw [via_eq i_IntsR c_IntsR, via_eq i_blockZ c_blockZ, via_eq i_putA c_putA, via_eq i_putZ c_putZ, n_Code, h]; rfl
noncomputable def Code (q : Nat) (x : a_Code) : Option g_Code := t_Code (IntsR q) (blockZ q) (putA q) (putZ q) x some
theorem sc_Code (q : Nat) : ∀ (x : a_Code) (z : g_Code), Code q x = some z → SC E3 12 (A_Code x).1 (A_Code x).2 (R_Code z) := fun x z h => s_Code (IntsR q) (sc_IntsR q) (blockZ q) (sc_blockZ q) (putA q) (sc_putA q) (putZ q) (sc_putZ q) q x z h
abbrev a_Around : Type := Int × Int
abbrev g_Around : Type := Int
def t_Around {β : Type} (x : a_Around) (dn : g_Around → Option β) : Option β :=
 if decide (x.1 < (0 : Int)) = true then
  if x.2 = (0 : Int) then
   none
  else
   dn (Int.tmod (w ((0 : Int) - w (x.1 + (1 : Int)))) (x.2))
 else
  if x.2 = (0 : Int) then
   none
  else
   dn (Int.tmod (x.1) (x.2))
noncomputable def Around (q : Nat) (x : a_Around) : Option g_Around := t_Around x some
abbrev a_Bound : Type := Int × Int
abbrev g_Bound : Type := Int
def t_Bound {β : Type} (c_Around : a_Around → Option g_Around) (x : a_Bound) (dn : g_Bound → Option β) : Option β :=
 (c_Around ((x.1, w (w ((2 : Int) * x.2) + (1 : Int))))).bind fun z2 =>
  dn (w (z2 - x.2))
noncomputable def Bound (q : Nat) (x : a_Bound) : Option g_Bound := t_Bound (Around q) x some
abbrev a_changed : Type := Nat × (Nat → Int) × (Nat → Int) × (Nat → Int) × (Nat → Int) × (Nat → Int) × (Nat → Int) × Nat × (Nat → Int)
abbrev g_changed : Type := (Unit) ⊕ (Nat × (Nat → Int) × (Nat → Int) × (Nat → Int) × (Nat → Int) × (Nat → Int) × (Nat → Int))
abbrev changed_l0_a : Type := Unit
abbrev changed_l0_g : Type := Unit
def changed_l0_t {β : Type} (c_Around : a_Around → Option g_Around) (c_Bound : a_Bound → Option g_Bound) (x : a_changed) (y : changed_l0_a) (nx : changed_l0_a → Option β) (dn : changed_l0_g → Option β) : Option β :=
 if decide ((2 : Int) < ((x.2.2.2.2.2.2.2.1 : Nat) : Int)) = true then
  dn ()
 else
  dn ()
noncomputable def changed_l0 (c_Around : a_Around → Option g_Around) (c_Bound : a_Bound → Option g_Bound) (q : Nat) (x : a_changed) : changed_l0_a → Option changed_l0_g := lpG (fun y => changed_l0_t c_Around c_Bound x y (fun y => some (.inl y)) (fun z => some (.inr z))) q
abbrev changed_l0_1_a : Type := Int × (Nat → Int) × (Nat → Int) × (Nat → Int) × (Nat → Int) × (Nat → Int) × (Nat → Int)
abbrev changed_l0_1_g : Type := (Nat → Int) × (Nat → Int) × (Nat → Int) × (Nat → Int) × (Nat → Int) × (Nat → Int)
def changed_l0_1_t {β : Type} (c_Around : a_Around → Option g_Around) (c_Bound : a_Bound → Option g_Bound) (x : a_changed) (y : changed_l0_1_a) (nx : changed_l0_1_a → Option β) (dn : changed_l0_1_g → Option β) : Option β :=
 if decide (w (y.1 + (2 : Int)) < ((x.2.2.2.2.2.2.2.1 : Nat) : Int)) = true then
  if decide (y.1 < (30 : Int)) = true then
   if decide (((x.1 : Nat) : Int) > (0 : Int)) = true then
    if (0 : Int) ≤ y.1 ∧ y.1 < ((x.2.2.2.2.2.2.2.1 : Nat) : Int) then
     (c_Around ((x.2.2.2.2.2.2.2.2 (Int.toNat (y.1)), ((x.1 : Nat) : Int)))).bind fun z120 =>
      if (0 : Int) ≤ w (y.1 + (2 : Int)) ∧ w (y.1 + (2 : Int)) < ((x.2.2.2.2.2.2.2.1 : Nat) : Int) then
       (c_Bound ((x.2.2.2.2.2.2.2.2 (Int.toNat (w (y.1 + (2 : Int)))), (1000 : Int)))).bind fun z123 =>
        if (0 : Int) ≤ w (y.1 + (1 : Int)) ∧ w (y.1 + (1 : Int)) < ((x.2.2.2.2.2.2.2.1 : Nat) : Int) then
         (c_Around ((x.2.2.2.2.2.2.2.2 (Int.toNat (w (y.1 + (1 : Int)))), (6 : Int)))).bind fun z126 =>
          if (z126 == (0 : Int)) = true then
           if (0 : Int) ≤ z120 ∧ z120 < ((x.1 : Nat) : Int) then
            if 0 + Int.toNat z120 < x.1 ∧ 6 = 6 then
             if (0 : Int) ≤ z120 ∧ z120 < ((x.1 : Nat) : Int) then
              if 0 + Int.toNat z120 < x.1 ∧ 6 = 6 then
               nx ((w (y.1 + (3 : Int)), fun (j : Nat) => if j = 0 + Int.toNat z120 then w (y.2.1 (0 + Int.toNat z120) + z123) else y.2.1 j, y.2.2))
              else
               none
             else
              none
            else
             none
           else
            none
          else
           if (z126 == (1 : Int)) = true then
            if (0 : Int) ≤ z120 ∧ z120 < ((x.1 : Nat) : Int) then
             if 0 + Int.toNat z120 < x.1 ∧ 6 = 6 then
              if (0 : Int) ≤ z120 ∧ z120 < ((x.1 : Nat) : Int) then
               if 0 + Int.toNat z120 < x.1 ∧ 6 = 6 then
                nx ((w (y.1 + (3 : Int)), y.2.1, fun (j : Nat) => if j = 0 + Int.toNat z120 then w (y.2.2.1 (0 + Int.toNat z120) + z123) else y.2.2.1 j, y.2.2.2))
               else
                none
              else
               none
             else
              none
            else
             none
           else
            if (z126 == (2 : Int)) = true then
             if (0 : Int) ≤ z120 ∧ z120 < ((x.1 : Nat) : Int) then
              if 0 + Int.toNat z120 < x.1 ∧ 6 = 6 then
               if (0 : Int) ≤ z120 ∧ z120 < ((x.1 : Nat) : Int) then
                if 0 + Int.toNat z120 < x.1 ∧ 6 = 6 then
                 nx ((w (y.1 + (3 : Int)), y.2.1, y.2.2.1, fun (j : Nat) => if j = 0 + Int.toNat z120 then w (y.2.2.2.1 (0 + Int.toNat z120) + z123) else y.2.2.2.1 j, y.2.2.2.2))
                else
                 none
               else
                none
              else
               none
             else
              none
            else
             if (z126 == (3 : Int)) = true then
              if (0 : Int) ≤ z120 ∧ z120 < ((x.1 : Nat) : Int) then
               if 0 + Int.toNat z120 < x.1 ∧ 6 = 6 then
                if (0 : Int) ≤ z120 ∧ z120 < ((x.1 : Nat) : Int) then
                 if 0 + Int.toNat z120 < x.1 ∧ 6 = 6 then
                  nx ((w (y.1 + (3 : Int)), y.2.1, y.2.2.1, y.2.2.2.1, fun (j : Nat) => if j = 0 + Int.toNat z120 then w (y.2.2.2.2.1 (0 + Int.toNat z120) + z123) else y.2.2.2.2.1 j, y.2.2.2.2.2))
                 else
                  none
                else
                 none
               else
                none
              else
               none
             else
              if (z126 == (4 : Int)) = true then
               if (0 : Int) ≤ z120 ∧ z120 < ((x.1 : Nat) : Int) then
                if 0 + Int.toNat z120 < x.1 ∧ 6 = 6 then
                 if (0 : Int) ≤ z120 ∧ z120 < ((x.1 : Nat) : Int) then
                  if 0 + Int.toNat z120 < x.1 ∧ 6 = 6 then
                   nx ((w (y.1 + (3 : Int)), y.2.1, y.2.2.1, y.2.2.2.1, y.2.2.2.2.1, fun (j : Nat) => if j = 0 + Int.toNat z120 then w (y.2.2.2.2.2.1 (0 + Int.toNat z120) + z123) else y.2.2.2.2.2.1 j, y.2.2.2.2.2.2))
                  else
                   none
                 else
                  none
                else
                 none
               else
                none
              else
               if (0 : Int) ≤ z120 ∧ z120 < ((x.1 : Nat) : Int) then
                if 0 + Int.toNat z120 < x.1 ∧ 6 = 6 then
                 if (0 : Int) ≤ z120 ∧ z120 < ((x.1 : Nat) : Int) then
                  if 0 + Int.toNat z120 < x.1 ∧ 6 = 6 then
                   nx ((w (y.1 + (3 : Int)), y.2.1, y.2.2.1, y.2.2.2.1, y.2.2.2.2.1, y.2.2.2.2.2.1, fun (j : Nat) => if j = 0 + Int.toNat z120 then w (y.2.2.2.2.2.2 (0 + Int.toNat z120) + z123) else y.2.2.2.2.2.2 j))
                  else
                   none
                 else
                  none
                else
                 none
               else
                none
        else
         none
      else
       none
    else
     none
   else
    dn (y.2)
  else
   dn (y.2)
 else
  dn (y.2)
noncomputable def changed_l0_1 (c_Around : a_Around → Option g_Around) (c_Bound : a_Bound → Option g_Bound) (q : Nat) (x : a_changed) : changed_l0_1_a → Option changed_l0_1_g := lpG (fun y => changed_l0_1_t c_Around c_Bound x y (fun y => some (.inl y)) (fun z => some (.inr z))) q
def t_changed {β : Type} (c_Around : a_Around → Option g_Around) (c_Bound : a_Bound → Option g_Bound) (l_changed_l0 : changed_l0_a → Option changed_l0_g) (l_changed_l0_1 : changed_l0_1_a → Option changed_l0_1_g) (x : a_changed) (dn : g_changed → Option β) : Option β :=
 if x.1 = 0 then
  (l_changed_l0 ()).bind fun z0 =>
   dn (.inl ())
 else
  if x.1 * 48 ≤ roomBound ∧ x.1 ≤ maxLen then
   (l_changed_l0_1 (((0 : Int), x.2.1, x.2.2.1, x.2.2.2.1, x.2.2.2.2.1, x.2.2.2.2.2.1, x.2.2.2.2.2.2.1))).bind fun z99 =>
    dn (.inr ((x.1, z99)))
  else
   none
noncomputable def changed (q : Nat) (x : a_changed) : Option g_changed := t_changed (Around q) (Bound q) (changed_l0 (Around q) (Bound q) q x) (changed_l0_1 (Around q) (Bound q) q x) x some
abbrev a_CodeR : Type := Bool × Nat × (Nat → Int)
abbrev g_CodeR : Type := Nat × (Nat → Int) × (Nat → Int)
def A_CodeR : a_CodeR → List V × List (Option Chunk) := (fun x => (fun (tl : Bool) (n : Nat) (y : Nat → Int) => (([.ro 1 n (fun j => [i64 (y j)]), bo tl] : List V), ([] : List (Option Chunk)))) x.1 x.2.1 x.2.2)
def d_CodeR (t : List V × List (Option Chunk)) : a_CodeR := ((vB (t.1.getD 1 .junk)), (vRoN (t.1.getD 0 .junk)), (fun j => (vI ((vRoF (t.1.getD 0 .junk) j).getD 0 .junk))))
theorem i_CodeR : ∀ x y, A_CodeR x = A_CodeR y → x = y := fun x y h => (congrArg d_CodeR h :)
def R_CodeR : g_CodeR → CRes := (fun z => (fun (n : Nat) (op : Nat → Int) (ar : Nat → Int) => .ret (.agg [st pName, i64 0, i64 0, .ro 2 n (fun j => [i64 (op j), i64 (ar j)])]) []) z.1 z.2.1 z.2.2 : (Nat × (Nat → Int) × (Nat → Int)) → CRes)
def x_CodeR (z : g_CodeR) (k : CRes → Option Ans) : Option Ans := k (R_CodeR z)
theorem xe_CodeR : ∀ z k, x_CodeR z k = k (R_CodeR z) := fun z k => rfl
noncomputable def CodeR (q : Nat) : a_CodeR → Option g_CodeR := Code q
theorem sc_CodeR (q : Nat) : ∀ (x : a_CodeR) (z : g_CodeR), CodeR q x = some z → SC E3 12 (A_CodeR x).1 (A_CodeR x).2 (R_CodeR z) := fun x z h =>
  (SC.give (sc_Code q x z h) (by simp [V.bw, V.bw2, V.bw1, hp, V.pure, pureL])).le (Le.of_eq (by simp [V.bw, V.bw2, V.bw1, hp, pName]))
abbrev a_Rig : Type := Nat × (Nat → Int)
abbrev g_Rig : Type := Nat × (Nat → Int) × (Nat → Int) × (Nat → Int) × Int × Int
def A_Rig : a_Rig → List V × List (Option Chunk) := (fun x => (fun (n : Nat) (y : Nat → Int) => (([.ro 1 n (fun j => [i64 (y j)])] : List V), ([] : List (Option Chunk)))) x.1 x.2)
def d_Rig (t : List V × List (Option Chunk)) : a_Rig := ((vRoN (t.1.getD 0 .junk)), (fun j => (vI ((vRoF (t.1.getD 0 .junk) j).getD 0 .junk))))
theorem i_Rig : ∀ x y, A_Rig x = A_Rig y → x = y := fun x y h => (congrArg d_Rig h :)
def R_Rig : g_Rig → CRes := (fun z => (fun (k : Nat) (da : Nat → Int) (db : Nat → Int) (dc : Nat → Int) (R : Int) (W : Int) => .ret (.agg [.ro 3 k (fun j => [i64 (da j), i64 (db j), i64 (dc j)]), i64 R, i64 W]) []) z.1 z.2.1 z.2.2.1 z.2.2.2.1 z.2.2.2.2.1 z.2.2.2.2.2 : (Nat × (Nat → Int) × (Nat → Int) × (Nat → Int) × Int × Int) → CRes)
def x_Rig (z : g_Rig) (k : CRes → Option Ans) : Option Ans := k (R_Rig z)
theorem xe_Rig : ∀ z k, x_Rig z k = k (R_Rig z) := fun z k => rfl
noncomputable def Rig (q : Nat) (x : a_Rig) : Option g_Rig := if x.1 ≤ Go.maxLen then some (dn x.1, dA x.2, dB x.2, dC x.2, w (1 + pick x.1 x.2 0 360), pick x.1 x.2 1 1001) else none
theorem sc_Rig (q : Nat) : ∀ (x : a_Rig) (z : g_Rig), Rig q x = some z → SC E3 13 (A_Rig x).1 (A_Rig x).2 (R_Rig z) := by
  intro x z h
  unfold Rig at h
  split at h
  · rename_i hn
    cases h
    exact sc3.2 (sc2.2 (rig_sc x.1 x.2 hn))
  · cases h
abbrev a_Cert : Type := ByteArray × Int × Int × Nat × (Nat → Int) × (Nat → Int) × Nat × (Nat → Int) × (Nat → Int) × (Nat → Int) × Int × Int
abbrev g_Cert : Type := Int × Nat × (Nat → Int) × (Nat → Int) × (Nat → Int) × (Nat → Int) × (Nat → Int) × (Nat → Int)
def A_Cert : a_Cert → List V × List (Option Chunk) := (fun x => (fun (nm : ByteArray) (ps : Int) (vs : Int) (n : Nat) (op : Nat → Int) (ar : Nat → Int) (k : Nat) (da : Nat → Int) (db : Nat → Int) (dc : Nat → Int) (R : Int) (W : Int) => (([.agg [st nm, i64 ps, i64 vs, .ro 2 n (fun j => [i64 (op j), i64 (ar j)])], .agg [.ro 3 k (fun j => [i64 (da j), i64 (db j), i64 (dc j)]), i64 R, i64 W]] : List V), ([] : List (Option Chunk)))) x.1 x.2.1 x.2.2.1 x.2.2.2.1 x.2.2.2.2.1 x.2.2.2.2.2.1 x.2.2.2.2.2.2.1 x.2.2.2.2.2.2.2.1 x.2.2.2.2.2.2.2.2.1 x.2.2.2.2.2.2.2.2.2.1 x.2.2.2.2.2.2.2.2.2.2.1 x.2.2.2.2.2.2.2.2.2.2.2)
def d_Cert (t : List V × List (Option Chunk)) : a_Cert := ((vS ((vAg (t.1.getD 0 .junk)).getD 0 .junk)), (vI ((vAg (t.1.getD 0 .junk)).getD 1 .junk)), (vI ((vAg (t.1.getD 0 .junk)).getD 2 .junk)), (vRoN ((vAg (t.1.getD 0 .junk)).getD 3 .junk)), (fun j => (vI ((vRoF ((vAg (t.1.getD 0 .junk)).getD 3 .junk) j).getD 0 .junk))), (fun j => (vI ((vRoF ((vAg (t.1.getD 0 .junk)).getD 3 .junk) j).getD 1 .junk))), (vRoN ((vAg (t.1.getD 1 .junk)).getD 0 .junk)), (fun j => (vI ((vRoF ((vAg (t.1.getD 1 .junk)).getD 0 .junk) j).getD 0 .junk))), (fun j => (vI ((vRoF ((vAg (t.1.getD 1 .junk)).getD 0 .junk) j).getD 1 .junk))), (fun j => (vI ((vRoF ((vAg (t.1.getD 1 .junk)).getD 0 .junk) j).getD 2 .junk))), (vI ((vAg (t.1.getD 1 .junk)).getD 1 .junk)), (vI ((vAg (t.1.getD 1 .junk)).getD 2 .junk)))
theorem i_Cert : ∀ x y, A_Cert x = A_Cert y → x = y := fun x y h => (congrArg d_Cert h :)
def R_Cert : g_Cert → CRes := (fun z => (fun (e : Int) (cn : Nat) (x0 : Nat → Int) (x1 : Nat → Int) (x2 : Nat → Int) (x3 : Nat → Int) (x4 : Nat → Int) (x5 : Nat → Int) => .ret (.tup [.ro 6 cn (fun j => [i64 (x0 j), i64 (x1 j), i64 (x2 j), i64 (x3 j), i64 (x4 j), i64 (x5 j)]), i64 e]) []) z.1 z.2.1 z.2.2.1 z.2.2.2.1 z.2.2.2.2.1 z.2.2.2.2.2.1 z.2.2.2.2.2.2.1 z.2.2.2.2.2.2.2 : (Int × Nat × (Nat → Int) × (Nat → Int) × (Nat → Int) × (Nat → Int) × (Nat → Int) × (Nat → Int)) → CRes)
def x_Cert (z : g_Cert) (k : CRes → Option Ans) : Option Ans := k (R_Cert z)
theorem xe_Cert : ∀ z k, x_Cert z k = k (R_Cert z) := fun z k => rfl
noncomputable def Cert (q : Nat) (x : a_Cert) : Option g_Cert := if x.2.2.2.1 ≤ Go.maxLen then some (certO x) else none
theorem sc_Cert (q : Nat) : ∀ (x : a_Cert) (z : g_Cert), Cert q x = some z → SC E3 14 (A_Cert x).1 (A_Cert x).2 (R_Cert z) := by
  intro x z h
  unfold Cert at h
  split at h
  · rename_i hn
    cases h
    exact sc3.2 (certify_sc x.1 x.2.1 x.2.2.1 x.2.2.2.1 x.2.2.2.2.1 x.2.2.2.2.2.1 x.2.2.2.2.2.2.1 x.2.2.2.2.2.2.2.1 x.2.2.2.2.2.2.2.2.1 x.2.2.2.2.2.2.2.2.2.1 x.2.2.2.2.2.2.2.2.2.2.1 x.2.2.2.2.2.2.2.2.2.2.2 hn)
  · cases h
abbrev a_CVer : Type := ByteArray × Int × Int × Nat × (Nat → Int) × (Nat → Int) × Nat × (Nat → Int) × (Nat → Int) × (Nat → Int) × Int × Int × Nat × (Nat → Int) × (Nat → Int) × (Nat → Int) × (Nat → Int) × (Nat → Int) × (Nat → Int)
abbrev g_CVer : Type := Int
def A_CVer : a_CVer → List V × List (Option Chunk) := (fun x => (fun (nm : ByteArray) (ps : Int) (vs : Int) (n : Nat) (op : Nat → Int) (ar : Nat → Int) (k : Nat) (da : Nat → Int) (db : Nat → Int) (dc : Nat → Int) (R : Int) (W : Int) (cn : Nat) (x0 : Nat → Int) (x1 : Nat → Int) (x2 : Nat → Int) (x3 : Nat → Int) (x4 : Nat → Int) (x5 : Nat → Int) => (([.agg [st nm, i64 ps, i64 vs, .ro 2 n (fun j => [i64 (op j), i64 (ar j)])], .agg [.ro 3 k (fun j => [i64 (da j), i64 (db j), i64 (dc j)]), i64 R, i64 W], .ro 6 cn (fun j => [i64 (x0 j), i64 (x1 j), i64 (x2 j), i64 (x3 j), i64 (x4 j), i64 (x5 j)])] : List V), ([] : List (Option Chunk)))) x.1 x.2.1 x.2.2.1 x.2.2.2.1 x.2.2.2.2.1 x.2.2.2.2.2.1 x.2.2.2.2.2.2.1 x.2.2.2.2.2.2.2.1 x.2.2.2.2.2.2.2.2.1 x.2.2.2.2.2.2.2.2.2.1 x.2.2.2.2.2.2.2.2.2.2.1 x.2.2.2.2.2.2.2.2.2.2.2.1 x.2.2.2.2.2.2.2.2.2.2.2.2.1 x.2.2.2.2.2.2.2.2.2.2.2.2.2.1 x.2.2.2.2.2.2.2.2.2.2.2.2.2.2.1 x.2.2.2.2.2.2.2.2.2.2.2.2.2.2.2.1 x.2.2.2.2.2.2.2.2.2.2.2.2.2.2.2.2.1 x.2.2.2.2.2.2.2.2.2.2.2.2.2.2.2.2.2.1 x.2.2.2.2.2.2.2.2.2.2.2.2.2.2.2.2.2.2)
def d_CVer (t : List V × List (Option Chunk)) : a_CVer := ((vS ((vAg (t.1.getD 0 .junk)).getD 0 .junk)), (vI ((vAg (t.1.getD 0 .junk)).getD 1 .junk)), (vI ((vAg (t.1.getD 0 .junk)).getD 2 .junk)), (vRoN ((vAg (t.1.getD 0 .junk)).getD 3 .junk)), (fun j => (vI ((vRoF ((vAg (t.1.getD 0 .junk)).getD 3 .junk) j).getD 0 .junk))), (fun j => (vI ((vRoF ((vAg (t.1.getD 0 .junk)).getD 3 .junk) j).getD 1 .junk))), (vRoN ((vAg (t.1.getD 1 .junk)).getD 0 .junk)), (fun j => (vI ((vRoF ((vAg (t.1.getD 1 .junk)).getD 0 .junk) j).getD 0 .junk))), (fun j => (vI ((vRoF ((vAg (t.1.getD 1 .junk)).getD 0 .junk) j).getD 1 .junk))), (fun j => (vI ((vRoF ((vAg (t.1.getD 1 .junk)).getD 0 .junk) j).getD 2 .junk))), (vI ((vAg (t.1.getD 1 .junk)).getD 1 .junk)), (vI ((vAg (t.1.getD 1 .junk)).getD 2 .junk)), (vRoN (t.1.getD 2 .junk)), (fun j => (vI ((vRoF (t.1.getD 2 .junk) j).getD 0 .junk))), (fun j => (vI ((vRoF (t.1.getD 2 .junk) j).getD 1 .junk))), (fun j => (vI ((vRoF (t.1.getD 2 .junk) j).getD 2 .junk))), (fun j => (vI ((vRoF (t.1.getD 2 .junk) j).getD 3 .junk))), (fun j => (vI ((vRoF (t.1.getD 2 .junk) j).getD 4 .junk))), (fun j => (vI ((vRoF (t.1.getD 2 .junk) j).getD 5 .junk))))
theorem i_CVer : ∀ x y, A_CVer x = A_CVer y → x = y := fun x y h => (congrArg d_CVer h :)
def R_CVer : g_CVer → CRes := (fun z => (fun (e : Int) => .ret (i64 e) []) z : (Int) → CRes)
def x_CVer (z : g_CVer) (k : CRes → Option Ans) : Option Ans := k (R_CVer z)
theorem xe_CVer : ∀ z k, x_CVer z k = k (R_CVer z) := fun z k => rfl
noncomputable def CVer (q : Nat) (x : a_CVer) : Option g_CVer := if x.2.2.2.1 ≤ Go.maxLen then some (cverO x) else none
theorem sc_CVer (q : Nat) : ∀ (x : a_CVer) (z : g_CVer), CVer q x = some z → SC E3 19 (A_CVer x).1 (A_CVer x).2 (R_CVer z) := by
  intro x z h
  unfold CVer at h
  split at h
  · rename_i hn
    cases h
    exact sc3.2 (cverify_sc x.1 x.2.1 x.2.2.1 x.2.2.2.1 x.2.2.2.2.1 x.2.2.2.2.2.1 x.2.2.2.2.2.2.1 x.2.2.2.2.2.2.2.1 x.2.2.2.2.2.2.2.2.1 x.2.2.2.2.2.2.2.2.2.1 x.2.2.2.2.2.2.2.2.2.2.1 x.2.2.2.2.2.2.2.2.2.2.2.1 x.2.2.2.2.2.2.2.2.2.2.2.2.1 (mk6 x.2.2.2.2.2.2.2.2.2.2.2.2.2.1 x.2.2.2.2.2.2.2.2.2.2.2.2.2.2.1 x.2.2.2.2.2.2.2.2.2.2.2.2.2.2.2.1 x.2.2.2.2.2.2.2.2.2.2.2.2.2.2.2.2.1 x.2.2.2.2.2.2.2.2.2.2.2.2.2.2.2.2.2.1 x.2.2.2.2.2.2.2.2.2.2.2.2.2.2.2.2.2.2) hn)
  · cases h
abbrev a_Same : Type := Nat × (Nat → Int) × (Nat → Int) × (Nat → Int) × (Nat → Int) × (Nat → Int) × (Nat → Int) × Nat × (Nat → Int) × (Nat → Int) × (Nat → Int) × (Nat → Int) × (Nat → Int) × (Nat → Int)
abbrev g_Same : Type := Bool
open Classical in
noncomputable def Same (q : Nat) (x : a_Same) : Option g_Same := if (x.1, x.2.1, x.2.2.1, x.2.2.2.1, x.2.2.2.2.1, x.2.2.2.2.2.1, x.2.2.2.2.2.2.1) = x.2.2.2.2.2.2.2 ∧ x.1 ≤ Go.maxLen then some true else none
abbrev a_lives : Type := Unit
abbrev g_lives : Type := Bool
def A_lives : a_lives → List V × List (Option Chunk) := (fun _ => (([] : List V), ([] : List (Option Chunk))))
def d_lives (t : List V × List (Option Chunk)) : a_lives := ()
theorem i_lives : ∀ x y, A_lives x = A_lives y → x = y := fun x y h => (congrArg d_lives h :)
def R_lives : g_lives → CRes := (fun z => (fun (b : Bool) => .ret (bo b) []) z : (Bool) → CRes)
def x_lives (z : g_lives) (k : CRes → Option Ans) : Option Ans := k (R_lives z)
theorem xe_lives : ∀ z k, x_lives z k = k (R_lives z) := fun z k => rfl
def lives (q : Nat) (x : a_lives) : Option g_lives := some true
theorem sc_lives (q : Nat) : ∀ (x : a_lives) (z : g_lives), lives q x = some z → SC E3 17 (A_lives x).1 (A_lives x).2 (R_lives z) := by
  intro x z h
  cases h
  exact sc3.2 (sc2.2 lives_true)
end Go.Proofs.Ythegipdgillngaa
/- CostCertifies, CostVerifies. -/
namespace Go.Proofs.Ythegipdgillngaa
open Go Go.Am Go.Proofs
set_option linter.unusedSimpArgs false
set_option linter.unusedVariables false
set_option maxRecDepth 100000
theorem in_ints {v : V} (h : WTV E.P 22 v) : ∃ (n : Nat) (y : Nat → Int), Le v (.ro 1 n (fun j => [i64 (y j)])) ∧ n ≤ Go.maxLen ∧ ∀ j, j < n → inR (y j) := by
  obtain ⟨n, f, rfl, hn, d, h⟩ := h.slice (e := 3) (c := 1) (by kernel_rfl) (by kernel_rfl) (by kernel_rfl) (by omega)
  refine ⟨n, fun j => nthI (f j) 0, Le.ro_eq fun j hj => ?_, hn, fun j hj => ?_⟩
  · obtain ⟨a, hf, _⟩ := wt3 (h j hj)
    exact ⟨by simp only [hf]; rfl, rfl⟩
  · obtain ⟨a, hf, ra⟩ := wt3 (h j hj)
    simp only [hf]; exact ra
theorem Seg.len {pl : Bool} {i : Nat} {s : Is} (h : Seg pl i s) : True := trivial
/-- What Code makes of numbers. -/
def Made (tl : Bool) (z : g_CodeR) : Prop := ∃ s, Seg tl 0 s ∧ s.length ≤ 210 ∧ z.1 = s.length + 1 ∧ ∀ j, j < z.1 → z.2.1 j = ((s ++ [(28, 0)]).getD j (0, 0)).1 ∧ z.2.2 j = ((s ++ [(28, 0)]).getD j (0, 0)).2
theorem ints_runs {q n : Nat} {y : Nat → Int} (hn : n ≤ Go.maxLen) (hy : ∀ j, j < n → inR (y j)) : Runs (IntsR q (n, y)) (fun z => ∀ j, j < z.1 → inR (z.2 j)) := by
  unfold IntsR Ints t_Ints
  have hm : n ≤ 9223372036854775807 := by simp only [maxLen] at hn; omega
  generalize hk : (if (120 : Int) < ((n : Nat) : Int) then (120 : Int) else ((n : Nat) : Int)) = k
  have hk' : 0 ≤ k ∧ k ≤ n ∧ k ≤ 120 := by subst hk; split <;> omega
  simp only [hk]
  rw [if_pos ⟨Int.le_refl 0, hk'.1, hk'.2.1⟩]
  by_cases h0 : k.toNat - 0 = 0
  · rw [if_pos h0]
    exact ⟨_, rfl, fun j hj => absurd hj (Nat.not_lt_zero j)⟩
  · rw [if_neg h0, if_pos ⟨by simp only [roomBound]; omega, by simp only [maxLen]; omega⟩]
    refine ⟨_, rfl, fun j hj => ?_⟩
    have hj' : j < k.toNat - 0 := hj
    exact hy (0 + j) (by omega)
theorem code_runs {tl : Bool} {n : Nat} {y : Nat → Int} (hn : n ≤ Go.maxLen) (hy : ∀ j, j < n → inR (y j)) {q : Nat} (hq : 20 ≤ q) : Runs (CodeR q (tl, n, y)) (Made tl) := by
  show Runs (t_Code (IntsR q) (blockZ q) (putA q) (putZ q) (tl, n, y) some) _
  unfold t_Code
  refine Runs.bind (ints_runs hn hy) fun z hz => ?_
  obtain ⟨m, y'⟩ := z
  refine Runs.bind (blockZ_runs hz hq 0) fun r hr => ?_
  cases r with
  | inl r =>
    obtain ⟨s, h1, h2, h3⟩ := hr
    refine Runs.bind (put_runs h2 28 0 (by omega)) fun z g => Runs.some ⟨s, h1, h3, ?_, ?_⟩
    · have := g.2.n; simpa using this
    · intro j hj
      have := g.2.n
      refine g.2.row j ?_
      rw [← this]; exact hj
  | inr r =>
    obtain ⟨a, rfl⟩ := hr
    show Runs ((putZ q (28, 0, m, y', a, tl)).bind fun z => some (1, z.2.2.2.2)) _
    refine Runs.bind (putZ_runs (m := m) (y := y') (tl := tl) (q := q) 28 0 a) fun z g => Runs.some ⟨[], .nil _, by simp, rfl, ?_⟩
    intro j hj
    exact g.row j (by simpa using hj)
theorem made_len {tl : Bool} {z : g_CodeR} (h : Made tl z) : z.1 ≤ Go.maxLen := by
  obtain ⟨s, _, h2, h3, _⟩ := h
  simp only [maxLen]; omega
theorem toE {f : FuncId} {args : List V} {cr : CRes} (h : SC E3 f args [] cr) : SC E f args [] cr := sc2.1 (sc3.1 h)
end Go.Proofs.Ythegipdgillngaa
/- Code of pieces passes the check (plain). -/
namespace Go.Proofs.Ythegipdgillngaa
open Go.Proofs
set_option linter.unusedSimpArgs false
set_option linter.unusedVariables false
set_option maxRecDepth 100000
open Go.Proofs.Cv (Cd upd upd_same upd_ne rng rngL rngH stopOk Pl plcP pureP jmp balP rchB rchD okOp effLo effHi effBy jmps VP dp0 zero)
/-- The code holds these from i on. -/
def AtC (c : Cd) (i : Nat) (s : Is) : Prop := ∀ k, k < s.length → c.op (i + k) = (s.getD k (0, 0)).1 ∧ c.arg (i + k) = (s.getD k (0, 0)).2
theorem AtC.nil {c : Cd} {i : Nat} : AtC c i [] := fun k h => absurd h (Nat.not_lt_zero k)
theorem AtC.cons {c : Cd} {i : Nat} {p : Int × Int} {s : Is} : AtC c i (p :: s) ↔ (c.op i = p.1 ∧ c.arg i = p.2) ∧ AtC c (i + 1) s := by
  constructor
  · intro h
    refine ⟨h 0 (by simp), fun k hk => ?_⟩
    have := h (k + 1) (by simpa using hk)
    rw [show i + (k + 1) = i + 1 + k by omega] at this
    simpa using this
  · rintro ⟨h0, h⟩ k hk
    cases k with
    | zero => simpa using h0
    | succ k =>
      have := h k (by simpa using hk)
      rw [show i + 1 + k = i + (k + 1) by omega] at this
      simpa using this
theorem AtC.app {c : Cd} {i : Nat} {s t : Is} : AtC c i (s ++ t) ↔ AtC c i s ∧ AtC c (i + s.length) t := by
  induction s generalizing i with
  | nil => simp [AtC.nil]
  | cons p s ih =>
    rw [List.cons_append, AtC.cons, AtC.cons, ih, List.length_cons, show i + 1 + s.length = i + (s.length + 1) by omega]
    exact and_assoc.symm
def OkI (c : Cd) (i e : Nat) : Prop := ∀ k, i ≤ k → k < e → rng c k ∧ c.op k ≠ 28
theorem OkI.nil {c : Cd} {i e : Nat} (h : e ≤ i) : OkI c i e := fun k h1 h2 => by omega
theorem OkI.cons {c : Cd} {i e : Nat} (h : rng c i ∧ c.op i ≠ 28) (g : OkI c (i + 1) e) : OkI c i e := fun k h1 h2 => by
  by_cases hk : k = i
  · subst hk; exact h
  · exact g k (by omega) h2
theorem OkI.app {c : Cd} {i m e : Nat} (h : OkI c i m) (g : OkI c m e) : OkI c i e := fun k h1 h2 => by
  by_cases hk : k < m
  · exact h k h1 hk
  · exact g k (by omega) h2
theorem rng_of {c : Cd} {i : Nat} {o a : Int} (ho : c.op i = o) (ha : c.arg i = a) (h : rngL o i ≤ a ∧ a ≤ rngH o i c.n c.vars) : rng c i := by
  unfold rng; rw [ho, ha]; exact h
theorem ok_cond {c : Cd} {i : Nat} {s : Is} (h : Cond s) (ha : AtC c i s) : OkI c i (i + s.length) := by
  cases h with
  | mk t p o ht hp ho =>
    simp only [AtC.cons] at ha
    obtain ⟨⟨a1, a2⟩, ⟨b1, b2⟩, ⟨c1, c2⟩, _⟩ := ha
    refine .cons ⟨rng_of a1 a2 (by unfold rngL rngH; simp; omega), by rw [a1]; simp⟩ (.cons ⟨rng_of b1 b2 (by unfold rngL rngH; simp; omega), by rw [b1]; simp⟩ (.cons ⟨rng_of c1 c2 ?_, by rw [c1]; omega⟩ (.nil (by simp))))
    have : o = 10 ∨ o = 11 ∨ o = 12 := by omega
    rcases this with rfl | rfl | rfl <;> unfold rngL rngH <;> simp
  | not t p o ht hp ho =>
    simp only [AtC.cons] at ha
    obtain ⟨⟨a1, a2⟩, ⟨b1, b2⟩, ⟨c1, c2⟩, ⟨d1, d2⟩, _⟩ := ha
    refine .cons ⟨rng_of a1 a2 (by unfold rngL rngH; simp; omega), by rw [a1]; simp⟩ (.cons ⟨rng_of b1 b2 (by unfold rngL rngH; simp; omega), by rw [b1]; simp⟩ (.cons ⟨rng_of c1 c2 ?_, by rw [c1]; omega⟩ (.cons ⟨rng_of d1 d2 (by unfold rngL rngH; simp), by rw [d1]; simp⟩ (.nil (by simp)))))
    have : o = 10 ∨ o = 11 ∨ o = 12 := by omega
    rcases this with rfl | rfl | rfl <;> unfold rngL rngH <;> simp
theorem seg_ok {c : Cd} {pl : Bool} {i : Nat} {s : Is} (h : Seg pl i s) (ha : AtC c i s) (hn : i + s.length < c.n) : OkI c i (i + s.length) := by
  induction h with
  | nil i => exact .nil (by simp)
  | @app i s t _ _ ih1 ih2 =>
    rw [AtC.app] at ha
    rw [List.length_append] at hn ⊢
    have g := ih2 ha.2 (by omega)
    rw [Nat.add_assoc] at g
    exact (ih1 ha.1 (by omega)).app g
  | @one i o a ho =>
    simp only [AtC.cons] at ha
    obtain ⟨⟨a1, a2⟩, _⟩ := ha
    refine .cons ⟨rng_of a1 a2 ?_, ?_⟩ (.nil (by simp))
    · unfold okOne at ho
      rcases ho with ⟨rfl, h⟩ | ⟨rfl, h⟩ | ⟨rfl, h⟩ | ⟨rfl, h⟩ | ⟨rfl, h⟩ <;> unfold rngL rngH <;> simp <;> omega
    · rw [a1]; unfold okOne at ho; omega
  | @point i a hp =>
    simp only [AtC.cons] at ha
    obtain ⟨⟨a1, a2⟩, ⟨b1, b2⟩, _⟩ := ha
    exact .cons ⟨rng_of a1 a2 (by unfold rngL rngH; simp; omega), by rw [a1]; simp⟩ (.cons ⟨rng_of b1 b2 (by unfold rngL rngH; simp), by rw [b1]; simp⟩ (.nil (by simp)))
  | @req i s hc =>
    rw [AtC.app, AtC.cons] at ha
    obtain ⟨h1, ⟨a1, a2⟩, _⟩ := ha
    exact (ok_cond hc h1).app (.cons ⟨rng_of a1 a2 (by unfold rngL rngH; simp), by rw [a1]; simp⟩ (.nil (by simp; omega)))
  | @loop i N b hN _ ih =>
    rw [AtC.cons, AtC.app, AtC.cons] at ha
    obtain ⟨⟨a1, a2⟩, h1, ⟨b1, b2⟩, _⟩ := ha
    simp only [List.length_cons, List.length_append, List.length_nil] at hn
    have g := ih h1 (by omega)
    refine .cons ⟨rng_of a1 a2 (by unfold rngL rngH; simp; omega), by rw [a1]; simp⟩ (g.app (.cons ⟨rng_of b1 b2 (by unfold rngL rngH; simp; omega), by rw [b1]; simp⟩ (.nil (by simp; omega))))
  | @wait i n s _ hn' hc =>
    rw [AtC.cons, AtC.app, AtC.cons] at ha
    obtain ⟨⟨a1, a2⟩, h1, ⟨b1, b2⟩, _⟩ := ha
    refine .cons ⟨rng_of a1 a2 (by unfold rngL rngH; simp; omega), by rw [a1]; simp⟩ ((ok_cond hc h1).app (.cons ⟨rng_of b1 b2 (by unfold rngL rngH; simp; omega), by rw [b1]; simp⟩ (.nil (by simp; omega))))
  | @abort i n _ h =>
    simp only [AtC.cons] at ha
    obtain ⟨⟨a1, a2⟩, _⟩ := ha
    exact .cons ⟨rng_of a1 a2 (by unfold rngL rngH; simp; omega), by rw [a1]; simp⟩ (.nil (by simp))
  | @ite1 i s b _ hc _ ih =>
    rw [AtC.app, AtC.cons] at ha
    obtain ⟨h1, ⟨a1, a2⟩, h2⟩ := ha
    simp only [List.length_cons, List.length_append] at hn
    have g := ih h2 (by omega)
    refine (ok_cond hc h1).app (.cons ⟨rng_of a1 a2 (by unfold rngL rngH; simp; omega), by rw [a1]; simp⟩ ?_)
    have e : i + (s ++ (15, ((i + s.length + 1 + b.length : Nat) : Int)) :: b).length = i + s.length + 1 + b.length := by simp; omega
    rw [e]; exact g
  | @ite2 i s b d _ hc _ _ ih1 ih2 =>
    rw [AtC.app, AtC.cons, AtC.app, AtC.cons] at ha
    obtain ⟨h1, ⟨a1, a2⟩, h2, ⟨b1, b2⟩, h3⟩ := ha
    simp only [List.length_cons, List.length_append] at hn
    have g1 := ih1 h2 (by omega)
    have g2 := ih2 h3 (by omega)
    refine (ok_cond hc h1).app (.cons ⟨rng_of a1 a2 (by unfold rngL rngH; simp; omega), by rw [a1]; simp⟩ (g1.app (.cons ⟨rng_of b1 b2 (by unfold rngL rngH; simp; omega), by rw [b1]; simp⟩ ?_)))
    have e : i + (s ++ (15, ((i + s.length + 1 + b.length + 1 : Nat) : Int)) :: (b ++ (14, ((i + s.length + 1 + b.length + 1 + d.length : Nat) : Int)) :: d)).length = i + s.length + 1 + b.length + 1 + d.length := by simp; omega
    rw [e]; exact g2
theorem plc_plain {c : Cd} {r i : Nat} {q : Pl} (h16 : c.op i ≠ 16) (h17 : c.op i ≠ 17) (h19 : c.op i ≠ 19) (h20 : c.op i ≠ 20) (hp : q.wa = -1 ∨ pureP (c.op i) = true) : plcP c (r + 1) i q = plcP c r (i + 1) ⟨upd q.oL i q.lo, upd q.oW i q.wa, q.lo, q.wa⟩ := by
  rw [plcP, if_neg, if_neg h16, if_neg h19, if_neg h17, if_neg h20]
  rintro ⟨a, _, b⟩
  rcases hp with hp | hp
  · exact a hp
  · rw [hp] at b; cases b
theorem plc_16 {c : Cd} {r i : Nat} {q : Pl} (h : c.op i = 16) (hw : q.wa = -1) : plcP c (r + 1) i q = plcP c r (i + 1) ⟨upd q.oL i q.lo, upd q.oW i q.wa, i, q.wa⟩ := by
  rw [plcP, if_neg (fun g => g.1 hw), if_pos h]
theorem plc_19 {c : Cd} {r i : Nat} {q : Pl} (h : c.op i = 19) (hw : q.wa = -1) : plcP c (r + 1) i q = plcP c r (i + 1) ⟨upd q.oL i q.lo, upd q.oW i q.wa, q.lo, i⟩ := by
  rw [plcP, if_neg (fun g => g.1 hw), if_neg (by rw [h]; decide), if_pos h]
theorem plc_17 {c : Cd} {r i : Nat} {q : Pl} (h : c.op i = 17) (hw : q.wa = -1) (hl : q.lo ≠ -1) (ha : c.arg i = q.lo + 1) : plcP c (r + 1) i q = plcP c r (i + 1) ⟨upd q.oL i q.lo, upd q.oW i q.wa, upd q.oL i q.lo q.lo.toNat, upd q.oW i q.wa q.lo.toNat⟩ := by
  rw [plcP, if_neg (fun g => g.1 hw), if_neg (by rw [h]; decide), if_neg (by rw [h]; decide), if_pos h, if_neg (by rintro (g | g); exact hl g; exact g ha)]
theorem plc_20 {c : Cd} {r i : Nat} {q : Pl} (h : c.op i = 20) (hl : q.wa ≠ -1) (ha : c.arg i = q.wa + 1) : plcP c (r + 1) i q = plcP c r (i + 1) ⟨upd q.oL i q.lo, upd q.oW i q.wa, q.lo, -1⟩ := by
  rw [plcP, if_neg (fun g => g.2.1 h), if_neg (by rw [h]; decide), if_neg (by rw [h]; decide), if_neg (by rw [h]; decide), if_pos h, if_neg (by rintro (g | g); exact hl g; exact g ha)]
/-- What a piece of code leaves: levels of its places; where its jumps lead. -/
structure Lev (c : Cd) (i e : Nat) (lo wa : Int) (oL oW oL' oW' : Nat → Int) : Prop where
  out : ∀ j, j < i ∨ e ≤ j → oL' j = oL j ∧ oW' j = oW j
  head : i < e → oL' i = lo ∧ oW' i = wa
  jm : ∀ j, i ≤ j → j < e → jmp (c.op j) → ∃ t : Nat, c.arg j = t ∧ j < t ∧ t ≤ e ∧ (t < e → oL' t = oL' j ∧ oW' t = oW' j) ∧ (t = e → oL' j = lo ∧ oW' j = wa)
def Steps (c : Cd) (i : Nat) (s : Is) : Prop := ∀ (r : Nat) (oL oW : Nat → Int) (lo : Int), lo < i → -1 ≤ lo → ∃ oL' oW', Lev c i (i + s.length) lo (-1) oL oW oL' oW' ∧ plcP c (s.length + r) i ⟨oL, oW, lo, -1⟩ = plcP c r (i + s.length) ⟨oL', oW', lo, -1⟩
theorem Lev.one {c : Cd} {i : Nat} {lo wa : Int} {oL oW : Nat → Int} (hj : ¬ jmp (c.op i)) : Lev c i (i + 1) lo wa oL oW (upd oL i lo) (upd oW i wa) :=
  ⟨fun j h => by rw [upd_ne (by omega), upd_ne (by omega)]; exact ⟨rfl, rfl⟩, fun _ => ⟨upd_same _ _ _, upd_same _ _ _⟩, fun j h1 h2 h3 => by
    have : j = i := by omega
    subst this; exact absurd h3 hj⟩
theorem Lev.app {c : Cd} {i m e : Nat} {lo wa : Int} {a b a' b' a'' b'' : Nat → Int} (h : Lev c i m lo wa a b a' b') (g : Lev c m e lo wa a' b' a'' b'') (h1 : i ≤ m) (h2 : m ≤ e) : Lev c i e lo wa a b a'' b'' := by
  refine ⟨fun j hj => ?_, fun hi => ?_, fun j j1 j2 hj => ?_⟩
  · have e1 := h.out j (by omega)
    have e2 := g.out j (by omega)
    exact ⟨e2.1.trans e1.1, e2.2.trans e1.2⟩
  · by_cases hm : i < m
    · have e1 := h.head hm
      have e2 := g.out i (by omega)
      exact ⟨e2.1.trans e1.1, e2.2.trans e1.2⟩
    · have : i = m := by omega
      subst this
      exact g.head hi
  · by_cases hm : j < m
    · obtain ⟨t, t1, t2, t3, t4, t5⟩ := h.jm j j1 hm hj
      have ej := g.out j (by omega)
      refine ⟨t, t1, t2, by omega, fun ht => ?_, fun ht => ?_⟩
      · by_cases htm : t < m
        · have et := g.out t (by omega)
          obtain ⟨f1, f2⟩ := t4 htm
          exact ⟨by rw [et.1, ej.1, f1], by rw [et.2, ej.2, f2]⟩
        · have : t = m := by omega
          subst this
          obtain ⟨f1, f2⟩ := t5 rfl
          obtain ⟨g1, g2⟩ := g.head ht
          exact ⟨by rw [g1, ej.1, f1], by rw [g2, ej.2, f2]⟩
      · obtain ⟨f1, f2⟩ := t5 (by omega)
        exact ⟨by rw [ej.1, f1], by rw [ej.2, f2]⟩
    · exact g.jm j (by omega) j2 hj
theorem Lev.refl {c : Cd} {i : Nat} {lo wa : Int} {a b : Nat → Int} : Lev c i i lo wa a b a b := ⟨fun _ _ => ⟨rfl, rfl⟩, fun h => absurd h (Nat.lt_irrefl _), fun j h1 h2 => by omega⟩
theorem notjmp {o : Int} (h : o ≠ 14 ∧ o ≠ 15) : ¬ jmp o := by unfold jmp; omega
/-- A condition, waited for or not. -/
theorem cond_steps {c : Cd} {i : Nat} {s : Is} (h : Cond s) (ha : AtC c i s) (r : Nat) (oL oW : Nat → Int) (lo wa : Int) : ∃ oL' oW', Lev c i (i + s.length) lo wa oL oW oL' oW' ∧ plcP c (s.length + r) i ⟨oL, oW, lo, wa⟩ = plcP c r (i + s.length) ⟨oL', oW', lo, wa⟩ := by
  have pure1 : ∀ o : Int, 1 ≤ o → o ≤ 15 → o ≠ 3 → pureP o = true := fun o h1 h2 h3 => by unfold pureP; simp; omega
  have step : ∀ (i r : Nat) (oL oW : Nat → Int) (o : Int), c.op i = o → 1 ≤ o → o ≤ 13 → o ≠ 3 → plcP c (r + 1) i ⟨oL, oW, lo, wa⟩ = plcP c r (i + 1) ⟨upd oL i lo, upd oW i wa, lo, wa⟩ ∧ Lev c i (i + 1) lo wa oL oW (upd oL i lo) (upd oW i wa) := fun i r oL oW o ho h1 h2 h3 =>
    ⟨plc_plain (by rw [ho]; omega) (by rw [ho]; omega) (by rw [ho]; omega) (by rw [ho]; omega) (.inr (by rw [ho]; exact pure1 o h1 (by omega) h3)), .one (notjmp (o := c.op i) (by rw [ho]; omega))⟩
  cases h with
  | mk t p o ht hp ho =>
    simp only [AtC.cons] at ha
    obtain ⟨⟨a1, _⟩, ⟨b1, _⟩, ⟨c1, _⟩, _⟩ := ha
    obtain ⟨e1, g1⟩ := step i (r + 2) oL oW 4 a1 (by decide) (by decide) (by decide)
    obtain ⟨e2, g2⟩ := step (i + 1) (r + 1) (upd oL i lo) (upd oW i wa) 1 b1 (by decide) (by decide) (by decide)
    obtain ⟨e3, g3⟩ := step (i + 1 + 1) r (upd (upd oL i lo) (i + 1) lo) (upd (upd oW i wa) (i + 1) wa) o c1 (by omega) (by omega) (by omega)
    refine ⟨_, _, (g1.app g2 (by omega) (by omega)).app g3 (by omega) (by simp <;> omega), ?_⟩
    simp only [List.length_cons, List.length_nil]
    rw [show 0 + 1 + 1 + 1 + r = r + 2 + 1 by omega, e1, e2, e3]
  | not t p o ht hp ho =>
    simp only [AtC.cons] at ha
    obtain ⟨⟨a1, _⟩, ⟨b1, _⟩, ⟨c1, _⟩, ⟨d1, _⟩, _⟩ := ha
    obtain ⟨e1, g1⟩ := step i (r + 3) oL oW 4 a1 (by decide) (by decide) (by decide)
    obtain ⟨e2, g2⟩ := step (i + 1) (r + 2) (upd oL i lo) (upd oW i wa) 1 b1 (by decide) (by decide) (by decide)
    obtain ⟨e3, g3⟩ := step (i + 1 + 1) (r + 1) (upd (upd oL i lo) (i + 1) lo) (upd (upd oW i wa) (i + 1) wa) o c1 (by omega) (by omega) (by omega)
    obtain ⟨e4, g4⟩ := step (i + 1 + 1 + 1) r (upd (upd (upd oL i lo) (i + 1) lo) (i + 1 + 1) lo) (upd (upd (upd oW i wa) (i + 1) wa) (i + 1 + 1) wa) 13 d1 (by decide) (by decide) (by decide)
    refine ⟨_, _, ((g1.app g2 (by omega) (by omega)).app g3 (by omega) (by omega)).app g4 (by omega) (by simp <;> omega), ?_⟩
    simp only [List.length_cons, List.length_nil]
    rw [show 0 + 1 + 1 + 1 + 1 + r = r + 3 + 1 by omega, e1, e2, e3, e4]
theorem steps_one {c : Cd} {i : Nat} {o a : Int} (ho : c.op i = o) (h : o ≠ 14 ∧ o ≠ 15 ∧ o ≠ 16 ∧ o ≠ 17 ∧ o ≠ 19 ∧ o ≠ 20) : Steps c i [(o, a)] := by
  intro r oL oW lo _ _
  refine ⟨_, _, .one (notjmp (o := c.op i) (by rw [ho]; exact ⟨h.1, h.2.1⟩)), ?_⟩
  simp only [List.length_cons, List.length_nil]
  rw [show 0 + 1 + r = r + 1 by omega]
  exact plc_plain (by rw [ho]; omega) (by rw [ho]; omega) (by rw [ho]; omega) (by rw [ho]; omega) (.inl rfl)
theorem Steps.app {c : Cd} {i : Nat} {s t : Is} (h : Steps c i s) (g : Steps c (i + s.length) t) : Steps c i (s ++ t) := by
  intro r oL oW lo h1 h2
  obtain ⟨a, b, l1, e1⟩ := h (t.length + r) oL oW lo h1 h2
  obtain ⟨a', b', l2, e2⟩ := g r a b lo (by omega) h2
  refine ⟨a', b', ?_, ?_⟩
  · rw [List.length_append, ← Nat.add_assoc]; exact l1.app l2 (by omega) (by omega)
  · rw [List.length_append, Nat.add_assoc, e1, e2, Nat.add_assoc]
/-- A jump to the end, or to the head of what comes later. -/
theorem seg_steps {c : Cd} {pl : Bool} {i : Nat} {s : Is} (h : Seg pl i s) (ha : AtC c i s) : Steps c i s := by
  induction h with
  | nil i => intro r oL oW lo _ _; exact ⟨oL, oW, .refl, by simp⟩
  | app _ _ ih1 ih2 =>
    rw [AtC.app] at ha
    exact (ih1 ha.1).app (ih2 ha.2)
  | @one i o a ho =>
    simp only [AtC.cons] at ha
    obtain ⟨⟨a1, a2⟩, _⟩ := ha
    exact steps_one a1 (by unfold okOne at ho; omega)
  | @point i a hp =>
    simp only [AtC.cons] at ha
    obtain ⟨⟨a1, a2⟩, ⟨b1, b2⟩, _⟩ := ha
    exact Steps.app (s := [(1, a)]) (steps_one a1 (by decide)) (steps_one b1 (by decide))
  | @req i s hc =>
    rw [AtC.app, AtC.cons] at ha
    obtain ⟨h1, ⟨a1, a2⟩, _⟩ := ha
    exact Steps.app (fun r oL oW lo _ _ => cond_steps hc h1 r oL oW lo (-1)) (steps_one a1 (by decide))
  | @loop i N b hN _ ih =>
    rw [AtC.cons, AtC.app, AtC.cons] at ha
    obtain ⟨⟨a1, a2⟩, h1, ⟨b1, b2⟩, _⟩ := ha
    intro r oL oW lo l1 l2
    obtain ⟨a, w, lv, e⟩ := ih h1 (r + 1) (upd oL i lo) (upd oW i (-1)) i (by omega) (by omega)
    have hi := lv.out i (.inl (by omega))
    rw [upd_same, upd_same] at hi
    refine ⟨upd a (i + 1 + b.length) i, upd w (i + 1 + b.length) (-1), ⟨fun j hj => ?_, fun _ => ?_, fun j j1 j2 hj => ?_⟩, ?_⟩
    · simp only [List.length_cons, List.length_append, List.length_nil] at hj
      have := lv.out j (by omega)
      rw [upd_ne (by omega), upd_ne (by omega), this.1, this.2, upd_ne (by omega), upd_ne (by omega)]
      exact ⟨rfl, rfl⟩
    · rw [upd_ne (by omega), upd_ne (by omega)]; exact hi
    · simp only [List.length_cons, List.length_append, List.length_nil] at j2
      by_cases hji : j = i
      · subst hji; rw [a1] at hj; exact absurd hj (by unfold jmp; simp)
      by_cases hje : j = i + 1 + b.length
      · subst hje; rw [b1] at hj; exact absurd hj (by unfold jmp; simp)
      obtain ⟨t, t1, t2, t3, t4, t5⟩ := lv.jm j (by omega) (by omega) hj
      refine ⟨t, t1, t2, by simp only [List.length_cons, List.length_append, List.length_nil]; omega, fun _ => ?_, fun ht => ?_⟩
      · rw [upd_ne (k := i + 1 + b.length) (j := j) (by omega), upd_ne (k := i + 1 + b.length) (j := j) (by omega)]
        by_cases hte : t = i + 1 + b.length
        · subst hte
          rw [upd_same, upd_same]
          obtain ⟨f1, f2⟩ := t5 rfl
          exact ⟨f1.symm, f2.symm⟩
        · rw [upd_ne hte, upd_ne hte]
          exact t4 (by omega)
      · simp only [List.length_cons, List.length_append, List.length_nil] at ht; omega
    · simp only [List.length_cons, List.length_append, List.length_nil]
      rw [show b.length + (0 + 1) + 1 + r = b.length + (r + 1) + 1 by omega, plc_16 a1 rfl]
      simp only
      rw [e, plc_17 b1 rfl (by simp only; omega) (by simp only; exact b2)]
      simp only [Int.toNat_natCast]
      rw [upd_ne (by omega), upd_ne (by omega), hi.1, hi.2, show i + 1 + b.length + 1 = i + (b.length + (0 + 1) + 1) by omega]
  | @wait i n s _ hn' hc =>
    rw [AtC.cons, AtC.app, AtC.cons] at ha
    obtain ⟨⟨a1, a2⟩, h1, ⟨b1, b2⟩, _⟩ := ha
    intro r oL oW lo l1 l2
    obtain ⟨a, w, lv, e⟩ := cond_steps hc h1 (r + 1) (upd oL i lo) (upd oW i (-1)) lo i
    have hi := lv.out i (.inl (by omega))
    rw [upd_same, upd_same] at hi
    refine ⟨upd a (i + 1 + s.length) lo, upd w (i + 1 + s.length) i, ⟨fun j hj => ?_, fun _ => ?_, fun j j1 j2 hj => ?_⟩, ?_⟩
    · simp only [List.length_cons, List.length_append, List.length_nil] at hj
      have := lv.out j (by omega)
      rw [upd_ne (by omega), upd_ne (by omega), this.1, this.2, upd_ne (by omega), upd_ne (by omega)]
      exact ⟨rfl, rfl⟩
    · rw [upd_ne (by omega), upd_ne (by omega)]; exact hi
    · simp only [List.length_cons, List.length_append, List.length_nil] at j2
      by_cases hji : j = i
      · subst hji; rw [a1] at hj; exact absurd hj (by unfold jmp; simp)
      by_cases hje : j = i + 1 + s.length
      · subst hje; rw [b1] at hj; exact absurd hj (by unfold jmp; simp)
      exfalso
      -- no jump in a condition
      have key : ∀ k, k < s.length → ¬ jmp (c.op (i + 1 + k)) := by
        intro k hk hjk
        have hop := (h1 k hk).1
        rw [hop] at hjk
        cases hc with
        | mk t p o ht hp ho =>
          have : k = 0 ∨ k = 1 ∨ k = 2 := by simp at hk; omega
          rcases this with rfl | rfl | rfl <;> simp [jmp] at hjk <;> omega
        | not t p o ht hp ho =>
          have : k = 0 ∨ k = 1 ∨ k = 2 ∨ k = 3 := by simp at hk; omega
          rcases this with rfl | rfl | rfl | rfl <;> simp [jmp] at hjk <;> omega
      have := key (j - (i + 1)) (by omega)
      rw [show i + 1 + (j - (i + 1)) = j by omega] at this
      exact this hj
    · simp only [List.length_cons, List.length_append, List.length_nil]
      rw [show s.length + (0 + 1) + 1 + r = s.length + (r + 1) + 1 by omega, plc_19 a1 rfl]
      simp only
      rw [e, plc_20 b1 (by simp only; omega) (by simp only; exact b2)]
      simp only
      rw [show i + 1 + s.length + 1 = i + (s.length + (0 + 1) + 1) by omega]
  | @abort i n _ h =>
    simp only [AtC.cons] at ha
    obtain ⟨⟨a1, a2⟩, _⟩ := ha
    exact steps_one a1 (by decide)
  | @ite1 i s b _ hc _ ih =>
    rw [AtC.app, AtC.cons] at ha
    obtain ⟨h1, ⟨a1, a2⟩, h2⟩ := ha
    simp only at a1 a2
    intro r oL oW lo l1 l2
    obtain ⟨x, y, lv1, e1⟩ := cond_steps hc h1 (b.length + r + 1) oL oW lo (-1)
    obtain ⟨x', y', lv2, e2⟩ := ih h2 r (upd x (i + s.length) lo) (upd y (i + s.length) (-1)) lo (by omega) l2
    have hj0 := lv2.out (i + s.length) (.inl (by omega))
    rw [upd_same, upd_same] at hj0
    have mid : Lev c (i + s.length) (i + s.length + 1 + b.length) lo (-1) x y x' y' := by
      refine ⟨fun j hj => ?_, fun _ => hj0, fun j j1 j2 hj => ?_⟩
      · have := lv2.out j (by omega)
        rw [this.1, this.2, upd_ne (by omega), upd_ne (by omega)]
        exact ⟨rfl, rfl⟩
      · by_cases hji : j = i + s.length
        · subst hji
          exact ⟨_, a2, by omega, by omega, fun h => by omega, fun _ => hj0⟩
        · exact lv2.jm j (by omega) j2 hj
    have el : (s ++ (15, ((i + s.length + 1 + b.length : Nat) : Int)) :: b).length = s.length + (b.length + 1) := by simp
    refine ⟨x', y', ?_, ?_⟩
    · rw [el, show i + (s.length + (b.length + 1)) = i + s.length + 1 + b.length by omega]
      exact lv1.app mid (by omega) (by omega)
    · rw [el, show s.length + (b.length + 1) + r = s.length + (b.length + r + 1) by omega, e1, plc_plain (by rw [a1]; decide) (by rw [a1]; decide) (by rw [a1]; decide) (by rw [a1]; decide) (.inl rfl)]
      simp only
      rw [e2, show i + s.length + 1 + b.length = i + (s.length + (b.length + 1)) by omega]
  | @ite2 i s b d _ hc _ _ ih1 ih2 =>
    rw [AtC.app, AtC.cons, AtC.app, AtC.cons] at ha
    obtain ⟨h1, ⟨a1, a2⟩, h2, ⟨b1, b2⟩, h3⟩ := ha
    simp only at a1 a2 b1 b2
    intro r oL oW lo l1 l2
    obtain ⟨x, y, lv1, e1⟩ := cond_steps hc h1 (b.length + (d.length + r + 1) + 1) oL oW lo (-1)
    obtain ⟨x2, y2, lv2, e2⟩ := ih1 h2 (d.length + r + 1) (upd x (i + s.length) lo) (upd y (i + s.length) (-1)) lo (by omega) l2
    obtain ⟨x3, y3, lv3, e3⟩ := ih2 h3 r (upd x2 (i + s.length + 1 + b.length) lo) (upd y2 (i + s.length + 1 + b.length) (-1)) lo (by omega) l2
    have hj0 := lv2.out (i + s.length) (.inl (by omega))
    rw [upd_same, upd_same] at hj0
    have hj1 := lv3.out (i + s.length + 1 + b.length) (.inl (by omega))
    rw [upd_same, upd_same] at hj1
    have keep : ∀ j, j < i + s.length + 1 + b.length → x3 j = x2 j ∧ y3 j = y2 j := fun j hj => by
      have := lv3.out j (.inl (by omega))
      rw [this.1, this.2, upd_ne (by omega), upd_ne (by omega)]
      exact ⟨rfl, rfl⟩
    have hend : i + s.length + 1 + b.length + 1 < i + s.length + 1 + b.length + 1 + d.length → x3 (i + s.length + 1 + b.length + 1) = lo ∧ y3 (i + s.length + 1 + b.length + 1) = -1 := fun h => lv3.head h
    have mid : Lev c (i + s.length) (i + s.length + 1 + b.length + 1 + d.length) lo (-1) x y x3 y3 := by
      refine ⟨fun j hj => ?_, fun _ => ?_, fun j j1 j2 hj => ?_⟩
      · have e3 := lv3.out j (by omega)
        have e2 := lv2.out j (by omega)
        rw [e3.1, e3.2, upd_ne (by omega), upd_ne (by omega), e2.1, e2.2, upd_ne (by omega), upd_ne (by omega)]
        exact ⟨rfl, rfl⟩
      · have := keep (i + s.length) (by omega)
        rw [this.1, this.2]; exact hj0
      · by_cases hji : j = i + s.length
        · subst hji
          have hk := keep (i + s.length) (by omega)
          refine ⟨_, a2, by omega, by omega, fun h => ?_, fun h => ?_⟩
          · obtain ⟨f1, f2⟩ := hend (by omega)
            rw [hk.1, hk.2, hj0.1, hj0.2]; exact ⟨f1, f2⟩
          · rw [hk.1, hk.2]; exact hj0
        by_cases hjb : j < i + s.length + 1 + b.length
        · obtain ⟨t, t1, t2, t3, t4, t5⟩ := lv2.jm j (by omega) hjb hj
          have hk := keep j hjb
          refine ⟨t, t1, t2, by omega, fun _ => ?_, fun h => by omega⟩
          by_cases hte : t = i + s.length + 1 + b.length
          · subst hte
            obtain ⟨f1, f2⟩ := t5 rfl
            rw [hj1.1, hj1.2, hk.1, hk.2]; exact ⟨f1.symm, f2.symm⟩
          · have hkt := keep t (by omega)
            rw [hkt.1, hkt.2, hk.1, hk.2]; exact t4 (by omega)
        by_cases hj14 : j = i + s.length + 1 + b.length
        · subst hj14
          exact ⟨_, b2, by omega, by omega, fun h => by omega, fun _ => hj1⟩
        · exact lv3.jm j (by omega) j2 hj
    have el : (s ++ (15, ((i + s.length + 1 + b.length + 1 : Nat) : Int)) :: (b ++ (14, ((i + s.length + 1 + b.length + 1 + d.length : Nat) : Int)) :: d)).length = s.length + (b.length + (d.length + 1) + 1) := by simp
    refine ⟨x3, y3, ?_, ?_⟩
    · rw [el, show i + (s.length + (b.length + (d.length + 1) + 1)) = i + s.length + 1 + b.length + 1 + d.length by omega]
      exact lv1.app mid (by omega) (by omega)
    · rw [el, show s.length + (b.length + (d.length + 1) + 1) + r = s.length + (b.length + (d.length + r + 1) + 1) by omega, e1, plc_plain (by rw [a1]; decide) (by rw [a1]; decide) (by rw [a1]; decide) (by rw [a1]; decide) (.inl rfl)]
      simp only
      rw [e2, plc_plain (by rw [b1]; decide) (by rw [b1]; decide) (by rw [b1]; decide) (by rw [b1]; decide) (.inl rfl)]
      simp only
      rw [e3, show i + s.length + 1 + b.length + 1 + d.length = i + (s.length + (b.length + (d.length + 1) + 1)) by omega]
/-- Depths are right over a piece, if they are behind it. -/
def Bal (c : Cd) (i : Nat) (s : Is) (d d' : Int) : Prop := ∀ (dp : Nat → Int) (r : Nat), dp i = d → (∀ j, i < j → j < i + s.length → dp j = -1) → (0 < s.length → dp (i + s.length) = -1 ∨ dp (i + s.length) = d') →
  (∀ dp', dp' (i + s.length) = d' → (∀ j, i + s.length < j → dp' j = dp j) → balP c r (i + s.length) dp') → balP c (s.length + r) i dp
theorem rch_set {n : Nat} {dp : Nat → Int} {t : Nat} {d : Int} (ht : t < n) (h : dp t = -1 ∨ dp t = d) : rchB n dp t d ∧ rchD n dp t d t = d ∧ ∀ j, j ≠ t → rchD n dp t d j = dp j := by
  unfold rchB rchD
  simp only [Int.toNat_natCast]
  by_cases hm : dp t = -1
  · rw [if_pos ⟨by omega, hm⟩]
    exact ⟨.inr (upd_same _ _ _), upd_same _ _ _, fun j hj => upd_ne hj⟩
  · rw [if_neg (fun h => hm h.2)]
    have h := h.resolve_left hm
    exact ⟨.inr h, h, fun j _ => rfl⟩
/-- One instruction that goes on to the next. -/
theorem bal_one {c : Cd} {i : Nat} {o a d : Int} (ho : c.op i = o) (hok : okOp o) (hj : o ≠ 14 ∧ o ≠ 15) (hd : effLo o ≤ d ∧ d ≤ effHi o) (hn : i + 1 < c.n) : Bal c i [(o, a)] d (d + effBy o) := by
  intro dp r h0 _ h2 h3
  simp only [List.length_cons, List.length_nil] at h2 h3 ⊢
  rw [show 0 + 1 + r = r + 1 by omega, balP]
  have nj : ¬ jmp (c.op i) := notjmp (o := c.op i) (by rw [ho]; exact hj)
  have n14 : c.op i ≠ 14 := by rw [ho]; exact hj.1
  simp only [nj, if_false, false_implies, true_and, n14, ne_eq, not_false_eq_true, if_true, true_implies]
  obtain ⟨r1, r2, r3⟩ := rch_set (n := c.n) (dp := dp) (t := i + 1) (d := d + effBy o) hn (h2 (by omega))
  rw [ho, h0]
  exact ⟨⟨hok, hd⟩, r1, h3 _ r2 fun j hj => r3 j (by omega)⟩
theorem Bal.app {c : Cd} {i : Nat} {s t : Is} {d d' d'' : Int} (h : Bal c i s d d') (g : Bal c (i + s.length) t d' d'') (hs : s = [] → d = d') (ht : t = [] → d' = d'') : Bal c i (s ++ t) d d'' := by
  intro dp r h0 h1 h2 h3
  rw [List.length_append] at h1 h2 h3 ⊢
  rw [Nat.add_assoc]
  refine h dp (t.length + r) h0 (fun j a b => h1 j a (by omega)) (fun hl => ?_) fun dp' e0 e1 => ?_
  · by_cases hte : t = []
    · subst hte
      have := h2 (by simp only [List.length_nil]; omega)
      simp only [List.length_nil, Nat.add_zero] at this
      rw [ht rfl]; exact this
    · have : 0 < t.length := by cases t with | nil => exact absurd rfl hte | cons _ _ => simp
      exact .inl (h1 _ (by omega) (by omega))
  · refine g dp' r e0 (fun j a b => ?_) (fun hl => ?_) fun dp2 f0 f1 => ?_
    · rw [e1 j (by omega)]; exact h1 j (by omega) (by omega)
    · rw [e1 _ (by omega), Nat.add_assoc]; exact h2 (by omega)
    · rw [Nat.add_assoc] at f0 f1 ⊢
      exact h3 dp2 f0 fun j hj => by rw [f1 j hj, e1 j (by omega)]
theorem Bal.nil {c : Cd} {i : Nat} {d : Int} : Bal c i [] d d := by
  intro dp r h0 _ _ h3
  simp only [List.length_nil, Nat.zero_add, Nat.add_zero] at h3 ⊢
  exact h3 dp h0 fun _ _ => rfl
theorem bal_cond {c : Cd} {i : Nat} {s : Is} (h : Cond s) (ha : AtC c i s) (hn : i + s.length < c.n) : Bal c i s 0 1 := by
  have eo : ∀ o : Int, 10 ≤ o ∧ o ≤ 12 → (okOp o ∧ o ≠ 14 ∧ o ≠ 15) ∧ (effLo o ≤ 2 ∧ 2 ≤ effHi o) ∧ 2 + effBy o = 1 := by
    intro o ho
    have : o = 10 ∨ o = 11 ∨ o = 12 := by omega
    rcases this with rfl | rfl | rfl <;> exact ⟨⟨by unfold okOp; omega, by decide, by decide⟩, by decide, by decide⟩
  cases h with
  | mk t p o ht hp ho =>
    simp only [AtC.cons] at ha
    obtain ⟨⟨a1, _⟩, ⟨b1, _⟩, ⟨c1, _⟩, _⟩ := ha
    simp only [List.length_cons, List.length_nil] at hn
    obtain ⟨⟨k1, k2⟩, k3, k4⟩ := eo o ho
    have e1 : Bal c i [(4, t)] 0 1 := bal_one a1 (by unfold okOp; omega) (by decide) (by decide) (by omega)
    have e2 : Bal c (i + 1) [(1, p)] 1 2 := bal_one b1 (by unfold okOp; omega) (by decide) (by decide) (by omega)
    have e3 : Bal c (i + 1 + 1) [(o, 0)] 2 1 := k4 ▸ bal_one c1 k1 k2 k3 (by omega)
    exact (Bal.app (s := [(4, t)]) e1 (Bal.app (s := [(1, p)]) e2 e3 (by simp) (by simp)) (by simp) (by simp))
  | not t p o ht hp ho =>
    simp only [AtC.cons] at ha
    obtain ⟨⟨a1, _⟩, ⟨b1, _⟩, ⟨c1, _⟩, ⟨d1, _⟩, _⟩ := ha
    simp only [List.length_cons, List.length_nil] at hn
    obtain ⟨⟨k1, k2⟩, k3, k4⟩ := eo o ho
    have e1 : Bal c i [(4, t)] 0 1 := bal_one a1 (by unfold okOp; omega) (by decide) (by decide) (by omega)
    have e2 : Bal c (i + 1) [(1, p)] 1 2 := bal_one b1 (by unfold okOp; omega) (by decide) (by decide) (by omega)
    have e3 : Bal c (i + 1 + 1) [(o, 0)] 2 1 := k4 ▸ bal_one c1 k1 k2 k3 (by omega)
    have e4 : Bal c (i + 1 + 1 + 1) [(13, 0)] 1 1 := bal_one d1 (by unfold okOp; omega) (by decide) (by decide) (by omega)
    exact (Bal.app (s := [(4, t)]) e1 (Bal.app (s := [(1, p)]) e2 (Bal.app (s := [(o, 0)]) e3 e4 (by simp) (by simp)) (by simp) (by simp)) (by simp) (by simp))
theorem okOne_eff {o a : Int} (h : okOne o a) : (okOp o ∧ o ≠ 14 ∧ o ≠ 15) ∧ (effLo o ≤ 0 ∧ 0 ≤ effHi o) ∧ 0 + effBy o = 0 := by
  unfold okOne at h
  have : o = 23 ∨ o = 24 ∨ o = 25 ∨ o = 18 ∨ o = 26 := by omega
  rcases this with rfl | rfl | rfl | rfl | rfl <;> exact ⟨⟨by unfold okOp; omega, by decide, by decide⟩, by decide, by decide⟩
theorem seg_bal {c : Cd} {pl : Bool} {i : Nat} {s : Is} (h : Seg pl i s) (ha : AtC c i s) (hn : i + s.length < c.n) : Bal c i s 0 0 := by
  induction h with
  | nil i => exact .nil
  | @app i s t _ _ ih1 ih2 =>
    rw [AtC.app] at ha
    rw [List.length_append] at hn
    exact (ih1 ha.1 (by omega)).app (ih2 ha.2 (by omega)) (fun _ => rfl) (fun _ => rfl)
  | @one i o a ho =>
    simp only [AtC.cons] at ha
    obtain ⟨⟨a1, a2⟩, _⟩ := ha
    obtain ⟨⟨k1, k2⟩, k3, k4⟩ := okOne_eff ho
    have := bal_one (a := a) a1 k1 k2 k3 (by simpa using hn)
    rw [k4] at this
    exact this
  | @point i a hp =>
    simp only [AtC.cons] at ha
    obtain ⟨⟨a1, a2⟩, ⟨b1, b2⟩, _⟩ := ha
    simp only [List.length_cons, List.length_nil] at hn
    have e1 : Bal c i [(1, a)] 0 1 := bal_one a1 (by unfold okOp; omega) (by decide) (by decide) (by omega)
    have e2 : Bal c (i + 1) [(22, 0)] 1 0 := bal_one b1 (by unfold okOp; omega) (by decide) (by decide) (by omega)
    exact Bal.app (s := [(1, a)]) e1 e2 (by simp) (by simp)
  | @req i s hc =>
    rw [AtC.app, AtC.cons] at ha
    obtain ⟨h1, ⟨a1, a2⟩, _⟩ := ha
    simp only [List.length_append, List.length_cons, List.length_nil] at hn
    have e2 : Bal c (i + s.length) [(21, 0)] 1 0 := bal_one a1 (by unfold okOp; omega) (by decide) (by decide) (by omega)
    have := hc.len
    exact (bal_cond hc h1 (by omega)).app e2 (fun h => by subst h; simp at this) (by simp)
  | @loop i N b hN _ ih =>
    rw [AtC.cons, AtC.app, AtC.cons] at ha
    obtain ⟨⟨a1, a2⟩, h1, ⟨b1, b2⟩, _⟩ := ha
    simp only [List.length_append, List.length_cons, List.length_nil] at hn
    have e1 : Bal c i [(16, N)] 0 0 := bal_one a1 (by unfold okOp; omega) (by decide) (by decide) (by omega)
    have e2 : Bal c (i + 1 + b.length) [(17, (i : Int) + 1)] 0 0 := bal_one b1 (by unfold okOp; omega) (by decide) (by decide) (by omega)
    exact Bal.app (s := [(16, N)]) e1 ((ih h1 (by omega)).app e2 (fun _ => rfl) (by simp)) (by simp) (by simp)
  | @wait i n s _ hn' hc =>
    rw [AtC.cons, AtC.app, AtC.cons] at ha
    obtain ⟨⟨a1, a2⟩, h1, ⟨b1, b2⟩, _⟩ := ha
    simp only [List.length_append, List.length_cons, List.length_nil] at hn
    have hl := hc.len
    have e1 : Bal c i [(19, n)] 0 0 := bal_one a1 (by unfold okOp; omega) (by decide) (by decide) (by omega)
    have e2 : Bal c (i + 1 + s.length) [(20, (i : Int) + 1)] 1 0 := bal_one b1 (by unfold okOp; omega) (by decide) (by decide) (by omega)
    exact Bal.app (s := [(19, n)]) e1 ((bal_cond hc h1 (by omega)).app e2 (fun h => by subst h; simp at hl) (by simp)) (by simp) (by simp)
  | @abort i n _ h =>
    simp only [AtC.cons] at ha
    obtain ⟨⟨a1, a2⟩, _⟩ := ha
    simp only [List.length_cons, List.length_nil] at hn
    exact bal_one a1 (by unfold okOp; omega) (by decide) (by decide) (by omega)
  | @ite1 i s b _ hc _ ih =>
    rw [AtC.app, AtC.cons] at ha
    obtain ⟨h1, ⟨a1, a2⟩, h2⟩ := ha
    simp only [List.length_append, List.length_cons] at hn
    simp only at a1 a2
    have hl := hc.len
    refine (bal_cond hc h1 (by omega)).app ?_ (fun h => by subst h; simp at hl) (by simp)
    intro dp r h0 h3 h4 h5
    simp only [List.length_cons] at h3 h4 h5 ⊢
    rw [show b.length + 1 + r = (b.length + r) + 1 by omega, balP]
    have hj : jmp (c.op (i + s.length)) := by rw [a1]; exact .inr rfl
    have n14 : c.op (i + s.length) ≠ 14 := by rw [a1]; decide
    simp only [hj, if_true, true_implies, n14, ne_eq, not_false_eq_true]
    rw [a1, a2, h0]
    have e1 : (1 : Int) + effBy 15 = 0 := by decide
    rw [e1]
    have eend : i + s.length + (b.length + 1) = i + s.length + 1 + b.length := by omega
    rw [eend] at h4 h5
    obtain ⟨r1, r2, r3⟩ := rch_set (n := c.n) (dp := dp) (t := i + s.length + 1 + b.length) (d := 0) (by omega) (h4 (by omega))
    have hnext : rchD c.n dp ((i + s.length + 1 + b.length : Nat) : Int) 0 (i + s.length + 1) = -1 ∨ rchD c.n dp ((i + s.length + 1 + b.length : Nat) : Int) 0 (i + s.length + 1) = 0 := by
      by_cases hb : b.length = 0
      · have g := r2
        simp only [hb, Nat.add_zero] at g ⊢; exact .inr g
      · rw [r3 _ (by omega)]; exact .inl (h3 _ (by omega) (by omega))
    obtain ⟨q1, q2, q3⟩ := rch_set (n := c.n) (t := i + s.length + 1) (d := 0) (by omega) hnext
    refine ⟨⟨by unfold okOp; omega, by decide⟩, r1, q1, ih h2 (by omega) _ r q2 (fun j j1 j2 => ?_) (fun hb => ?_) fun dp' f0 f1 => ?_⟩
    · rw [q3 j (by omega), r3 j (by omega)]; exact h3 j (by omega) (by omega)
    · right; rw [q3 _ (by omega)]; exact r2
    · exact h5 dp' f0 fun j hj => by rw [f1 j hj, q3 j (by omega), r3 j (by omega)]
  | @ite2 i s b d _ hc _ _ ih1 ih2 =>
    rw [AtC.app, AtC.cons, AtC.app, AtC.cons] at ha
    obtain ⟨h1, ⟨a1, a2⟩, h2, ⟨b1, b2⟩, h3⟩ := ha
    simp only [List.length_append, List.length_cons] at hn
    simp only at a1 a2 b1 b2
    have hl := hc.len
    refine (bal_cond hc h1 (by omega)).app ?_ (fun h => by subst h; simp at hl) (by simp)
    intro dp r h0 g3 g4 g5
    simp only [List.length_cons, List.length_append] at g3 g4 g5 ⊢
    rw [show b.length + (d.length + 1) + 1 + r = (b.length + (d.length + r + 1)) + 1 by omega, balP]
    have hj : jmp (c.op (i + s.length)) := by rw [a1]; exact .inr rfl
    have n14 : c.op (i + s.length) ≠ 14 := by rw [a1]; decide
    simp only [hj, if_true, true_implies, n14, ne_eq, not_false_eq_true]
    rw [a1, a2, h0]
    have e1 : (1 : Int) + effBy 15 = 0 := by decide
    rw [e1]
    have eend : i + s.length + (b.length + (d.length + 1) + 1) = i + s.length + 1 + b.length + 1 + d.length := by omega
    rw [eend] at g4 g5
    have hD : dp (i + s.length + 1 + b.length + 1) = -1 ∨ dp (i + s.length + 1 + b.length + 1) = 0 := by
      by_cases hd : d.length = 0
      · have := g4 (by omega)
        rw [show i + s.length + 1 + b.length + 1 + d.length = i + s.length + 1 + b.length + 1 by omega] at this
        exact this
      · exact .inl (g3 _ (by omega) (by omega))
    obtain ⟨r1, r2, r3⟩ := rch_set (n := c.n) (dp := dp) (t := i + s.length + 1 + b.length + 1) (d := 0) (by omega) hD
    have hnext : rchD c.n dp ((i + s.length + 1 + b.length + 1 : Nat) : Int) 0 (i + s.length + 1) = -1 ∨ rchD c.n dp ((i + s.length + 1 + b.length + 1 : Nat) : Int) 0 (i + s.length + 1) = 0 := by
      rw [r3 _ (by omega)]; exact .inl (g3 _ (by omega) (by omega))
    obtain ⟨q1, q2, q3⟩ := rch_set (n := c.n) (t := i + s.length + 1) (d := 0) (by omega) hnext
    refine ⟨⟨by unfold okOp; omega, by decide⟩, r1, q1, ih1 h2 (by omega) _ (d.length + r + 1) q2 (fun j j1 j2 => ?_) (fun hb => ?_) fun dp' f0 f1 => ?_⟩
    · rw [q3 j (by omega), r3 j (by omega)]; exact g3 j (by omega) (by omega)
    · left; rw [q3 _ (by omega), r3 _ (by omega)]; exact g3 _ (by omega) (by omega)
    · -- the jump over the other part
      have k1 : dp' (i + s.length + 1 + b.length + 1) = 0 := by rw [f1 _ (by omega), q3 _ (by omega)]; exact r2
      have k2 : ∀ j, i + s.length + 1 + b.length + 1 < j → dp' j = dp j := fun j hj => by rw [f1 j (by omega), q3 j (by omega), r3 j (by omega)]
      rw [balP]
      have hj' : jmp (14 : Int) := .inl rfl
      simp only [b1, hj', if_true, true_implies, ne_eq, not_true_eq_false, false_implies, if_false, true_and]
      rw [b2, f0]
      have e2 : (0 : Int) + effBy 14 = 0 := by decide
      rw [e2]
      have hE : dp' (i + s.length + 1 + b.length + 1 + d.length) = -1 ∨ dp' (i + s.length + 1 + b.length + 1 + d.length) = 0 := by
        by_cases hd : d.length = 0
        · have g := k1
          simp only [hd, Nat.add_zero] at g ⊢; exact .inr g
        · rw [k2 _ (by omega)]; exact g4 (by omega)
      obtain ⟨p1, p2, p3⟩ := rch_set (n := c.n) (dp := dp') (t := i + s.length + 1 + b.length + 1 + d.length) (d := 0) (by omega) hE
      refine ⟨⟨by unfold okOp; omega, by decide⟩, p1, ?_⟩
      have k3 : rchD c.n dp' ((i + s.length + 1 + b.length + 1 + d.length : Nat) : Int) 0 (i + s.length + 1 + b.length + 1) = 0 := by
        by_cases hd : d.length = 0
        · have g := p2
          simp only [hd, Nat.add_zero] at g ⊢; exact g
        · rw [p3 _ (by omega)]; exact k1
      refine ih2 h3 (by omega) _ r k3 (fun j j1 j2 => ?_) (fun hd => .inr p2) fun dp2 u0 u1 => ?_
      · rw [p3 j (by omega), k2 j (by omega)]; exact g3 j (by omega) (by omega)
      · exact g5 dp2 u0 fun j hj => by rw [u1 j hj, p3 j (by omega), k2 j (by omega)]
/-- Code of pieces and a stop passes the check. -/
theorem seg_VP {c : Cd} {pl : Bool} {s : Is} (h : Seg pl 0 s) (hn : c.n = s.length + 1) (ha : AtC c 0 (s ++ [(28, 0)])) : VP c := by
  rw [AtC.app, AtC.cons, Nat.zero_add] at ha
  obtain ⟨h1, ⟨a1, a2⟩, _⟩ := ha
  simp only at a1 a2
  have ok := seg_ok h h1 (by omega)
  rw [Nat.zero_add] at ok
  refine ⟨fun i hi => ?_, ?_, ?_⟩
  · by_cases hs : i < s.length
    · obtain ⟨k1, k2⟩ := ok i (by omega) hs
      refine ⟨k1, ?_⟩
      unfold stopOk
      exact ⟨fun h => absurd h k2, fun h => by omega⟩
    · have : i = s.length := by omega
      subst this
      refine ⟨rng_of a1 a2 (by unfold rngL rngH; simp), ?_⟩
      unfold stopOk
      exact ⟨fun _ => by omega, fun _ => a1⟩
  · obtain ⟨x, y, lv, e⟩ := seg_steps h h1 1 zero zero (-1) (by omega) (by omega)
    rw [Nat.zero_add] at lv e
    refine ⟨⟨upd x s.length (-1), upd y s.length (-1), -1, -1⟩, ?_, ⟨rfl, rfl⟩, fun i hi hj => ?_⟩
    · rw [hn, e, plc_plain (by rw [a1]; decide) (by rw [a1]; decide) (by rw [a1]; decide) (by rw [a1]; decide) (.inl rfl)]
      rfl
    · by_cases hs : i < s.length
      · obtain ⟨t, t1, t2, t3, t4, t5⟩ := lv.jm i (by omega) hs hj
        rw [t1, Int.toNat_natCast]
        simp only
        rw [upd_ne (k := s.length) (j := i) (by omega), upd_ne (k := s.length) (j := i) (by omega)]
        by_cases hte : t = s.length
        · subst hte
          rw [upd_same, upd_same]
          obtain ⟨f1, f2⟩ := t5 rfl
          exact ⟨f1.symm, f2.symm⟩
        · rw [upd_ne hte, upd_ne hte]
          exact t4 (by omega)
      · have : i = s.length := by omega
        subst this
        rw [a1] at hj
        exact absurd hj (by unfold jmp; decide)
  · rw [hn]
    refine seg_bal h h1 (by omega) dp0 1 rfl (fun j j1 j2 => ?_) (fun hl => ?_) fun dp' f0 f1 => ?_
    · unfold dp0; rw [if_neg (by omega)]
    · left; unfold dp0; rw [if_neg (by omega)]
    · rw [Nat.zero_add] at f0 ⊢
      rw [balP]
      have nj : ¬ jmp (c.op s.length) := by rw [a1]; unfold jmp; decide
      have n14 : c.op s.length ≠ 14 := by rw [a1]; decide
      simp only [nj, if_false, false_implies, true_and, n14, ne_eq, not_false_eq_true, if_true, true_implies]
      rw [a1, f0]
      refine ⟨⟨by unfold okOp; omega, by decide⟩, .inl (by omega), ?_⟩
      rw [balP]; trivial
end Go.Proofs.Ythegipdgillngaa
/- CostLeast, lifted. -/
namespace Go.Proofs.Ythegipdgillngaa
open Go Go.Am Go.Proofs
set_option linter.unusedSimpArgs false
set_option linter.unusedVariables false
set_option maxRecDepth 100000
abbrev a_Within : Type := Int × Int × Int × Int × Int × Int × Int × Int × Int × Int × Int × Int
abbrev g_Within : Type := Bool
def A_Within : a_Within → List V × List (Option Chunk) := (fun x => (fun (a0 : Int) (a1 : Int) (a2 : Int) (a3 : Int) (a4 : Int) (a5 : Int) (b0 : Int) (b1 : Int) (b2 : Int) (b3 : Int) (b4 : Int) (b5 : Int) => (([.agg [i64 a0, i64 a1, i64 a2, i64 a3, i64 a4, i64 a5], .agg [i64 b0, i64 b1, i64 b2, i64 b3, i64 b4, i64 b5]] : List V), ([] : List (Option Chunk)))) x.1 x.2.1 x.2.2.1 x.2.2.2.1 x.2.2.2.2.1 x.2.2.2.2.2.1 x.2.2.2.2.2.2.1 x.2.2.2.2.2.2.2.1 x.2.2.2.2.2.2.2.2.1 x.2.2.2.2.2.2.2.2.2.1 x.2.2.2.2.2.2.2.2.2.2.1 x.2.2.2.2.2.2.2.2.2.2.2)
def d_Within (t : List V × List (Option Chunk)) : a_Within := ((vI ((vAg (t.1.getD 0 .junk)).getD 0 .junk)), (vI ((vAg (t.1.getD 0 .junk)).getD 1 .junk)), (vI ((vAg (t.1.getD 0 .junk)).getD 2 .junk)), (vI ((vAg (t.1.getD 0 .junk)).getD 3 .junk)), (vI ((vAg (t.1.getD 0 .junk)).getD 4 .junk)), (vI ((vAg (t.1.getD 0 .junk)).getD 5 .junk)), (vI ((vAg (t.1.getD 1 .junk)).getD 0 .junk)), (vI ((vAg (t.1.getD 1 .junk)).getD 1 .junk)), (vI ((vAg (t.1.getD 1 .junk)).getD 2 .junk)), (vI ((vAg (t.1.getD 1 .junk)).getD 3 .junk)), (vI ((vAg (t.1.getD 1 .junk)).getD 4 .junk)), (vI ((vAg (t.1.getD 1 .junk)).getD 5 .junk)))
theorem i_Within : ∀ x y, A_Within x = A_Within y → x = y := fun x y h => (congrArg d_Within h :)
def R_Within : g_Within → CRes := (fun z => CRes.ret (bo z) [] : (Bool) → CRes)
def x_Within (z : g_Within) (k : CRes → Option Ans) : Option Ans := k (R_Within z)
theorem xe_Within : ∀ z k, x_Within z k = k (R_Within z) := fun z k => rfl
def t_Within {β : Type} (x : a_Within) (dn : g_Within → Option β) : Option β :=
 dn (if false = true then !((if x.2.2.2.2.2.2.1 > x.1 then x.2.2.2.2.2.2.1 else x.1) == x.2.2.2.2.2.2.1 && ((if x.2.2.2.2.2.2.2.1 > x.2.1 then x.2.2.2.2.2.2.2.1 else x.2.1) == x.2.2.2.2.2.2.2.1 && ((if x.2.2.2.2.2.2.2.2.1 > x.2.2.1 then x.2.2.2.2.2.2.2.2.1 else x.2.2.1) == x.2.2.2.2.2.2.2.2.1 && ((if x.2.2.2.2.2.2.2.2.2.1 > x.2.2.2.1 then x.2.2.2.2.2.2.2.2.2.1 else x.2.2.2.1) == x.2.2.2.2.2.2.2.2.2.1 && ((if x.2.2.2.2.2.2.2.2.2.2.1 > x.2.2.2.2.1 then x.2.2.2.2.2.2.2.2.2.2.1 else x.2.2.2.2.1) == x.2.2.2.2.2.2.2.2.2.2.1 && ((if x.2.2.2.2.2.2.2.2.2.2.2 > x.2.2.2.2.2.1 then x.2.2.2.2.2.2.2.2.2.2.2 else x.2.2.2.2.2.1) == x.2.2.2.2.2.2.2.2.2.2.2 && true)))))) else (if x.2.2.2.2.2.2.1 > x.1 then x.2.2.2.2.2.2.1 else x.1) == x.2.2.2.2.2.2.1 && ((if x.2.2.2.2.2.2.2.1 > x.2.1 then x.2.2.2.2.2.2.2.1 else x.2.1) == x.2.2.2.2.2.2.2.1 && ((if x.2.2.2.2.2.2.2.2.1 > x.2.2.1 then x.2.2.2.2.2.2.2.2.1 else x.2.2.1) == x.2.2.2.2.2.2.2.2.1 && ((if x.2.2.2.2.2.2.2.2.2.1 > x.2.2.2.1 then x.2.2.2.2.2.2.2.2.2.1 else x.2.2.2.1) == x.2.2.2.2.2.2.2.2.2.1 && ((if x.2.2.2.2.2.2.2.2.2.2.1 > x.2.2.2.2.1 then x.2.2.2.2.2.2.2.2.2.2.1 else x.2.2.2.2.1) == x.2.2.2.2.2.2.2.2.2.2.1 && ((if x.2.2.2.2.2.2.2.2.2.2.2 > x.2.2.2.2.2.1 then x.2.2.2.2.2.2.2.2.2.2.2 else x.2.2.2.2.2.1) == x.2.2.2.2.2.2.2.2.2.2.2 && true))))))
theorem n_Within {β : Type} (x : a_Within) (dn : g_Within → Option β) : t_Within x dn = (t_Within x some).bind dn := by
  unfold t_Within
  repeat' first | exact free_none | refine free_bind (fun z => ?_) | refine free_ite ?_ ?_ | refine free_sum (fun z => ?_) (fun z => ?_) | rfl
theorem r_Within (x : a_Within) : callK E3 (callG E3 20) lo0 24 (A_Within x).1 (A_Within x).2 K = t_Within x (fun z => some (.c (R_Within z))) := by kernel_rfl
theorem s_Within (q : Nat) (x : a_Within) (z : g_Within) (h : t_Within x some = some z) : SC E3 24 (A_Within x).1 (A_Within x).2 (R_Within z) := by
  refine SC.of hW3 hX3 (sound_G hW3 hX3 20).1 lo0_sound ((r_Within x).trans ?_)
  rw [n_Within, h]; rfl
noncomputable def Within (q : Nat) (x : a_Within) : Option g_Within := t_Within x some
theorem sc_Within (q : Nat) : ∀ (x : a_Within) (z : g_Within), Within q x = some z → SC E3 24 (A_Within x).1 (A_Within x).2 (R_Within z) := fun x z h => s_Within q x z h
end Go.Proofs.Ythegipdgillngaa
/- The certificate of Certify is the least (plain). -/
namespace Go.Proofs.Ythegipdgillngaa
open Go Go.Am Go.Proofs
set_option linter.unusedSimpArgs false
set_option linter.unusedVariables false
set_option maxRecDepth 100000
def inM (v : Int) : Prop := 0 ≤ v ∧ v ≤ 2147483647
theorem addE_eq {u v : Int} (hu : inM u) (hv : inM v) : addE u v = if 2147483647 < u + v then 2147483647 else u + v := by
  unfold addE inM at *
  rw [w_in (by unfold inR; omega)]
theorem addE_in {u v : Int} (hu : inM u) (hv : inM v) : inM (addE u v) := by
  rw [addE_eq hu hv]
  unfold inM at *
  split <;> omega
theorem addE_mono {u v u' v' : Int} (hu : inM u) (hv : inM v) (hu' : inM u') (hv' : inM v') (h1 : u ≤ u') (h2 : v ≤ v') : addE u v ≤ addE u' v' := by
  rw [addE_eq hu hv, addE_eq hu' hv']
  split <;> split <;> omega
theorem mul_in {u t : Int} (hu : inM u) (ht : 0 ≤ t ∧ t ≤ 1000000) : 0 ≤ u * t ∧ u * t ≤ 2147483647000000 := by
  unfold inM at hu
  refine ⟨Int.mul_nonneg hu.1 ht.1, ?_⟩
  have := Int.mul_le_mul hu.2 ht.2 ht.1 (by omega)
  omega
theorem tmE_eq {u t : Int} (hu : inM u) (ht : 0 ≤ t ∧ t ≤ 1000000) : tmE u t = if 2147483647 < u * t then 2147483647 else u * t := by
  have := mul_in hu ht
  unfold tmE
  rw [w_in (by unfold inR; omega)]
theorem tmE_in {u t : Int} (hu : inM u) (ht : 0 ≤ t ∧ t ≤ 1000000) : inM (tmE u t) := by
  have := mul_in hu ht
  rw [tmE_eq hu ht]
  unfold inM
  split <;> omega
theorem tmE_mono {u v t : Int} (hu : inM u) (hv : inM v) (ht : 0 ≤ t ∧ t ≤ 1000000) (h : u ≤ v) : tmE u t ≤ tmE v t := by
  have h1 := mul_in hu ht
  have h2 := mul_in hv ht
  have h3 := Int.mul_le_mul_of_nonneg_right h ht.1
  rw [tmE_eq hu ht, tmE_eq hv ht]
  split <;> split <;> omega
theorem mxE_in {u v : Int} (hu : inM u) (hv : inM v) : inM (mxE u v) := by unfold mxE; split <;> assumption
theorem mxE_mono {u v u' v' : Int} (h1 : u ≤ u') (h2 : v ≤ v') : mxE u v ≤ mxE u' v' := by unfold mxE; split <;> split <;> omega
theorem nthI_rc (x : Nat → Nat → Int) (j : Nat) {q : Nat} (hq : q < 6) : nthI (rc x j) q = x q j := by
  have : q = 0 ∨ q = 1 ∨ q = 2 ∨ q = 3 ∨ q = 4 ∨ q = 5 := by omega
  rcases this with rfl | rfl | rfl | rfl | rfl | rfl <;> rfl
theorem l6_in {a b c d e f : Int} (h : inM a ∧ inM b ∧ inM c ∧ inM d ∧ inM e ∧ inM f) {q : Nat} (hq : q < 6) : inM (l6 a b c d e f q) := by
  obtain ⟨h1, h2, h3, h4, h5, h6⟩ := h
  have : q = 0 ∨ q = 1 ∨ q = 2 ∨ q = 3 ∨ q = 4 ∨ q = 5 := by omega
  rcases this with rfl | rfl | rfl | rfl | rfl | rfl <;> assumption
theorem z_in : inM 0 := by unfold inM; omega
section
variable {vs : Int} {n : Nat} {op arg : Nat → Int} {k : Nat} {a b c : Nat → Int} {R W : Int}
theorem Fit.opnd (h : Fit vs n op arg k a b c R W) {i : Nat} (hi : i < n) : Cv.rngL (op i) i ≤ arg i ∧ arg i ≤ Cv.rngH (op i) i n vs := (h.vp.1 i hi).1
theorem own_in (h : Fit vs n op arg k a b c R W) {i : Nat} (hi : i < n) {q : Nat} (hq : q < 6) : inM (owE a b R W (op i) (arg i) q) := by
  have ha := h.opnd hi
  have hr := h.rig
  unfold owE
  split
  · rename_i ho
    refine l6_in ⟨z_in, z_in, z_in, z_in, z_in, ?_⟩ hq
    unfold Cv.rngL Cv.rngH at ha
    rcases ho with ho | ho <;> rw [ho] at ha <;> simp at ha <;> unfold inM <;> omega
  split
  · have := trn_le hr.1.2.1 hr.1.2.2.1 hr.1.2.2.2.1 hr.1.2.2.2.2
    refine l6_in ⟨?_, z_in, z_in, z_in, ?_, ?_⟩ hq <;> unfold inM <;> omega
  split
  · rename_i ho
    have hw := h.work hi ho
    unfold Cv.rngL Cv.rngH at ha
    rw [ho] at ha
    simp at ha
    have ht : 0 ≤ Int.tmod (arg i) 1000000 ∧ Int.tmod (arg i) 1000000 ≤ 1000000 := by
      rw [Int.tmod_eq_emod_of_nonneg ha.1]; omega
    have hd := hr.2 (Int.toNat (w (Int.tdiv (arg i) 1000000))) (Nat.zero_le _) (by omega)
    exact l6_in ⟨tmE_in ⟨hd.1.1, by omega⟩ ht, tmE_in ⟨hd.2.1.1, by omega⟩ ht, tmE_in z_in ht, tmE_in z_in ht, tmE_in z_in ht, tmE_in (by unfold inM; omega) ht⟩ hq
  split
  · rename_i ho
    unfold Cv.rngL Cv.rngH at ha
    rw [ho] at ha
    simp at ha
    refine l6_in ⟨z_in, z_in, z_in, ?_, z_in, z_in⟩ hq
    rw [Int.tdiv_eq_ediv_of_nonneg ha.1, w_in (by unfold inR; omega)]
    unfold inM; omega
  split
  · rename_i ho
    unfold Cv.rngL Cv.rngH at ha
    rw [ho] at ha
    simp at ha
    exact l6_in ⟨z_in, z_in, ha, z_in, z_in, z_in⟩ hq
  · exact l6_in ⟨z_in, z_in, z_in, z_in, z_in, z_in⟩ hq
def rowsIn (n i : Nat) (x : Nat → Nat → Int) : Prop := ∀ j, i < j → j < n → ∀ q, q < 6 → inM (x q j)
theorem nd_rng (h : Fit vs n op arg k a b c R W) {i : Nat} (hi : i < n) {x : Nat → Nat → Int} (hx : rowsIn n i x) {q : Nat} (hq : q < 6) : inM (ndF (mkC vs n op arg) a b R W x i q) := by
  unfold ndF
  have eo : (mkC vs n op arg).op i = op i := rfl
  have ea : (mkC vs n op arg).arg i = arg i := rfl
  rw [eo, ea]
  split
  · exact z_in
  rename_i h0
  have hs := h.stop hi (fun g => h0 (.inl g))
  split
  · rename_i h14
    have := h.jump hi (.inl h14)
    rw [nthI_rc x _ hq]
    exact hx _ (by omega) (by omega) q hq
  split
  · rename_i h15
    have := h.jump hi (.inr h15)
    simp only [nthI_rc x _ hq]
    exact mxE_in (hx _ (by omega) hs q hq) (hx _ (by omega) (by omega) q hq)
  split
  · rename_i h16
    obtain ⟨_, l1, l2⟩ := h.loop hi h16
    have ha := h.opnd hi
    unfold Cv.rngL Cv.rngH at ha
    rw [h16] at ha
    simp at ha
    simp only [nthI_rc x _ hq]
    exact addE_in (tmE_in (hx _ (by omega) hs q hq) ⟨by omega, by omega⟩) (hx _ (by omega) (by omega) q hq)
  · simp only [nthI_rc x _ hq]
    exact addE_in (own_in h hi hq) (hx _ (by omega) hs q hq)
theorem nd_mono (h : Fit vs n op arg k a b c R W) {i : Nat} (hi : i < n) {x y : Nat → Nat → Int} (hx : rowsIn n i x) (hy : rowsIn n i y) (hle : ∀ j, i < j → j < n → ∀ q, q < 6 → x q j ≤ y q j) {q : Nat} (hq : q < 6) : ndF (mkC vs n op arg) a b R W x i q ≤ ndF (mkC vs n op arg) a b R W y i q := by
  unfold ndF
  have eo : (mkC vs n op arg).op i = op i := rfl
  have ea : (mkC vs n op arg).arg i = arg i := rfl
  rw [eo, ea]
  split
  · exact Int.le_refl _
  rename_i h0
  have hs := h.stop hi (fun g => h0 (.inl g))
  split
  · rename_i h14
    have := h.jump hi (.inl h14)
    rw [nthI_rc x _ hq, nthI_rc y _ hq]
    exact hle _ (by omega) (by omega) q hq
  split
  · rename_i h15
    have := h.jump hi (.inr h15)
    simp only [nthI_rc x _ hq, nthI_rc y _ hq]
    exact mxE_mono (hle _ (by omega) hs q hq) (hle _ (by omega) (by omega) q hq)
  split
  · rename_i h16
    obtain ⟨_, l1, l2⟩ := h.loop hi h16
    have ha := h.opnd hi
    unfold Cv.rngL Cv.rngH at ha
    rw [h16] at ha
    simp at ha
    have ht : 0 ≤ arg i ∧ arg i ≤ 1000000 := ⟨by omega, by omega⟩
    simp only [nthI_rc x _ hq, nthI_rc y _ hq]
    exact addE_mono (tmE_in (hx _ (by omega) hs q hq) ht) (hx _ (by omega) (by omega) q hq) (tmE_in (hy _ (by omega) hs q hq) ht) (hy _ (by omega) (by omega) q hq) (tmE_mono (hx _ (by omega) hs q hq) (hy _ (by omega) hs q hq) ht (hle _ (by omega) hs q hq)) (hle _ (by omega) (by omega) q hq)
  · simp only [nthI_rc x _ hq, nthI_rc y _ hq]
    exact addE_mono (own_in h hi hq) (hx _ (by omega) hs q hq) (own_in h hi hq) (hy _ (by omega) hs q hq) (Int.le_refl _) (hle _ (by omega) hs q hq)
theorem certX_keep (F : (Nat → Nat → Int) → Nat → Nat → Int) {n r : Nat} : ∀ (s : Nat), r ≤ s → s ≤ n → ∀ j, n - r ≤ j → ∀ q, certX F n s q j = certX F n r q j := by
  intro s
  induction s with
  | zero => intro h _ j _ q; have : r = 0 := by omega
            subst this; rfl
  | succ s ih =>
    intro h hs j hj q
    by_cases hr : r = s + 1
    · subst hr; rfl
    · rw [← ih (by omega) (by omega) j hj q, certX]
      unfold putR
      rw [if_neg (by omega)]
theorem cert_at (F : (Nat → Nat → Int) → Nat → Nat → Int) {n i : Nat} (hi : i < n) (q : Nat) : certX F n n q i = F (certX F n (n - 1 - i)) i q := by
  rw [certX_keep F (r := n - i) n (by omega) (Nat.le_refl _) i (by omega) q, certX_step F hi]
  unfold putR
  rw [if_pos rfl]
theorem cert_above (F : (Nat → Nat → Int) → Nat → Nat → Int) {n i : Nat} (hi : i < n) {j : Nat} (hj : i < j) (q : Nat) : certX F n (n - 1 - i) q j = certX F n n q j :=
  (certX_keep F (r := n - 1 - i) n (by omega) (Nat.le_refl _) j (by omega) q).symm
theorem cert_rows (h : Fit vs n op arg k a b c R W) : ∀ (r i : Nat), i + r = n → ∀ j, i ≤ j → j < n → ∀ q, q < 6 → inM (certF vs n op arg a b R W q j) := by
  intro r
  induction r with
  | zero => intro i hi j h1 h2; omega
  | succ r ih =>
    intro i hi j h1 h2 q hq
    by_cases hj : j = i
    · subst hj
      unfold certF
      rw [cert_at _ h2]
      refine nd_rng h h2 (fun l l1 l2 q hq => ?_) hq
      rw [cert_above _ h2 l1]
      exact ih (j + 1) (by omega) l (by omega) l2 q hq
    · exact ih (i + 1) (by omega) j (by omega) h2 q hq
/-- A certificate's cost is its need. -/
theorem cert_fix (h : Fit vs n op arg k a b c R W) {i : Nat} (hi : i < n) {q : Nat} (hq : q < 6) : certF vs n op arg a b R W q i = ndF (mkC vs n op arg) a b R W (certF vs n op arg a b R W) i q := by
  have hr := cert_rows h n 0 (by omega)
  have h1 : rowsIn n i (certF vs n op arg a b R W) := fun j j1 j2 q hq => hr j (by omega) j2 q hq
  have h2 : rowsIn n i (certX (ndF (mkC vs n op arg) a b R W) n (n - 1 - i)) := fun j j1 j2 q hq => by rw [cert_above _ hi j1]; exact hr j (by omega) j2 q hq
  have e : ∀ j, i < j → j < n → ∀ q, q < 6 → certX (ndF (mkC vs n op arg) a b R W) n (n - 1 - i) q j = certF vs n op arg a b R W q j := fun j j1 j2 q hq => cert_above _ hi j1 q
  show certX (ndF (mkC vs n op arg) a b R W) n n q i = _
  rw [cert_at _ hi]
  have a1 := nd_mono h hi h2 h1 (fun j j1 j2 q hq => Int.le_of_eq (e j j1 j2 q hq)) hq
  have a2 := nd_mono h hi h1 h2 (fun j j1 j2 q hq => Int.le_of_eq (e j j1 j2 q hq).symm) hq
  exact Int.le_antisymm a1 a2
/-- Any that is accepted is not less. -/
theorem cert_least (h : Fit vs n op arg k a b c R W) {y : Nat → Nat → Int} (hy : ∀ j, j < n → ∀ q, q < 6 → inM (y q j)) (hw : ∀ j, j < n → ∀ q, q < 6 → ndF (mkC vs n op arg) a b R W y j q ≤ y q j) : ∀ (r i : Nat), i + r = n → ∀ j, i ≤ j → j < n → ∀ q, q < 6 → certF vs n op arg a b R W q j ≤ y q j := by
  intro r
  induction r with
  | zero => intro i hi j h1 h2; omega
  | succ r ih =>
    intro i hi j h1 h2 q hq
    by_cases hj : j = i
    · subst hj
      rw [cert_fix h h2 hq]
      refine Int.le_trans (nd_mono h h2 (fun l l1 l2 q hq => cert_rows h n 0 (by omega) l (by omega) l2 q hq) (fun l l1 l2 q hq => hy l l2 q hq) (fun l l1 l2 q hq => ih (j + 1) (by omega) l (by omega) l2 q hq) hq) (hw j h2 q hq)
    · exact ih (i + 1) (by omega) j (by omega) h2 q hq
theorem rng6_of {x : Nat → Nat → Int} {j : Nat} : rng6 x j ↔ ∀ q, q < 6 → inM (x q j) := by
  unfold rng6
  constructor
  · intro h q hq
    have : q = 0 ∨ q = 1 ∨ q = 2 ∨ q = 3 ∨ q = 4 ∨ q = 5 := by omega
    obtain ⟨h0, h1, h2, h3, h4, h5⟩ := h
    rcases this with rfl | rfl | rfl | rfl | rfl | rfl <;> assumption
  · intro h
    exact ⟨h 0 (by omega), h 1 (by omega), h 2 (by omega), h 3 (by omega), h 4 (by omega), h 5 (by omega)⟩
theorem wit6_of {v : Nat → Int} {x : Nat → Nat → Int} {j : Nat} : wit6 v x j ↔ ∀ q, q < 6 → v q ≤ x q j := by
  unfold wit6
  constructor
  · intro h q hq
    have : q = 0 ∨ q = 1 ∨ q = 2 ∨ q = 3 ∨ q = 4 ∨ q = 5 := by omega
    obtain ⟨h0, h1, h2, h3, h4, h5⟩ := h
    rcases this with rfl | rfl | rfl | rfl | rfl | rfl <;> assumption
  · intro h
    exact ⟨h 0 (by omega), h 1 (by omega), h 2 (by omega), h 3 (by omega), h 4 (by omega), h 5 (by omega)⟩
theorem ok_least (h : Fit vs n op arg k a b c R W) {y : Nat → Nat → Int} (hy : okC vs n op arg a b R W y) {j : Nat} (hj : j < n) {q : Nat} (hq : q < 6) : certF vs n op arg a b R W q j ≤ y q j :=
  cert_least h (fun j hj => rng6_of.1 (hy.1 j (Nat.zero_le _) hj)) (fun j hj => wit6_of.1 (hy.2 j (Nat.zero_le _) hj)) n 0 (by omega) j (Nat.zero_le _) hj q hq
end
theorem Made.vp {tl : Bool} {z : g_CodeR} (h : Made tl z) : Cv.VP (mkC 0 z.1 z.2.1 z.2.2) ∧ 1 ≤ z.1 ∧ z.1 ≤ 300 := by
  obtain ⟨s, h1, h2, h3, h4⟩ := h
  refine ⟨seg_VP h1 h3 fun j hj => ?_, by omega, by omega⟩
  have := h4 j (by simp at hj; omega)
  rw [Nat.zero_add]
  exact this
theorem chk_made {tl : Bool} {z : g_CodeR} (h : Made tl z) (k : Nat) (a b c : Nat → Int) (R W : Int) : chkV 0 0 z.1 z.2.1 z.2.2 k a b c R W = 0 ∨ chkV 0 0 z.1 z.2.1 z.2.2 k a b c R W = 5 := by
  obtain ⟨h1, h2, h3⟩ := h.vp
  have hv : verV 0 (mkC 0 z.1 z.2.1 z.2.2) = 0 := by
    refine verV_0 ?_ ?_
    · rintro (g | g)
      · have : z.1 > 300 := g
        omega
      · have : (0 : Int) > 12 := g
        omega
    · rintro (g | g | g | g)
      · omega
      · have : (0 : Int) > 0 := g
        omega
      · have : z.1 = 0 := g
        omega
      · exact g h1
  unfold chkV
  rw [hv]
  split
  · exact .inr rfl
  · exact .inl rfl
end Go.Proofs.Ythegipdgillngaa
/- CostLeast. -/
namespace Go.Proofs.Ythegipdgillngaa
open Go Go.Am Go.Proofs
set_option linter.unusedSimpArgs false
set_option linter.unusedVariables false
set_option maxRecDepth 100000
theorem within_true {q : Nat} {a0 a1 a2 a3 a4 a5 b0 b1 b2 b3 b4 b5 : Int} (h0 : a0 ≤ b0) (h1 : a1 ≤ b1) (h2 : a2 ≤ b2) (h3 : a3 ≤ b3) (h4 : a4 ≤ b4) (h5 : a5 ≤ b5) : Within q (a0, a1, a2, a3, a4, a5, b0, b1, b2, b3, b4, b5) = some true := by
  show some (if false = true then _ else _) = some true
  rw [if_neg (by decide)]
  simp only [mxLe, decide_eq_true h0, decide_eq_true h1, decide_eq_true h2, decide_eq_true h3, decide_eq_true h4, decide_eq_true h5, Bool.and_self, Bool.and_true]
theorem cver_zero {nm : ByteArray} {ps vs : Int} {n : Nat} {op ar : Nat → Int} {k : Nat} {a b c : Nat → Int} {R W : Int} {m : Nat} {x0 x1 x2 x3 x4 x5 : Nat → Int} (h : chkV ps vs n op ar k a b c R W = 0) (hm : m = n) (ho : okC vs n op ar a b R W (mk6 x0 x1 x2 x3 x4 x5)) : cverO (nm, ps, vs, n, op, ar, k, a, b, c, R, W, m, x0, x1, x2, x3, x4, x5) = 0 := by
  unfold cverO cverV
  simp only
  rw [if_neg (fun g => g h), if_pos ⟨hm, ho⟩]
/-- A certificate that is accepted is not less than the least. -/
theorem least_le {vs : Int} {n : Nat} {op ar : Nat → Int} {k : Nat} {a b c : Nat → Int} {R W : Int} (hf : Fit vs n op ar k a b c R W) {x0 x1 x2 x3 x4 x5 : Nat → Int} (ho : okC vs n op ar a b R W (mk6 x0 x1 x2 x3 x4 x5)) {j : Nat} (hj : j < n) :
    certF vs n op ar a b R W 0 j ≤ x0 j ∧ certF vs n op ar a b R W 1 j ≤ x1 j ∧ certF vs n op ar a b R W 2 j ≤ x2 j ∧ certF vs n op ar a b R W 3 j ≤ x3 j ∧ certF vs n op ar a b R W 4 j ≤ x4 j ∧ certF vs n op ar a b R W 5 j ≤ x5 j :=
  ⟨ok_least hf ho hj (q := 0) (by decide), ok_least hf ho hj (q := 1) (by decide), ok_least hf ho hj (q := 2) (by decide), ok_least hf ho hj (q := 3) (by decide), ok_least hf ho hj (q := 4) (by decide), ok_least hf ho hj (q := 5) (by decide)⟩
end Go.Proofs.Ythegipdgillngaa
/- The cost of a path is within the certificate (plain). -/
namespace Go.Proofs.Ythegipdgillngaa
open Go Go.Am Go.Proofs
set_option linter.unusedSimpArgs false
set_option linter.unusedVariables false
set_option maxRecDepth 100000
open Go.Proofs.Cv (Cd upd rng rngL rngH stopOk Pl plcP pureP jmp jmps VP zero)
/-- How the levels of a place and the next one hang together. -/
structure Loc (c : Cd) (l v : Nat → Int) (i : Nat) : Prop where
  lt : -1 ≤ l i ∧ l i < i
  pure : v i ≠ -1 → c.op i = 20 ∨ pureP (c.op i) = true
  c16 : c.op i = 16 → l (i + 1) = i ∧ v (i + 1) = v i
  c19 : c.op i = 19 → l (i + 1) = l i ∧ v (i + 1) = i
  c17 : c.op i = 17 → l i ≠ -1 ∧ c.arg i = l i + 1 ∧ l (i + 1) = l (l i).toNat ∧ v (i + 1) = v (l i).toNat
  c20 : c.op i = 20 → v i ≠ -1 ∧ c.arg i = v i + 1 ∧ l (i + 1) = l i ∧ v (i + 1) = -1
  oth : c.op i ≠ 16 → c.op i ≠ 19 → c.op i ≠ 17 → c.op i ≠ 20 → l (i + 1) = l i ∧ v (i + 1) = v i
/-- The levels of valid code. -/
structure Lvs (n : Nat) (op arg : Nat → Int) (l v : Nat → Int) : Prop where
  l0 : l 0 = -1
  v0 : v 0 = -1
  ln : l n = -1
  vn : v n = -1
  loc : ∀ j, j < n → Loc (mkC 0 n op arg) l v j
  jm : ∀ j, j < n → (op j = 14 ∨ op j = 15) → l (arg j).toNat = l j ∧ v (arg j).toNat = v j
section
variable {n : Nat} {op arg : Nat → Int} {k : Nat} {a b c : Nat → Int} {R W : Int}
theorem Lvs.loop {l v : Nat → Int} (hv : Lvs n op arg l v) : ∀ (m i : Nat), i < m → i ≤ n → l i ≠ -1 → ∃ r : Nat, l i = r ∧ r < i ∧ r < n ∧ op r = 16 := by
  intro m
  induction m with
  | zero => intro i h; omega
  | succ m ih =>
    intro i him hin hl
    cases i with
    | zero => exact absurd hv.l0 hl
    | succ i =>
      have lc := hv.loc i (by omega)
      have same : l (i + 1) = l i → ∃ r : Nat, l (i + 1) = r ∧ r < i + 1 ∧ r < n ∧ op r = 16 := fun e => by
        rw [e] at hl ⊢
        obtain ⟨r, h1, h2, h3, h4⟩ := ih i (by omega) (by omega) hl
        exact ⟨r, h1, by omega, h3, h4⟩
      by_cases h16 : op i = 16
      · exact ⟨i, (lc.c16 h16).1, by omega, by omega, h16⟩
      by_cases h19 : op i = 19
      · exact same (lc.c19 h19).1
      by_cases h17 : op i = 17
      · obtain ⟨g1, g2, g3, g4⟩ := lc.c17 h17
        have := lc.lt
        obtain ⟨r, h1, h2, h3, h4⟩ := ih (l i).toNat (by omega) (by omega) (by rw [← g3]; exact hl)
        exact ⟨r, by rw [g3, h1], by omega, h3, h4⟩
      by_cases h20 : op i = 20
      · exact same (lc.c20 h20).2.2.1
      exact same (lc.oth h16 h19 h17 h20).1
theorem Lvs.free {l v : Nat → Int} (hv : Lvs n op arg l v) {i : Nat} (hi : i < n) (ho : op i = 16 ∨ op i = 17 ∨ op i = 19) : v i = -1 := by
  refine Classical.byContradiction fun g => ?_
  have hpu : op i = 20 ∨ pureP (op i) = true := (hv.loc i hi).pure g
  unfold pureP at hpu
  simp at hpu
  omega
theorem Lvs.wait {l v : Nat → Int} (hv : Lvs n op arg l v) : ∀ (i : Nat), i ≤ n → v i ≠ -1 → ∃ d : Nat, v i = d ∧ d < i ∧ op d = 19 ∧ l i = l d := by
  intro i
  induction i with
  | zero => intro _ h; exact absurd hv.v0 h
  | succ i ih =>
    intro hin hw
    have lc := hv.loc i (by omega)
    have same : v (i + 1) = v i → l (i + 1) = l i → ∃ d : Nat, v (i + 1) = d ∧ d < i + 1 ∧ op d = 19 ∧ l (i + 1) = l d := fun e e2 => by
      rw [e] at hw ⊢
      obtain ⟨d, h1, h2, h3, h4⟩ := ih (by omega) hw
      exact ⟨d, h1, by omega, h3, by rw [e2, h4]⟩
    by_cases h16 : op i = 16
    · exact absurd (by rw [(lc.c16 h16).2]; exact hv.free (by omega) (.inl h16)) hw
    by_cases h19 : op i = 19
    · exact ⟨i, (lc.c19 h19).2, by omega, h19, (lc.c19 h19).1⟩
    by_cases h17 : op i = 17
    · obtain ⟨g1, g2, g3, g4⟩ := lc.c17 h17
      obtain ⟨r, h1, h2, h3, h4⟩ := hv.loop (i + 1) i (by omega) (by omega) g1
      exact absurd (by rw [g4, h1, Int.toNat_natCast]; exact hv.free h3 (.inl h4)) hw
    by_cases h20 : op i = 20
    · exact absurd (lc.c20 h20).2.2.2 hw
    exact same (lc.oth h16 h19 h17 h20).2 (lc.oth h16 h19 h17 h20).1
theorem addE_min {u v : Int} (hu : inM u) (hv : inM v) : addE u v = min 2147483647 (u + v) := by
  rw [addE_eq hu hv]; split <;> omega
/-- The costs of the certificate. -/
abbrev Yc (n : Nat) (op arg : Nat → Int) (a b : Nat → Int) (R W : Int) : Nat → Nat → Int := certF 0 n op arg a b R W
theorem Y_in (h : Fit 0 n op arg k a b c R W) {i : Nat} (hi : i < n) {q : Nat} (hq : q < 6) : inM (Yc n op arg a b R W q i) := cert_rows h n 0 (by omega) i (Nat.zero_le _) hi q hq
theorem Y_end (h : Fit 0 n op arg k a b c R W) {i : Nat} (hi : i < n) {q : Nat} (hq : q < 6) (ho : op i = 28 ∨ op i = 27 ∨ op i = 17) : Yc n op arg a b R W q i = 0 := by
  unfold Yc
  rw [cert_fix h hi hq, ndF, if_pos (show (mkC 0 n op arg).op i = 28 ∨ (mkC 0 n op arg).op i = 27 ∨ (mkC 0 n op arg).op i = 17 from ho)]
theorem Y_jump (h : Fit 0 n op arg k a b c R W) {i : Nat} (hi : i < n) {q : Nat} (hq : q < 6) (ho : op i = 14) : Yc n op arg a b R W q i = Yc n op arg a b R W q (arg i).toNat := by
  have e : (mkC 0 n op arg).op i = 14 := ho
  unfold Yc
  rw [cert_fix h hi hq, ndF, if_neg (by rw [e]; decide), if_pos e]
  exact nthI_rc _ _ hq
theorem Y_unless (h : Fit 0 n op arg k a b c R W) {i : Nat} (hi : i < n) {q : Nat} (hq : q < 6) (ho : op i = 15) : Yc n op arg a b R W q i = max (Yc n op arg a b R W q (i + 1)) (Yc n op arg a b R W q (arg i).toNat) := by
  have e : (mkC 0 n op arg).op i = 15 := ho
  unfold Yc
  rw [cert_fix h hi hq, ndF, if_neg (by rw [e]; decide), if_neg (by rw [e]; decide), if_pos e]
  show mxE (nthI _ q) (nthI _ q) = _
  rw [nthI_rc _ _ hq, nthI_rc _ _ hq]
  show mxE _ (certF 0 n op arg a b R W q (arg i).toNat) = _
  unfold mxE
  split <;> omega
def eN (n : Nat) (op arg : Nat → Int) (i : Nat) : Nat := (Cv.endF (mkC 0 n op arg) i).toNat
theorem Y_other (h : Fit 0 n op arg k a b c R W) {i : Nat} (hi : i < n) {q : Nat} (hq : q < 6) (ho : op i ≠ 28 ∧ op i ≠ 27 ∧ op i ≠ 17 ∧ op i ≠ 14 ∧ op i ≠ 15 ∧ op i ≠ 16) : Yc n op arg a b R W q i = min 2147483647 (owE a b R W (op i) (arg i) q + Yc n op arg a b R W q (i + 1)) := by
  have e : (mkC 0 n op arg).op i = op i := rfl
  have hs := h.stop hi ho.1
  have h1 := Y_in h hs hq
  have h2 := own_in h hi hq
  unfold Yc at h1 ⊢
  rw [cert_fix h hi hq, ndF, if_neg (by rw [e]; omega), if_neg (by rw [e]; omega), if_neg (by rw [e]; omega), if_neg (by rw [e]; omega)]
  show addE _ (nthI _ q) = _
  rw [nthI_rc _ _ hq]
  exact addE_min h2 h1
theorem eN_hit (h : Fit 0 n op arg k a b c R W) {r i : Nat} (hr : r < n) (h16 : op r = 16) (hi : i < n) (h17 : op i = 17) (ha : arg i = (r : Int) + 1) : eN n op arg r = i := by
  obtain ⟨j, h1, h2, h3, h4⟩ := Cv.loop_end h.vp hr h16
  have h17' : ∀ k, k < (mkC 0 n op arg).n → (mkC 0 n op arg).op k = 17 → 1 ≤ (mkC 0 n op arg).arg k := fun k hk h => ((Cv.rng_17 (c := mkC 0 n op arg) (i := k) (.inl h)).1 (‹Fit 0 n op arg _ a b c R W›.vp.1 k hk).1).1
  have e := Cv.endA_eq (c := mkC 0 n op arg) h17' (by omega) h3 h4 n (Nat.le_refl _)
  have hj : j < n := by have : j + 1 < n := h2; omega
  rw [if_pos hj] at e
  have hij : i = j := h4 i hi ⟨h17, ha⟩
  show (Cv.endA (mkC 0 n op arg) n r).toNat = i
  rw [e, hij, Int.toNat_natCast]
/-- The loops (the innermost first) are those of a place at this level. -/
inductive Lst (n : Nat) (op : Nat → Int) (l : Nat → Int) : Int → List (Int × Int) → Prop
  | nil : Lst n op l (-1) []
  | cons {r : Nat} {t : Int} {L : List (Int × Int)} : r < n → op r = 16 → (1 ≤ t ∧ t ≤ 1000000) → Lst n op l (l r) L → Lst n op l r (((r : Int) + 1, t) :: L)
theorem Lst.of_cons {l : Nat → Int} {r : Int} {L : List (Int × Int)} (h : Lst n op l r L) (hr : r ≠ -1) : ∃ (u : Nat) (t : Int) (L' : List (Int × Int)), r = u ∧ L = ((u : Int) + 1, t) :: L' ∧ u < n ∧ op u = 16 ∧ (1 ≤ t ∧ t ≤ 1000000) ∧ Lst n op l (l u) L' := by
  cases h with
  | nil => exact absurd rfl hr
  | cons h1 h2 h3 h4 => exact ⟨_, _, _, rfl, rfl, h1, h2, h3, h4⟩
/-- What the loops may still cost. -/
def Lpot (n : Nat) (op arg : Nat → Int) (Y : Nat → Int) : List (Int × Int) → Int
  | [] => 0
  | (u, t) :: L => (t - 1) * Y u.toNat + Y (eN n op arg (u.toNat - 1) + 1) + Lpot n op arg Y L
theorem Lpot_nn (h : Fit 0 n op arg k a b c R W) {q : Nat} (hq : q < 6) {l : Nat → Int} {r : Int} {L : List (Int × Int)} (hL : Lst n op l r L) : 0 ≤ Lpot n op arg (Yc n op arg a b R W q) L := by
  induction hL with
  | nil => exact Int.le_refl _
  | @cons r t L h1 h2 h3 _ ih =>
    have hl := h.loop h1 h2
    have hs := h.stop h1 (by rw [h2]; decide)
    have y1 := Y_in h hs hq
    have y2 := Y_in h (i := eN n op arg r + 1) (by unfold eN; omega) hq
    unfold inM at y1 y2
    have m := Int.mul_nonneg (show (0 : Int) ≤ t - 1 by omega) y1.1
    unfold Lpot
    have e : ((r : Int) + 1).toNat = r + 1 := by omega
    rw [e, Nat.add_sub_cancel]
    omega
/-- What the place may still cost, without its loops. -/
def Hd (v : Nat → Int) (Y : Nat → Nat → Int) (p left : Int) (q : Nat) : Int := if v p.toNat = -1 then Y q p.toNat else Y q (v p.toNat + 1).toNat + if q = 5 then left else 0
structure Inv (n : Nat) (op arg : Nat → Int) (Y : Nat → Nat → Int) (tl : Bool) (l v : Nat → Int) (p left : Int) (L : List (Int × Int)) (s : Nat → Int) : Prop where
  rng : 0 ≤ p ∧ p < n
  lst : Lst n op l (l p.toNat) L
  lefts : 0 ≤ left ∧ left ≤ 2147483647
  sums : ∀ q, q < 6 → inM (s q)
  head : v p.toNat ≠ -1 → -1 < v p.toNat ∧ v p.toNat + 1 < n ∧ ∀ q, q < 6 → Y q p.toNat ≤ Y q (v p.toNat + 1).toNat
  pot : ∀ q, q < 6 → min 2147483647 (s q + Hd v Y p left q + Lpot n op arg (Y q) L) ≤ Y q 0 ∧ (tl = true → Y q 0 ≤ min 2147483647 (s q + Hd v Y p left q + Lpot n op arg (Y q) L))
variable {l v : Nat → Int} {tl : Bool} {p left : Int} {L : List (Int × Int)} {s : Nat → Int}
/-- Forward, within the level, no cost. -/
theorem Inv.go (h : Fit 0 n op arg k a b c R W) (hv : Lvs n op arg l v) (hi : Inv n op arg (Yc n op arg a b R W) tl l v p left L s) {p' : Int} (hr : 0 ≤ p' ∧ p' < n) (hl : l p'.toNat = l p.toNat ∧ v p'.toNat = v p.toNat)
    (hy : ∀ q, q < 6 → Yc n op arg a b R W q p'.toNat ≤ Yc n op arg a b R W q p.toNat) (ht : tl = false) : Inv n op arg (Yc n op arg a b R W) tl l v p' left L s := by
  refine ⟨hr, by rw [hl.1]; exact hi.lst, hi.lefts, hi.sums, fun g => ?_, fun q hq => ⟨?_, fun g => by rw [ht] at g; cases g⟩⟩
  · rw [hl.2] at g ⊢
    obtain ⟨h1, h2, h3⟩ := hi.head g
    exact ⟨h1, h2, fun q hq => Int.le_trans (hy q hq) (h3 q hq)⟩
  · have hp := (hi.pot q hq).1
    have := hy q hq
    unfold Hd at hp ⊢
    rw [hl.2]
    split at hp
    · rename_i g; rw [if_pos g]; omega
    · rename_i g; rw [if_neg g]; exact hp
theorem Inv.jump (h : Fit 0 n op arg k a b c R W) (hv : Lvs n op arg l v) (hi : Inv n op arg (Yc n op arg a b R W) tl l v p left L s) (ht : tl = false) (ho : op p.toNat = 14 ∨ op p.toNat = 15) : Inv n op arg (Yc n op arg a b R W) tl l v (arg p.toNat) left L s := by
  have hp : p.toNat < n := by have := hi.rng; omega
  have hj := h.jump hp ho
  refine hi.go h hv (by omega) (hv.jm _ hp ho) (fun q hq => ?_) ht
  rcases ho with ho | ho
  · rw [Y_jump h hp hq ho]; exact Int.le_refl _
  · rw [Y_unless h hp hq ho]; omega
/-- An instruction with a cost of its own. -/
theorem Inv.own (h : Fit 0 n op arg k a b c R W) (hv : Lvs n op arg l v) (hi : Inv n op arg (Yc n op arg a b R W) tl l v p left L s) (ho : op p.toNat ≠ 28 ∧ op p.toNat ≠ 27 ∧ op p.toNat ≠ 17 ∧ op p.toNat ≠ 14 ∧ op p.toNat ≠ 15 ∧ op p.toNat ≠ 16 ∧ op p.toNat ≠ 19 ∧ op p.toNat ≠ 20)
    {s' : Nat → Int} (hs' : ∀ q, q < 6 → s' q = addE (s q) (owE a b R W (op p.toNat) (arg p.toNat) q)) : Inv n op arg (Yc n op arg a b R W) tl l v (p + 1) left L s' := by
  have hr := hi.rng
  have hp : p.toNat < n := by omega
  have hs := h.stop hp ho.1
  have e : (p + 1).toNat = p.toNat + 1 := by omega
  have lc := hv.loc _ hp
  have hl := lc.oth ho.2.2.2.2.2.1 ho.2.2.2.2.2.2.1 ho.2.2.1 ho.2.2.2.2.2.2.2
  have hn : ∀ q, q < 6 → Yc n op arg a b R W q p.toNat = min 2147483647 (owE a b R W (op p.toNat) (arg p.toNat) q + Yc n op arg a b R W q (p.toNat + 1)) := fun q hq => Y_other h hp hq ⟨ho.1, ho.2.1, ho.2.2.1, ho.2.2.2.1, ho.2.2.2.2.1, ho.2.2.2.2.2.1⟩
  refine ⟨by omega, by rw [e, hl.1]; exact hi.lst, hi.lefts, fun q hq => by rw [hs' q hq]; exact addE_in (hi.sums q hq) (own_in h hp hq), fun g => ?_, fun q hq => ?_⟩
  · rw [e, hl.2] at g ⊢
    obtain ⟨h1, h2, h3⟩ := hi.head g
    refine ⟨h1, h2, fun q hq => Int.le_trans ?_ (h3 q hq)⟩
    have y := Y_in h hs hq
    have o := own_in h hp hq
    unfold inM at y o
    rw [hn q hq]; omega
  · have hpo := hi.pot q hq
    have y := Y_in h hs hq
    have o := own_in h hp hq
    have sq := hi.sums q hq
    have nn := Lpot_nn h hq hi.lst
    rw [hs' q hq, addE_min sq o]
    have hyq := hn q hq
    unfold Hd at hpo ⊢
    rw [e, hl.2]
    unfold inM at y o sq
    by_cases g : v p.toNat = -1
    · rw [if_pos g] at hpo ⊢
      have hpo2 := hpo.2
      refine ⟨by omega, fun t => ?_⟩
      have := hpo2 t
      omega
    · rw [if_neg g] at hpo ⊢
      have hpu := lc.pure g
      have h0 : owE a b R W (op p.toNat) (arg p.toNat) q = 0 := by
        have hop : op p.toNat = 20 ∨ pureP (op p.toNat) = true := hpu
        have hop2 : op p.toNat ≤ 15 := by
          rcases hop with hop | hop
          · exact absurd hop ho.2.2.2.2.2.2.2
          · unfold pureP at hop; simp at hop; exact hop.1
        unfold owE
        rw [if_neg (by omega), if_neg (by omega), if_neg (by omega), if_neg (by omega), if_neg (by omega)]
        have : q = 0 ∨ q = 1 ∨ q = 2 ∨ q = 3 ∨ q = 4 ∨ q = 5 := by omega
        rcases this with rfl | rfl | rfl | rfl | rfl | rfl <;> rfl
      rw [h0] at hyq ⊢
      have e2 : min 2147483647 (s q + 0) = s q := by omega
      rw [e2]
      exact hpo
theorem Inv.next (h : Fit 0 n op arg k a b c R W) (hv : Lvs n op arg l v) (hi : Inv n op arg (Yc n op arg a b R W) tl l v p left L s) (ho : op p.toNat = 17) : ∃ (u t : Int) (L' : List (Int × Int)), L = (u, t) :: L' ∧ (1 ≤ t ∧ t ≤ 1000000) ∧
    (1 < t → Inv n op arg (Yc n op arg a b R W) tl l v (arg p.toNat) left ((arg p.toNat, t - 1) :: L') s) ∧ (t = 1 → Inv n op arg (Yc n op arg a b R W) tl l v (p + 1) left L' s) := by
  have hr := hi.rng
  have hp : p.toNat < n := by omega
  have hs := h.stop hp (by rw [ho]; decide)
  have e : (p + 1).toNat = p.toNat + 1 := by omega
  have lc := hv.loc _ hp
  obtain ⟨l1, l2, l3, l4⟩ := lc.c17 ho
  obtain ⟨r, t, L', e1, rfl, r1, r2, r3, r4⟩ := hi.lst.of_cons l1
  rw [e1] at l2 l3 l4
  have l2' : arg p.toNat = (r : Int) + 1 := l2
  rw [Int.toNat_natCast] at l3 l4
  have hw : ∀ i, i < n → (op i = 16 ∨ op i = 17) → v i = -1 := fun i hi ho => by
    refine Classical.byContradiction fun g => ?_
    have hpu : op i = 20 ∨ pureP (op i) = true := (hv.loc i hi).pure g
    unfold pureP at hpu
    simp at hpu
    omega
  have v1 := hw _ hp (.inr ho)
  have v2 := hw _ r1 (.inl r2)
  have lr := (hv.loc r r1).c16 r2
  have hend := eN_hit h r1 r2 hp ho l2'
  have hrs := h.stop r1 (by rw [r2]; decide)
  have er : ((r : Int) + 1).toNat = r + 1 := by omega
  refine ⟨_, _, _, rfl, r3, fun ht => ?_, fun ht => ?_⟩
  · rw [l2']
    refine ⟨by omega, ?_, hi.lefts, hi.sums, fun g => ?_, fun q hq => ?_⟩
    · rw [er, lr.1]; exact .cons r1 r2 ⟨by omega, by omega⟩ r4
    · rw [er, lr.2] at g; exact absurd v2 g
    · have hpo := hi.pot q hq
      have y := Y_in h hrs hq
      have y2 := Y_in h hs hq
      have y0 := Y_end h hp hq (.inr (.inr ho))
      have sq := hi.sums q hq
      have nn := Lpot_nn h hq r4
      unfold Hd at hpo ⊢
      rw [if_pos v1] at hpo
      rw [er, lr.2, if_pos v2]
      unfold Lpot at hpo ⊢
      rw [er, Nat.add_sub_cancel, hend] at hpo ⊢
      rw [y0] at hpo
      unfold inM at y y2 sq
      have m2 : (t - 1 - 1) * Yc n op arg a b R W q (r + 1) = (t - 1) * Yc n op arg a b R W q (r + 1) - Yc n op arg a b R W q (r + 1) := by rw [Int.sub_mul (t - 1), Int.one_mul]
      rw [m2]
      have m1 := Int.mul_nonneg (show (0 : Int) ≤ t - 1 by omega) y.1
      generalize (t - 1) * Yc n op arg a b R W q (r + 1) = m at *
      have hpo2 := hpo.2
      refine ⟨by omega, fun t => ?_⟩
      have := hpo2 t
      omega
  · refine ⟨by omega, ?_, hi.lefts, hi.sums, fun g => ?_, fun q hq => ?_⟩
    · rw [e, l3]; exact r4
    · rw [e, l4] at g; exact absurd v2 g
    · have hpo := hi.pot q hq
      have y := Y_in h hrs hq
      have y2 := Y_in h hs hq
      have y0 := Y_end h hp hq (.inr (.inr ho))
      have sq := hi.sums q hq
      have nn := Lpot_nn h hq r4
      unfold Hd at hpo ⊢
      rw [if_pos v1] at hpo
      rw [e, l4, if_pos v2]
      unfold Lpot at hpo
      rw [er, Nat.add_sub_cancel, hend, y0, ht] at hpo
      have e0 : ((1 : Int) - 1) * Yc n op arg a b R W q (r + 1) = 0 := by rw [show (1 : Int) - 1 = 0 by omega, Int.zero_mul]
      rw [e0] at hpo
      unfold inM at y y2 sq
      have hpo2 := hpo.2
      refine ⟨by omega, fun t => ?_⟩
      have := hpo2 t
      omega
/-- What waits has only waits around it. -/
theorem Inv.dead (h : Fit 0 n op arg k a b c R W) (hv : Lvs n op arg l v) (hi : Inv n op arg (Yc n op arg a b R W) tl l v p left L s) (ht : tl = false) (ho : op p.toNat = 19) : Inv n op arg (Yc n op arg a b R W) tl l v (p + 1) (arg p.toNat) L s := by
  have hr := hi.rng
  have hp : p.toNat < n := by omega
  have hs := h.stop hp (by rw [ho]; decide)
  have e : (p + 1).toNat = p.toNat + 1 := by omega
  have lc := hv.loc _ hp
  have hl := lc.c19 ho
  have ha := h.opnd hp
  unfold Cv.rngL Cv.rngH at ha
  rw [ho] at ha
  simp at ha
  have hv1 : v p.toNat = -1 := by
    refine Classical.byContradiction fun g => ?_
    have hpu : op p.toNat = 20 ∨ pureP (op p.toNat) = true := lc.pure g
    rw [ho] at hpu
    rcases hpu with g | g
    · omega
    · revert g; decide
  have ev : (v (p.toNat + 1) + 1).toNat = p.toNat + 1 := by rw [hl.2]; omega
  refine ⟨by omega, by rw [e, hl.1]; exact hi.lst, by omega, hi.sums, fun g => ?_, fun q hq => ⟨?_, fun g => by rw [ht] at g; cases g⟩⟩
  · rw [e, ev, hl.2]
    exact ⟨by omega, by omega, fun q _ => Int.le_refl _⟩
  · have hpo := (hi.pot q hq).1
    have y := Y_in h hs hq
    have o := own_in h hp hq
    have sq := hi.sums q hq
    have nn := Lpot_nn h hq hi.lst
    have hyq := Y_other h hp hq (by rw [ho]; decide)
    unfold Hd at hpo ⊢
    rw [if_pos hv1] at hpo
    rw [e, if_neg (by rw [hl.2]; omega), ev]
    have ho5 : owE a b R W (op p.toNat) (arg p.toNat) q = if q = 5 then arg p.toNat else 0 := by
      unfold owE
      rw [if_pos (.inr ho)]
      have : q = 0 ∨ q = 1 ∨ q = 2 ∨ q = 3 ∨ q = 4 ∨ q = 5 := by omega
      rcases this with rfl | rfl | rfl | rfl | rfl | rfl <;> rfl
    rw [ho5] at hyq o
    unfold inM at y o sq
    generalize (if q = 5 then arg p.toNat else 0) = d at *
    omega
/-- The wait is over. -/
theorem Inv.pass (h : Fit 0 n op arg k a b c R W) (hv : Lvs n op arg l v) (hi : Inv n op arg (Yc n op arg a b R W) tl l v p left L s) (ht : tl = false) (ho : op p.toNat = 20) : Inv n op arg (Yc n op arg a b R W) tl l v (p + 1) left L s := by
  have hr := hi.rng
  have hp : p.toNat < n := by omega
  have hs := h.stop hp (by rw [ho]; decide)
  have e : (p + 1).toNat = p.toNat + 1 := by omega
  have lc := hv.loc _ hp
  obtain ⟨l1, l2, l3, l4⟩ := lc.c20 ho
  obtain ⟨h1, h2, h3⟩ := hi.head l1
  refine ⟨by omega, by rw [e, l3]; exact hi.lst, hi.lefts, hi.sums, fun g => ?_, fun q hq => ⟨?_, fun g => by rw [ht] at g; cases g⟩⟩
  · rw [e] at g; exact absurd l4 g
  · have hpo := (hi.pot q hq).1
    have y := Y_in h hs hq
    have o := own_in h hp hq
    have hyq := Y_other h hp hq (by rw [ho]; decide)
    have h3q := h3 q hq
    have hlf := hi.lefts
    unfold Hd at hpo ⊢
    rw [if_neg l1] at hpo
    rw [e, if_pos l4]
    unfold inM at y o
    have hd : (0 : Int) ≤ if q = 5 then left else 0 := by split <;> omega
    omega
/-- Where a path is, its cost is within the certificate. -/
theorem Inv.le (h : Fit 0 n op arg k a b c R W) (hi : Inv n op arg (Yc n op arg a b R W) tl l v p left L s) {q : Nat} (hq : q < 6) : s q ≤ Yc n op arg a b R W q 0 := by
  have hr := hi.rng
  have hpo := (hi.pot q hq).1
  have nn := Lpot_nn h hq hi.lst
  have sq := hi.sums q hq
  have hl := hi.lefts
  unfold inM at sq
  have hd : 0 ≤ Hd v (Yc n op arg a b R W) p left q := by
    unfold Hd
    split
    · have y := Y_in h (i := p.toNat) (by omega) hq
      exact y.1
    · rename_i g
      obtain ⟨h1, h2, h3⟩ := hi.head g
      have y := Y_in h (i := (v p.toNat + 1).toNat) (by omega) hq
      have := y.1
      split <;> omega
  omega
end
end Go.Proofs.Ythegipdgillngaa
/- Certify's cert is the caller's own. -/
namespace Go.Proofs.Ythegipdgillngaa
open Go Go.Am Go.Proofs
set_option linter.unusedSimpArgs false
set_option linter.unusedVariables false
set_option maxRecDepth 100000
theorem certify_own (nm : ByteArray) (ps vs : Int) (n : Nat) (op arg : Nat → Int) (k : Nat) (a b c : Nat → Int) (R W : Int) (hn : n ≤ Go.maxLen) (h : chkV ps vs n op arg k a b c R W = 0) : SC E2 14 [codV nm ps vs n op arg, rigV k a b c R W] [] (.ret (.tup [.sl 0 6 0 n, i64 0]) [some (.row 45 6 n (rc (certF vs n op arg a b R W)))]) := by
  have hC : SoundC E2 (C14f nm ps vs n op arg k a b c R W (Cv.endF (mkC vs n op arg))) := ptab_cons (fun args h => by cases h; exact check_sc nm ps vs n op arg k a b c R W hn) (ptab_cons (fun args h => by
    obtain ⟨rfl, h⟩ := h
    have hf := fit_of h
    exact ends_sc nm ps vs hf.n3 (vp17 hf.vp)) tab_nil)
  have hf := fit_of h
  have hn3 := hf.n3
  have hn0 := hf.n0
  have l1 := loop14 nm ps hf (n - 1) (by omega)
  rw [Nat.sub_self] at l1
  refine SC.of hW2 hX2 hC (ltab2_cons (x := ⟨0, _, _, True, _, _, .exit 0, T14 n (certX (ndF (mkC vs n op arg) a b R W) n n)⟩) ⟨fun _ => l1, fun g => absurd trivial g⟩ ltab2_nil) ((f14 nm ps vs n op arg k a b c R W (Cv.endF (mkC vs n op arg)) _ _ _).trans ?_)
  have hc : (n : Int) = (n : Int) ∧ (0 : Int) ≤ (n : Int) ∧ 0 < 6 ∧ 6 = 6 ∧ Int.toNat (n : Int) * 48 ≤ 281474976710656 ∧ Int.toNat (n : Int) ≤ Go.maxLen ∧ (allOk 6 1 fun (x : Nat) => List.map V.sc (Array.toList (Value.cells (Value.agg #[Value.int IntKind.i64 0, Value.int IntKind.i64 0, Value.int IntKind.i64 0, Value.int IntKind.i64 0, Value.int IntKind.i64 0, Value.int IntKind.i64 0])))) = true := by
    refine ⟨rfl, by omega, by decide, rfl, by rw [Int.toNat_natCast]; omega, by rw [Int.toNat_natCast]; unfold Go.maxLen; omega, by kernel_rfl⟩
  have ew : w ((((Int.toNat (n : Int)) : Nat) : Int) - 1) = ((n - 1 : Nat) : Int) := by rw [Int.toNat_natCast, w_in (by unfold inR; omega)]; omega
  rw [cl_pos ⟨rfl, rfl⟩, if_neg (by rw [h]; decide), if_pos hc, cl_pos ⟨⟨rfl, h⟩, rfl⟩, ew, cl_pos ⟨rfl, (by
    rw [Int.toNat_natCast]
    exact LeSt.mk' (LeL.refl _) ⟨ChLe.refl _, ChLe.refl _, ChLe.row fun j _ => rfl, trivial⟩)⟩, cl_pos trivial]
  rfl
theorem certify_bad (nm : ByteArray) (ps vs : Int) (n : Nat) (op arg : Nat → Int) (k : Nat) (a b c : Nat → Int) (R W : Int) (hn : n ≤ Go.maxLen) (h : chkV ps vs n op arg k a b c R W ≠ 0) : SC E2 14 [codV nm ps vs n op arg, rigV k a b c R W] [] (.ret (.tup [.sc (.slice none 0 0), i64 (chkV ps vs n op arg k a b c R W)]) []) := by
  have hC : SoundC E2 (C14f nm ps vs n op arg k a b c R W (Cv.endF (mkC vs n op arg))) := ptab_cons (fun args h => by cases h; exact check_sc nm ps vs n op arg k a b c R W hn) (ptab_cons (fun args h => by
    obtain ⟨rfl, h⟩ := h
    have hf := fit_of h
    exact ends_sc nm ps vs hf.n3 (vp17 hf.vp)) tab_nil)
  refine (SC.of (cr := .ret (.tup [.sc (.slice none 0 0), i64 (chkV ps vs n op arg k a b c R W)]) []) hW2 hX2 hC (ltab2_cons (x := ⟨0, bodyOf E2 14 0, S14m nm ps vs n op arg k a b c R W (Cv.endF (mkC vs n op arg)) (fun _ _ => 0), True, .exit 0, T14 n (fun _ _ => 0), .exit 0, T14 n (fun _ _ => 0)⟩) ⟨fun _ => SL.by2 (m := 128) (r := 48) tab_nil hX2 ltab2_nil ((r14m nm ps vs n op arg k a b c R W (Cv.endF (mkC vs n op arg)) _ _).trans rfl), fun g => absurd trivial g⟩ ltab2_nil) ((f14 nm ps vs n op arg k a b c R W (Cv.endF (mkC vs n op arg)) (fun _ _ => 0) _ _).trans ?_))
  rw [cl_pos ⟨rfl, rfl⟩, if_pos (neT h)]
end Go.Proofs.Ythegipdgillngaa
/- A call that reads slices of the caller's and hands back a row of its own. -/
namespace Go.Am
open Go Go.RowKit
set_option linter.unusedSimpArgs false
set_option linter.unusedVariables false
theorem sc1_any {β β' : Bt} {S S' D D' : Pr} {w w' : World} : ∀ (l : List V) (us : List Value), l.all V.sc1 = true → denL β S w D l us → denL β' S' w' D' l us := by
  intro l
  induction l with
  | nil => intro us _ h; simpa [denL] using h
  | cons c cs ih =>
    intro us h hd
    simp only [denL, List.all_cons, Bool.and_eq_true] at hd h ⊢
    obtain ⟨x, xs, h1, h2, h3⟩ := hd
    refine ⟨x, xs, h1, ?_, ih xs h.2 h3⟩
    cases c with
    | sc y => simpa [den] using h2
    | _ => cases h.1
theorem lent {β : Bt} {S D : Pr} {H : Hp} {w : World} {args : List V} (hpure : pureL (args.map (V.bw H)) = true) (hM : Mem β S D H w) (cs : List Value) (hcs : denL β S w D args cs) {D' : Pr} : denL (fun _ => none) (fun b => S b ∨ ∃ i m, β i = some (b, m)) w D' (args.map (V.bw H)) cs := by
  have key : ∀ (l : List V) (us : List Value), denL β S w D l us → denL (fun _ => none) (fun b => S b ∨ ∃ i m, β i = some (b, m)) w D (l.map (V.bw H)) us := by
    intro l
    induction l with
    | nil => intro us h; simpa [denL] using h
    | cons c l ih =>
      intro us h
      simp only [denL, List.map_cons] at h ⊢
      obtain ⟨x, xs, h1, h2, h3⟩ := h
      exact ⟨x, xs, h1, bw_sound hM (fun _ _ => .inr rfl) (fun _ h => .inl h) (fun i b m hb => .inr ⟨i, m, hb⟩) h2, ih xs h3⟩
  exact denL_pure (fun _ h => h) (fun _ _ => rfl) _ _ hpure (key _ _ hcs)
theorem lent_mem {β : Bt} {S D : Pr} {H : Hp} {w : World} (hM : Mem β S D H w) : Mem (fun _ => none) (fun b => S b ∨ ∃ i m, β i = some (b, m)) (fun i => i < ([] : List (Option Chunk)).length) (hp []) w :=
  ⟨fun i c hc => (by simp [hp] at hc), fun _ _ => rfl, fun i b m h => (by cases h), fun i b m h => (by cases h), fun i j b m m' h => (by cases h), fun b hb => hb.elim (fun h => hM.st b h) (fun ⟨i, m, h⟩ => (hM.own i b m h).1)⟩
/-- Slices lent, a value handed back. -/
theorem SC.lendV {E : Env} {f : FuncId} {args : List V} {L : List (Option Chunk)} {v : V} (h : SC E f (args.map (V.bw (hp L))) [] (.ret v [])) (hpure : pureL (args.map (V.bw (hp L))) = true) (hv : v.scal = true) : SC E f args L (.ret v L) := by
  refine ⟨h.1, fun β S w us h1 h2 h3 => (h.2 _ _ w us (lent hpure h2 us h1) (lent_mem h2) (h3.later (fun _ h => .inl h) (fun _ _ => rfl))).mono ?_⟩
  rintro e w' ⟨u, β', S', rfl, g1, g2, g3, g4⟩
  have hb := below_of_evo g3
  exact ⟨u, β, S, rfl, h2.below hb, scal_any hv g2, Evo.below hb, fun i bm _ h => h⟩
/-- A slice lent, a row of its own handed back. -/
theorem SC.lendRow {E : Env} {f : FuncId} {args : List V} {c0 : Chunk} {x : Value} {e0 : TypeId} {z n : Nat} {g : Nat → List V} (h : SC E f (args.map (V.bw (hp [some c0]))) [] (.ret (.tup [.sl 0 z 0 n, .sc x]) [some (.row e0 z n g)]))
    (hpure : pureL (args.map (V.bw (hp [some c0]))) = true) (hg : ∀ j, (g j).all V.sc1 = true) (hdd : (dd [] (idsL args)).length ≤ 1) : SC E f args [some c0] (.ret (.tup [.sl 1 z 0 n, .sc x]) [some c0, some (.row e0 z n g)]) := by
  refine ⟨h.1, fun β S w us h1 h2 h3 => (h.2 _ _ w us (lent hpure h2 us h1) (lent_mem h2) (h3.later (fun _ h => .inl h) (fun _ _ => rfl))).mono ?_⟩
  rintro e w' ⟨u, β2, S2, rfl, g1, g2, g3, g4⟩
  have hb := below_of_evo g3
  have hM := h2.below hb
  have hbs : ∀ b m, β2 0 = some (b, m) → b < w'.heap.size ∧ ¬ S b ∧ (∀ i m', β i ≠ some (b, m')) ∧ w.heap.size ≤ b := by
    intro b m hb2
    have o := g1.own 0 b m hb2
    refine ⟨o.1, fun hs => o.2 (g3.sub b (.inl hs)), fun i m' hi => o.2 (g3.sub b (.inr ⟨i, m', hi⟩)), ?_⟩
    rcases g3.newO 0 b m hb2 with h | ⟨j, m', h⟩
    · exact h
    · cases h
  have h01 : ∀ i, i < 1 → i = 0 := fun i hi => by omega
  refine ⟨u, fun i => if i = 1 then β2 0 else β i, S, rfl, ⟨fun i c hc => ?_, fun i hi => ?_, fun i b m hi => ?_, fun i b m hi => ?_, fun i j b m m' hi hj => ?_, hM.st⟩, ?_, ⟨hb.os, hb.tape, hb.output, hb.size, fun b h _ => hb.block b h, fun _ h => h, fun _ h => .inl h, fun i b m hi => ?_⟩, fun i bm hr hi => ?_⟩
  · match i with
    | 0 =>
      have ec : c = c0 := by simpa [hp] using hc.symm
      subst ec
      obtain ⟨b, m, h4, h5⟩ := hM.live 0 c (by simp [hp])
      refine ⟨b, m, by rw [if_neg (by decide)]; exact h4, chunkRel_later (fun i hi => .inl (if_neg (by have : i < 1 := hi; omega))) (fun _ h => h) (fun i hi => ?_) (fun _ _ => rfl) rfl h5⟩
      have : i < 1 := hi
      show i < 2
      omega
    | 1 =>
      have ec : c = .row e0 z n g := by simpa [hp] using hc.symm
      subst ec
      obtain ⟨b, m, h4, h5⟩ := g1.live 0 (.row e0 z n g) (by simp [hp])
      refine ⟨b, m, by rw [if_pos rfl]; exact h4, ?_⟩
      simp only [chunkRel] at h5 ⊢
      obtain ⟨k1, k2, k3, cur, k4, k5, k6⟩ := h5
      refine ⟨k1, k2, k3, cur, k4, k5, fun j hj => ?_⟩
      obtain ⟨vs, q1, q2, q3, q4, q5⟩ := k6 j hj
      exact ⟨vs, sc1_any _ _ (hg j) q1, q2, q3, q4, q5⟩
    | i + 2 => simp [hp] at hc
  · match i with
    | 0 => simp [hp] at hi
    | 1 => simp [hp] at hi
    | i + 2 =>
      show (if i + 2 = 1 then _ else _) = none
      rw [if_neg (by omega)]
      exact h2.dead _ (by simp [hp])
  · by_cases h : i = 1
    · subst h; show 1 < 2; omega
    · rw [if_neg h] at hi
      have : i < 1 := h2.dom i b m hi
      show i < 2
      omega
  · by_cases h : i = 1
    · rw [if_pos h] at hi
      exact ⟨(hbs b m hi).1, (hbs b m hi).2.1⟩
    · rw [if_neg h] at hi
      exact hM.own i b m hi
  · by_cases h : i = 1
    · rw [if_pos h] at hi
      by_cases h' : j = 1
      · omega
      · rw [if_neg h'] at hj
        exact absurd hj ((hbs b m hi).2.2.1 j m')
    · rw [if_neg h] at hi
      by_cases h' : j = 1
      · rw [if_pos h'] at hj
        exact absurd hi ((hbs b m' hj).2.2.1 i m)
      · rw [if_neg h'] at hj
        exact hM.inj i j b m m' hi hj
  · simp only [den, denL] at g2 ⊢
    obtain ⟨vs, q1, y, ys, q2, ⟨⟨d1, d2⟩, d3⟩, q3⟩ := g2
    refine ⟨vs, q1, y, ys, q2, ⟨⟨by show 1 < 2; omega, d2⟩, fun b m hb2 => d3 b m ?_⟩, q3⟩
    simpa using hb2
  · by_cases h : i = 1
    · rw [if_pos h] at hi
      exact .inl (hbs b m hi).2.2.2
    · rw [if_neg h] at hi
      exact .inr ⟨i, m, hi⟩
  · by_cases h : i = 1
    · omega
    · simpa [h] using hi
end Go.Am
/- CostMonotone, lifted. -/
namespace Go.Proofs.Ythegipdgillngaa
open Go Go.Am Go.Proofs
set_option linter.unusedSimpArgs false
set_option linter.unusedVariables false
set_option maxRecDepth 100000
def rigNil : List V → Bool | _ :: .agg (.sc (.slice none 0 0) :: _) :: _ => true | _ => false
abbrev a_CertRow : Type := ByteArray × Int × Int × Nat × (Nat → Int) × (Nat → Int) × Nat × (Nat → Int) × (Nat → Int) × (Nat → Int) × Int × Int
abbrev g_CertRow : Type := (Nat × (Nat → Int) × (Nat → Int) × (Nat → Int) × Nat × (Nat → Int) × (Nat → Int) × (Nat → Int) × (Nat → Int) × (Nat → Int) × (Nat → Int)) ⊕ (Nat × (Nat → Int) × (Nat → Int) × (Nat → Int))
def A_CertRow : a_CertRow → List V × List (Option Chunk) := (fun x => (fun (nm : ByteArray) (ps : Int) (vs : Int) (n : Nat) (op : Nat → Int) (ar : Nat → Int) (k : Nat) (da : Nat → Int) (db : Nat → Int) (dc : Nat → Int) (R : Int) (W : Int) => (([.agg [st nm, i64 ps, i64 vs, .ro 2 n (fun j => [i64 (op j), i64 (ar j)])], .agg [.sl 0 3 0 k, i64 R, i64 W]] : List V), ([some (.row 59 3 k (fun j => [i64 (da j), i64 (db j), i64 (dc j)]))] : List (Option Chunk)))) x.1 x.2.1 x.2.2.1 x.2.2.2.1 x.2.2.2.2.1 x.2.2.2.2.2.1 x.2.2.2.2.2.2.1 x.2.2.2.2.2.2.2.1 x.2.2.2.2.2.2.2.2.1 x.2.2.2.2.2.2.2.2.2.1 x.2.2.2.2.2.2.2.2.2.2.1 x.2.2.2.2.2.2.2.2.2.2.2)
def d_CertRow (t : List V × List (Option Chunk)) : a_CertRow := ((vS ((vAg (t.1.getD 0 .junk)).getD 0 .junk)), (vI ((vAg (t.1.getD 0 .junk)).getD 1 .junk)), (vI ((vAg (t.1.getD 0 .junk)).getD 2 .junk)), (vRoN ((vAg (t.1.getD 0 .junk)).getD 3 .junk)), (fun j => (vI ((vRoF ((vAg (t.1.getD 0 .junk)).getD 3 .junk) j).getD 0 .junk))), (fun j => (vI ((vRoF ((vAg (t.1.getD 0 .junk)).getD 3 .junk) j).getD 1 .junk))), (chN (t.2.getD 0 none)), (fun j => (vI ((chF (t.2.getD 0 none) j).getD 0 .junk))), (fun j => (vI ((chF (t.2.getD 0 none) j).getD 1 .junk))), (fun j => (vI ((chF (t.2.getD 0 none) j).getD 2 .junk))), (vI ((vAg (t.1.getD 1 .junk)).getD 1 .junk)), (vI ((vAg (t.1.getD 1 .junk)).getD 2 .junk)))
theorem i_CertRow : ∀ x y, A_CertRow x = A_CertRow y → x = y := fun x y h => (congrArg d_CertRow h :)
def R_CertRow : g_CertRow → CRes := Sum.elim ((fun z => (fun (k : Nat) (da : Nat → Int) (db : Nat → Int) (dc : Nat → Int) (cn : Nat) (x0 : Nat → Int) (x1 : Nat → Int) (x2 : Nat → Int) (x3 : Nat → Int) (x4 : Nat → Int) (x5 : Nat → Int) => .ret (.tup [.sl 1 6 0 cn, i64 0]) [some (.row 59 3 k (fun j => [i64 (da j), i64 (db j), i64 (dc j)])), some (.row 45 6 cn (fun j => [i64 (x0 j), i64 (x1 j), i64 (x2 j), i64 (x3 j), i64 (x4 j), i64 (x5 j)]))]) z.1 z.2.1 z.2.2.1 z.2.2.2.1 z.2.2.2.2.1 z.2.2.2.2.2.1 z.2.2.2.2.2.2.1 z.2.2.2.2.2.2.2.1 z.2.2.2.2.2.2.2.2.1 z.2.2.2.2.2.2.2.2.2.1 z.2.2.2.2.2.2.2.2.2.2 : (Nat × (Nat → Int) × (Nat → Int) × (Nat → Int) × Nat × (Nat → Int) × (Nat → Int) × (Nat → Int) × (Nat → Int) × (Nat → Int) × (Nat → Int)) → CRes)) ((fun z => (fun (k : Nat) (da : Nat → Int) (db : Nat → Int) (dc : Nat → Int) => .ret (.tup [nilS, i64 5]) [some (.row 59 3 k (fun j => [i64 (da j), i64 (db j), i64 (dc j)]))]) z.1 z.2.1 z.2.2.1 z.2.2.2 : (Nat × (Nat → Int) × (Nat → Int) × (Nat → Int)) → CRes))
def x_CertRow (z : g_CertRow) (k : CRes → Option Ans) : Option Ans := Sum.elim (fun za => k (R_CertRow (.inl za))) (fun zb => k (R_CertRow (.inr zb))) z
theorem xe_CertRow : ∀ z k, x_CertRow z k = k (R_CertRow z) := fun z k => by
  rcases z with z | z <;> rfl
noncomputable def CertRow (q : Nat) (x : a_CertRow) : Option g_CertRow := if x.2.2.2.1 ≤ Go.maxLen then (if chkV x.2.1 x.2.2.1 x.2.2.2.1 x.2.2.2.2.1 x.2.2.2.2.2.1 x.2.2.2.2.2.2.1 x.2.2.2.2.2.2.2.1 x.2.2.2.2.2.2.2.2.1 x.2.2.2.2.2.2.2.2.2.1 x.2.2.2.2.2.2.2.2.2.2.1 x.2.2.2.2.2.2.2.2.2.2.2 = 0 then some (.inl (x.2.2.2.2.2.2.1, x.2.2.2.2.2.2.2.1, x.2.2.2.2.2.2.2.2.1, x.2.2.2.2.2.2.2.2.2.1, x.2.2.2.1, certF x.2.2.1 x.2.2.2.1 x.2.2.2.2.1 x.2.2.2.2.2.1 x.2.2.2.2.2.2.2.1 x.2.2.2.2.2.2.2.2.1 x.2.2.2.2.2.2.2.2.2.2.1 x.2.2.2.2.2.2.2.2.2.2.2 0, certF x.2.2.1 x.2.2.2.1 x.2.2.2.2.1 x.2.2.2.2.2.1 x.2.2.2.2.2.2.2.1 x.2.2.2.2.2.2.2.2.1 x.2.2.2.2.2.2.2.2.2.2.1 x.2.2.2.2.2.2.2.2.2.2.2 1, certF x.2.2.1 x.2.2.2.1 x.2.2.2.2.1 x.2.2.2.2.2.1 x.2.2.2.2.2.2.2.1 x.2.2.2.2.2.2.2.2.1 x.2.2.2.2.2.2.2.2.2.2.1 x.2.2.2.2.2.2.2.2.2.2.2 2, certF x.2.2.1 x.2.2.2.1 x.2.2.2.2.1 x.2.2.2.2.2.1 x.2.2.2.2.2.2.2.1 x.2.2.2.2.2.2.2.2.1 x.2.2.2.2.2.2.2.2.2.2.1 x.2.2.2.2.2.2.2.2.2.2.2 3, certF x.2.2.1 x.2.2.2.1 x.2.2.2.2.1 x.2.2.2.2.2.1 x.2.2.2.2.2.2.2.1 x.2.2.2.2.2.2.2.2.1 x.2.2.2.2.2.2.2.2.2.2.1 x.2.2.2.2.2.2.2.2.2.2.2 4, certF x.2.2.1 x.2.2.2.1 x.2.2.2.2.1 x.2.2.2.2.2.1 x.2.2.2.2.2.2.2.1 x.2.2.2.2.2.2.2.2.1 x.2.2.2.2.2.2.2.2.2.2.1 x.2.2.2.2.2.2.2.2.2.2.2 5)) else if chkV x.2.1 x.2.2.1 x.2.2.2.1 x.2.2.2.2.1 x.2.2.2.2.2.1 x.2.2.2.2.2.2.1 x.2.2.2.2.2.2.2.1 x.2.2.2.2.2.2.2.2.1 x.2.2.2.2.2.2.2.2.2.1 x.2.2.2.2.2.2.2.2.2.2.1 x.2.2.2.2.2.2.2.2.2.2.2 = 5 then some (.inr (x.2.2.2.2.2.2.1, x.2.2.2.2.2.2.2.1, x.2.2.2.2.2.2.2.2.1, x.2.2.2.2.2.2.2.2.2.1)) else none) else none
theorem bw_devs (nm : ByteArray) (ps vs : Int) (n : Nat) (op ar : Nat → Int) (k : Nat) (a b c : Nat → Int) (R W : Int) : ([.agg [st nm, i64 ps, i64 vs, .ro 2 n (fun j => [i64 (op j), i64 (ar j)])], .agg [.sl 0 3 0 k, i64 R, i64 W]] : List V).map (V.bw (hp [some (.row 59 3 k (fun j => [i64 (a j), i64 (b j), i64 (c j)]))])) = [codV nm ps vs n op ar, rigV k a b c R W] := by
  simp [V.bw, V.bw2, V.bw1, hp, codV, rigV, cd]
  exact ⟨rfl, rfl⟩
theorem sc_CertRow (q : Nat) : ∀ (x : a_CertRow) (z : g_CertRow), CertRow q x = some z → SC E3 14 (A_CertRow x).1 (A_CertRow x).2 (R_CertRow z) := by
  rintro ⟨nm, ps, vs, n, op, ar, k, a, b, c, R, W⟩ z h
  unfold CertRow at h
  split at h
  · rename_i hn
    split at h
    · rename_i hc
      cases h
      have key := sc3.2 (certify_own nm ps vs n op ar k a b c R W hn hc)
      rw [← bw_devs nm ps vs n op ar k a b c R W] at key
      exact SC.lendRow key ((congrArg pureL (bw_devs nm ps vs n op ar k a b c R W)).trans rfl) (fun j => rfl) (Nat.le_refl 1)
    · split at h
      · rename_i hc hc5
        cases h
        have key := sc3.2 (certify_bad nm ps vs n op ar k a b c R W hn hc)
        have hc5 : chkV ps vs n op ar k a b c R W = 5 := hc5
        rw [hc5, ← bw_devs nm ps vs n op ar k a b c R W] at key
        exact SC.lendV key ((congrArg pureL (bw_devs nm ps vs n op ar k a b c R W)).trans rfl) rfl
      · cases h
  · cases h
abbrev a_CertNil : Type := ByteArray × Int × Int × Nat × (Nat → Int) × (Nat → Int) × Int × Int
abbrev g_CertNil : Type := Int × Nat × (Nat → Int) × (Nat → Int) × (Nat → Int) × (Nat → Int) × (Nat → Int) × (Nat → Int)
def A_CertNil : a_CertNil → List V × List (Option Chunk) := (fun x => (fun (nm : ByteArray) (ps : Int) (vs : Int) (n : Nat) (op : Nat → Int) (ar : Nat → Int) (R : Int) (W : Int) => (([.agg [st nm, i64 ps, i64 vs, .ro 2 n (fun j => [i64 (op j), i64 (ar j)])], .agg [nilS, i64 R, i64 W]] : List V), ([] : List (Option Chunk)))) x.1 x.2.1 x.2.2.1 x.2.2.2.1 x.2.2.2.2.1 x.2.2.2.2.2.1 x.2.2.2.2.2.2.1 x.2.2.2.2.2.2.2)
def d_CertNil (t : List V × List (Option Chunk)) : a_CertNil := ((vS ((vAg (t.1.getD 0 .junk)).getD 0 .junk)), (vI ((vAg (t.1.getD 0 .junk)).getD 1 .junk)), (vI ((vAg (t.1.getD 0 .junk)).getD 2 .junk)), (vRoN ((vAg (t.1.getD 0 .junk)).getD 3 .junk)), (fun j => (vI ((vRoF ((vAg (t.1.getD 0 .junk)).getD 3 .junk) j).getD 0 .junk))), (fun j => (vI ((vRoF ((vAg (t.1.getD 0 .junk)).getD 3 .junk) j).getD 1 .junk))), (vI ((vAg (t.1.getD 1 .junk)).getD 1 .junk)), (vI ((vAg (t.1.getD 1 .junk)).getD 2 .junk)))
theorem i_CertNil : ∀ x y, A_CertNil x = A_CertNil y → x = y := fun x y h => (congrArg d_CertNil h :)
def R_CertNil : g_CertNil → CRes := (fun z => (fun (e : Int) (cn : Nat) (x0 : Nat → Int) (x1 : Nat → Int) (x2 : Nat → Int) (x3 : Nat → Int) (x4 : Nat → Int) (x5 : Nat → Int) => .ret (.tup [.ro 6 cn (fun j => [i64 (x0 j), i64 (x1 j), i64 (x2 j), i64 (x3 j), i64 (x4 j), i64 (x5 j)]), i64 e]) []) z.1 z.2.1 z.2.2.1 z.2.2.2.1 z.2.2.2.2.1 z.2.2.2.2.2.1 z.2.2.2.2.2.2.1 z.2.2.2.2.2.2.2 : (Int × Nat × (Nat → Int) × (Nat → Int) × (Nat → Int) × (Nat → Int) × (Nat → Int) × (Nat → Int)) → CRes)
def x_CertNil (z : g_CertNil) (k : CRes → Option Ans) : Option Ans := k (R_CertNil z)
theorem xe_CertNil : ∀ z k, x_CertNil z k = k (R_CertNil z) := fun z k => rfl
noncomputable def CertNil (q : Nat) (x : a_CertNil) : Option g_CertNil := Cert q (x.1, x.2.1, x.2.2.1, x.2.2.2.1, x.2.2.2.2.1, x.2.2.2.2.2.1, 0, fun _ => 0, fun _ => 0, fun _ => 0, x.2.2.2.2.2.2.1, x.2.2.2.2.2.2.2)
theorem sc_CertNil (q : Nat) : ∀ (x : a_CertNil) (z : g_CertNil), CertNil q x = some z → SC E3 14 (A_CertNil x).1 (A_CertNil x).2 (R_CertNil z) := by
  rintro ⟨nm, ps, vs, n, op, ar, R, W⟩ z h
  exact SC.arg (sc_Cert q _ z h) (LeL.cons (Le.refl _) (LeL.cons (Le.agg (LeL.cons Le.nil_ro (LeL.refl _))) LeL.nil)) rfl rfl
abbrev a_law10 : Type := Nat × (Nat → Int) × Nat × (Nat → Int) × Nat × (Nat → Int)
abbrev g_law10 : Type := Bool
def A_law10 : a_law10 → List V × List (Option Chunk) := (fun x => (fun (l : Nat) (ly : Nat → Int) (g : Nat) (gy : Nat → Int) (m : Nat) (y : Nat → Int) => (([.ro 1 l (fun j => [i64 (ly j)]), .ro 1 g (fun j => [i64 (gy j)]), .ro 1 m (fun j => [i64 (y j)])] : List V), ([] : List (Option Chunk)))) x.1 x.2.1 x.2.2.1 x.2.2.2.1 x.2.2.2.2.1 x.2.2.2.2.2)
def R_law10 : g_law10 → CRes := (fun z => CRes.ret (bo z) [] : (Bool) → CRes)
abbrev law10_l0_a : Type := (Nat × (Nat → Int) × (Nat → Int) × Nat × (Nat → Int) × (Nat → Int) × (Nat → Int) × Int × Int × Int × Int) ⊕ (Nat × (Nat → Int) × (Nat → Int) × Nat × (Nat → Int) × (Nat → Int) × (Nat → Int) × Int × Int × Int × Int × (Nat → Int) × (Nat → Int) × (Nat → Int) × Int × Nat)
abbrev law10_l0_g : Type := (Nat × (Nat → Int) × (Nat → Int) × Nat × (Nat → Int) × (Nat → Int) × (Nat → Int) × Int × Int × Int × Int) ⊕ (Nat × (Nat → Int) × (Nat → Int) × Nat × (Nat → Int) × (Nat → Int) × (Nat → Int) × Int × Int × Nat × Int × Int × (Nat → Int) × (Nat → Int) × (Nat → Int))
def law10_l0_S0 (x : a_law10) (y : Nat × (Nat → Int) × (Nat → Int) × Nat × (Nat → Int) × (Nat → Int) × (Nat → Int) × Int × Int × Int × Int) : St := { fr := [V.junk, V.junk, V.ro 1 (x.2.2.2.2.1) fun (j : Nat) => [i64 (x.2.2.2.2.2 j)]] ++ jk 4 ++ [V.ptr 0 0, V.ptr 1 0, V.ptr 2 0, i64 (0 : Int)] ++ jk 114, H := hp [some (Chunk.blk [st pName, i64 (0 : Int), i64 (0 : Int), V.ro 2 (y.1) fun (j : Nat) => [i64 (y.2.1 j), i64 (y.2.2.1 j)]]), some (Chunk.blk [V.ro 3 (y.2.2.2.1) fun (j : Nat) => [i64 (y.2.2.2.2.1 j), i64 (y.2.2.2.2.2.1 j), i64 (y.2.2.2.2.2.2.1 j)], i64 (y.2.2.2.2.2.2.2.1), i64 (y.2.2.2.2.2.2.2.2.1)]), some (Chunk.blk [nilS, i64 (y.2.2.2.2.2.2.2.2.2.1), i64 (y.2.2.2.2.2.2.2.2.2.2)])], nx := 3, rt := 0, me := 10 }
def law10_l0_d0 (s : St) : Nat × (Nat → Int) × (Nat → Int) × Nat × (Nat → Int) × (Nat → Int) × (Nat → Int) × Int × Int × Int × Int := ((vRoN ((chB (s.H 0)).getD 3 .junk)), (fun j => (vI (((vRoF ((chB (s.H 0)).getD 3 .junk)) j).getD 0 .junk))), (fun j => (vI (((vRoF ((chB (s.H 0)).getD 3 .junk)) j).getD 1 .junk))), (vRoN ((chB (s.H 1)).getD 0 .junk)), (fun j => (vI (((vRoF ((chB (s.H 1)).getD 0 .junk)) j).getD 0 .junk))), (fun j => (vI (((vRoF ((chB (s.H 1)).getD 0 .junk)) j).getD 1 .junk))), (fun j => (vI (((vRoF ((chB (s.H 1)).getD 0 .junk)) j).getD 2 .junk))), (vI ((chB (s.H 1)).getD 1 .junk)), (vI ((chB (s.H 1)).getD 2 .junk)), (vI ((chB (s.H 2)).getD 1 .junk)), (vI ((chB (s.H 2)).getD 2 .junk)))
def law10_l0_S1 (x : a_law10) (y : Nat × (Nat → Int) × (Nat → Int) × Nat × (Nat → Int) × (Nat → Int) × (Nat → Int) × Int × Int × Int × Int × (Nat → Int) × (Nat → Int) × (Nat → Int) × Int × Nat) : St := { fr := [V.junk, V.junk, V.ro 1 (x.2.2.2.2.1) fun (j : Nat) => [i64 (x.2.2.2.2.2 j)]] ++ jk 4 ++ [V.ptr 0 0, V.ptr 1 0, V.ptr 2 0, i64 (y.2.2.2.2.2.2.2.2.2.2.2.2.2.2.1)] ++ jk 114, H := hp [some (Chunk.blk [st pName, i64 (0 : Int), i64 (0 : Int), V.ro 2 (y.1) fun (j : Nat) => [i64 (y.2.1 j), i64 (y.2.2.1 j)]]), some (Chunk.blk [V.ro 3 (y.2.2.2.1) fun (j : Nat) => [i64 (y.2.2.2.2.1 j), i64 (y.2.2.2.2.2.1 j), i64 (y.2.2.2.2.2.2.1 j)], i64 (y.2.2.2.2.2.2.2.1), i64 (y.2.2.2.2.2.2.2.2.1)]), some (Chunk.blk [V.sl 3 3 0 (y.2.2.2.2.2.2.2.2.2.2.2.2.2.2.2), i64 (y.2.2.2.2.2.2.2.2.2.1), i64 (y.2.2.2.2.2.2.2.2.2.2.1)]), some (Chunk.row 59 3 (y.2.2.2.2.2.2.2.2.2.2.2.2.2.2.2) fun (j : Nat) => [i64 (y.2.2.2.2.2.2.2.2.2.2.2.1 j), i64 (y.2.2.2.2.2.2.2.2.2.2.2.2.1 j), i64 (y.2.2.2.2.2.2.2.2.2.2.2.2.2.1 j)])], nx := 4, rt := 0, me := 10 }
def law10_l0_d1 (s : St) : Nat × (Nat → Int) × (Nat → Int) × Nat × (Nat → Int) × (Nat → Int) × (Nat → Int) × Int × Int × Int × Int × (Nat → Int) × (Nat → Int) × (Nat → Int) × Int × Nat := ((vRoN ((chB (s.H 0)).getD 3 .junk)), (fun j => (vI (((vRoF ((chB (s.H 0)).getD 3 .junk)) j).getD 0 .junk))), (fun j => (vI (((vRoF ((chB (s.H 0)).getD 3 .junk)) j).getD 1 .junk))), (vRoN ((chB (s.H 1)).getD 0 .junk)), (fun j => (vI (((vRoF ((chB (s.H 1)).getD 0 .junk)) j).getD 0 .junk))), (fun j => (vI (((vRoF ((chB (s.H 1)).getD 0 .junk)) j).getD 1 .junk))), (fun j => (vI (((vRoF ((chB (s.H 1)).getD 0 .junk)) j).getD 2 .junk))), (vI ((chB (s.H 1)).getD 1 .junk)), (vI ((chB (s.H 1)).getD 2 .junk)), (vI ((chB (s.H 2)).getD 1 .junk)), (vI ((chB (s.H 2)).getD 2 .junk)), (fun j => (vI (((chF (s.H 3)) j).getD 0 .junk))), (fun j => (vI (((chF (s.H 3)) j).getD 1 .junk))), (fun j => (vI (((chF (s.H 3)) j).getD 2 .junk))), (vI (s.fr.getD 10 .junk)), (vSlN ((chB (s.H 2)).getD 0 .junk)))
def law10_l0_S (x : a_law10) : law10_l0_a → St := (Sum.elim (law10_l0_S0 x) (law10_l0_S1 x))
def law10_l0_d (s : St) : law10_l0_a := (match s.nx == 3 with | true => (.inl (law10_l0_d0 s)) | false => (.inr (law10_l0_d1 s)))
theorem law10_l0_i (x : a_law10) : ∀ y y', law10_l0_S x y = law10_l0_S x y' → y = y' := fun y y' h => by rcases y with y | y <;> rcases y' with y | y <;> exact (congrArg law10_l0_d h :)
def law10_l0_T (x : a_law10) : law10_l0_g → Ex × St := (Sum.elim (fun z => (Ex.exit 0, { fr := jk 7 ++ [V.ptr 0 0, V.ptr 1 0, V.ptr 2 0] ++ jk 115, H := hp [some (Chunk.blk [st pName, i64 (0 : Int), i64 (0 : Int), V.ro 2 (z.1) fun (j : Nat) => [i64 (z.2.1 j), i64 (z.2.2.1 j)]]), some (Chunk.blk [V.ro 3 (z.2.2.2.1) fun (j : Nat) => [i64 (z.2.2.2.2.1 j), i64 (z.2.2.2.2.2.1 j), i64 (z.2.2.2.2.2.2.1 j)], i64 (z.2.2.2.2.2.2.2.1), i64 (z.2.2.2.2.2.2.2.2.1)]), some (Chunk.blk [nilS, i64 (z.2.2.2.2.2.2.2.2.2.1), i64 (z.2.2.2.2.2.2.2.2.2.2)])], nx := 3, rt := 0, me := 10 })) (fun z => (Ex.exit 0, { fr := jk 7 ++ [V.ptr 0 0, V.ptr 1 0, V.ptr 2 0] ++ jk 115, H := hp [some (Chunk.blk [st pName, i64 (0 : Int), i64 (0 : Int), V.ro 2 (z.1) fun (j : Nat) => [i64 (z.2.1 j), i64 (z.2.2.1 j)]]), some (Chunk.blk [V.ro 3 (z.2.2.2.1) fun (j : Nat) => [i64 (z.2.2.2.2.1 j), i64 (z.2.2.2.2.2.1 j), i64 (z.2.2.2.2.2.2.1 j)], i64 (z.2.2.2.2.2.2.2.1), i64 (z.2.2.2.2.2.2.2.2.1)]), some (Chunk.blk [V.sl 3 3 0 (z.2.2.2.2.2.2.2.2.2.1), i64 (z.2.2.2.2.2.2.2.2.2.2.1), i64 (z.2.2.2.2.2.2.2.2.2.2.2.1)]), some (Chunk.row 59 3 (z.2.2.2.2.2.2.2.2.2.1) fun (j : Nat) => [i64 (z.2.2.2.2.2.2.2.2.2.2.2.2.1 j), i64 (z.2.2.2.2.2.2.2.2.2.2.2.2.2.1 j), i64 (z.2.2.2.2.2.2.2.2.2.2.2.2.2.2 j)])], nx := 4, rt := 0, me := 10 })))
def law10_l0_x (x : a_law10) (z : law10_l0_g) (k : KX) : Option Ans := Sum.elim (fun za => k (law10_l0_T x (.inl za)).1 (law10_l0_T x (.inl za)).2) (fun zb => k (law10_l0_T x (.inr zb)).1 (law10_l0_T x (.inr zb)).2) z
theorem law10_l0_xe (x : a_law10) : ∀ z k, law10_l0_x x z k = k (law10_l0_T x z).1 (law10_l0_T x z).2 := fun z k => by
  rcases z with z | z <;> rfl
theorem law10_l0_k0 (x : a_law10) (z : Nat × (Nat → Int) × (Nat → Int) × Nat × (Nat → Int) × (Nat → Int) × (Nat → Int) × Int × Int × Int × Int) : KCM [(0, 896)] 64 (law10_l0_T x (.inl z)).1 (law10_l0_T x (.inl z)).2 = some (.l (law10_l0_T x (.inl z)).1 (law10_l0_T x (.inl z)).2) := by kernel_rfl
theorem law10_l0_k1 (x : a_law10) (z : Nat × (Nat → Int) × (Nat → Int) × Nat × (Nat → Int) × (Nat → Int) × (Nat → Int) × Int × Int × Nat × Int × Int × (Nat → Int) × (Nat → Int) × (Nat → Int)) : KCM [(0, 896)] 64 (law10_l0_T x (.inr z)).1 (law10_l0_T x (.inr z)).2 = some (.l (law10_l0_T x (.inr z)).1 (law10_l0_T x (.inr z)).2) := by kernel_rfl
def law10_l0_t0 {β : Type} (c_CodeR : a_CodeR → Option g_CodeR) (c_Rig : a_Rig → Option g_Rig) (c_Pick : a_Pick → Option g_Pick) (c_CertRow : a_CertRow → Option g_CertRow) (c_CertNil : a_CertNil → Option g_CertNil) (c_Cert : a_Cert → Option g_Cert) (c_Within : a_Within → Option g_Within) (c_CVer : a_CVer → Option g_CVer) (c_lives : a_lives → Option g_lives) (x : a_law10) (y : Nat × (Nat → Int) × (Nat → Int) × Nat × (Nat → Int) × (Nat → Int) × (Nat → Int) × Int × Int × Int × Int) (nx : law10_l0_a → Option β) (dn : law10_l0_g → Option β) : Option β :=
 if decide ((0 : Int) < ((y.2.2.2.1 : Nat) : Int)) = true then
  if (0 : Int) ≤ (0 : Int) ∧ (0 : Int) < ((y.2.2.2.1 : Nat) : Int) then
   (c_Pick ((x.2.2.2.2.1, x.2.2.2.2.2, (2 : Int), (50 : Int)))).bind fun z673 =>
    (c_Pick ((x.2.2.2.2.1, x.2.2.2.2.2, (3 : Int), (50 : Int)))).bind fun z678 =>
     nx (.inr ((y.1, y.2.1, y.2.2.1, y.2.2.2.1, y.2.2.2.2.1, y.2.2.2.2.2.1, y.2.2.2.2.2.2.1, y.2.2.2.2.2.2.2.1, y.2.2.2.2.2.2.2.2.1, y.2.2.2.2.2.2.2.2.2.1, y.2.2.2.2.2.2.2.2.2.2, fun (j : Nat) => w (y.2.2.2.2.1 0 + z673), fun (j : Nat) => w (y.2.2.2.2.2.1 0 + z678), fun (j : Nat) => y.2.2.2.2.2.2.1 0, (1 : Int), 1)))
  else
   none
 else
  dn (.inl y)
theorem law10_l0_n0 {β : Type} (c_CodeR : a_CodeR → Option g_CodeR) (c_Rig : a_Rig → Option g_Rig) (c_Pick : a_Pick → Option g_Pick) (c_CertRow : a_CertRow → Option g_CertRow) (c_CertNil : a_CertNil → Option g_CertNil) (c_Cert : a_Cert → Option g_Cert) (c_Within : a_Within → Option g_Within) (c_CVer : a_CVer → Option g_CVer) (c_lives : a_lives → Option g_lives) (x : a_law10) (y : Nat × (Nat → Int) × (Nat → Int) × Nat × (Nat → Int) × (Nat → Int) × (Nat → Int) × Int × Int × Int × Int) (nx : law10_l0_a → Option β) (dn : law10_l0_g → Option β) : law10_l0_t0 c_CodeR c_Rig c_Pick c_CertRow c_CertNil c_Cert c_Within c_CVer c_lives x y nx dn = (law10_l0_t0 c_CodeR c_Rig c_Pick c_CertRow c_CertNil c_Cert c_Within c_CVer c_lives x y (fun y => some (.inl y)) (fun z => some (.inr z))).bind fun r => Sum.elim nx dn r := by
  unfold law10_l0_t0
  repeat' first | exact free_none | refine free_bind (fun z => ?_) | refine free_ite ?_ ?_ | refine free_sum (fun z => ?_) (fun z => ?_) | rfl
theorem law10_l0_r0 (c_CodeR : a_CodeR → Option g_CodeR) (c_Rig : a_Rig → Option g_Rig) (c_Pick : a_Pick → Option g_Pick) (c_CertRow : a_CertRow → Option g_CertRow) (c_CertNil : a_CertNil → Option g_CertNil) (c_Cert : a_Cert → Option g_Cert) (c_Within : a_Within → Option g_Within) (c_CVer : a_CVer → Option g_CVer) (c_lives : a_lives → Option g_lives) (x : a_law10) (y : Nat × (Nat → Int) × (Nat → Int) × Nat × (Nat → Int) × (Nat → Int) × (Nat → Int) × Int × Int × Int × Int) (lo : LoopT) : loopK E3 (ftab 12 (fun _ _ => true) A_CodeR x_CodeR c_CodeR (ftab 13 (fun _ _ => true) A_Rig x_Rig c_Rig (ftab 27 (fun _ _ => true) A_Pick x_Pick c_Pick (ftab 14 (fun _ L => L.length == 1) A_CertRow x_CertRow c_CertRow (ftab 14 (fun a _ => rigNil a) A_CertNil x_CertNil c_CertNil (ftab 14 (fun _ _ => true) A_Cert x_Cert c_Cert (ftab 24 (fun _ _ => true) A_Within x_Within c_Within (ftab 19 (fun _ _ => true) A_CVer x_CVer c_CVer (ftab 17 (fun _ _ => true) A_lives x_lives c_lives ca0))))))))) lo 0 1924 (bodyOf E3 10 0) (law10_l0_S x (.inl y)) (KCM [(0, 896)] 64) = law10_l0_t0 (fun x => viaF A_CodeR c_CodeR (A_CodeR x)) (fun x => viaF A_Rig c_Rig (A_Rig x)) (fun x => viaF A_Pick c_Pick (A_Pick x)) (fun x => viaF A_CertRow c_CertRow (A_CertRow x)) (fun x => viaF A_CertNil c_CertNil (A_CertNil x)) (fun x => viaF A_Cert c_Cert (A_Cert x)) (fun x => viaF A_Within c_Within (A_Within x)) (fun x => viaF A_CVer c_CVer (A_CVer x)) (fun x => viaF A_lives c_lives (A_lives x)) x y (fun y => lo 0 1924 (bodyOf E3 10 0) (law10_l0_S x y) (KCM [(0, 896)] 64)) (fun z => some (.l (law10_l0_T x z).1 (law10_l0_T x z).2)) := by kernel_rfl
def law10_l0_t1 {β : Type} (c_CodeR : a_CodeR → Option g_CodeR) (c_Rig : a_Rig → Option g_Rig) (c_Pick : a_Pick → Option g_Pick) (c_CertRow : a_CertRow → Option g_CertRow) (c_CertNil : a_CertNil → Option g_CertNil) (c_Cert : a_Cert → Option g_Cert) (c_Within : a_Within → Option g_Within) (c_CVer : a_CVer → Option g_CVer) (c_lives : a_lives → Option g_lives) (x : a_law10) (y : Nat × (Nat → Int) × (Nat → Int) × Nat × (Nat → Int) × (Nat → Int) × (Nat → Int) × Int × Int × Int × Int × (Nat → Int) × (Nat → Int) × (Nat → Int) × Int × Nat) (nx : law10_l0_a → Option β) (dn : law10_l0_g → Option β) : Option β :=
 if decide (y.2.2.2.2.2.2.2.2.2.2.2.2.2.2.1 < ((y.2.2.2.1 : Nat) : Int)) = true then
  if (0 : Int) ≤ y.2.2.2.2.2.2.2.2.2.2.2.2.2.2.1 ∧ y.2.2.2.2.2.2.2.2.2.2.2.2.2.2.1 < ((y.2.2.2.1 : Nat) : Int) then
   (c_Pick ((x.2.2.2.2.1, x.2.2.2.2.2, w (w ((2 : Int) * y.2.2.2.2.2.2.2.2.2.2.2.2.2.2.1) + (2 : Int)), (50 : Int)))).bind fun z684 =>
    (c_Pick ((x.2.2.2.2.1, x.2.2.2.2.2, w (w ((2 : Int) * y.2.2.2.2.2.2.2.2.2.2.2.2.2.2.1) + (3 : Int)), (50 : Int)))).bind fun z689 =>
     if (y.2.2.2.2.2.2.2.2.2.2.2.2.2.2.2 + 1) * 24 ≤ roomBound ∧ y.2.2.2.2.2.2.2.2.2.2.2.2.2.2.2 + 1 ≤ maxLen ∧ y.2.2.2.2.2.2.2.2.2.2.2.2.2.2.2 ≤ y.2.2.2.2.2.2.2.2.2.2.2.2.2.2.2 then
      nx (.inr ((y.1, y.2.1, y.2.2.1, y.2.2.2.1, y.2.2.2.2.1, y.2.2.2.2.2.1, y.2.2.2.2.2.2.1, y.2.2.2.2.2.2.2.1, y.2.2.2.2.2.2.2.2.1, y.2.2.2.2.2.2.2.2.2.1, y.2.2.2.2.2.2.2.2.2.2.1, fun (j : Nat) => if j < y.2.2.2.2.2.2.2.2.2.2.2.2.2.2.2 then y.2.2.2.2.2.2.2.2.2.2.2.1 j else w (y.2.2.2.2.1 (Int.toNat (y.2.2.2.2.2.2.2.2.2.2.2.2.2.2.1)) + z684), fun (j : Nat) => if j < y.2.2.2.2.2.2.2.2.2.2.2.2.2.2.2 then y.2.2.2.2.2.2.2.2.2.2.2.2.1 j else w (y.2.2.2.2.2.1 (Int.toNat (y.2.2.2.2.2.2.2.2.2.2.2.2.2.2.1)) + z689), fun (j : Nat) => if j < y.2.2.2.2.2.2.2.2.2.2.2.2.2.2.2 then y.2.2.2.2.2.2.2.2.2.2.2.2.2.1 j else y.2.2.2.2.2.2.1 (Int.toNat (y.2.2.2.2.2.2.2.2.2.2.2.2.2.2.1)), w (y.2.2.2.2.2.2.2.2.2.2.2.2.2.2.1 + (1 : Int)), y.2.2.2.2.2.2.2.2.2.2.2.2.2.2.2 + 1)))
     else
      none
  else
   none
 else
  dn (.inr ((y.1, y.2.1, y.2.2.1, y.2.2.2.1, y.2.2.2.2.1, y.2.2.2.2.2.1, y.2.2.2.2.2.2.1, y.2.2.2.2.2.2.2.1, y.2.2.2.2.2.2.2.2.1, y.2.2.2.2.2.2.2.2.2.2.2.2.2.2.2, y.2.2.2.2.2.2.2.2.2.1, y.2.2.2.2.2.2.2.2.2.2.1, y.2.2.2.2.2.2.2.2.2.2.2.1, y.2.2.2.2.2.2.2.2.2.2.2.2.1, y.2.2.2.2.2.2.2.2.2.2.2.2.2.1)))
theorem law10_l0_n1 {β : Type} (c_CodeR : a_CodeR → Option g_CodeR) (c_Rig : a_Rig → Option g_Rig) (c_Pick : a_Pick → Option g_Pick) (c_CertRow : a_CertRow → Option g_CertRow) (c_CertNil : a_CertNil → Option g_CertNil) (c_Cert : a_Cert → Option g_Cert) (c_Within : a_Within → Option g_Within) (c_CVer : a_CVer → Option g_CVer) (c_lives : a_lives → Option g_lives) (x : a_law10) (y : Nat × (Nat → Int) × (Nat → Int) × Nat × (Nat → Int) × (Nat → Int) × (Nat → Int) × Int × Int × Int × Int × (Nat → Int) × (Nat → Int) × (Nat → Int) × Int × Nat) (nx : law10_l0_a → Option β) (dn : law10_l0_g → Option β) : law10_l0_t1 c_CodeR c_Rig c_Pick c_CertRow c_CertNil c_Cert c_Within c_CVer c_lives x y nx dn = (law10_l0_t1 c_CodeR c_Rig c_Pick c_CertRow c_CertNil c_Cert c_Within c_CVer c_lives x y (fun y => some (.inl y)) (fun z => some (.inr z))).bind fun r => Sum.elim nx dn r := by
  unfold law10_l0_t1
  repeat' first | exact free_none | refine free_bind (fun z => ?_) | refine free_ite ?_ ?_ | refine free_sum (fun z => ?_) (fun z => ?_) | rfl
theorem law10_l0_r1 (c_CodeR : a_CodeR → Option g_CodeR) (c_Rig : a_Rig → Option g_Rig) (c_Pick : a_Pick → Option g_Pick) (c_CertRow : a_CertRow → Option g_CertRow) (c_CertNil : a_CertNil → Option g_CertNil) (c_Cert : a_Cert → Option g_Cert) (c_Within : a_Within → Option g_Within) (c_CVer : a_CVer → Option g_CVer) (c_lives : a_lives → Option g_lives) (x : a_law10) (y : Nat × (Nat → Int) × (Nat → Int) × Nat × (Nat → Int) × (Nat → Int) × (Nat → Int) × Int × Int × Int × Int × (Nat → Int) × (Nat → Int) × (Nat → Int) × Int × Nat) (lo : LoopT) : loopK E3 (ftab 12 (fun _ _ => true) A_CodeR x_CodeR c_CodeR (ftab 13 (fun _ _ => true) A_Rig x_Rig c_Rig (ftab 27 (fun _ _ => true) A_Pick x_Pick c_Pick (ftab 14 (fun _ L => L.length == 1) A_CertRow x_CertRow c_CertRow (ftab 14 (fun a _ => rigNil a) A_CertNil x_CertNil c_CertNil (ftab 14 (fun _ _ => true) A_Cert x_Cert c_Cert (ftab 24 (fun _ _ => true) A_Within x_Within c_Within (ftab 19 (fun _ _ => true) A_CVer x_CVer c_CVer (ftab 17 (fun _ _ => true) A_lives x_lives c_lives ca0))))))))) lo 0 1924 (bodyOf E3 10 0) (law10_l0_S x (.inr y)) (KCM [(0, 896)] 64) = law10_l0_t1 (fun x => viaF A_CodeR c_CodeR (A_CodeR x)) (fun x => viaF A_Rig c_Rig (A_Rig x)) (fun x => viaF A_Pick c_Pick (A_Pick x)) (fun x => viaF A_CertRow c_CertRow (A_CertRow x)) (fun x => viaF A_CertNil c_CertNil (A_CertNil x)) (fun x => viaF A_Cert c_Cert (A_Cert x)) (fun x => viaF A_Within c_Within (A_Within x)) (fun x => viaF A_CVer c_CVer (A_CVer x)) (fun x => viaF A_lives c_lives (A_lives x)) x y (fun y => lo 0 1924 (bodyOf E3 10 0) (law10_l0_S x y) (KCM [(0, 896)] 64)) (fun z => some (.l (law10_l0_T x z).1 (law10_l0_T x z).2)) := by kernel_rfl
noncomputable def law10_l0 (c_CodeR : a_CodeR → Option g_CodeR) (c_Rig : a_Rig → Option g_Rig) (c_Pick : a_Pick → Option g_Pick) (c_CertRow : a_CertRow → Option g_CertRow) (c_CertNil : a_CertNil → Option g_CertNil) (c_Cert : a_Cert → Option g_Cert) (c_Within : a_Within → Option g_Within) (c_CVer : a_CVer → Option g_CVer) (c_lives : a_lives → Option g_lives) (q : Nat) (x : a_law10) : law10_l0_a → Option law10_l0_g := lpG (Sum.elim (fun y => law10_l0_t0 c_CodeR c_Rig c_Pick c_CertRow c_CertNil c_Cert c_Within c_CVer c_lives x y (fun y => some (.inl y)) (fun z => some (.inr z))) (fun y => law10_l0_t1 c_CodeR c_Rig c_Pick c_CertRow c_CertNil c_Cert c_Within c_CVer c_lives x y (fun y => some (.inl y)) (fun z => some (.inr z)))) q
theorem law10_l0_s (c_CodeR : a_CodeR → Option g_CodeR) (h_CodeR : ∀ x z, c_CodeR x = some z → SC E3 12 (A_CodeR x).1 (A_CodeR x).2 (R_CodeR z)) (c_Rig : a_Rig → Option g_Rig) (h_Rig : ∀ x z, c_Rig x = some z → SC E3 13 (A_Rig x).1 (A_Rig x).2 (R_Rig z)) (c_Pick : a_Pick → Option g_Pick) (h_Pick : ∀ x z, c_Pick x = some z → SC E3 27 (A_Pick x).1 (A_Pick x).2 (R_Pick z)) (c_CertRow : a_CertRow → Option g_CertRow) (h_CertRow : ∀ x z, c_CertRow x = some z → SC E3 14 (A_CertRow x).1 (A_CertRow x).2 (R_CertRow z)) (c_CertNil : a_CertNil → Option g_CertNil) (h_CertNil : ∀ x z, c_CertNil x = some z → SC E3 14 (A_CertNil x).1 (A_CertNil x).2 (R_CertNil z)) (c_Cert : a_Cert → Option g_Cert) (h_Cert : ∀ x z, c_Cert x = some z → SC E3 14 (A_Cert x).1 (A_Cert x).2 (R_Cert z)) (c_Within : a_Within → Option g_Within) (h_Within : ∀ x z, c_Within x = some z → SC E3 24 (A_Within x).1 (A_Within x).2 (R_Within z)) (c_CVer : a_CVer → Option g_CVer) (h_CVer : ∀ x z, c_CVer x = some z → SC E3 19 (A_CVer x).1 (A_CVer x).2 (R_CVer z)) (c_lives : a_lives → Option g_lives) (h_lives : ∀ x z, c_lives x = some z → SC E3 17 (A_lives x).1 (A_lives x).2 (R_lives z)) (q : Nat) (x : a_law10) : ∀ y z, law10_l0 c_CodeR c_Rig c_Pick c_CertRow c_CertNil c_Cert c_Within c_CVer c_lives q x y = some z → SL E3 (bodyOf E3 10 0) (law10_l0_S x y) (law10_l0_T x z).1 (law10_l0_T x z).2 :=
  SL.lp (LT := fun lo => lo) (T := law10_l0_T x) (S := law10_l0_S x) (ftab_cons h_CodeR xe_CodeR (ftab_cons h_Rig xe_Rig (ftab_cons h_Pick xe_Pick (ftab_cons h_CertRow xe_CertRow (ftab_cons h_CertNil xe_CertNil (ftab_cons h_Cert xe_Cert (ftab_cons h_Within xe_Within (ftab_cons h_CVer xe_CVer (ftab_cons h_lives xe_lives ca0_sound))))))))) hX3 (fun lo h => h) (fun lo y => by
      rcases y with y | y
      · exact (law10_l0_r0 c_CodeR c_Rig c_Pick c_CertRow c_CertNil c_Cert c_Within c_CVer c_lives x y lo).trans (by rw [via_eq i_CodeR c_CodeR, via_eq i_Rig c_Rig, via_eq i_Pick c_Pick, via_eq i_CertRow c_CertRow, via_eq i_CertNil c_CertNil, via_eq i_Cert c_Cert, via_eq i_Within c_Within, via_eq i_CVer c_CVer, via_eq i_lives c_lives]; exact law10_l0_n0 _ _ _ _ _ _ _ _ _ _ _ _ _)
      · exact (law10_l0_r1 c_CodeR c_Rig c_Pick c_CertRow c_CertNil c_Cert c_Within c_CVer c_lives x y lo).trans (by rw [via_eq i_CodeR c_CodeR, via_eq i_Rig c_Rig, via_eq i_Pick c_Pick, via_eq i_CertRow c_CertRow, via_eq i_CertNil c_CertNil, via_eq i_Cert c_Cert, via_eq i_Within c_Within, via_eq i_CVer c_CVer, via_eq i_lives c_lives]; exact law10_l0_n1 _ _ _ _ _ _ _ _ _ _ _ _ _)) (fun z => by rcases z with z | z <;> first | exact law10_l0_k0 x z | exact law10_l0_k1 x z) q
abbrev law10_l2_a : Type := Nat × (Nat → Int) × (Nat → Int) × (Nat → Int) × (Nat → Int) × (Nat → Int) × (Nat → Int) × Nat × (Nat → Int) × (Nat → Int) × (Nat → Int) × (Nat → Int) × (Nat → Int) × (Nat → Int) × Nat × (Nat → Int) × (Nat → Int) × Nat × (Nat → Int) × (Nat → Int) × (Nat → Int) × Int × Int × Int
abbrev law10_l2_g : Type := (Unit) ⊕ (Nat × (Nat → Int) × (Nat → Int) × (Nat → Int) × (Nat → Int) × (Nat → Int) × (Nat → Int) × Nat × (Nat → Int) × (Nat → Int) × Nat × (Nat → Int) × (Nat → Int) × (Nat → Int) × Int × Int)
def law10_l2_S (x : a_law10) (y : law10_l2_a) : St := { fr := jk 7 ++ [V.ptr 0 0, V.ptr 1 0, V.junk, V.junk, V.junk, V.ro 6 (y.1) fun (j : Nat) => [i64 (y.2.1 j), i64 (y.2.2.1 j), i64 (y.2.2.2.1 j), i64 (y.2.2.2.2.1 j), i64 (y.2.2.2.2.2.1 j), i64 (y.2.2.2.2.2.2.1 j)], V.junk, V.ro 6 (y.2.2.2.2.2.2.2.1) fun (j : Nat) => [i64 (y.2.2.2.2.2.2.2.2.1 j), i64 (y.2.2.2.2.2.2.2.2.2.1 j), i64 (y.2.2.2.2.2.2.2.2.2.2.1 j), i64 (y.2.2.2.2.2.2.2.2.2.2.2.1 j), i64 (y.2.2.2.2.2.2.2.2.2.2.2.2.1 j), i64 (y.2.2.2.2.2.2.2.2.2.2.2.2.2.1 j)], V.junk, i64 (y.2.2.2.2.2.2.2.2.2.2.2.2.2.2.2.2.2.2.2.2.2.2.2)] ++ jk 108, H := hp [some (Chunk.blk [st pName, i64 (0 : Int), i64 (0 : Int), V.ro 2 (y.2.2.2.2.2.2.2.2.2.2.2.2.2.2.1) fun (j : Nat) => [i64 (y.2.2.2.2.2.2.2.2.2.2.2.2.2.2.2.1 j), i64 (y.2.2.2.2.2.2.2.2.2.2.2.2.2.2.2.2.1 j)]]), some (Chunk.blk [V.ro 3 (y.2.2.2.2.2.2.2.2.2.2.2.2.2.2.2.2.2.1) fun (j : Nat) => [i64 (y.2.2.2.2.2.2.2.2.2.2.2.2.2.2.2.2.2.2.1 j), i64 (y.2.2.2.2.2.2.2.2.2.2.2.2.2.2.2.2.2.2.2.1 j), i64 (y.2.2.2.2.2.2.2.2.2.2.2.2.2.2.2.2.2.2.2.2.1 j)], i64 (y.2.2.2.2.2.2.2.2.2.2.2.2.2.2.2.2.2.2.2.2.2.1), i64 (y.2.2.2.2.2.2.2.2.2.2.2.2.2.2.2.2.2.2.2.2.2.2.1)])], nx := 2, rt := 0, me := 10 }
def law10_l2_d (s : St) : law10_l2_a := ((vRoN (s.fr.getD 12 .junk)), (fun j => (vI (((vRoF (s.fr.getD 12 .junk)) j).getD 0 .junk))), (fun j => (vI (((vRoF (s.fr.getD 12 .junk)) j).getD 1 .junk))), (fun j => (vI (((vRoF (s.fr.getD 12 .junk)) j).getD 2 .junk))), (fun j => (vI (((vRoF (s.fr.getD 12 .junk)) j).getD 3 .junk))), (fun j => (vI (((vRoF (s.fr.getD 12 .junk)) j).getD 4 .junk))), (fun j => (vI (((vRoF (s.fr.getD 12 .junk)) j).getD 5 .junk))), (vRoN (s.fr.getD 14 .junk)), (fun j => (vI (((vRoF (s.fr.getD 14 .junk)) j).getD 0 .junk))), (fun j => (vI (((vRoF (s.fr.getD 14 .junk)) j).getD 1 .junk))), (fun j => (vI (((vRoF (s.fr.getD 14 .junk)) j).getD 2 .junk))), (fun j => (vI (((vRoF (s.fr.getD 14 .junk)) j).getD 3 .junk))), (fun j => (vI (((vRoF (s.fr.getD 14 .junk)) j).getD 4 .junk))), (fun j => (vI (((vRoF (s.fr.getD 14 .junk)) j).getD 5 .junk))), (vRoN ((chB (s.H 0)).getD 3 .junk)), (fun j => (vI (((vRoF ((chB (s.H 0)).getD 3 .junk)) j).getD 0 .junk))), (fun j => (vI (((vRoF ((chB (s.H 0)).getD 3 .junk)) j).getD 1 .junk))), (vRoN ((chB (s.H 1)).getD 0 .junk)), (fun j => (vI (((vRoF ((chB (s.H 1)).getD 0 .junk)) j).getD 0 .junk))), (fun j => (vI (((vRoF ((chB (s.H 1)).getD 0 .junk)) j).getD 1 .junk))), (fun j => (vI (((vRoF ((chB (s.H 1)).getD 0 .junk)) j).getD 2 .junk))), (vI ((chB (s.H 1)).getD 1 .junk)), (vI ((chB (s.H 1)).getD 2 .junk)), (vI (s.fr.getD 16 .junk)))
theorem law10_l2_i (x : a_law10) : ∀ y y', law10_l2_S x y = law10_l2_S x y' → y = y' := fun y y' h => (congrArg law10_l2_d h :)
def law10_l2_T (x : a_law10) : law10_l2_g → Ex × St := (Sum.elim (fun z => (Ex.ret, { fr := jk 6 ++ [bo false] ++ jk 118, H := hp [], nx := 0, rt := 0, me := 10 })) (fun z => (Ex.exit 2, { fr := jk 7 ++ [V.ptr 0 0, V.ptr 1 0] ++ jk 5 ++ [V.ro 6 (z.1) fun (j : Nat) => [i64 (z.2.1 j), i64 (z.2.2.1 j), i64 (z.2.2.2.1 j), i64 (z.2.2.2.2.1 j), i64 (z.2.2.2.2.2.1 j), i64 (z.2.2.2.2.2.2.1 j)]] ++ jk 110, H := hp [some (Chunk.blk [st pName, i64 (0 : Int), i64 (0 : Int), V.ro 2 (z.2.2.2.2.2.2.2.1) fun (j : Nat) => [i64 (z.2.2.2.2.2.2.2.2.1 j), i64 (z.2.2.2.2.2.2.2.2.2.1 j)]]), some (Chunk.blk [V.ro 3 (z.2.2.2.2.2.2.2.2.2.2.1) fun (j : Nat) => [i64 (z.2.2.2.2.2.2.2.2.2.2.2.1 j), i64 (z.2.2.2.2.2.2.2.2.2.2.2.2.1 j), i64 (z.2.2.2.2.2.2.2.2.2.2.2.2.2.1 j)], i64 (z.2.2.2.2.2.2.2.2.2.2.2.2.2.2.1), i64 (z.2.2.2.2.2.2.2.2.2.2.2.2.2.2.2)])], nx := 2, rt := 0, me := 10 })))
def law10_l2_x (x : a_law10) (z : law10_l2_g) (k : KX) : Option Ans := Sum.elim (fun za => k (law10_l2_T x (.inl za)).1 (law10_l2_T x (.inl za)).2) (fun zb => k (law10_l2_T x (.inr zb)).1 (law10_l2_T x (.inr zb)).2) z
theorem law10_l2_xe (x : a_law10) : ∀ z k, law10_l2_x x z k = k (law10_l2_T x z).1 (law10_l2_T x z).2 := fun z k => by
  rcases z with z | z <;> rfl
theorem law10_l2_k0 (x : a_law10) (z : Unit) : KCM [(2, 16768)] 64 (law10_l2_T x (.inl z)).1 (law10_l2_T x (.inl z)).2 = some (.l (law10_l2_T x (.inl z)).1 (law10_l2_T x (.inl z)).2) := by kernel_rfl
theorem law10_l2_k1 (x : a_law10) (z : Nat × (Nat → Int) × (Nat → Int) × (Nat → Int) × (Nat → Int) × (Nat → Int) × (Nat → Int) × Nat × (Nat → Int) × (Nat → Int) × Nat × (Nat → Int) × (Nat → Int) × (Nat → Int) × Int × Int) : KCM [(2, 16768)] 64 (law10_l2_T x (.inr z)).1 (law10_l2_T x (.inr z)).2 = some (.l (law10_l2_T x (.inr z)).1 (law10_l2_T x (.inr z)).2) := by kernel_rfl
def law10_l2_t {β : Type} (c_CodeR : a_CodeR → Option g_CodeR) (c_Rig : a_Rig → Option g_Rig) (c_Pick : a_Pick → Option g_Pick) (c_CertRow : a_CertRow → Option g_CertRow) (c_CertNil : a_CertNil → Option g_CertNil) (c_Cert : a_Cert → Option g_Cert) (c_Within : a_Within → Option g_Within) (c_CVer : a_CVer → Option g_CVer) (c_lives : a_lives → Option g_lives) (x : a_law10) (y : law10_l2_a) (nx : law10_l2_a → Option β) (dn : law10_l2_g → Option β) : Option β :=
 if decide (y.2.2.2.2.2.2.2.2.2.2.2.2.2.2.2.2.2.2.2.2.2.2.2 < ((y.1 : Nat) : Int)) = true then
  if (0 : Int) ≤ y.2.2.2.2.2.2.2.2.2.2.2.2.2.2.2.2.2.2.2.2.2.2.2 ∧ y.2.2.2.2.2.2.2.2.2.2.2.2.2.2.2.2.2.2.2.2.2.2.2 < ((y.1 : Nat) : Int) then
   if (0 : Int) ≤ y.2.2.2.2.2.2.2.2.2.2.2.2.2.2.2.2.2.2.2.2.2.2.2 ∧ y.2.2.2.2.2.2.2.2.2.2.2.2.2.2.2.2.2.2.2.2.2.2.2 < ((y.2.2.2.2.2.2.2.1 : Nat) : Int) then
    (c_Within ((y.2.1 (Int.toNat (y.2.2.2.2.2.2.2.2.2.2.2.2.2.2.2.2.2.2.2.2.2.2.2)), y.2.2.1 (Int.toNat (y.2.2.2.2.2.2.2.2.2.2.2.2.2.2.2.2.2.2.2.2.2.2.2)), y.2.2.2.1 (Int.toNat (y.2.2.2.2.2.2.2.2.2.2.2.2.2.2.2.2.2.2.2.2.2.2.2)), y.2.2.2.2.1 (Int.toNat (y.2.2.2.2.2.2.2.2.2.2.2.2.2.2.2.2.2.2.2.2.2.2.2)), y.2.2.2.2.2.1 (Int.toNat (y.2.2.2.2.2.2.2.2.2.2.2.2.2.2.2.2.2.2.2.2.2.2.2)), y.2.2.2.2.2.2.1 (Int.toNat (y.2.2.2.2.2.2.2.2.2.2.2.2.2.2.2.2.2.2.2.2.2.2.2)), y.2.2.2.2.2.2.2.2.1 (Int.toNat (y.2.2.2.2.2.2.2.2.2.2.2.2.2.2.2.2.2.2.2.2.2.2.2)), y.2.2.2.2.2.2.2.2.2.1 (Int.toNat (y.2.2.2.2.2.2.2.2.2.2.2.2.2.2.2.2.2.2.2.2.2.2.2)), y.2.2.2.2.2.2.2.2.2.2.1 (Int.toNat (y.2.2.2.2.2.2.2.2.2.2.2.2.2.2.2.2.2.2.2.2.2.2.2)), y.2.2.2.2.2.2.2.2.2.2.2.1 (Int.toNat (y.2.2.2.2.2.2.2.2.2.2.2.2.2.2.2.2.2.2.2.2.2.2.2)), y.2.2.2.2.2.2.2.2.2.2.2.2.1 (Int.toNat (y.2.2.2.2.2.2.2.2.2.2.2.2.2.2.2.2.2.2.2.2.2.2.2)), y.2.2.2.2.2.2.2.2.2.2.2.2.2.1 (Int.toNat (y.2.2.2.2.2.2.2.2.2.2.2.2.2.2.2.2.2.2.2.2.2.2.2))))).bind fun z703 =>
     if (!z703) = true then
      dn (.inl ())
     else
      nx ((y.1, y.2.1, y.2.2.1, y.2.2.2.1, y.2.2.2.2.1, y.2.2.2.2.2.1, y.2.2.2.2.2.2.1, y.2.2.2.2.2.2.2.1, y.2.2.2.2.2.2.2.2.1, y.2.2.2.2.2.2.2.2.2.1, y.2.2.2.2.2.2.2.2.2.2.1, y.2.2.2.2.2.2.2.2.2.2.2.1, y.2.2.2.2.2.2.2.2.2.2.2.2.1, y.2.2.2.2.2.2.2.2.2.2.2.2.2.1, y.2.2.2.2.2.2.2.2.2.2.2.2.2.2.1, y.2.2.2.2.2.2.2.2.2.2.2.2.2.2.2.1, y.2.2.2.2.2.2.2.2.2.2.2.2.2.2.2.2.1, y.2.2.2.2.2.2.2.2.2.2.2.2.2.2.2.2.2.1, y.2.2.2.2.2.2.2.2.2.2.2.2.2.2.2.2.2.2.1, y.2.2.2.2.2.2.2.2.2.2.2.2.2.2.2.2.2.2.2.1, y.2.2.2.2.2.2.2.2.2.2.2.2.2.2.2.2.2.2.2.2.1, y.2.2.2.2.2.2.2.2.2.2.2.2.2.2.2.2.2.2.2.2.2.1, y.2.2.2.2.2.2.2.2.2.2.2.2.2.2.2.2.2.2.2.2.2.2.1, w (y.2.2.2.2.2.2.2.2.2.2.2.2.2.2.2.2.2.2.2.2.2.2.2 + (1 : Int))))
   else
    none
  else
   none
 else
  dn (.inr ((y.2.2.2.2.2.2.2.1, y.2.2.2.2.2.2.2.2.1, y.2.2.2.2.2.2.2.2.2.1, y.2.2.2.2.2.2.2.2.2.2.1, y.2.2.2.2.2.2.2.2.2.2.2.1, y.2.2.2.2.2.2.2.2.2.2.2.2.1, y.2.2.2.2.2.2.2.2.2.2.2.2.2.1, y.2.2.2.2.2.2.2.2.2.2.2.2.2.2.1, y.2.2.2.2.2.2.2.2.2.2.2.2.2.2.2.1, y.2.2.2.2.2.2.2.2.2.2.2.2.2.2.2.2.1, y.2.2.2.2.2.2.2.2.2.2.2.2.2.2.2.2.2.1, y.2.2.2.2.2.2.2.2.2.2.2.2.2.2.2.2.2.2.1, y.2.2.2.2.2.2.2.2.2.2.2.2.2.2.2.2.2.2.2.1, y.2.2.2.2.2.2.2.2.2.2.2.2.2.2.2.2.2.2.2.2.1, y.2.2.2.2.2.2.2.2.2.2.2.2.2.2.2.2.2.2.2.2.2.1, y.2.2.2.2.2.2.2.2.2.2.2.2.2.2.2.2.2.2.2.2.2.2.1)))
theorem law10_l2_n {β : Type} (c_CodeR : a_CodeR → Option g_CodeR) (c_Rig : a_Rig → Option g_Rig) (c_Pick : a_Pick → Option g_Pick) (c_CertRow : a_CertRow → Option g_CertRow) (c_CertNil : a_CertNil → Option g_CertNil) (c_Cert : a_Cert → Option g_Cert) (c_Within : a_Within → Option g_Within) (c_CVer : a_CVer → Option g_CVer) (c_lives : a_lives → Option g_lives) (x : a_law10) (y : law10_l2_a) (nx : law10_l2_a → Option β) (dn : law10_l2_g → Option β) : law10_l2_t c_CodeR c_Rig c_Pick c_CertRow c_CertNil c_Cert c_Within c_CVer c_lives x y nx dn = (law10_l2_t c_CodeR c_Rig c_Pick c_CertRow c_CertNil c_Cert c_Within c_CVer c_lives x y (fun y => some (.inl y)) (fun z => some (.inr z))).bind fun r => Sum.elim nx dn r := by
  unfold law10_l2_t
  repeat' first | exact free_none | refine free_bind (fun z => ?_) | refine free_ite ?_ ?_ | refine free_sum (fun z => ?_) (fun z => ?_) | rfl
theorem law10_l2_r (c_CodeR : a_CodeR → Option g_CodeR) (c_Rig : a_Rig → Option g_Rig) (c_Pick : a_Pick → Option g_Pick) (c_CertRow : a_CertRow → Option g_CertRow) (c_CertNil : a_CertNil → Option g_CertNil) (c_Cert : a_Cert → Option g_Cert) (c_Within : a_Within → Option g_Within) (c_CVer : a_CVer → Option g_CVer) (c_lives : a_lives → Option g_lives) (x : a_law10) (y : law10_l2_a) (lo : LoopT) : loopK E3 (ftab 12 (fun _ _ => true) A_CodeR x_CodeR c_CodeR (ftab 13 (fun _ _ => true) A_Rig x_Rig c_Rig (ftab 27 (fun _ _ => true) A_Pick x_Pick c_Pick (ftab 14 (fun _ L => L.length == 1) A_CertRow x_CertRow c_CertRow (ftab 14 (fun a _ => rigNil a) A_CertNil x_CertNil c_CertNil (ftab 14 (fun _ _ => true) A_Cert x_Cert c_Cert (ftab 24 (fun _ _ => true) A_Within x_Within c_Within (ftab 19 (fun _ _ => true) A_CVer x_CVer c_CVer (ftab 17 (fun _ _ => true) A_lives x_lives c_lives ca0))))))))) lo 2 86400 (bodyOf E3 10 2) (law10_l2_S x y) (KCM [(2, 16768)] 64) = law10_l2_t (fun x => viaF A_CodeR c_CodeR (A_CodeR x)) (fun x => viaF A_Rig c_Rig (A_Rig x)) (fun x => viaF A_Pick c_Pick (A_Pick x)) (fun x => viaF A_CertRow c_CertRow (A_CertRow x)) (fun x => viaF A_CertNil c_CertNil (A_CertNil x)) (fun x => viaF A_Cert c_Cert (A_Cert x)) (fun x => viaF A_Within c_Within (A_Within x)) (fun x => viaF A_CVer c_CVer (A_CVer x)) (fun x => viaF A_lives c_lives (A_lives x)) x y (fun y => lo 2 86400 (bodyOf E3 10 2) (law10_l2_S x y) (KCM [(2, 16768)] 64)) (fun z => some (.l (law10_l2_T x z).1 (law10_l2_T x z).2)) := by kernel_rfl
noncomputable def law10_l2 (c_CodeR : a_CodeR → Option g_CodeR) (c_Rig : a_Rig → Option g_Rig) (c_Pick : a_Pick → Option g_Pick) (c_CertRow : a_CertRow → Option g_CertRow) (c_CertNil : a_CertNil → Option g_CertNil) (c_Cert : a_Cert → Option g_Cert) (c_Within : a_Within → Option g_Within) (c_CVer : a_CVer → Option g_CVer) (c_lives : a_lives → Option g_lives) (q : Nat) (x : a_law10) : law10_l2_a → Option law10_l2_g := lpG (fun y => law10_l2_t c_CodeR c_Rig c_Pick c_CertRow c_CertNil c_Cert c_Within c_CVer c_lives x y (fun y => some (.inl y)) (fun z => some (.inr z))) q
theorem law10_l2_s (c_CodeR : a_CodeR → Option g_CodeR) (h_CodeR : ∀ x z, c_CodeR x = some z → SC E3 12 (A_CodeR x).1 (A_CodeR x).2 (R_CodeR z)) (c_Rig : a_Rig → Option g_Rig) (h_Rig : ∀ x z, c_Rig x = some z → SC E3 13 (A_Rig x).1 (A_Rig x).2 (R_Rig z)) (c_Pick : a_Pick → Option g_Pick) (h_Pick : ∀ x z, c_Pick x = some z → SC E3 27 (A_Pick x).1 (A_Pick x).2 (R_Pick z)) (c_CertRow : a_CertRow → Option g_CertRow) (h_CertRow : ∀ x z, c_CertRow x = some z → SC E3 14 (A_CertRow x).1 (A_CertRow x).2 (R_CertRow z)) (c_CertNil : a_CertNil → Option g_CertNil) (h_CertNil : ∀ x z, c_CertNil x = some z → SC E3 14 (A_CertNil x).1 (A_CertNil x).2 (R_CertNil z)) (c_Cert : a_Cert → Option g_Cert) (h_Cert : ∀ x z, c_Cert x = some z → SC E3 14 (A_Cert x).1 (A_Cert x).2 (R_Cert z)) (c_Within : a_Within → Option g_Within) (h_Within : ∀ x z, c_Within x = some z → SC E3 24 (A_Within x).1 (A_Within x).2 (R_Within z)) (c_CVer : a_CVer → Option g_CVer) (h_CVer : ∀ x z, c_CVer x = some z → SC E3 19 (A_CVer x).1 (A_CVer x).2 (R_CVer z)) (c_lives : a_lives → Option g_lives) (h_lives : ∀ x z, c_lives x = some z → SC E3 17 (A_lives x).1 (A_lives x).2 (R_lives z)) (q : Nat) (x : a_law10) : ∀ y z, law10_l2 c_CodeR c_Rig c_Pick c_CertRow c_CertNil c_Cert c_Within c_CVer c_lives q x y = some z → SL E3 (bodyOf E3 10 2) (law10_l2_S x y) (law10_l2_T x z).1 (law10_l2_T x z).2 :=
  SL.lp (LT := fun lo => lo) (T := law10_l2_T x) (S := law10_l2_S x) (ftab_cons h_CodeR xe_CodeR (ftab_cons h_Rig xe_Rig (ftab_cons h_Pick xe_Pick (ftab_cons h_CertRow xe_CertRow (ftab_cons h_CertNil xe_CertNil (ftab_cons h_Cert xe_Cert (ftab_cons h_Within xe_Within (ftab_cons h_CVer xe_CVer (ftab_cons h_lives xe_lives ca0_sound))))))))) hX3 (fun lo h => h) (fun lo y => (law10_l2_r c_CodeR c_Rig c_Pick c_CertRow c_CertNil c_Cert c_Within c_CVer c_lives x y lo).trans (by rw [via_eq i_CodeR c_CodeR, via_eq i_Rig c_Rig, via_eq i_Pick c_Pick, via_eq i_CertRow c_CertRow, via_eq i_CertNil c_CertNil, via_eq i_Cert c_Cert, via_eq i_Within c_Within, via_eq i_CVer c_CVer, via_eq i_lives c_lives]; exact law10_l2_n _ _ _ _ _ _ _ _ _ _ _ _ _)) (fun z => by rcases z with z | z <;> first | exact law10_l2_k0 x z | exact law10_l2_k1 x z) q
abbrev law10_l2_2_a : Type := Nat × (Nat → Int) × (Nat → Int) × (Nat → Int) × (Nat → Int) × (Nat → Int) × (Nat → Int) × Nat × Nat × (Nat → Int) × (Nat → Int) × Nat × (Nat → Int) × (Nat → Int) × (Nat → Int) × Int × Int × (Nat → Int) × (Nat → Int) × (Nat → Int) × (Nat → Int) × (Nat → Int) × (Nat → Int) × Int
abbrev law10_l2_2_g : Type := (Unit) ⊕ (Nat × Nat × (Nat → Int) × (Nat → Int) × Nat × (Nat → Int) × (Nat → Int) × (Nat → Int) × Int × Int × (Nat → Int) × (Nat → Int) × (Nat → Int) × (Nat → Int) × (Nat → Int) × (Nat → Int))
def law10_l2_2_S (x : a_law10) (y : law10_l2_2_a) : St := { fr := jk 7 ++ [V.ptr 0 0, V.ptr 1 0, V.junk, V.junk, V.junk, V.ro 6 (y.1) fun (j : Nat) => [i64 (y.2.1 j), i64 (y.2.2.1 j), i64 (y.2.2.2.1 j), i64 (y.2.2.2.2.1 j), i64 (y.2.2.2.2.2.1 j), i64 (y.2.2.2.2.2.2.1 j)], V.junk, V.sl 2 6 0 (y.2.2.2.2.2.2.2.1), V.junk, i64 (y.2.2.2.2.2.2.2.2.2.2.2.2.2.2.2.2.2.2.2.2.2.2.2)] ++ jk 108, H := hp [some (Chunk.blk [st pName, i64 (0 : Int), i64 (0 : Int), V.ro 2 (y.2.2.2.2.2.2.2.2.1) fun (j : Nat) => [i64 (y.2.2.2.2.2.2.2.2.2.1 j), i64 (y.2.2.2.2.2.2.2.2.2.2.1 j)]]), some (Chunk.blk [V.ro 3 (y.2.2.2.2.2.2.2.2.2.2.2.1) fun (j : Nat) => [i64 (y.2.2.2.2.2.2.2.2.2.2.2.2.1 j), i64 (y.2.2.2.2.2.2.2.2.2.2.2.2.2.1 j), i64 (y.2.2.2.2.2.2.2.2.2.2.2.2.2.2.1 j)], i64 (y.2.2.2.2.2.2.2.2.2.2.2.2.2.2.2.1), i64 (y.2.2.2.2.2.2.2.2.2.2.2.2.2.2.2.2.1)]), some (Chunk.row 45 6 (y.2.2.2.2.2.2.2.1) fun (j : Nat) => [i64 (y.2.2.2.2.2.2.2.2.2.2.2.2.2.2.2.2.2.1 j), i64 (y.2.2.2.2.2.2.2.2.2.2.2.2.2.2.2.2.2.2.1 j), i64 (y.2.2.2.2.2.2.2.2.2.2.2.2.2.2.2.2.2.2.2.1 j), i64 (y.2.2.2.2.2.2.2.2.2.2.2.2.2.2.2.2.2.2.2.2.1 j), i64 (y.2.2.2.2.2.2.2.2.2.2.2.2.2.2.2.2.2.2.2.2.2.1 j), i64 (y.2.2.2.2.2.2.2.2.2.2.2.2.2.2.2.2.2.2.2.2.2.2.1 j)])], nx := 3, rt := 0, me := 10 }
def law10_l2_2_d (s : St) : law10_l2_2_a := ((vRoN (s.fr.getD 12 .junk)), (fun j => (vI (((vRoF (s.fr.getD 12 .junk)) j).getD 0 .junk))), (fun j => (vI (((vRoF (s.fr.getD 12 .junk)) j).getD 1 .junk))), (fun j => (vI (((vRoF (s.fr.getD 12 .junk)) j).getD 2 .junk))), (fun j => (vI (((vRoF (s.fr.getD 12 .junk)) j).getD 3 .junk))), (fun j => (vI (((vRoF (s.fr.getD 12 .junk)) j).getD 4 .junk))), (fun j => (vI (((vRoF (s.fr.getD 12 .junk)) j).getD 5 .junk))), (vSlN (s.fr.getD 14 .junk)), (vRoN ((chB (s.H 0)).getD 3 .junk)), (fun j => (vI (((vRoF ((chB (s.H 0)).getD 3 .junk)) j).getD 0 .junk))), (fun j => (vI (((vRoF ((chB (s.H 0)).getD 3 .junk)) j).getD 1 .junk))), (vRoN ((chB (s.H 1)).getD 0 .junk)), (fun j => (vI (((vRoF ((chB (s.H 1)).getD 0 .junk)) j).getD 0 .junk))), (fun j => (vI (((vRoF ((chB (s.H 1)).getD 0 .junk)) j).getD 1 .junk))), (fun j => (vI (((vRoF ((chB (s.H 1)).getD 0 .junk)) j).getD 2 .junk))), (vI ((chB (s.H 1)).getD 1 .junk)), (vI ((chB (s.H 1)).getD 2 .junk)), (fun j => (vI (((chF (s.H 2)) j).getD 0 .junk))), (fun j => (vI (((chF (s.H 2)) j).getD 1 .junk))), (fun j => (vI (((chF (s.H 2)) j).getD 2 .junk))), (fun j => (vI (((chF (s.H 2)) j).getD 3 .junk))), (fun j => (vI (((chF (s.H 2)) j).getD 4 .junk))), (fun j => (vI (((chF (s.H 2)) j).getD 5 .junk))), (vI (s.fr.getD 16 .junk)))
theorem law10_l2_2_i (x : a_law10) : ∀ y y', law10_l2_2_S x y = law10_l2_2_S x y' → y = y' := fun y y' h => (congrArg law10_l2_2_d h :)
def law10_l2_2_T (x : a_law10) : law10_l2_2_g → Ex × St := (Sum.elim (fun z => (Ex.ret, { fr := jk 6 ++ [bo false] ++ jk 118, H := hp [], nx := 0, rt := 0, me := 10 })) (fun z => (Ex.exit 2, { fr := jk 7 ++ [V.ptr 0 0, V.ptr 1 0] ++ jk 5 ++ [V.sl 2 6 0 (z.1)] ++ jk 110, H := hp [some (Chunk.blk [st pName, i64 (0 : Int), i64 (0 : Int), V.ro 2 (z.2.1) fun (j : Nat) => [i64 (z.2.2.1 j), i64 (z.2.2.2.1 j)]]), some (Chunk.blk [V.ro 3 (z.2.2.2.2.1) fun (j : Nat) => [i64 (z.2.2.2.2.2.1 j), i64 (z.2.2.2.2.2.2.1 j), i64 (z.2.2.2.2.2.2.2.1 j)], i64 (z.2.2.2.2.2.2.2.2.1), i64 (z.2.2.2.2.2.2.2.2.2.1)]), some (Chunk.row 45 6 (z.1) fun (j : Nat) => [i64 (z.2.2.2.2.2.2.2.2.2.2.1 j), i64 (z.2.2.2.2.2.2.2.2.2.2.2.1 j), i64 (z.2.2.2.2.2.2.2.2.2.2.2.2.1 j), i64 (z.2.2.2.2.2.2.2.2.2.2.2.2.2.1 j), i64 (z.2.2.2.2.2.2.2.2.2.2.2.2.2.2.1 j), i64 (z.2.2.2.2.2.2.2.2.2.2.2.2.2.2.2 j)])], nx := 3, rt := 0, me := 10 })))
def law10_l2_2_x (x : a_law10) (z : law10_l2_2_g) (k : KX) : Option Ans := Sum.elim (fun za => k (law10_l2_2_T x (.inl za)).1 (law10_l2_2_T x (.inl za)).2) (fun zb => k (law10_l2_2_T x (.inr zb)).1 (law10_l2_2_T x (.inr zb)).2) z
theorem law10_l2_2_xe (x : a_law10) : ∀ z k, law10_l2_2_x x z k = k (law10_l2_2_T x z).1 (law10_l2_2_T x z).2 := fun z k => by
  rcases z with z | z <;> rfl
theorem law10_l2_2_k0 (x : a_law10) (z : Unit) : KCM [(2, 16768)] 64 (law10_l2_2_T x (.inl z)).1 (law10_l2_2_T x (.inl z)).2 = some (.l (law10_l2_2_T x (.inl z)).1 (law10_l2_2_T x (.inl z)).2) := by kernel_rfl
theorem law10_l2_2_k1 (x : a_law10) (z : Nat × Nat × (Nat → Int) × (Nat → Int) × Nat × (Nat → Int) × (Nat → Int) × (Nat → Int) × Int × Int × (Nat → Int) × (Nat → Int) × (Nat → Int) × (Nat → Int) × (Nat → Int) × (Nat → Int)) : KCM [(2, 16768)] 64 (law10_l2_2_T x (.inr z)).1 (law10_l2_2_T x (.inr z)).2 = some (.l (law10_l2_2_T x (.inr z)).1 (law10_l2_2_T x (.inr z)).2) := by kernel_rfl
def law10_l2_2_t {β : Type} (c_CodeR : a_CodeR → Option g_CodeR) (c_Rig : a_Rig → Option g_Rig) (c_Pick : a_Pick → Option g_Pick) (c_CertRow : a_CertRow → Option g_CertRow) (c_CertNil : a_CertNil → Option g_CertNil) (c_Cert : a_Cert → Option g_Cert) (c_Within : a_Within → Option g_Within) (c_CVer : a_CVer → Option g_CVer) (c_lives : a_lives → Option g_lives) (x : a_law10) (y : law10_l2_2_a) (nx : law10_l2_2_a → Option β) (dn : law10_l2_2_g → Option β) : Option β :=
 if decide (y.2.2.2.2.2.2.2.2.2.2.2.2.2.2.2.2.2.2.2.2.2.2.2 < ((y.1 : Nat) : Int)) = true then
  if (0 : Int) ≤ y.2.2.2.2.2.2.2.2.2.2.2.2.2.2.2.2.2.2.2.2.2.2.2 ∧ y.2.2.2.2.2.2.2.2.2.2.2.2.2.2.2.2.2.2.2.2.2.2.2 < ((y.1 : Nat) : Int) then
   if (0 : Int) ≤ y.2.2.2.2.2.2.2.2.2.2.2.2.2.2.2.2.2.2.2.2.2.2.2 ∧ y.2.2.2.2.2.2.2.2.2.2.2.2.2.2.2.2.2.2.2.2.2.2.2 < ((y.2.2.2.2.2.2.2.1 : Nat) : Int) then
    if 0 + Int.toNat (y.2.2.2.2.2.2.2.2.2.2.2.2.2.2.2.2.2.2.2.2.2.2.2) < y.2.2.2.2.2.2.2.1 ∧ 6 = 6 then
     (c_Within ((y.2.1 (Int.toNat (y.2.2.2.2.2.2.2.2.2.2.2.2.2.2.2.2.2.2.2.2.2.2.2)), y.2.2.1 (Int.toNat (y.2.2.2.2.2.2.2.2.2.2.2.2.2.2.2.2.2.2.2.2.2.2.2)), y.2.2.2.1 (Int.toNat (y.2.2.2.2.2.2.2.2.2.2.2.2.2.2.2.2.2.2.2.2.2.2.2)), y.2.2.2.2.1 (Int.toNat (y.2.2.2.2.2.2.2.2.2.2.2.2.2.2.2.2.2.2.2.2.2.2.2)), y.2.2.2.2.2.1 (Int.toNat (y.2.2.2.2.2.2.2.2.2.2.2.2.2.2.2.2.2.2.2.2.2.2.2)), y.2.2.2.2.2.2.1 (Int.toNat (y.2.2.2.2.2.2.2.2.2.2.2.2.2.2.2.2.2.2.2.2.2.2.2)), y.2.2.2.2.2.2.2.2.2.2.2.2.2.2.2.2.2.1 (0 + Int.toNat (y.2.2.2.2.2.2.2.2.2.2.2.2.2.2.2.2.2.2.2.2.2.2.2)), y.2.2.2.2.2.2.2.2.2.2.2.2.2.2.2.2.2.2.1 (0 + Int.toNat (y.2.2.2.2.2.2.2.2.2.2.2.2.2.2.2.2.2.2.2.2.2.2.2)), y.2.2.2.2.2.2.2.2.2.2.2.2.2.2.2.2.2.2.2.1 (0 + Int.toNat (y.2.2.2.2.2.2.2.2.2.2.2.2.2.2.2.2.2.2.2.2.2.2.2)), y.2.2.2.2.2.2.2.2.2.2.2.2.2.2.2.2.2.2.2.2.1 (0 + Int.toNat (y.2.2.2.2.2.2.2.2.2.2.2.2.2.2.2.2.2.2.2.2.2.2.2)), y.2.2.2.2.2.2.2.2.2.2.2.2.2.2.2.2.2.2.2.2.2.1 (0 + Int.toNat (y.2.2.2.2.2.2.2.2.2.2.2.2.2.2.2.2.2.2.2.2.2.2.2)), y.2.2.2.2.2.2.2.2.2.2.2.2.2.2.2.2.2.2.2.2.2.2.1 (0 + Int.toNat (y.2.2.2.2.2.2.2.2.2.2.2.2.2.2.2.2.2.2.2.2.2.2.2))))).bind fun z717 =>
      if (!z717) = true then
       dn (.inl ())
      else
       nx ((y.1, y.2.1, y.2.2.1, y.2.2.2.1, y.2.2.2.2.1, y.2.2.2.2.2.1, y.2.2.2.2.2.2.1, y.2.2.2.2.2.2.2.1, y.2.2.2.2.2.2.2.2.1, y.2.2.2.2.2.2.2.2.2.1, y.2.2.2.2.2.2.2.2.2.2.1, y.2.2.2.2.2.2.2.2.2.2.2.1, y.2.2.2.2.2.2.2.2.2.2.2.2.1, y.2.2.2.2.2.2.2.2.2.2.2.2.2.1, y.2.2.2.2.2.2.2.2.2.2.2.2.2.2.1, y.2.2.2.2.2.2.2.2.2.2.2.2.2.2.2.1, y.2.2.2.2.2.2.2.2.2.2.2.2.2.2.2.2.1, y.2.2.2.2.2.2.2.2.2.2.2.2.2.2.2.2.2.1, y.2.2.2.2.2.2.2.2.2.2.2.2.2.2.2.2.2.2.1, y.2.2.2.2.2.2.2.2.2.2.2.2.2.2.2.2.2.2.2.1, y.2.2.2.2.2.2.2.2.2.2.2.2.2.2.2.2.2.2.2.2.1, y.2.2.2.2.2.2.2.2.2.2.2.2.2.2.2.2.2.2.2.2.2.1, y.2.2.2.2.2.2.2.2.2.2.2.2.2.2.2.2.2.2.2.2.2.2.1, w (y.2.2.2.2.2.2.2.2.2.2.2.2.2.2.2.2.2.2.2.2.2.2.2 + (1 : Int))))
    else
     none
   else
    none
  else
   none
 else
  dn (.inr ((y.2.2.2.2.2.2.2.1, y.2.2.2.2.2.2.2.2.1, y.2.2.2.2.2.2.2.2.2.1, y.2.2.2.2.2.2.2.2.2.2.1, y.2.2.2.2.2.2.2.2.2.2.2.1, y.2.2.2.2.2.2.2.2.2.2.2.2.1, y.2.2.2.2.2.2.2.2.2.2.2.2.2.1, y.2.2.2.2.2.2.2.2.2.2.2.2.2.2.1, y.2.2.2.2.2.2.2.2.2.2.2.2.2.2.2.1, y.2.2.2.2.2.2.2.2.2.2.2.2.2.2.2.2.1, y.2.2.2.2.2.2.2.2.2.2.2.2.2.2.2.2.2.1, y.2.2.2.2.2.2.2.2.2.2.2.2.2.2.2.2.2.2.1, y.2.2.2.2.2.2.2.2.2.2.2.2.2.2.2.2.2.2.2.1, y.2.2.2.2.2.2.2.2.2.2.2.2.2.2.2.2.2.2.2.2.1, y.2.2.2.2.2.2.2.2.2.2.2.2.2.2.2.2.2.2.2.2.2.1, y.2.2.2.2.2.2.2.2.2.2.2.2.2.2.2.2.2.2.2.2.2.2.1)))
theorem law10_l2_2_n {β : Type} (c_CodeR : a_CodeR → Option g_CodeR) (c_Rig : a_Rig → Option g_Rig) (c_Pick : a_Pick → Option g_Pick) (c_CertRow : a_CertRow → Option g_CertRow) (c_CertNil : a_CertNil → Option g_CertNil) (c_Cert : a_Cert → Option g_Cert) (c_Within : a_Within → Option g_Within) (c_CVer : a_CVer → Option g_CVer) (c_lives : a_lives → Option g_lives) (x : a_law10) (y : law10_l2_2_a) (nx : law10_l2_2_a → Option β) (dn : law10_l2_2_g → Option β) : law10_l2_2_t c_CodeR c_Rig c_Pick c_CertRow c_CertNil c_Cert c_Within c_CVer c_lives x y nx dn = (law10_l2_2_t c_CodeR c_Rig c_Pick c_CertRow c_CertNil c_Cert c_Within c_CVer c_lives x y (fun y => some (.inl y)) (fun z => some (.inr z))).bind fun r => Sum.elim nx dn r := by
  unfold law10_l2_2_t
  repeat' first | exact free_none | refine free_bind (fun z => ?_) | refine free_ite ?_ ?_ | refine free_sum (fun z => ?_) (fun z => ?_) | rfl
theorem law10_l2_2_r (c_CodeR : a_CodeR → Option g_CodeR) (c_Rig : a_Rig → Option g_Rig) (c_Pick : a_Pick → Option g_Pick) (c_CertRow : a_CertRow → Option g_CertRow) (c_CertNil : a_CertNil → Option g_CertNil) (c_Cert : a_Cert → Option g_Cert) (c_Within : a_Within → Option g_Within) (c_CVer : a_CVer → Option g_CVer) (c_lives : a_lives → Option g_lives) (x : a_law10) (y : law10_l2_2_a) (lo : LoopT) : loopK E3 (ftab 12 (fun _ _ => true) A_CodeR x_CodeR c_CodeR (ftab 13 (fun _ _ => true) A_Rig x_Rig c_Rig (ftab 27 (fun _ _ => true) A_Pick x_Pick c_Pick (ftab 14 (fun _ L => L.length == 1) A_CertRow x_CertRow c_CertRow (ftab 14 (fun a _ => rigNil a) A_CertNil x_CertNil c_CertNil (ftab 14 (fun _ _ => true) A_Cert x_Cert c_Cert (ftab 24 (fun _ _ => true) A_Within x_Within c_Within (ftab 19 (fun _ _ => true) A_CVer x_CVer c_CVer (ftab 17 (fun _ _ => true) A_lives x_lives c_lives ca0))))))))) lo 2 86400 (bodyOf E3 10 2) (law10_l2_2_S x y) (KCM [(2, 16768)] 64) = law10_l2_2_t (fun x => viaF A_CodeR c_CodeR (A_CodeR x)) (fun x => viaF A_Rig c_Rig (A_Rig x)) (fun x => viaF A_Pick c_Pick (A_Pick x)) (fun x => viaF A_CertRow c_CertRow (A_CertRow x)) (fun x => viaF A_CertNil c_CertNil (A_CertNil x)) (fun x => viaF A_Cert c_Cert (A_Cert x)) (fun x => viaF A_Within c_Within (A_Within x)) (fun x => viaF A_CVer c_CVer (A_CVer x)) (fun x => viaF A_lives c_lives (A_lives x)) x y (fun y => lo 2 86400 (bodyOf E3 10 2) (law10_l2_2_S x y) (KCM [(2, 16768)] 64)) (fun z => some (.l (law10_l2_2_T x z).1 (law10_l2_2_T x z).2)) := by kernel_rfl
noncomputable def law10_l2_2 (c_CodeR : a_CodeR → Option g_CodeR) (c_Rig : a_Rig → Option g_Rig) (c_Pick : a_Pick → Option g_Pick) (c_CertRow : a_CertRow → Option g_CertRow) (c_CertNil : a_CertNil → Option g_CertNil) (c_Cert : a_Cert → Option g_Cert) (c_Within : a_Within → Option g_Within) (c_CVer : a_CVer → Option g_CVer) (c_lives : a_lives → Option g_lives) (q : Nat) (x : a_law10) : law10_l2_2_a → Option law10_l2_2_g := lpG (fun y => law10_l2_2_t c_CodeR c_Rig c_Pick c_CertRow c_CertNil c_Cert c_Within c_CVer c_lives x y (fun y => some (.inl y)) (fun z => some (.inr z))) q
theorem law10_l2_2_s (c_CodeR : a_CodeR → Option g_CodeR) (h_CodeR : ∀ x z, c_CodeR x = some z → SC E3 12 (A_CodeR x).1 (A_CodeR x).2 (R_CodeR z)) (c_Rig : a_Rig → Option g_Rig) (h_Rig : ∀ x z, c_Rig x = some z → SC E3 13 (A_Rig x).1 (A_Rig x).2 (R_Rig z)) (c_Pick : a_Pick → Option g_Pick) (h_Pick : ∀ x z, c_Pick x = some z → SC E3 27 (A_Pick x).1 (A_Pick x).2 (R_Pick z)) (c_CertRow : a_CertRow → Option g_CertRow) (h_CertRow : ∀ x z, c_CertRow x = some z → SC E3 14 (A_CertRow x).1 (A_CertRow x).2 (R_CertRow z)) (c_CertNil : a_CertNil → Option g_CertNil) (h_CertNil : ∀ x z, c_CertNil x = some z → SC E3 14 (A_CertNil x).1 (A_CertNil x).2 (R_CertNil z)) (c_Cert : a_Cert → Option g_Cert) (h_Cert : ∀ x z, c_Cert x = some z → SC E3 14 (A_Cert x).1 (A_Cert x).2 (R_Cert z)) (c_Within : a_Within → Option g_Within) (h_Within : ∀ x z, c_Within x = some z → SC E3 24 (A_Within x).1 (A_Within x).2 (R_Within z)) (c_CVer : a_CVer → Option g_CVer) (h_CVer : ∀ x z, c_CVer x = some z → SC E3 19 (A_CVer x).1 (A_CVer x).2 (R_CVer z)) (c_lives : a_lives → Option g_lives) (h_lives : ∀ x z, c_lives x = some z → SC E3 17 (A_lives x).1 (A_lives x).2 (R_lives z)) (q : Nat) (x : a_law10) : ∀ y z, law10_l2_2 c_CodeR c_Rig c_Pick c_CertRow c_CertNil c_Cert c_Within c_CVer c_lives q x y = some z → SL E3 (bodyOf E3 10 2) (law10_l2_2_S x y) (law10_l2_2_T x z).1 (law10_l2_2_T x z).2 :=
  SL.lp (LT := fun lo => lo) (T := law10_l2_2_T x) (S := law10_l2_2_S x) (ftab_cons h_CodeR xe_CodeR (ftab_cons h_Rig xe_Rig (ftab_cons h_Pick xe_Pick (ftab_cons h_CertRow xe_CertRow (ftab_cons h_CertNil xe_CertNil (ftab_cons h_Cert xe_Cert (ftab_cons h_Within xe_Within (ftab_cons h_CVer xe_CVer (ftab_cons h_lives xe_lives ca0_sound))))))))) hX3 (fun lo h => h) (fun lo y => (law10_l2_2_r c_CodeR c_Rig c_Pick c_CertRow c_CertNil c_Cert c_Within c_CVer c_lives x y lo).trans (by rw [via_eq i_CodeR c_CodeR, via_eq i_Rig c_Rig, via_eq i_Pick c_Pick, via_eq i_CertRow c_CertRow, via_eq i_CertNil c_CertNil, via_eq i_Cert c_Cert, via_eq i_Within c_Within, via_eq i_CVer c_CVer, via_eq i_lives c_lives]; exact law10_l2_2_n _ _ _ _ _ _ _ _ _ _ _ _ _)) (fun z => by rcases z with z | z <;> first | exact law10_l2_2_k0 x z | exact law10_l2_2_k1 x z) q
def t_law10 {β : Type} (c_CodeR : a_CodeR → Option g_CodeR) (c_Rig : a_Rig → Option g_Rig) (c_Pick : a_Pick → Option g_Pick) (c_CertRow : a_CertRow → Option g_CertRow) (c_CertNil : a_CertNil → Option g_CertNil) (c_Cert : a_Cert → Option g_Cert) (c_Within : a_Within → Option g_Within) (c_CVer : a_CVer → Option g_CVer) (c_lives : a_lives → Option g_lives) (l_law10_l0 : law10_l0_a → Option law10_l0_g) (l_law10_l2 : law10_l2_a → Option law10_l2_g) (l_law10_l2_2 : law10_l2_2_a → Option law10_l2_2_g) (x : a_law10) (dn : g_law10 → Option β) : Option β :=
 (c_CodeR ((false, x.1, x.2.1))).bind fun z3 =>
  (c_Rig ((x.2.2.1, x.2.2.2.1))).bind fun z6 =>
   (c_Pick ((x.2.2.2.2.1, x.2.2.2.2.2, (0 : Int), z6.2.2.2.2.1))).bind fun z11 =>
    (c_Pick ((x.2.2.2.2.1, x.2.2.2.2.2, (1 : Int), (100 : Int)))).bind fun z16 =>
     (l_law10_l0 (.inl ((z3.1, z3.2.1, z3.2.2, z6.1, z6.2.1, z6.2.2.1, z6.2.2.2.1, z6.2.2.2.2.1, z6.2.2.2.2.2, w ((1 : Int) + z11), w (z6.2.2.2.2.2 + z16))))).bind fun z293 =>
      Sum.elim (fun z293a =>
      (c_Cert ((pName, (0 : Int), (0 : Int), z293a.1, z293a.2.1, z293a.2.2.1, z293a.2.2.2.1, z293a.2.2.2.2.1, z293a.2.2.2.2.2.1, z293a.2.2.2.2.2.2.1, z293a.2.2.2.2.2.2.2.1, z293a.2.2.2.2.2.2.2.2.1))).bind fun z306 =>
       (c_CertNil ((pName, (0 : Int), (0 : Int), z293a.1, z293a.2.1, z293a.2.2.1, z293a.2.2.2.2.2.2.2.2.2))).bind fun z315 =>
        if (z306.1 != (0 : Int)) = true then
         if (z306.1 == z315.1) = true then
          if (z306.1 == (5 : Int)) = true then
           (c_lives ()).bind fun z316 =>
            dn z316
          else
           dn false
         else
          dn false
        else
         if (z315.1 != (0 : Int)) = true then
          if (z306.1 == z315.1) = true then
           if (z306.1 == (5 : Int)) = true then
            (c_lives ()).bind fun z317 =>
             dn z317
           else
            dn false
          else
           dn false
         else
          if (((z306.2.1 : Nat) : Int) != ((z315.2.1 : Nat) : Int)) = true then
           dn false
          else
           (l_law10_l2 ((z306.2.1, z306.2.2.1, z306.2.2.2.1, z306.2.2.2.2.1, z306.2.2.2.2.2.1, z306.2.2.2.2.2.2.1, z306.2.2.2.2.2.2.2, z315.2.1, z315.2.2.1, z315.2.2.2.1, z315.2.2.2.2.1, z315.2.2.2.2.2.1, z315.2.2.2.2.2.2.1, z315.2.2.2.2.2.2.2, z293a.1, z293a.2.1, z293a.2.2.1, z293a.2.2.2.1, z293a.2.2.2.2.1, z293a.2.2.2.2.2.1, z293a.2.2.2.2.2.2.1, z293a.2.2.2.2.2.2.2.1, z293a.2.2.2.2.2.2.2.2.1, (0 : Int)))).bind fun z448 =>
            Sum.elim (fun z448a =>
            dn false) (fun z448b =>
            (c_CVer ((pName, (0 : Int), (0 : Int), z448b.2.2.2.2.2.2.2.1, z448b.2.2.2.2.2.2.2.2.1, z448b.2.2.2.2.2.2.2.2.2.1, z448b.2.2.2.2.2.2.2.2.2.2.1, z448b.2.2.2.2.2.2.2.2.2.2.2.1, z448b.2.2.2.2.2.2.2.2.2.2.2.2.1, z448b.2.2.2.2.2.2.2.2.2.2.2.2.2.1, z448b.2.2.2.2.2.2.2.2.2.2.2.2.2.2.1, z448b.2.2.2.2.2.2.2.2.2.2.2.2.2.2.2, z448b.1, z448b.2.1, z448b.2.2.1, z448b.2.2.2.1, z448b.2.2.2.2.1, z448b.2.2.2.2.2.1, z448b.2.2.2.2.2.2.1))).bind fun z469 =>
             if (z469 == (0 : Int)) = true then
              (c_lives ()).bind fun z470 =>
               dn z470
             else
              dn false) z448) (fun z293b =>
      (c_Cert ((pName, (0 : Int), (0 : Int), z293b.1, z293b.2.1, z293b.2.2.1, z293b.2.2.2.1, z293b.2.2.2.2.1, z293b.2.2.2.2.2.1, z293b.2.2.2.2.2.2.1, z293b.2.2.2.2.2.2.2.1, z293b.2.2.2.2.2.2.2.2.1))).bind fun z484 =>
       (c_CertRow ((pName, (0 : Int), (0 : Int), z293b.1, z293b.2.1, z293b.2.2.1, z293b.2.2.2.2.2.2.2.2.2.1, z293b.2.2.2.2.2.2.2.2.2.2.2.2.1, z293b.2.2.2.2.2.2.2.2.2.2.2.2.2.1, z293b.2.2.2.2.2.2.2.2.2.2.2.2.2.2, z293b.2.2.2.2.2.2.2.2.2.2.1, z293b.2.2.2.2.2.2.2.2.2.2.2.1))).bind fun z497 =>
        Sum.elim (fun z497a =>
        if (z484.1 != (0 : Int)) = true then
         if (z484.1 == (0 : Int)) = true then
          if (z484.1 == (5 : Int)) = true then
           (c_lives ()).bind fun z498 =>
            dn z498
          else
           dn false
         else
          dn false
        else
         if (((z484.2.1 : Nat) : Int) != ((z497a.2.2.2.2.1 : Nat) : Int)) = true then
          dn false
         else
          (l_law10_l2_2 ((z484.2.1, z484.2.2.1, z484.2.2.2.1, z484.2.2.2.2.1, z484.2.2.2.2.2.1, z484.2.2.2.2.2.2.1, z484.2.2.2.2.2.2.2, z497a.2.2.2.2.1, z293b.1, z293b.2.1, z293b.2.2.1, z293b.2.2.2.1, z293b.2.2.2.2.1, z293b.2.2.2.2.2.1, z293b.2.2.2.2.2.2.1, z293b.2.2.2.2.2.2.2.1, z293b.2.2.2.2.2.2.2.2.1, z497a.2.2.2.2.2.1, z497a.2.2.2.2.2.2.1, z497a.2.2.2.2.2.2.2.1, z497a.2.2.2.2.2.2.2.2.1, z497a.2.2.2.2.2.2.2.2.2.1, z497a.2.2.2.2.2.2.2.2.2.2, (0 : Int)))).bind fun z629 =>
           Sum.elim (fun z629a =>
           dn false) (fun z629b =>
           if 0 + z629b.1 ≤ z629b.1 ∧ 6 = 6 then
            (c_CVer ((pName, (0 : Int), (0 : Int), z629b.2.1, z629b.2.2.1, z629b.2.2.2.1, z629b.2.2.2.2.1, z629b.2.2.2.2.2.1, z629b.2.2.2.2.2.2.1, z629b.2.2.2.2.2.2.2.1, z629b.2.2.2.2.2.2.2.2.1, z629b.2.2.2.2.2.2.2.2.2.1, z629b.1, fun (j : Nat) => z629b.2.2.2.2.2.2.2.2.2.2.1 (0 + j), fun (j : Nat) => z629b.2.2.2.2.2.2.2.2.2.2.2.1 (0 + j), fun (j : Nat) => z629b.2.2.2.2.2.2.2.2.2.2.2.2.1 (0 + j), fun (j : Nat) => z629b.2.2.2.2.2.2.2.2.2.2.2.2.2.1 (0 + j), fun (j : Nat) => z629b.2.2.2.2.2.2.2.2.2.2.2.2.2.2.1 (0 + j), fun (j : Nat) => z629b.2.2.2.2.2.2.2.2.2.2.2.2.2.2.2 (0 + j)))).bind fun z650 =>
             if (z650 == (0 : Int)) = true then
              (c_lives ()).bind fun z651 =>
               dn z651
             else
              dn false
           else
            none) z629) (fun z497b =>
        if (z484.1 != (0 : Int)) = true then
         if (z484.1 == (5 : Int)) = true then
          if (z484.1 == (5 : Int)) = true then
           (c_lives ()).bind fun z653 =>
            dn z653
          else
           dn false
         else
          dn false
        else
         if (z484.1 == (5 : Int)) = true then
          if (z484.1 == (5 : Int)) = true then
           (c_lives ()).bind fun z654 =>
            dn z654
          else
           dn false
         else
          dn false) z497) z293
theorem n_law10 {β : Type} (c_CodeR : a_CodeR → Option g_CodeR) (c_Rig : a_Rig → Option g_Rig) (c_Pick : a_Pick → Option g_Pick) (c_CertRow : a_CertRow → Option g_CertRow) (c_CertNil : a_CertNil → Option g_CertNil) (c_Cert : a_Cert → Option g_Cert) (c_Within : a_Within → Option g_Within) (c_CVer : a_CVer → Option g_CVer) (c_lives : a_lives → Option g_lives) (l_law10_l0 : law10_l0_a → Option law10_l0_g) (l_law10_l2 : law10_l2_a → Option law10_l2_g) (l_law10_l2_2 : law10_l2_2_a → Option law10_l2_2_g) (x : a_law10) (dn : g_law10 → Option β) : t_law10 c_CodeR c_Rig c_Pick c_CertRow c_CertNil c_Cert c_Within c_CVer c_lives l_law10_l0 l_law10_l2 l_law10_l2_2 x dn = (t_law10 c_CodeR c_Rig c_Pick c_CertRow c_CertNil c_Cert c_Within c_CVer c_lives l_law10_l0 l_law10_l2 l_law10_l2_2 x some).bind dn := by
  unfold t_law10
  repeat' first | exact free_none | refine free_bind (fun z => ?_) | refine free_ite ?_ ?_ | refine free_sum (fun z => ?_) (fun z => ?_) | rfl
theorem r_law10 (c_CodeR : a_CodeR → Option g_CodeR) (c_Rig : a_Rig → Option g_Rig) (c_Pick : a_Pick → Option g_Pick) (c_CertRow : a_CertRow → Option g_CertRow) (c_CertNil : a_CertNil → Option g_CertNil) (c_Cert : a_Cert → Option g_Cert) (c_Within : a_Within → Option g_Within) (c_CVer : a_CVer → Option g_CVer) (c_lives : a_lives → Option g_lives) (l_law10_l0 : law10_l0_a → Option law10_l0_g) (l_law10_l2 : law10_l2_a → Option law10_l2_g) (l_law10_l2_2 : law10_l2_2_a → Option law10_l2_2_g) (x : a_law10) : callK E3 (ftab 12 (fun _ _ => true) A_CodeR x_CodeR c_CodeR (ftab 13 (fun _ _ => true) A_Rig x_Rig c_Rig (ftab 27 (fun _ _ => true) A_Pick x_Pick c_Pick (ftab 14 (fun _ L => L.length == 1) A_CertRow x_CertRow c_CertRow (ftab 14 (fun a _ => rigNil a) A_CertNil x_CertNil c_CertNil (ftab 14 (fun _ _ => true) A_Cert x_Cert c_Cert (ftab 24 (fun _ _ => true) A_Within x_Within c_Within (ftab 19 (fun _ _ => true) A_CVer x_CVer c_CVer (ftab 17 (fun _ _ => true) A_lives x_lives c_lives ca0))))))))) (ltabF 0 (fun _ => true) (bodyOf E3 10 0) (law10_l0_S x) (law10_l0_x x) l_law10_l0 (ltabF 2 (fun s => s.nx == 2) (bodyOf E3 10 2) (law10_l2_S x) (law10_l2_x x) l_law10_l2 (ltabF 2 (fun s => s.nx == 3) (bodyOf E3 10 2) (law10_l2_2_S x) (law10_l2_2_x x) l_law10_l2_2 lo0))) 10 (A_law10 x).1 (A_law10 x).2 K = t_law10 (fun x => viaF A_CodeR c_CodeR (A_CodeR x)) (fun x => viaF A_Rig c_Rig (A_Rig x)) (fun x => viaF A_Pick c_Pick (A_Pick x)) (fun x => viaF A_CertRow c_CertRow (A_CertRow x)) (fun x => viaF A_CertNil c_CertNil (A_CertNil x)) (fun x => viaF A_Cert c_Cert (A_Cert x)) (fun x => viaF A_Within c_Within (A_Within x)) (fun x => viaF A_CVer c_CVer (A_CVer x)) (fun x => viaF A_lives c_lives (A_lives x)) (fun y => viaF (fun y => (bodyOf E3 10 0, law10_l0_S x y)) l_law10_l0 (bodyOf E3 10 0, law10_l0_S x y)) (fun y => viaF (fun y => (bodyOf E3 10 2, law10_l2_S x y)) l_law10_l2 (bodyOf E3 10 2, law10_l2_S x y)) (fun y => viaF (fun y => (bodyOf E3 10 2, law10_l2_2_S x y)) l_law10_l2_2 (bodyOf E3 10 2, law10_l2_2_S x y)) x (fun z => some (.c (R_law10 z))) := by kernel_rfl
theorem s_law10 (c_CodeR : a_CodeR → Option g_CodeR) (h_CodeR : ∀ x z, c_CodeR x = some z → SC E3 12 (A_CodeR x).1 (A_CodeR x).2 (R_CodeR z)) (c_Rig : a_Rig → Option g_Rig) (h_Rig : ∀ x z, c_Rig x = some z → SC E3 13 (A_Rig x).1 (A_Rig x).2 (R_Rig z)) (c_Pick : a_Pick → Option g_Pick) (h_Pick : ∀ x z, c_Pick x = some z → SC E3 27 (A_Pick x).1 (A_Pick x).2 (R_Pick z)) (c_CertRow : a_CertRow → Option g_CertRow) (h_CertRow : ∀ x z, c_CertRow x = some z → SC E3 14 (A_CertRow x).1 (A_CertRow x).2 (R_CertRow z)) (c_CertNil : a_CertNil → Option g_CertNil) (h_CertNil : ∀ x z, c_CertNil x = some z → SC E3 14 (A_CertNil x).1 (A_CertNil x).2 (R_CertNil z)) (c_Cert : a_Cert → Option g_Cert) (h_Cert : ∀ x z, c_Cert x = some z → SC E3 14 (A_Cert x).1 (A_Cert x).2 (R_Cert z)) (c_Within : a_Within → Option g_Within) (h_Within : ∀ x z, c_Within x = some z → SC E3 24 (A_Within x).1 (A_Within x).2 (R_Within z)) (c_CVer : a_CVer → Option g_CVer) (h_CVer : ∀ x z, c_CVer x = some z → SC E3 19 (A_CVer x).1 (A_CVer x).2 (R_CVer z)) (c_lives : a_lives → Option g_lives) (h_lives : ∀ x z, c_lives x = some z → SC E3 17 (A_lives x).1 (A_lives x).2 (R_lives z)) (q : Nat) (x : a_law10) (z : g_law10) (h : t_law10 c_CodeR c_Rig c_Pick c_CertRow c_CertNil c_Cert c_Within c_CVer c_lives (law10_l0 c_CodeR c_Rig c_Pick c_CertRow c_CertNil c_Cert c_Within c_CVer c_lives q x) (law10_l2 c_CodeR c_Rig c_Pick c_CertRow c_CertNil c_Cert c_Within c_CVer c_lives q x) (law10_l2_2 c_CodeR c_Rig c_Pick c_CertRow c_CertNil c_Cert c_Within c_CVer c_lives q x) x some = some z) : SC E3 10 (A_law10 x).1 (A_law10 x).2 (R_law10 z) := by
  refine SC.of hW3 hX3 (ftab_cons h_CodeR xe_CodeR (ftab_cons h_Rig xe_Rig (ftab_cons h_Pick xe_Pick (ftab_cons h_CertRow xe_CertRow (ftab_cons h_CertNil xe_CertNil (ftab_cons h_Cert xe_Cert (ftab_cons h_Within xe_Within (ftab_cons h_CVer xe_CVer (ftab_cons h_lives xe_lives ca0_sound))))))))) (ltabF_cons (law10_l0_s c_CodeR h_CodeR c_Rig h_Rig c_Pick h_Pick c_CertRow h_CertRow c_CertNil h_CertNil c_Cert h_Cert c_Within h_Within c_CVer h_CVer c_lives h_lives q x) (law10_l0_xe x) (ltabF_cons (law10_l2_s c_CodeR h_CodeR c_Rig h_Rig c_Pick h_Pick c_CertRow h_CertRow c_CertNil h_CertNil c_Cert h_Cert c_Within h_Within c_CVer h_CVer c_lives h_lives q x) (law10_l2_xe x) (ltabF_cons (law10_l2_2_s c_CodeR h_CodeR c_Rig h_Rig c_Pick h_Pick c_CertRow h_CertRow c_CertNil h_CertNil c_Cert h_Cert c_Within h_Within c_CVer h_CVer c_lives h_lives q x) (law10_l2_2_xe x) lo0_sound))) ((r_law10 c_CodeR c_Rig c_Pick c_CertRow c_CertNil c_Cert c_Within c_CVer c_lives (law10_l0 c_CodeR c_Rig c_Pick c_CertRow c_CertNil c_Cert c_Within c_CVer c_lives q x) (law10_l2 c_CodeR c_Rig c_Pick c_CertRow c_CertNil c_Cert c_Within c_CVer c_lives q x) (law10_l2_2 c_CodeR c_Rig c_Pick c_CertRow c_CertNil c_Cert c_Within c_CVer c_lives q x) x).trans ?_)
  rw [via_eq i_CodeR c_CodeR, via_eq i_Rig c_Rig, via_eq i_Pick c_Pick, via_eq i_CertRow c_CertRow, via_eq i_CertNil c_CertNil, via_eq i_Cert c_Cert, via_eq i_Within c_Within, via_eq i_CVer c_CVer, via_eq i_lives c_lives, via_eq (pair_inj (bodyOf E3 10 0) (law10_l0_i x)) (law10_l0 c_CodeR c_Rig c_Pick c_CertRow c_CertNil c_Cert c_Within c_CVer c_lives q x), via_eq (pair_inj (bodyOf E3 10 2) (law10_l2_i x)) (law10_l2 c_CodeR c_Rig c_Pick c_CertRow c_CertNil c_Cert c_Within c_CVer c_lives q x), via_eq (pair_inj (bodyOf E3 10 2) (law10_l2_2_i x)) (law10_l2_2 c_CodeR c_Rig c_Pick c_CertRow c_CertNil c_Cert c_Within c_CVer c_lives q x), n_law10, h]; rfl
noncomputable def law10 (q : Nat) (x : a_law10) : Option g_law10 := t_law10 (CodeR q) (Rig q) (Pick q) (CertRow q) (CertNil q) (Cert q) (Within q) (CVer q) (lives q) (law10_l0 (CodeR q) (Rig q) (Pick q) (CertRow q) (CertNil q) (Cert q) (Within q) (CVer q) (lives q) q x) (law10_l2 (CodeR q) (Rig q) (Pick q) (CertRow q) (CertNil q) (Cert q) (Within q) (CVer q) (lives q) q x) (law10_l2_2 (CodeR q) (Rig q) (Pick q) (CertRow q) (CertNil q) (Cert q) (Within q) (CVer q) (lives q) q x) x some
theorem sc_law10 (q : Nat) : ∀ (x : a_law10) (z : g_law10), law10 q x = some z → SC E3 10 (A_law10 x).1 (A_law10 x).2 (R_law10 z) := fun x z h => s_law10 (CodeR q) (sc_CodeR q) (Rig q) (sc_Rig q) (Pick q) (sc_Pick q) (CertRow q) (sc_CertRow q) (CertNil q) (sc_CertNil q) (Cert q) (sc_Cert q) (Within q) (sc_Within q) (CVer q) (sc_CVer q) (lives q) (sc_lives q) q x z h
end Go.Proofs.Ythegipdgillngaa
