/- Statements and blocks of the maker (plain). -/
import Derived.Test.YthegipdgillngaaX2
namespace Go.Proofs.Ythegipdgillngaa
open Go Go.Am Go.Proofs
set_option linter.unusedSimpArgs false
set_option linter.unusedVariables false
set_option maxRecDepth 100000
/-- A statement by its number. -/
noncomputable def chA (q : Nat) (e : Int) (s : MT) (u : Int) : Option MT :=
  if (u == (0 : Int)) = true then
   (nextA q (((8 : Int), s))).bind fun z899 =>
    (nextA q (((50 : Int), z899.2))).bind fun z908 =>
     (putA q (((23 : Int), w (w (z899.1 * (1000000 : Int)) + z908.1), z908.2))).bind fun z918 =>
      some (z918.2)
  else
   if (u == (1 : Int)) = true then
    (nextA q (((4000 : Int), s))).bind fun z927 =>
     (putA q (((24 : Int), z927))).bind fun z937 =>
      some (z937.2)
   else
    if (u == (2 : Int)) = true then
     (nextA q (((4000 : Int), s))).bind fun z946 =>
      (putA q (((25 : Int), z946))).bind fun z956 =>
       some (z956.2)
    else
     if (u == (3 : Int)) = true then
      (nextA q (((50 : Int), s))).bind fun z965 =>
       (putA q (((18 : Int), z965))).bind fun z975 =>
        some (z975.2)
     else
      if (u == (4 : Int)) = true then
       (nextA q (((720 : Int), s))).bind fun z984 =>
        (putA q (((1 : Int), w (z984.1 - (360 : Int)), z984.2))).bind fun z994 =>
         (putA q (((22 : Int), (0 : Int), z994.2))).bind fun z1004 =>
          some (z1004.2)
      else
       if (u == (5 : Int)) = true then
        (nextA q (((100 : Int), s))).bind fun z1013 =>
         (putA q (((26 : Int), z1013))).bind fun z1023 =>
          some (z1023.2)
       else
        if (u == (6 : Int)) = true then
         (condA q (s)).bind fun z1031 =>
          (putA q (((21 : Int), (0 : Int), z1031))).bind fun z1041 =>
           some (z1041.2)
        else
         if (u == (7 : Int)) = true then
          (nextA q (((4 : Int), s))).bind fun z1050 =>
           (putA q (((16 : Int), w ((1 : Int) + z1050.1), z1050.2))).bind fun z1060 =>
            ((made q).2 (((2 : Int), w (e - (1 : Int)), z1060.2))).bind fun z1070 =>
             (putA q (((17 : Int), w (z1060.1 + (1 : Int)), z1070))).bind fun z1080 =>
              some (z1080.2)
         else
          if (u == (8 : Int)) = true then
           (nextA q (((30 : Int), s))).bind fun z1089 =>
            (putA q (((19 : Int), z1089))).bind fun z1099 =>
             (condA q (z1099.2)).bind fun z1107 =>
              (putA q (((20 : Int), w (z1099.1 + (1 : Int)), z1107))).bind fun z1117 =>
               some (z1117.2)
          else
           if (u == (9 : Int)) = true then
            (nextA q (((1000 : Int), s))).bind fun z1126 =>
             (putA q (((27 : Int), z1126))).bind fun z1136 =>
              some (z1136.2)
           else
            (condA q (s)).bind fun z1144 =>
             (putA q (((15 : Int), (0 : Int), z1144))).bind fun z1154 =>
              ((made q).2 (((2 : Int), w (e - (1 : Int)), z1154.2))).bind fun z1164 =>
               if (u == (11 : Int)) = true then
                (putA q (((14 : Int), (0 : Int), z1164))).bind fun z1174 =>
                 if (0 : Int) ≤ z1154.1 ∧ z1154.1 < ((z1174.2.2.2.2.2.1 : Nat) : Int) then
                  if 0 + Int.toNat (z1154.1) < z1174.2.2.2.2.2.1 ∧ 2 = 2 then
                   ((made q).2 (((2 : Int), w (e - (1 : Int)), z1174.2.1, z1174.2.2.1, z1174.2.2.2.1, z1174.2.2.2.2.1, z1174.2.2.2.2.2.1, z1174.2.2.2.2.2.2.1, fun (j : Nat) => if j = 0 + Int.toNat (z1154.1) then ((z1174.2.2.2.2.2.1 : Nat) : Int) else z1174.2.2.2.2.2.2.2 j))).bind fun z1184 =>
                    if (0 : Int) ≤ z1174.1 ∧ z1174.1 < ((z1184.2.2.2.2.1 : Nat) : Int) then
                     if 0 + Int.toNat (z1174.1) < z1184.2.2.2.2.1 ∧ 2 = 2 then
                      some ((z1184.1, z1184.2.1, z1184.2.2.1, z1184.2.2.2.1, z1184.2.2.2.2.1, z1184.2.2.2.2.2.1, fun (j : Nat) => if j = 0 + Int.toNat (z1174.1) then ((z1184.2.2.2.2.1 : Nat) : Int) else z1184.2.2.2.2.2.2 j))
                     else
                      none
                    else
                     none
                  else
                   none
                 else
                  none
               else
                if (0 : Int) ≤ z1154.1 ∧ z1154.1 < ((z1164.2.2.2.2.1 : Nat) : Int) then
                 if 0 + Int.toNat (z1154.1) < z1164.2.2.2.2.1 ∧ 2 = 2 then
                  some ((z1164.1, z1164.2.1, z1164.2.2.1, z1164.2.2.2.1, z1164.2.2.2.2.1, z1164.2.2.2.2.2.1, fun (j : Nat) => if j = 0 + Int.toNat (z1154.1) then ((z1164.2.2.2.2.1 : Nat) : Int) else z1164.2.2.2.2.2.2 j))
                 else
                  none
                else
                 none
noncomputable def chZ (q : Nat) (e : Int) (s : Nat × (Nat → Int) × Int × Bool) (u : Int) : Option MT :=
  if (u == (0 : Int)) = true then
   (nextZ q (((8 : Int), s))).bind fun z704 =>
    (nextZ q (((50 : Int), z704.2))).bind fun z710 =>
     (putZ q (((23 : Int), w (w (z704.1 * (1000000 : Int)) + z710.1), z710.2))).bind fun z717 =>
      some ((z717.1, z717.2.1, z717.2.2.1, z717.2.2.2.1, 1, z717.2.2.2.2))
  else
   if (u == (1 : Int)) = true then
    (nextZ q (((4000 : Int), s))).bind fun z723 =>
     (putZ q (((24 : Int), z723))).bind fun z730 =>
      some ((z730.1, z730.2.1, z730.2.2.1, z730.2.2.2.1, 1, z730.2.2.2.2))
   else
    if (u == (2 : Int)) = true then
     (nextZ q (((4000 : Int), s))).bind fun z736 =>
      (putZ q (((25 : Int), z736))).bind fun z743 =>
       some ((z743.1, z743.2.1, z743.2.2.1, z743.2.2.2.1, 1, z743.2.2.2.2))
    else
     if (u == (3 : Int)) = true then
      (nextZ q (((50 : Int), s))).bind fun z749 =>
       (putZ q (((18 : Int), z749))).bind fun z756 =>
        some ((z756.1, z756.2.1, z756.2.2.1, z756.2.2.2.1, 1, z756.2.2.2.2))
     else
      if (u == (4 : Int)) = true then
       (nextZ q (((720 : Int), s))).bind fun z762 =>
        (putZ q (((1 : Int), w (z762.1 - (360 : Int)), z762.2))).bind fun z769 =>
         (putA q (((22 : Int), (0 : Int), z769.1, z769.2.1, z769.2.2.1, z769.2.2.2.1, 1, z769.2.2.2.2))).bind fun z779 =>
          some (z779.2)
      else
       if (u == (5 : Int)) = true then
        (nextZ q (((100 : Int), s))).bind fun z785 =>
         (putZ q (((26 : Int), z785))).bind fun z792 =>
          some ((z792.1, z792.2.1, z792.2.2.1, z792.2.2.2.1, 1, z792.2.2.2.2))
       else
        if (u == (6 : Int)) = true then
         (condZ q (s)).bind fun z797 =>
          (putA q (((21 : Int), (0 : Int), z797))).bind fun z807 =>
           some (z807.2)
        else
         if (u == (7 : Int)) = true then
          (nextZ q (((4 : Int), s))).bind fun z813 =>
           (putZ q (((16 : Int), w ((1 : Int) + z813.1), z813.2))).bind fun z820 =>
            ((made q).2 (((2 : Int), w (e - (1 : Int)), z820.1, z820.2.1, z820.2.2.1, z820.2.2.2.1, 1, z820.2.2.2.2))).bind fun z830 =>
             (putA q (((17 : Int), (1 : Int), z830))).bind fun z840 =>
              some (z840.2)
         else
          if (u == (8 : Int)) = true then
           (nextZ q (((30 : Int), s))).bind fun z846 =>
            (putZ q (((19 : Int), z846))).bind fun z853 =>
             (condA q ((z853.1, z853.2.1, z853.2.2.1, z853.2.2.2.1, 1, z853.2.2.2.2))).bind fun z861 =>
              (putA q (((20 : Int), (1 : Int), z861))).bind fun z871 =>
               some (z871.2)
          else
           if (u == (9 : Int)) = true then
            (nextZ q (((1000 : Int), s))).bind fun z877 =>
             (putZ q (((27 : Int), z877))).bind fun z884 =>
              some ((z884.1, z884.2.1, z884.2.2.1, z884.2.2.2.1, 1, z884.2.2.2.2))
           else
            (condZ q (s)).bind fun z889 =>
             (putA q (((15 : Int), (0 : Int), z889))).bind fun z899 =>
              ((made q).2 (((2 : Int), w (e - (1 : Int)), z899.2))).bind fun z909 =>
               if (u == (11 : Int)) = true then
                (putA q (((14 : Int), (0 : Int), z909))).bind fun z919 =>
                 if (0 : Int) ≤ z899.1 ∧ z899.1 < ((z919.2.2.2.2.2.1 : Nat) : Int) then
                  if 0 + Int.toNat (z899.1) < z919.2.2.2.2.2.1 ∧ 2 = 2 then
                   ((made q).2 (((2 : Int), w (e - (1 : Int)), z919.2.1, z919.2.2.1, z919.2.2.2.1, z919.2.2.2.2.1, z919.2.2.2.2.2.1, z919.2.2.2.2.2.2.1, fun (j : Nat) => if j = 0 + Int.toNat (z899.1) then ((z919.2.2.2.2.2.1 : Nat) : Int) else z919.2.2.2.2.2.2.2 j))).bind fun z929 =>
                    if (0 : Int) ≤ z919.1 ∧ z919.1 < ((z929.2.2.2.2.1 : Nat) : Int) then
                     if 0 + Int.toNat (z919.1) < z929.2.2.2.2.1 ∧ 2 = 2 then
                      some ((z929.1, z929.2.1, z929.2.2.1, z929.2.2.2.1, z929.2.2.2.2.1, z929.2.2.2.2.2.1, fun (j : Nat) => if j = 0 + Int.toNat (z919.1) then ((z929.2.2.2.2.1 : Nat) : Int) else z929.2.2.2.2.2.2 j))
                     else
                      none
                    else
                     none
                  else
                   none
                 else
                  none
               else
                if (0 : Int) ≤ z899.1 ∧ z899.1 < ((z909.2.2.2.2.1 : Nat) : Int) then
                 if 0 + Int.toNat (z899.1) < z909.2.2.2.2.1 ∧ 2 = 2 then
                  some ((z909.1, z909.2.1, z909.2.2.1, z909.2.2.2.1, z909.2.2.2.2.1, z909.2.2.2.2.2.1, fun (j : Nat) => if j = 0 + Int.toNat (z899.1) then ((z909.2.2.2.2.1 : Nat) : Int) else z909.2.2.2.2.2.2 j))
                 else
                  none
                else
                 none

section
variable {m : Nat} {y : Nat → Int} {tl : Bool} {q : Nat}
theorem set_mid (l r : Is) (p p' : Int × Int) : (l ++ p :: r).set l.length p' = l ++ p' :: r := by
  rw [List.set_append_right _ _ (Nat.le_refl _), Nat.sub_self]; rfl
theorem getD_set' (l : Is) (i : Nat) (p : Int × Int) (j : Nat) (hi : i < l.length) : (l.set i p).getD j (0, 0) = if j = i then p else l.getD j (0, 0) := by
  simp only [List.getD_eq_getElem?_getD, List.getElem?_set]
  by_cases h : i = j
  · subst h; simp [hi]
  · simp [h, Ne.symm h]
theorem patch {l : Is} {s : MT} (hs : MS m y tl l s) {a v : Int} {i : Nat} (hi : i < l.length) (ha : a = i) : MS m y tl (l.set i ((l.getD i (0, 0)).1, v)) (s.1, s.2.1, s.2.2.1, s.2.2.2.1, s.2.2.2.2.1, s.2.2.2.2.2.1, fun (j : Nat) => if j = 0 + Int.toNat a then v else s.2.2.2.2.2.2 j) := by
  obtain ⟨h1, h2, h3, h4, h5⟩ := hs
  refine ⟨h1, h2, h3, by simpa using h4, fun j hj => ?_⟩
  have hj' : j < l.length := by simpa using hj
  have e : (0 + Int.toNat a) = i := by omega
  simp only [e]
  rw [getD_set' l i _ j hi]
  by_cases h : j = i
  · subst h; simp only [if_true]; exact ⟨(h5 j hj').1, by simp⟩
  · simp only [h, if_false]; exact h5 j hj'
/-- What a statement at this level makes of the code. -/
def SP (m : Nat) (y : Nat → Int) (tl : Bool) (e : Nat) (l : Is) (z : MT) : Prop := ∃ s, Seg tl l.length s ∧ MS m y tl (l ++ s) z ∧ (l ++ s).length ≤ 206 + 2 * e
/-- What a block does. -/
def BP (m : Nat) (y : Nat → Int) (tl : Bool) (e : Nat) (l : Is) (z : MT) : Prop := ∃ s, Seg tl l.length s ∧ MS m y tl (l ++ s) z ∧ ((l ++ s).length ≤ 206 + 2 * e ∨ (l ++ s).length ≤ l.length)
theorem one_ok {l : Is} {e : Nat} {z : Int × MT} {o a : Int} (hl : l.length < 200) (ho : okOne o a) (h : MS m y tl (l ++ [(o, a)]) z.2) : SP m y tl e l z.2 := ⟨_, .one ho, h, by simp <;> omega⟩
def Blk (m : Nat) (y : Nat → Int) (tl : Bool) (q e : Nat) : Prop := ∀ (l : Is) (s : MT), MS m y tl l s → l.length ≤ 220 → Runs ((made q).2 (2, w ((e : Int) - 1), s)) (BP m y tl (e - 1) l)
theorem use_in {a b : Int} (ha : 0 ≤ a ∧ a < 8) (hb : 0 ≤ b ∧ b < 50) : okOne 23 (w (w (a * 1000000) + b)) := by
  rw [w_in (n := a * 1000000) (by unfold inR; omega), w_in (by unfold inR; omega)]
  left; omega
theorem chA_runs (hy : ∀ j, j < m → inR (y j)) {e : Nat} (he2 : e ≤ 2) (hB : 0 < e → Blk m y tl q e) {l : Is} {s : MT} (hs : MS m y tl l s) (hl : l.length < 200) {u : Int} (hu : 0 ≤ u ∧ u < 12) (h8 : 8 ≤ u → tl = false) (he : u = 7 ∨ 10 ≤ u → 0 < e) : Runs (chA q e s u) (SP m y tl e l) := by
  unfold chA
  refine Runs.ite (fun hk => ?_) fun k0 => ?_
  · simp only [beq_iff_eq] at hk
    refine Runs.bind (next_runs hy hs (by omega)) fun z1 h1 => ?_
    obtain ⟨g1, h1⟩ := h1
    refine Runs.bind (next_runs hy h1 (by omega)) fun z2 h2 => ?_
    obtain ⟨g2, h2⟩ := h2
    refine Runs.bind (put_runs h2 23 (w (w (z1.1 * 1000000) + z2.1)) (by omega)) fun z3 h3 => ?_
    obtain ⟨r3, h3⟩ := h3
    exact Runs.some ⟨_, .one (use_in g1 g2), h3, by simp <;> omega⟩
  refine Runs.ite (fun hk => ?_) fun k1 => ?_
  · simp only [beq_iff_eq] at hk
    refine Runs.bind (next_runs hy hs (by omega)) fun z1 h1 => ?_
    obtain ⟨g1, h1⟩ := h1
    refine Runs.bind (put_runs h1 24 z1.1 (by omega)) fun z2 h2 => ?_
    obtain ⟨r2, h2⟩ := h2
    exact Runs.some ⟨_, .one (.inr (.inl ⟨rfl, g1⟩)), h2, by simp <;> omega⟩
  refine Runs.ite (fun hk => ?_) fun k2 => ?_
  · simp only [beq_iff_eq] at hk
    refine Runs.bind (next_runs hy hs (by omega)) fun z1 h1 => ?_
    obtain ⟨g1, h1⟩ := h1
    refine Runs.bind (put_runs h1 25 z1.1 (by omega)) fun z2 h2 => ?_
    obtain ⟨r2, h2⟩ := h2
    exact Runs.some ⟨_, .one (.inr (.inr (.inl ⟨rfl, g1⟩))), h2, by simp <;> omega⟩
  refine Runs.ite (fun hk => ?_) fun k3 => ?_
  · simp only [beq_iff_eq] at hk
    refine Runs.bind (next_runs hy hs (by omega)) fun z1 h1 => ?_
    obtain ⟨g1, h1⟩ := h1
    refine Runs.bind (put_runs h1 18 z1.1 (by omega)) fun z2 h2 => ?_
    obtain ⟨r2, h2⟩ := h2
    exact Runs.some ⟨_, .one (.inr (.inr (.inr (.inl ⟨rfl, g1⟩)))), h2, by simp <;> omega⟩
  refine Runs.ite (fun hk => ?_) fun k4 => ?_
  · simp only [beq_iff_eq] at hk
    refine Runs.bind (next_runs hy hs (by omega)) fun z1 h1 => ?_
    obtain ⟨g1, h1⟩ := h1
    have hw : w (z1.1 - 360) = z1.1 - 360 := w_in (by unfold inR; omega)
    refine Runs.bind (put_runs h1 1 (w (z1.1 - 360)) (by omega)) fun z2 h2 => ?_
    obtain ⟨r2, h2⟩ := h2
    refine Runs.bind (put_runs h2 22 0 (by simp at * <;> omega)) fun z3 h3 => ?_
    obtain ⟨r3, h3⟩ := h3
    rw [hw, List.append_assoc] at h3
    exact Runs.some ⟨_, .point (by omega), h3, by simp <;> omega⟩
  refine Runs.ite (fun hk => ?_) fun k5 => ?_
  · simp only [beq_iff_eq] at hk
    refine Runs.bind (next_runs hy hs (by omega)) fun z1 h1 => ?_
    obtain ⟨g1, h1⟩ := h1
    refine Runs.bind (put_runs h1 26 z1.1 (by omega)) fun z2 h2 => ?_
    obtain ⟨r2, h2⟩ := h2
    exact Runs.some ⟨_, .one (.inr (.inr (.inr (.inr ⟨rfl, g1⟩)))), h2, by simp <;> omega⟩
  refine Runs.ite (fun hk => ?_) fun k6 => ?_
  · simp only [beq_iff_eq] at hk
    refine Runs.bind (cond_runs hy hs (by omega)) fun z1 h1 => ?_
    obtain ⟨c, hc, h1⟩ := h1
    have cl := hc.len
    refine Runs.bind (put_runs h1 21 0 (by simp <;> omega)) fun z2 h2 => ?_
    obtain ⟨r2, h2⟩ := h2
    rw [List.append_assoc] at h2
    exact Runs.some ⟨_, .req hc, h2, by simp <;> omega⟩
  refine Runs.ite (fun hk => ?_) fun k7 => ?_
  · simp only [beq_iff_eq] at hk
    refine Runs.bind (next_runs hy hs (by omega)) fun z1 h1 => ?_
    obtain ⟨g1, h1⟩ := h1
    have hw : w (1 + z1.1) = 1 + z1.1 := w_in (by unfold inR; omega)
    have he0 := he (.inl hk)
    refine Runs.bind (put_runs h1 16 (w (1 + z1.1)) (by omega)) fun z2 h2 => ?_
    obtain ⟨r2, h2⟩ := h2
    refine Runs.bind (hB he0 _ _ h2 (by simp <;> omega)) fun z3 h3 => ?_
    obtain ⟨b, hb, h3, hlen⟩ := h3
    have r2w : w (z2.1 + 1) = (l.length : Int) + 1 := by rw [r2, w_in (by unfold inR; omega)]
    rw [r2w]
    refine Runs.bind (put_runs h3 17 (((l.length : Nat) : Int) + 1) (by simp only [List.length_append, List.length_cons, List.length_nil] at hlen ⊢ <;> omega)) fun z4 h4 => ?_
    obtain ⟨r4, h4⟩ := h4
    refine Runs.some ⟨(16, 1 + z1.1) :: (b ++ [(17, ((l.length : Nat) : Int) + 1)]), .loop (by omega) (by simpa using hb), ?_, by simp only [List.length_append, List.length_cons, List.length_nil] at hlen ⊢ <;> omega⟩
    rw [hw] at h4
    simpa [List.append_assoc] using h4
  refine Runs.ite (fun hk => ?_) fun k8 => ?_
  · simp only [beq_iff_eq] at hk
    refine Runs.bind (next_runs hy hs (by omega)) fun z1 h1 => ?_
    obtain ⟨g1, h1⟩ := h1
    refine Runs.bind (put_runs h1 19 z1.1 (by omega)) fun z2 h2 => ?_
    obtain ⟨r2, h2⟩ := h2
    refine Runs.bind (cond_runs hy h2 (by simp <;> omega)) fun z3 h3 => ?_
    obtain ⟨c, hc, h3⟩ := h3
    have cl := hc.len
    have r2w : w (z2.1 + 1) = (l.length : Int) + 1 := by rw [r2, w_in (by unfold inR; omega)]
    rw [r2w]
    refine Runs.bind (put_runs h3 20 (((l.length : Nat) : Int) + 1) (by simp <;> omega)) fun z4 h4 => ?_
    obtain ⟨r4, h4⟩ := h4
    refine Runs.some ⟨(19, z1.1) :: (c ++ [(20, ((l.length : Nat) : Int) + 1)]), .wait (h8 (by omega)) g1 hc, ?_, by simp <;> omega⟩
    simpa [List.append_assoc] using h4
  refine Runs.ite (fun hk => ?_) fun k9 => ?_
  · simp only [beq_iff_eq] at hk
    refine Runs.bind (next_runs hy hs (by omega)) fun z1 h1 => ?_
    obtain ⟨g1, h1⟩ := h1
    refine Runs.bind (put_runs h1 27 z1.1 (by omega)) fun z2 h2 => ?_
    obtain ⟨r2, h2⟩ := h2
    exact Runs.some ⟨_, .abort (h8 (by omega)) g1, h2, by simp <;> omega⟩
  simp only [beq_iff_eq] at k0 k1 k2 k3 k4 k5 k6 k7 k8 k9
  have he0 := he (by omega)
  have hf := h8 (by omega)
  refine Runs.bind (cond_runs hy hs (by omega)) fun z1 h1 => ?_
  obtain ⟨c, hc, h1⟩ := h1
  have cl := hc.len
  refine Runs.bind (put_runs h1 15 0 (by simp <;> omega)) fun z2 h2 => ?_
  obtain ⟨r2, h2⟩ := h2
  refine Runs.bind (hB he0 _ _ h2 (by simp <;> omega)) fun z3 h3 => ?_
  obtain ⟨b, hb, h3, hlen⟩ := h3
  have hl1 : (l ++ c).length < 206 := by simp <;> omega
  have hb' : Seg tl (l.length + c.length + 1) b := by simpa [Nat.add_assoc] using hb
  refine Runs.ite (fun hk => ?_) fun hk => ?_
  · refine Runs.bind (put_runs h3 14 0 (by simp only [List.length_append, List.length_cons, List.length_nil] at hlen ⊢ <;> omega)) fun z4 h4 => ?_
    obtain ⟨r4, h4⟩ := h4
    have hn4 := h4.n
    refine Runs.if_pos ⟨by omega, by rw [r2, hn4]; simp <;> omega⟩ (Runs.if_pos ⟨by rw [r2, hn4]; simp <;> omega, rfl⟩ ?_)
    have h5 := patch h4 (a := z2.1) (v := ((z4.2.2.2.2.2.1 : Nat) : Int)) (i := (l ++ c).length) (by simp <;> omega) r2
    have e5 : (((l ++ c ++ [(15, 0)] ++ b) ++ [(14, 0)] : Is)) = (l ++ c) ++ (15, 0) :: (b ++ [(14, 0)]) := by simp [List.append_assoc]
    rw [hn4] at h5
    rw [e5] at h5 hn4
    rw [set_mid] at h5
    have g5 : (((l ++ c) ++ ((15 : Int), (0 : Int)) :: (b ++ [(14, 0)]) : Is).getD (l ++ c).length (0, 0)).1 = 15 := by simp [List.getD_eq_getElem?_getD, List.getElem?_append]
    rw [g5] at h5
    refine Runs.bind (hB he0 _ _ (by rw [hn4]; exact h5) (by simp only [List.length_append, List.length_cons, List.length_nil] at hlen ⊢ <;> omega)) fun z6 h6 => ?_
    obtain ⟨d, hd, h6, hlen6⟩ := h6
    have hn6 := h6.n
    have r4' : z4.1 = (((l ++ c) ++ (15, ((((l ++ c) ++ (15, 0) :: (b ++ [(14, 0)]) : Is)).length : Int)) :: b : Is).length : Int) := by rw [r4]; simp [Nat.add_assoc] <;> omega
    refine Runs.if_pos ⟨by omega, by rw [r4, hn6]; simp <;> omega⟩ (Runs.if_pos ⟨by rw [r4, hn6]; simp <;> omega, rfl⟩ ?_)
    have h7 := patch h6 (a := z4.1) (v := ((z6.2.2.2.2.1 : Nat) : Int)) (i := ((l ++ c) ++ (15, ((((l ++ c) ++ (15, 0) :: (b ++ [(14, 0)]) : Is)).length : Int)) :: b : Is).length) (by simp <;> omega) r4'
    have e7 : (((l ++ c) ++ (15, ((((l ++ c) ++ (15, 0) :: (b ++ [(14, 0)]) : Is)).length : Int)) :: (b ++ [(14, 0)])) ++ d : Is) = ((l ++ c) ++ (15, ((((l ++ c) ++ (15, 0) :: (b ++ [(14, 0)]) : Is)).length : Int)) :: b) ++ (14, 0) :: d := by simp [List.append_assoc]
    rw [hn6] at h7
    rw [e7] at h7 hn6
    rw [set_mid] at h7
    have g7 : ((((l ++ c) ++ (15, ((((l ++ c) ++ (15, 0) :: (b ++ [(14, 0)]) : Is)).length : Int)) :: b) ++ ((14 : Int), (0 : Int)) :: d : Is).getD ((l ++ c) ++ (15, ((((l ++ c) ++ (15, 0) :: (b ++ [(14, 0)]) : Is)).length : Int)) :: b : Is).length (0, 0)).1 = 14 := by
      rw [List.getD_eq_getElem?_getD, List.getElem?_append_right (Nat.le_refl _), Nat.sub_self]; rfl
    rw [g7] at h7
    have hd' : Seg tl (l.length + c.length + 1 + b.length + 1) d := by
      have e : ((l ++ c) ++ (15, ((((l ++ c) ++ (15, 0) :: (b ++ [(14, 0)]) : Is)).length : Int)) :: (b ++ [(14, 0)]) : Is).length = l.length + c.length + 1 + b.length + 1 := by simp <;> omega
      rw [← e]; exact hd
    refine Runs.some ⟨_, .ite2 hf hc hb' hd', ?_, by simp only [List.length_append, List.length_cons, List.length_nil] at hlen hlen6 ⊢ <;> omega⟩
    rw [hn6]
    have ea : (((l ++ c) ++ (15, 0) :: (b ++ [(14, 0)]) : Is).length : Int) = ((l.length + c.length + 1 + b.length + 1 : Nat) : Int) := by simp <;> omega
    have eb : ((((l ++ c) ++ (15, ((((l ++ c) ++ (15, 0) :: (b ++ [(14, 0)]) : Is)).length : Int)) :: b) ++ (14, 0) :: d : Is).length : Int) = ((l.length + c.length + 1 + b.length + 1 + d.length : Nat) : Int) := by simp <;> omega
    rw [eb] at h7 ⊢
    rw [ea] at h7 ⊢
    simpa [List.append_assoc] using h7
  · have hn3 := h3.n
    refine Runs.if_pos ⟨by omega, by rw [r2, hn3]; simp <;> omega⟩ (Runs.if_pos ⟨by rw [r2, hn3]; simp <;> omega, rfl⟩ ?_)
    have h5 := patch h3 (a := z2.1) (v := ((z3.2.2.2.2.1 : Nat) : Int)) (i := (l ++ c).length) (by simp <;> omega) r2
    have e5 : ((l ++ c ++ [(15, 0)] ++ b : Is)) = (l ++ c) ++ (15, 0) :: b := by simp [List.append_assoc]
    rw [hn3] at h5
    rw [e5] at h5 hn3
    rw [set_mid] at h5
    have g5 : (((l ++ c) ++ ((15 : Int), (0 : Int)) :: b : Is).getD (l ++ c).length (0, 0)).1 = 15 := by simp [List.getD_eq_getElem?_getD, List.getElem?_append]
    rw [g5] at h5
    refine Runs.some ⟨_, .ite1 hf hc hb', ?_, by simp only [List.length_append, List.length_cons, List.length_nil] at hlen ⊢ <;> omega⟩
    rw [hn3]
    have ea : (((l ++ c) ++ (15, 0) :: b : Is).length : Int) = ((l.length + c.length + 1 + b.length : Nat) : Int) := by simp <;> omega
    rw [ea] at h5 ⊢
    simpa [List.append_assoc] using h5
theorem chZ_runs (hy : ∀ j, j < m → inR (y j)) {e : Nat} (he2 : e ≤ 2) (hB : 0 < e → Blk m y tl q e) (a : Int) {u : Int} (hu : 0 ≤ u ∧ u < 12) (h8 : 8 ≤ u → tl = false) (he : u = 7 ∨ 10 ≤ u → 0 < e) : Runs (chZ q e (m, y, a, tl) u) (SP m y tl e ([] : Is)) := by
  unfold chZ
  have hl : ([] : Is).length < 200 := by decide
  refine Runs.ite (fun hk => ?_) fun k0 => ?_
  · simp only [beq_iff_eq] at hk
    refine Runs.bind (nextZ_runs hy (by omega)) fun z1 h1 => ?_
    obtain ⟨g1, a1, e1⟩ := h1
    obtain ⟨v1, s1⟩ := z1
    simp only at e1 g1
    subst e1
    refine Runs.bind (nextZ_runs hy (by omega)) fun z2 h2 => ?_
    obtain ⟨g2, a2, e2⟩ := h2
    obtain ⟨v2, s2⟩ := z2
    simp only at e2 g2
    subst e2
    refine Runs.bind (putZ_runs 23 (w (w (v1 * 1000000) + v2)) a2) fun z3 h3 => ?_
    exact Runs.some ⟨_, .one (use_in g1 g2), h3, by simp <;> omega⟩
  refine Runs.ite (fun hk => ?_) fun k1 => ?_
  · simp only [beq_iff_eq] at hk
    refine Runs.bind (nextZ_runs hy (by omega)) fun z1 h1 => ?_
    obtain ⟨g1, a1, e1⟩ := h1
    obtain ⟨v1, s1⟩ := z1
    simp only at e1 g1
    subst e1
    refine Runs.bind (putZ_runs 24 v1 a1) fun z2 h2 => ?_
    exact Runs.some ⟨_, .one (.inr (.inl ⟨rfl, g1⟩)), h2, by simp <;> omega⟩
  refine Runs.ite (fun hk => ?_) fun k2 => ?_
  · simp only [beq_iff_eq] at hk
    refine Runs.bind (nextZ_runs hy (by omega)) fun z1 h1 => ?_
    obtain ⟨g1, a1, e1⟩ := h1
    obtain ⟨v1, s1⟩ := z1
    simp only at e1 g1
    subst e1
    refine Runs.bind (putZ_runs 25 v1 a1) fun z2 h2 => ?_
    exact Runs.some ⟨_, .one (.inr (.inr (.inl ⟨rfl, g1⟩))), h2, by simp <;> omega⟩
  refine Runs.ite (fun hk => ?_) fun k3 => ?_
  · simp only [beq_iff_eq] at hk
    refine Runs.bind (nextZ_runs hy (by omega)) fun z1 h1 => ?_
    obtain ⟨g1, a1, e1⟩ := h1
    obtain ⟨v1, s1⟩ := z1
    simp only at e1 g1
    subst e1
    refine Runs.bind (putZ_runs 18 v1 a1) fun z2 h2 => ?_
    exact Runs.some ⟨_, .one (.inr (.inr (.inr (.inl ⟨rfl, g1⟩)))), h2, by simp <;> omega⟩
  refine Runs.ite (fun hk => ?_) fun k4 => ?_
  · simp only [beq_iff_eq] at hk
    refine Runs.bind (nextZ_runs hy (by omega)) fun z1 h1 => ?_
    obtain ⟨g1, a1, e1⟩ := h1
    obtain ⟨v1, s1⟩ := z1
    simp only at e1 g1
    subst e1
    have hw : w (v1 - 360) = v1 - 360 := w_in (by unfold inR; omega)
    refine Runs.bind (putZ_runs 1 (w (v1 - 360)) a1) fun z2 h2 => ?_
    refine Runs.bind (put_runs h2 22 0 (by simp at * <;> omega)) fun z3 h3 => ?_
    obtain ⟨r3, h3⟩ := h3
    rw [hw] at h3
    exact Runs.some ⟨_, .point (a := v1 - 360) (by omega), h3, by simp <;> omega⟩
  refine Runs.ite (fun hk => ?_) fun k5 => ?_
  · simp only [beq_iff_eq] at hk
    refine Runs.bind (nextZ_runs hy (by omega)) fun z1 h1 => ?_
    obtain ⟨g1, a1, e1⟩ := h1
    obtain ⟨v1, s1⟩ := z1
    simp only at e1 g1
    subst e1
    refine Runs.bind (putZ_runs 26 v1 a1) fun z2 h2 => ?_
    exact Runs.some ⟨_, .one (.inr (.inr (.inr (.inr ⟨rfl, g1⟩)))), h2, by simp <;> omega⟩
  refine Runs.ite (fun hk => ?_) fun k6 => ?_
  · simp only [beq_iff_eq] at hk
    refine Runs.bind (condZ_runs hy a) fun z1 h1 => ?_
    obtain ⟨c, hc, h1⟩ := h1
    have cl := hc.len
    refine Runs.bind (put_runs h1 21 0 (by simp <;> omega)) fun z2 h2 => ?_
    obtain ⟨r2, h2⟩ := h2
    rw [List.append_assoc] at h2
    exact Runs.some ⟨_, .req hc, h2, by simp <;> omega⟩
  refine Runs.ite (fun hk => ?_) fun k7 => ?_
  · simp only [beq_iff_eq] at hk
    refine Runs.bind (nextZ_runs hy (by omega)) fun z1 h1 => ?_
    obtain ⟨g1, a1, e1⟩ := h1
    obtain ⟨v1, s1⟩ := z1
    simp only at e1 g1
    subst e1
    have hw : w (1 + v1) = 1 + v1 := w_in (by unfold inR; omega)
    have he0 := he (.inl hk)
    refine Runs.bind (putZ_runs 16 (w (1 + v1)) a1) fun z2 h2 => ?_
    refine Runs.bind (hB he0 _ _ h2 (by simp <;> omega)) fun z3 h3 => ?_
    obtain ⟨b, hb, h3, hlen⟩ := h3
    refine Runs.bind (put_runs h3 17 1 (by simp only [List.length_append, List.length_cons, List.length_nil] at hlen ⊢ <;> omega)) fun z4 h4 => ?_
    obtain ⟨r4, h4⟩ := h4
    refine Runs.some ⟨(16, 1 + v1) :: (b ++ [(17, ((0 : Nat) : Int) + 1)]), .loop (by omega) (by simpa using hb), ?_, by simp only [List.length_append, List.length_cons, List.length_nil] at hlen ⊢ <;> omega⟩
    rw [hw] at h4
    simpa [List.append_assoc] using h4
  refine Runs.ite (fun hk => ?_) fun k8 => ?_
  · simp only [beq_iff_eq] at hk
    refine Runs.bind (nextZ_runs hy (by omega)) fun z1 h1 => ?_
    obtain ⟨g1, a1, e1⟩ := h1
    obtain ⟨v1, s1⟩ := z1
    simp only at e1 g1
    subst e1
    refine Runs.bind (putZ_runs 19 v1 a1) fun z2 h2 => ?_
    refine Runs.bind (cond_runs hy h2 (by simp <;> omega)) fun z3 h3 => ?_
    obtain ⟨c, hc, h3⟩ := h3
    have cl := hc.len
    refine Runs.bind (put_runs h3 20 1 (by simp <;> omega)) fun z4 h4 => ?_
    obtain ⟨r4, h4⟩ := h4
    refine Runs.some ⟨(19, v1) :: (c ++ [(20, ((0 : Nat) : Int) + 1)]), .wait (h8 (by omega)) g1 hc, ?_, by simp <;> omega⟩
    simpa [List.append_assoc] using h4
  refine Runs.ite (fun hk => ?_) fun k9 => ?_
  · simp only [beq_iff_eq] at hk
    refine Runs.bind (nextZ_runs hy (by omega)) fun z1 h1 => ?_
    obtain ⟨g1, a1, e1⟩ := h1
    obtain ⟨v1, s1⟩ := z1
    simp only at e1 g1
    subst e1
    refine Runs.bind (putZ_runs 27 v1 a1) fun z2 h2 => ?_
    exact Runs.some ⟨_, .abort (h8 (by omega)) g1, h2, by simp <;> omega⟩
  simp only [beq_iff_eq] at k0 k1 k2 k3 k4 k5 k6 k7 k8 k9
  have he0 := he (by omega)
  have hf := h8 (by omega)
  refine Runs.bind (condZ_runs hy a) fun z1 h1 => ?_
  obtain ⟨c, hc, h1⟩ := h1
  have cl := hc.len
  refine Runs.bind (put_runs h1 15 0 (by simp <;> omega)) fun z2 h2 => ?_
  obtain ⟨r2, h2⟩ := h2
  refine Runs.bind (hB he0 _ _ h2 (by simp <;> omega)) fun z3 h3 => ?_
  obtain ⟨b, hb, h3, hlen⟩ := h3
  have hl1 : (([] : Is) ++ c).length < 206 := by simp <;> omega
  have hb' : Seg tl (([] : Is).length + c.length + 1) b := by simpa [Nat.add_assoc] using hb
  refine Runs.ite (fun hk => ?_) fun hk => ?_
  · refine Runs.bind (put_runs h3 14 0 (by simp only [List.length_append, List.length_cons, List.length_nil] at hlen ⊢ <;> omega)) fun z4 h4 => ?_
    obtain ⟨r4, h4⟩ := h4
    have hn4 := h4.n
    refine Runs.if_pos ⟨by omega, by rw [r2, hn4]; simp <;> omega⟩ (Runs.if_pos ⟨by rw [r2, hn4]; simp <;> omega, rfl⟩ ?_)
    have h5 := patch h4 (a := z2.1) (v := ((z4.2.2.2.2.2.1 : Nat) : Int)) (i := (([] : Is) ++ c).length) (by simp <;> omega) r2
    have e5 : (((([] : Is) ++ c ++ [(15, 0)] ++ b) ++ [(14, 0)] : Is)) = (([] : Is) ++ c) ++ (15, 0) :: (b ++ [(14, 0)]) := by simp [List.append_assoc]
    rw [hn4] at h5
    rw [e5] at h5 hn4
    rw [set_mid] at h5
    have g5 : (((([] : Is) ++ c) ++ ((15 : Int), (0 : Int)) :: (b ++ [(14, 0)]) : Is).getD (([] : Is) ++ c).length (0, 0)).1 = 15 := by simp [List.getD_eq_getElem?_getD, List.getElem?_append]
    rw [g5] at h5
    refine Runs.bind (hB he0 _ _ (by rw [hn4]; exact h5) (by simp only [List.length_append, List.length_cons, List.length_nil] at hlen ⊢ <;> omega)) fun z6 h6 => ?_
    obtain ⟨d, hd, h6, hlen6⟩ := h6
    have hn6 := h6.n
    have r4' : z4.1 = (((([] : Is) ++ c) ++ (15, ((((([] : Is) ++ c) ++ (15, 0) :: (b ++ [(14, 0)]) : Is)).length : Int)) :: b : Is).length : Int) := by rw [r4]; simp [Nat.add_assoc] <;> omega
    refine Runs.if_pos ⟨by omega, by rw [r4, hn6]; simp <;> omega⟩ (Runs.if_pos ⟨by rw [r4, hn6]; simp <;> omega, rfl⟩ ?_)
    have h7 := patch h6 (a := z4.1) (v := ((z6.2.2.2.2.1 : Nat) : Int)) (i := ((([] : Is) ++ c) ++ (15, ((((([] : Is) ++ c) ++ (15, 0) :: (b ++ [(14, 0)]) : Is)).length : Int)) :: b : Is).length) (by simp <;> omega) r4'
    have e7 : (((([] : Is) ++ c) ++ (15, ((((([] : Is) ++ c) ++ (15, 0) :: (b ++ [(14, 0)]) : Is)).length : Int)) :: (b ++ [(14, 0)])) ++ d : Is) = ((([] : Is) ++ c) ++ (15, ((((([] : Is) ++ c) ++ (15, 0) :: (b ++ [(14, 0)]) : Is)).length : Int)) :: b) ++ (14, 0) :: d := by simp [List.append_assoc]
    rw [hn6] at h7
    rw [e7] at h7 hn6
    rw [set_mid] at h7
    have g7 : ((((([] : Is) ++ c) ++ (15, ((((([] : Is) ++ c) ++ (15, 0) :: (b ++ [(14, 0)]) : Is)).length : Int)) :: b) ++ ((14 : Int), (0 : Int)) :: d : Is).getD ((([] : Is) ++ c) ++ (15, ((((([] : Is) ++ c) ++ (15, 0) :: (b ++ [(14, 0)]) : Is)).length : Int)) :: b : Is).length (0, 0)).1 = 14 := by
      rw [List.getD_eq_getElem?_getD, List.getElem?_append_right (Nat.le_refl _), Nat.sub_self]; rfl
    rw [g7] at h7
    have hd' : Seg tl (([] : Is).length + c.length + 1 + b.length + 1) d := by
      have e : ((([] : Is) ++ c) ++ (15, ((((([] : Is) ++ c) ++ (15, 0) :: (b ++ [(14, 0)]) : Is)).length : Int)) :: (b ++ [(14, 0)]) : Is).length = ([] : Is).length + c.length + 1 + b.length + 1 := by simp <;> omega
      rw [← e]; exact hd
    refine Runs.some ⟨_, .ite2 hf hc hb' hd', ?_, by simp only [List.length_append, List.length_cons, List.length_nil] at hlen hlen6 ⊢ <;> omega⟩
    rw [hn6]
    have ea : (((([] : Is) ++ c) ++ (15, 0) :: (b ++ [(14, 0)]) : Is).length : Int) = ((([] : Is).length + c.length + 1 + b.length + 1 : Nat) : Int) := by simp <;> omega
    have eb : ((((([] : Is) ++ c) ++ (15, ((((([] : Is) ++ c) ++ (15, 0) :: (b ++ [(14, 0)]) : Is)).length : Int)) :: b) ++ (14, 0) :: d : Is).length : Int) = ((([] : Is).length + c.length + 1 + b.length + 1 + d.length : Nat) : Int) := by simp <;> omega
    rw [eb] at h7 ⊢
    rw [ea] at h7 ⊢
    simpa [List.append_assoc] using h7
  · have hn3 := h3.n
    refine Runs.if_pos ⟨by omega, by rw [r2, hn3]; simp <;> omega⟩ (Runs.if_pos ⟨by rw [r2, hn3]; simp <;> omega, rfl⟩ ?_)
    have h5 := patch h3 (a := z2.1) (v := ((z3.2.2.2.2.1 : Nat) : Int)) (i := (([] : Is) ++ c).length) (by simp <;> omega) r2
    have e5 : ((([] : Is) ++ c ++ [(15, 0)] ++ b : Is)) = (([] : Is) ++ c) ++ (15, 0) :: b := by simp [List.append_assoc]
    rw [hn3] at h5
    rw [e5] at h5 hn3
    rw [set_mid] at h5
    have g5 : (((([] : Is) ++ c) ++ ((15 : Int), (0 : Int)) :: b : Is).getD (([] : Is) ++ c).length (0, 0)).1 = 15 := by simp [List.getD_eq_getElem?_getD, List.getElem?_append]
    rw [g5] at h5
    refine Runs.some ⟨_, .ite1 hf hc hb', ?_, by simp only [List.length_append, List.length_cons, List.length_nil] at hlen ⊢ <;> omega⟩
    rw [hn3]
    have ea : (((([] : Is) ++ c) ++ (15, 0) :: b : Is).length : Int) = ((([] : Is).length + c.length + 1 + b.length : Nat) : Int) := by simp <;> omega
    rw [ea] at h5 ⊢
    simpa [List.append_assoc] using h5
end
end Go.Proofs.Ythegipdgillngaa
