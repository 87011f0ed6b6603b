/- Plain facts on clocks: bounds of offsets, the errors as the reference has them. No program. -/
import Derived.Test.YtjpkcmlepjbamaaSpecF
namespace Go.Sky

theorem off_bd {x : Exch} {d t : Int} (hx : exErr x = 0) (ht : timeE d t = 0) : -3000000000000 < (offBy x d t).1 ∧ (offBy x d t).1 < 3000000000000 ∧ -3000000000000 < (offBy x d t).2 ∧ (offBy x d t).2 < 3000000000000 := by
  obtain ⟨e1, e2, e3, e4, e5⟩ := exErr_zero hx
  obtain ⟨t1, t2, t3, t4⟩ := timeE_zero ht
  unfold offBy
  dsimp only
  obtain ⟨m, hm⟩ : ∃ m, m = max3 (x.s - t) (t - x.r) := ⟨_, rfl⟩
  rw [← hm]
  have hm0 : 0 ≤ m := by rw [hm]; unfold max3; omega
  have hm1 : m ≤ 1000000000000 := by rw [hm]; unfold max3; omega
  have k1 : 0 ≤ d * m := Int.mul_nonneg t1 hm0
  have k2 : d * m ≤ 1000 * 1000000000000 := Int.mul_le_mul t2 hm1 hm0 (by omega)
  have hW0 : 0 ≤ upS (d * m) 1000 := by unfold upS; omega
  have hW1 : upS (d * m) 1000 ≤ 1000000000001 := by unfold upS; omega
  generalize upS (d * m) 1000 = W at *
  omega

theorem com_bd {K : Int} {l : List (Int × Int)} (hl : l ≠ []) (h : ∀ r ∈ l, -K < r.1 ∧ r.1 < K ∧ -K < r.2 ∧ r.2 < K) :
    -K < (comS l).1 ∧ (comS l).1 < K ∧ -K < (comS l).2 ∧ (comS l).2 < K := by
  have c1 := com_lo (K := K) hl (fun r hr => (h r hr).2.1)
  have c2 := com_hi (K := -K) hl (fun r hr => (h r hr).2.2.1)
  cases l with
  | nil => exact absurd rfl hl
  | cons r l =>
    have h0 := h r (List.mem_cons_self ..)
    have h1 := com_mono (r := r) (l := l)
    omega

theorem offs_parts {xs : List Exch} {d t : Int} (h : offsErr xs d t = 0) : (∀ x ∈ xs, exErr x = 0) ∧ timeE d t = 0 ∧ xs ≠ [] := by
  obtain ⟨h1, h2, _⟩ := offsErr_zero rfl h
  have h3 := offsErr_pos rfl h
  exact ⟨exsErr_zero h1, h2, fun e => by rw [e] at h3; simp at h3⟩

theorem offAt_bd {xs : List Exch} {d t : Int} (h : (offAtS xs d t).2 = 0) : offsErr xs d t = 0 ∧ 0 ≤ t ∧ t ≤ 1000000000000 ∧
    -3000000000000 < (offAtS xs d t).1.1 ∧ (offAtS xs d t).1.1 < 3000000000000 ∧ -3000000000000 < (offAtS xs d t).1.2 ∧ (offAtS xs d t).1.2 < 3000000000000 := by
  unfold offAtS at h ⊢
  by_cases h0 : offsErr xs d t = 0
  · rw [if_pos h0] at h ⊢
    obtain ⟨p1, p2, p3⟩ := offs_parts h0
    obtain ⟨t1, t2, t3, t4⟩ := timeE_zero p2
    have hb := com_bd (K := 3000000000000) (l := xs.map (offBy · d t)) (by simpa using p3) (fun r hr => by
      obtain ⟨x, hx, rfl⟩ := List.mem_map.1 hr
      exact off_bd (p1 x hx) p2)
    by_cases h1 : (comS (xs.map (offBy · d t))).1 ≤ (comS (xs.map (offBy · d t))).2
    · rw [if_pos h1]
      exact ⟨h0, t3, t4, hb⟩
    · rw [if_neg h1] at h; cases h
  · rw [if_neg h0] at h; exact absurd h h0
theorem true_bd {xs : List Exch} {d t : Int} (h : (offAtS xs d t).2 = 0) :
    -4000000000000 ≤ t + (offAtS xs d t).1.1 ∧ t + (offAtS xs d t).1.1 ≤ 4000000000000 ∧ -4000000000000 ≤ t + (offAtS xs d t).1.2 ∧ t + (offAtS xs d t).1.2 ≤ 4000000000000 := by
  obtain ⟨_, h1, h2, h3⟩ := offAt_bd h
  omega

theorem offsErr_of (xs : List Exch) (d t : Int) : offsErr xs d t = if offE1 xs = 0 then timeE d t else offE1 xs := firstE_two _ _
theorem offE1_of (xs : List Exch) (n : Nat) (hl : xs.length = n) : offE1 xs = if n = 0 then 10 else if 20 < n then 8 else exsErr xs := by
  unfold offE1
  rw [firstE_three, firstE_two, hl]
  by_cases h0 : n = 0
  · subst h0; rfl
  · rw [errU_zero (by decide) |>.2 (by simp; omega), if_pos rfl, if_neg h0]
    by_cases h1 : 20 < n
    · rw [if_pos h1]
      have : decide (((n : Nat) : Int) ≤ 20) = false := by simp; omega
      rw [this]; rfl
    · rw [errU_zero (by decide) |>.2 (by simp; omega), if_pos rfl, if_neg h1]

theorem foldCut_one {x0 : Int × Int} {l : List (Int × Int)} (h : l[0]? = some x0) : foldTo rCut x0 l 1 = x0 := by
  rw [foldTo_step rCut x0 l 0 x0 h, foldTo_zero]
  unfold rCut
  obtain ⟨a, b⟩ := x0
  dsimp only
  rw [show max a a = a by omega, show min b b = b by omega]
theorem comS_fold {x0 : Int × Int} {l : List (Int × Int)} (h : l[0]? = some x0) : comS l = foldTo rCut x0 l l.length := by
  rw [foldTo_all _ _ _ _ (Nat.le_refl _)]
  unfold comS
  cases l with
  | nil => simp at h
  | cons y l => simp at h; subst h; rfl

theorem clocks_cases {xs : List Exch} {d t rl rh re tl th te : Int} (hZ : offAtS xs d t = ((rl, rh), re)) (hT : trueAtS xs d t = ((tl, th), te)) :
    (offsErr xs d t ≠ 0 ∧ rl = 0 ∧ rh = 0 ∧ re = offsErr xs d t ∧ tl = 0 ∧ th = 0 ∧ te = offsErr xs d t) ∨
    (offsErr xs d t = 0 ∧ (comS (xs.map (offBy · d t))).1 ≤ (comS (xs.map (offBy · d t))).2 ∧ rl = (comS (xs.map (offBy · d t))).1 ∧ rh = (comS (xs.map (offBy · d t))).2 ∧ re = 0 ∧
      tl = t + (comS (xs.map (offBy · d t))).1 ∧ th = t + (comS (xs.map (offBy · d t))).2 ∧ te = 0 ∧
      -4000000000000 ≤ t + (comS (xs.map (offBy · d t))).1 ∧ t + (comS (xs.map (offBy · d t))).1 ≤ 4000000000000 ∧ -4000000000000 ≤ t + (comS (xs.map (offBy · d t))).2 ∧ t + (comS (xs.map (offBy · d t))).2 ≤ 4000000000000) ∨
    (offsErr xs d t = 0 ∧ ¬ (comS (xs.map (offBy · d t))).1 ≤ (comS (xs.map (offBy · d t))).2 ∧ rl = 0 ∧ rh = 0 ∧ re = 13 ∧ tl = 0 ∧ th = 0 ∧ te = 13) := by
  have hb := true_bd (xs := xs) (d := d) (t := t)
  unfold trueAtS at hT
  unfold offAtS at hZ hT hb
  by_cases h0 : offsErr xs d t = 0
  · rw [if_pos h0] at hZ hT hb
    by_cases h1 : (comS (xs.map (offBy · d t))).1 ≤ (comS (xs.map (offBy · d t))).2
    · rw [if_pos h1] at hZ hT hb
      rw [if_pos rfl] at hT
      have hb := hb rfl
      dsimp only at hT hb
      generalize comS (xs.map (offBy · d t)) = c at *
      obtain ⟨c1, c2⟩ := c
      simp only [Prod.mk.injEq] at hZ hT
      obtain ⟨⟨z1, z2⟩, z3⟩ := hZ
      obtain ⟨⟨y1, y2⟩, y3⟩ := hT
      exact .inr (.inl ⟨h0, h1, z1.symm, z2.symm, z3.symm, y1.symm, y2.symm, y3.symm, hb⟩)
    · rw [if_neg h1] at hZ hT
      rw [if_neg (by decide)] at hT
      simp only [Prod.mk.injEq] at hZ hT
      obtain ⟨⟨z1, z2⟩, z3⟩ := hZ
      obtain ⟨⟨y1, y2⟩, y3⟩ := hT
      exact .inr (.inr ⟨h0, h1, z1.symm, z2.symm, z3.symm, y1.symm, y2.symm, y3.symm⟩)
  · rw [if_neg h0] at hZ hT
    rw [if_neg h0] at hT
    simp only [Prod.mk.injEq] at hZ hT
    obtain ⟨⟨z1, z2⟩, z3⟩ := hZ
    obtain ⟨⟨y1, y2⟩, y3⟩ := hT
    exact .inl ⟨h0, z1.symm, z2.symm, z3.symm, y1.symm, y2.symm, y3.symm⟩
end Go.Sky
