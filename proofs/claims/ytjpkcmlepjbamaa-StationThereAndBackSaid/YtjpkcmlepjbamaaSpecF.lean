/- Plain law: the true offset lies in the range. No program. -/
import Derived.Test.YtjpkcmlepjbamaaSpecA
namespace Go.Sky

theorem mul_abs_le {c u A B : Int} (h1 : -A ≤ c) (h2 : c ≤ A) (h3 : -B ≤ u) (h4 : u ≤ B) : c * u ≤ A * B ∧ -(A * B) ≤ c * u := by
  have e1 := Int.mul_nonneg (show 0 ≤ A - c by omega) (show 0 ≤ B + u by omega)
  have e2 := Int.mul_nonneg (show 0 ≤ A + c by omega) (show 0 ≤ B - u by omega)
  have e3 := Int.mul_nonneg (show 0 ≤ A - c by omega) (show 0 ≤ B - u by omega)
  have e4 := Int.mul_nonneg (show 0 ≤ A + c by omega) (show 0 ≤ B + u by omega)
  simp only [Int.sub_mul, Int.mul_sub, Int.add_mul, Int.mul_add] at e1 e2 e3 e4
  omega

/-- The size of a number, qs Go's max(n, -n). -/
def sizeI (n : Int) : Int := max n (-n)
/-- The exchange that the law makes. -/
def clkEx (off ch a b h : Int) : Exch := ⟨max 0 (1000 * a - b), 1000 * a + off + ch * a, 1000 * a + h⟩

theorem clk_one {off ch a b h d t : Int} (ha : 0 ≤ a) (hb : 0 ≤ b) (hh : 0 ≤ h) (hd1 : -d ≤ ch) (hd2 : ch ≤ d) (ht : 0 ≤ t) (hs : 2 * sizeI ch * (b + h) < 1000) :
    2000 * (offBy (clkEx off ch a b h) d t).1 < 2 * (1000 * off + ch * t) + 1000 ∧ 2 * (1000 * off + ch * t) - 1000 < 2000 * (offBy (clkEx off ch a b h) d t).2 := by
  unfold offBy clkEx
  dsimp only
  obtain ⟨m, hm⟩ : ∃ m, m = max3 (max 0 (1000 * a - b) - t) (t - (1000 * a + h)) := ⟨_, rfl⟩
  rw [← hm]
  have hm0 : 0 ≤ m := by rw [hm]; unfold max3; omega
  have hu1 : 1000 * a - t ≤ b + h + m := by rw [hm]; unfold max3; omega
  have hu2 : -(b + h + m) ≤ 1000 * a - t := by rw [hm]; unfold max3; omega
  obtain ⟨A, hA⟩ : ∃ A, A = sizeI ch := ⟨_, rfl⟩
  have hA1 : -A ≤ ch := by rw [hA]; unfold sizeI; omega
  have hA2 : ch ≤ A := by rw [hA]; unfold sizeI; omega
  have hA3 : A ≤ d := by rw [hA]; unfold sizeI; omega
  rw [← hA] at hs
  have k1 := mul_abs_le hA1 hA2 hu2 hu1
  have k2 : A * m ≤ d * m := Int.mul_le_mul_of_nonneg_right hA3 hm0
  have hW : d * m ≤ 1000 * upS (d * m) 1000 := by unfold upS; omega
  have e1 : A * (b + h + m) = A * (b + h) + A * m := Int.mul_add _ _ _
  have e2 : ch * (1000 * a - t) = 1000 * (ch * a) - ch * t := by rw [Int.mul_sub, Int.mul_left_comm]
  have e3 : 2 * A * (b + h) = 2 * (A * (b + h)) := Int.mul_assoc _ _ _
  rw [e1, e2] at k1
  rw [e3] at hs
  generalize upS (d * m) 1000 = W at *
  generalize ch * a = ca at *
  generalize ch * t = ct at *
  generalize d * m = dm at *
  generalize A * m = Am at *
  generalize A * (b + h) = Ab at *
  constructor <;> omega

theorem cut_lo {K : Int} : ∀ (l : List (Int × Int)) (a : Int × Int), a.1 < K → (∀ r ∈ l, r.1 < K) → (l.foldl rCut a).1 < K := by
  intro l
  induction l with
  | nil => intro a h _; exact h
  | cons r l ih =>
    intro a h hl
    rw [List.foldl_cons]
    refine ih _ ?_ (fun q hq => hl q (List.mem_cons_of_mem _ hq))
    have := hl r (List.mem_cons_self ..)
    unfold rCut
    dsimp only
    omega
theorem cut_hi {K : Int} : ∀ (l : List (Int × Int)) (a : Int × Int), K < a.2 → (∀ r ∈ l, K < r.2) → K < (l.foldl rCut a).2 := by
  intro l
  induction l with
  | nil => intro a h _; exact h
  | cons r l ih =>
    intro a h hl
    rw [List.foldl_cons]
    refine ih _ ?_ (fun q hq => hl q (List.mem_cons_of_mem _ hq))
    have := hl r (List.mem_cons_self ..)
    unfold rCut
    dsimp only
    omega
/-- The lower end never falls, the upper end never rises. -/
theorem cut_mono : ∀ (l : List (Int × Int)) (a : Int × Int), a.1 ≤ (l.foldl rCut a).1 ∧ (l.foldl rCut a).2 ≤ a.2 := by
  intro l
  induction l with
  | nil => intro a; exact ⟨Int.le_refl _, Int.le_refl _⟩
  | cons r l ih =>
    intro a
    rw [List.foldl_cons]
    have := ih (rCut a r)
    have h1 : a.1 ≤ (rCut a r).1 := by unfold rCut; dsimp only; omega
    have h2 : (rCut a r).2 ≤ a.2 := by unfold rCut; dsimp only; omega
    omega
theorem com_lo {K : Int} {l : List (Int × Int)} (hl : l ≠ []) (h : ∀ r ∈ l, r.1 < K) : (comS l).1 < K := by
  cases l with
  | nil => exact absurd rfl hl
  | cons r l => exact cut_lo _ _ (h r (List.mem_cons_self ..)) h
theorem com_hi {K : Int} {l : List (Int × Int)} (hl : l ≠ []) (h : ∀ r ∈ l, K < r.2) : K < (comS l).2 := by
  cases l with
  | nil => exact absurd rfl hl
  | cons r l => exact cut_hi _ _ (h r (List.mem_cons_self ..)) h
theorem com_mono {r : Int × Int} {l : List (Int × Int)} : r.1 ≤ (comS (r :: l)).1 ∧ (comS (r :: l)).2 ≤ r.2 := cut_mono _ _

theorem exsErr_of {l : List Exch} (h : ∀ x ∈ l, exErr x = 0) : exsErr l = 0 := by
  induction l with
  | nil => rfl
  | cons x l ih =>
    simp only [exsErr]
    rw [if_pos (h x (List.mem_cons_self ..))]
    exact ih fun y hy => h y (List.mem_cons_of_mem _ hy)

/-- A clock's exchanges, by their index. -/
def clkAt (off ch : Int) (qs bs hs : List Int) (i : Nat) : Exch := clkEx off ch (qs.getD i 0) (bs.getD i 0) (hs.getD i 0)
def clkL (off ch : Int) (qs bs hs : List Int) (k : Nat) : List Exch := (List.range k).map (clkAt off ch qs bs hs)
theorem clkL_succ (off ch : Int) (qs bs hs : List Int) (k : Nat) : clkL off ch qs bs hs (k + 1) = clkL off ch qs bs hs k ++ [clkAt off ch qs bs hs k] := by simp [clkL, List.range_succ]
theorem clkL_len (off ch : Int) (qs bs hs : List Int) (k : Nat) : (clkL off ch qs bs hs k).length = k := by simp [clkL]
/-- Whether one of the first k exchanges took long. -/
def slowF (ch : Int) (bs hs : List Int) : Nat → Bool
  | 0 => false
  | k + 1 => slowF ch bs hs k || decide (1000 ≤ 2 * sizeI ch * (bs.getD k 0 + hs.getD k 0))
theorem slowF_false {ch : Int} {bs hs : List Int} : ∀ {n : Nat}, slowF ch bs hs n = false → ∀ i, i < n → 2 * sizeI ch * (bs.getD i 0 + hs.getD i 0) < 1000 := by
  intro n
  induction n with
  | zero => intro _ i hi; omega
  | succ n ih =>
    intro h i hi
    rw [slowF, Bool.or_eq_false_iff] at h
    rcases Nat.lt_or_ge i n with h1 | h1
    · exact ih h.1 i h1
    · obtain rfl : i = n := by omega
      have := of_decide_eq_false h.2
      omega
theorem slowF_mono {ch : Int} {bs hs : List Int} {k : Nat} (h : slowF ch bs hs k = true) : ∀ {n : Nat}, k ≤ n → slowF ch bs hs n = true := by
  intro n
  induction n with
  | zero => intro hk; obtain rfl : k = 0 := by omega
            exact h
  | succ n ih =>
    intro hk
    rcases Nat.lt_or_ge k (n + 1) with h1 | h1
    · rw [slowF, ih (by omega)]; rfl
    · obtain rfl : k = n + 1 := by omega
      exact h

/-- What the law knows of its input behind its loop. -/
def ClkIn (off ch : Int) (qs bs hs : List Int) (k : Nat) : Prop :=
  ∀ i, i < k → (0 ≤ qs.getD i 0 ∧ qs.getD i 0 ≤ 1000) ∧ (0 ≤ bs.getD i 0 ∧ bs.getD i 0 ≤ 10000) ∧ (0 ≤ hs.getD i 0 ∧ hs.getD i 0 ≤ 10000) ∧ exErr (clkAt off ch qs bs hs i) = 0

theorem off_bound {off ch a b h d t : Int} (ha : 0 ≤ a) (ha1 : a ≤ 1000) (hb : 0 ≤ b) (hb1 : b ≤ 10000) (hh : 0 ≤ h) (hh1 : h ≤ 10000) (hd0 : 0 ≤ d) (hd : d ≤ 1000) (hd1 : -d ≤ ch) (hd2 : ch ≤ d) (ht : 0 ≤ t) (ht1 : t ≤ 1000000) (ho : 0 ≤ off) (ho1 : off ≤ 1000000000) :
    -2000000000 < (offBy (clkEx off ch a b h) d t).1 ∧ (offBy (clkEx off ch a b h) d t).1 < 2000000000 ∧ -2000000000 < (offBy (clkEx off ch a b h) d t).2 ∧ (offBy (clkEx off ch a b h) d t).2 < 2000000000 := by
  unfold offBy clkEx
  dsimp only
  obtain ⟨m, hm⟩ : ∃ m, m = max3 (max 0 (1000 * a - b) - t) (t - (1000 * a + h)) := ⟨_, rfl⟩
  rw [← hm]
  have hm0 : 0 ≤ m := by rw [hm]; unfold max3; omega
  have hm1 : m ≤ 1000000 := by rw [hm]; unfold max3; omega
  have k1 : 0 ≤ d * m := Int.mul_nonneg hd0 hm0
  have k2 : d * m ≤ 1000 * 1000000 := Int.mul_le_mul hd hm1 hm0 (by omega)
  have k3 := mul_abs_le (c := ch) (u := a) (A := 1000) (B := 1000) (by omega) (by omega) (by omega) ha1
  have hW0 : 0 ≤ upS (d * m) 1000 := by unfold upS; omega
  have hW1 : upS (d * m) 1000 ≤ 1000001 := by unfold upS; omega
  generalize upS (d * m) 1000 = W at *
  generalize ch * a = ca at *
  omega

theorem clk_offs {off ch d t : Int} {qs bs hs : List Int} {n : Nat} (hin : ClkIn off ch qs bs hs n) (hn : 1 ≤ n) (hn1 : n ≤ 20) (hd0 : 0 ≤ d) (hd : d ≤ 1000) (ht : 0 ≤ t) (ht1 : t ≤ 1000000) :
    offsErr (clkL off ch qs bs hs n) d t = 0 := by
  have h1 : exsErr (clkL off ch qs bs hs n) = 0 := exsErr_of (fun x hx => by
    obtain ⟨i, hi, rfl⟩ := List.mem_map.1 hx
    exact (hin i (List.mem_range.1 hi)).2.2.2)
  have h2 : timeE d t = 0 := by
    unfold timeE
    rw [firstE_two, errU_zero (by decide) |>.2 (by simp [inR]; omega), if_pos rfl, errU_zero (by decide)]
    simp [tick, inR]; omega
  unfold offsErr offE1
  rw [firstE_two, firstE_three, firstE_two, clkL_len, h1, h2]
  rw [errU_zero (by decide) |>.2 (by simp; omega), if_pos rfl, errU_zero (by decide) |>.2 (by simp; omega)]
  rfl

theorem clk_ne {off ch d t : Int} {qs bs hs : List Int} {n : Nat} (hn : 1 ≤ n) : (clkL off ch qs bs hs n).map (offBy · d t) ≠ [] := by
  intro h
  have := congrArg List.length h
  simp [clkL_len] at this
  omega
theorem clk_mem {off ch d t : Int} {qs bs hs : List Int} {n : Nat} {r : Int × Int} (h : r ∈ (clkL off ch qs bs hs n).map (offBy · d t)) : ∃ i, i < n ∧ r = offBy (clkEx off ch (qs.getD i 0) (bs.getD i 0) (hs.getD i 0)) d t := by
  obtain ⟨x, hx, rfl⟩ := List.mem_map.1 h
  obtain ⟨i, hi, rfl⟩ := List.mem_map.1 hx
  exact ⟨i, List.mem_range.1 hi, rfl⟩

theorem clk_bound {off ch d t : Int} {qs bs hs : List Int} {n : Nat} (hin : ClkIn off ch qs bs hs n) (hn : 1 ≤ n) (hd0 : 0 ≤ d) (hd : d ≤ 1000) (hd1 : -d ≤ ch) (hd2 : ch ≤ d) (ht : 0 ≤ t) (ht1 : t ≤ 1000000) (ho : 0 ≤ off) (ho1 : off ≤ 1000000000) :
    -2000000000 < (comS ((clkL off ch qs bs hs n).map (offBy · d t))).1 ∧ (comS ((clkL off ch qs bs hs n).map (offBy · d t))).1 < 2000000000 ∧
    -2000000000 < (comS ((clkL off ch qs bs hs n).map (offBy · d t))).2 ∧ (comS ((clkL off ch qs bs hs n).map (offBy · d t))).2 < 2000000000 := by
  have hall : ∀ r ∈ (clkL off ch qs bs hs n).map (offBy · d t), -2000000000 < r.1 ∧ r.1 < 2000000000 ∧ -2000000000 < r.2 ∧ r.2 < 2000000000 := by
    intro r hr
    obtain ⟨i, hi, rfl⟩ := clk_mem hr
    obtain ⟨⟨a0, a1⟩, ⟨b0, b1⟩, ⟨h0, h1⟩, _⟩ := hin i hi
    exact off_bound a0 a1 b0 b1 h0 h1 hd0 hd hd1 hd2 ht ht1 ho ho1
  have hne := clk_ne (off := off) (ch := ch) (d := d) (t := t) (qs := qs) (bs := bs) (hs := hs) hn
  have c1 := com_lo (K := 2000000000) hne (fun r hr => (hall r hr).2.1)
  have c2 := com_hi (K := -2000000000) hne (fun r hr => (hall r hr).2.2.1)
  generalize (clkL off ch qs bs hs n).map (offBy · d t) = l at *
  cases l with
  | nil => exact absurd rfl hne
  | cons r l =>
    have h0 := hall r (List.mem_cons_self ..)
    have h1 := com_mono (r := r) (l := l)
    omega

theorem clk_law {off ch d t : Int} {qs bs hs : List Int} {n : Nat} (hin : ClkIn off ch qs bs hs n) (hn : 1 ≤ n) (hd1 : -d ≤ ch) (hd2 : ch ≤ d) (ht : 0 ≤ t) (hsl : slowF ch bs hs n = false) :
    2000 * (comS ((clkL off ch qs bs hs n).map (offBy · d t))).1 < 2 * (1000 * off + ch * t) + 1000 ∧ 2 * (1000 * off + ch * t) - 1000 < 2000 * (comS ((clkL off ch qs bs hs n).map (offBy · d t))).2 := by
  have hne := clk_ne (off := off) (ch := ch) (d := d) (t := t) (qs := qs) (bs := bs) (hs := hs) hn
  have hall : ∀ r ∈ (clkL off ch qs bs hs n).map (offBy · d t), 2000 * r.1 < 2 * (1000 * off + ch * t) + 1000 ∧ 2 * (1000 * off + ch * t) - 1000 < 2000 * r.2 := by
    intro r hr
    obtain ⟨i, hi, rfl⟩ := clk_mem hr
    obtain ⟨⟨a0, a1⟩, ⟨b0, b1⟩, ⟨h0, h1⟩, _⟩ := hin i hi
    exact clk_one a0 b0 h0 hd1 hd2 ht (slowF_false hsl i hi)
  generalize 2 * (1000 * off + ch * t) = F at *
  have c1 := com_lo (K := (F + 1000 + 1999) / 2000) hne (fun r hr => by have := (hall r hr).1; omega)
  have c2 := com_hi (K := (F - 1000) / 2000) hne (fun r hr => by have := (hall r hr).2; omega)
  omega
end Go.Sky
