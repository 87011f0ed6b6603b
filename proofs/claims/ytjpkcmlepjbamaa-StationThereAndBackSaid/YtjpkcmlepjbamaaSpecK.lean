/- Plain law: what is packed is unpacked to the same series; how long it is at most. No program. -/
import Derived.Test.YtjpkcmlepjbamaaSpecJ
import Derived.Test.YtjpkcmlepjbamaaSpecB
namespace Go.Sky
open Go.Proofs.Ytjpkcmlepjbamaa

/-- What the runs of the first k numbers are good for. -/
structure RunsOk (xs : List Int) (k : Nat) (l : List Int) (h : Nat) : Prop where
  len : l.length = 2 * h
  pos : 0 < k → 0 < h
  cnt : ∀ i, i < h → 1 ≤ cntU l i
  sum : sumU l h = k
  exp : expU l h = xs.take k
  last : 0 < k → xs[k - 1]? = some (valU l (h - 1))

theorem sumU_congr {l m : List Int} : ∀ {h : Nat}, (∀ i, i < h → cntU l i = cntU m i) → sumU l h = sumU m h
  | 0, _ => rfl
  | h + 1, hh => by simp only [sumU]; rw [sumU_congr (fun i hi => hh i (by omega)), hh h (by omega)]
theorem expU_congr {l m : List Int} : ∀ {h : Nat}, (∀ i, i < h → cntU l i = cntU m i ∧ valU l i = valU m i) → expU l h = expU m h
  | 0, _ => rfl
  | h + 1, hh => by simp only [expU]; rw [expU_congr (fun i hi => hh i (by omega)), (hh h (by omega)).1, (hh h (by omega)).2]

theorem bump_val {l : List Int} {h i : Nat} (hl : l.length = 2 * h) (hi : i < h) : valU (bump l) i = valU l i := by
  unfold valU bump
  rw [List.getD_eq_getElem?_getD, List.getElem?_set_ne (by omega), ← List.getD_eq_getElem?_getD]
theorem bump_cnt_lo {l : List Int} {h i : Nat} (hl : l.length = 2 * h) (hi : i + 1 < h) : cntU (bump l) i = cntU l i := by
  unfold cntU bump
  rw [List.getD_eq_getElem?_getD, List.getElem?_set_ne (by omega), ← List.getD_eq_getElem?_getD]
theorem bump_cnt_hi {l : List Int} {h : Nat} (hl : l.length = 2 * (h + 1)) : cntU (bump l) h = cntU l h + 1 := by
  unfold cntU bump
  rw [List.getD_eq_getElem?_getD, show 2 * h + 1 = l.length - 1 by omega, List.getElem?_set_self (by omega)]
  rfl
theorem app_val_lo {l r : List Int} {h i : Nat} (hl : l.length = 2 * h) (hi : i < h) : valU (l ++ r) i = valU l i := by
  unfold valU
  rw [List.getD_eq_getElem?_getD, List.getD_eq_getElem?_getD, List.getElem?_append_left (by omega)]
theorem app_cnt_lo {l r : List Int} {h i : Nat} (hl : l.length = 2 * h) (hi : i < h) : cntU (l ++ r) i = cntU l i := by
  unfold cntU
  rw [List.getD_eq_getElem?_getD, List.getD_eq_getElem?_getD, List.getElem?_append_left (by omega)]
theorem app_val_hi {l : List Int} {h : Nat} {x c : Int} (hl : l.length = 2 * h) : valU (l ++ [x, c]) h = x := by
  unfold valU
  rw [List.getD_eq_getElem?_getD, List.getElem?_append_right (by omega), hl, Nat.sub_self]
  rfl
theorem app_cnt_hi {l : List Int} {h : Nat} {x c : Int} (hl : l.length = 2 * h) : cntU (l ++ [x, c]) h = c := by
  unfold cntU
  rw [List.getD_eq_getElem?_getD, List.getElem?_append_right (by omega), hl, show 2 * h + 1 - 2 * h = 1 by omega]
  rfl
theorem rep_snoc (c x : Int) (h : 0 ≤ c) : List.replicate (c + 1).toNat x = List.replicate c.toNat x ++ [x] := by
  rw [show (c + 1).toNat = c.toNat + 1 by omega, List.replicate_succ']

theorem runs_ok (xs : List Int) : ∀ k, k ≤ xs.length → ∃ h, RunsOk xs k (runsTo xs k) h
  | 0, _ => ⟨0, by simp [runsTo], by omega, by omega, rfl, by simp [expU], by omega⟩
  | k + 1, hk => by
    obtain ⟨h, R⟩ := runs_ok xs k (by omega)
    have hx : xs[k]? = some (xs.getD k 0) := by rw [List.getD_eq_getElem?_getD, List.getElem?_eq_getElem (by omega)]; rfl
    by_cases hs : 0 < k ∧ xs[k - 1]? = xs[k]?
    · have e : runsTo xs (k + 1) = bump (runsTo xs k) := by simp only [runsTo]; rw [if_pos hs]
      rw [e]
      obtain ⟨j, rfl⟩ : ∃ j, h = j + 1 := ⟨h - 1, by have := R.pos hs.1; omega⟩
      have hl := R.len
      have hc := R.cnt j (by omega)
      have hv : valU (runsTo xs k) j = xs.getD k 0 := by
        have h1 := R.last hs.1
        rw [hs.2, hx] at h1
        simpa using h1.symm
      refine ⟨j + 1, ⟨by rw [bump_len]; exact hl, by omega, fun i hi => ?_, ?_, ?_, fun _ => ?_⟩⟩
      · by_cases hij : i + 1 < j + 1
        · rw [bump_cnt_lo hl hij]; exact R.cnt i hi
        · obtain rfl : i = j := by omega
          rw [bump_cnt_hi hl]; omega
      · have h1 := R.sum
        simp only [sumU] at h1 ⊢
        rw [bump_cnt_hi hl, sumU_congr (fun i hi => bump_cnt_lo hl (by omega))]
        omega
      · have h1 := R.exp
        simp only [expU] at h1 ⊢
        rw [bump_cnt_hi hl, bump_val hl (by omega), expU_congr (fun i hi => ⟨bump_cnt_lo hl (by omega), bump_val hl (by omega)⟩), rep_snoc _ _ (by omega), ← List.append_assoc, h1, hv,
          List.take_succ_eq_append_getElem (by omega)]
        congr 2
        rw [List.getD_eq_getElem?_getD, List.getElem?_eq_getElem (by omega)]
        rfl
      · rw [show k + 1 - 1 = k by omega, show j + 1 - 1 = j by omega, bump_val hl (by omega), hv, hx]
    · have e : runsTo xs (k + 1) = runsTo xs k ++ [xs.getD k 0, 1] := by simp only [runsTo]; rw [if_neg hs]
      rw [e]
      have hl := R.len
      refine ⟨h + 1, ⟨by simp; omega, by omega, fun i hi => ?_, ?_, ?_, fun _ => ?_⟩⟩
      · by_cases hij : i < h
        · rw [app_cnt_lo hl hij]; exact R.cnt i hij
        · obtain rfl : i = h := by omega
          rw [app_cnt_hi hl]; omega
      · have h1 := R.sum
        simp only [sumU]
        rw [app_cnt_hi hl, sumU_congr (fun i hi => app_cnt_lo hl hi)]
        omega
      · have h1 := R.exp
        simp only [expU]
        rw [app_cnt_hi hl, app_val_hi hl, expU_congr (fun i hi => ⟨app_cnt_lo hl hi, app_val_lo hl hi⟩), h1, List.take_succ_eq_append_getElem (by omega)]
        congr 1
        rw [List.getD_eq_getElem?_getD, List.getElem?_eq_getElem (by omega)]
        rfl
      · rw [show k + 1 - 1 = k by omega, show h + 1 - 1 = h by omega, app_val_hi hl, hx]

theorem sumU_ge {l : List Int} : ∀ {h : Nat}, (∀ i, i < h → 1 ≤ cntU l i) → (h : Int) ≤ sumU l h ∧ ∀ i, i < h → cntU l i ≤ sumU l h
  | 0, _ => ⟨by simp [sumU], fun i hi => absurd hi (by omega)⟩
  | h + 1, hh => by
    obtain ⟨h1, h2⟩ := sumU_ge (l := l) (h := h) (fun i hi => hh i (by omega))
    have h3 := hh h (by omega)
    simp only [sumU]
    refine ⟨by omega, fun i hi => ?_⟩
    by_cases hij : i < h
    · have := h2 i hij; omega
    · obtain rfl : i = h := by omega
      omega

/-- The runs of a series are unpacked to it. -/
theorem runs_back (xs : List Int) (hx : xs.length ≤ 200) : (runsS xs).length % 2 = 0 ∧ cntsOk (runsS xs) ((runsS xs).length / 2) = true ∧ sumU (runsS xs) ((runsS xs).length / 2) = xs.length ∧ expU (runsS xs) ((runsS xs).length / 2) = xs := by
  obtain ⟨h, R⟩ := runs_ok xs xs.length (Nat.le_refl _)
  have hl : (runsS xs).length = 2 * h := R.len
  rw [show (runsS xs).length / 2 = h by omega]
  refine ⟨by omega, ?_, R.sum, by rw [show expU (runsS xs) h = _ from R.exp, List.take_length]⟩
  unfold cntsOk
  rw [List.all_eq_true]
  intro i hi
  have hi := List.mem_range.1 hi
  have h1 := R.cnt i hi
  have h2 := (sumU_ge R.cnt).2 i hi
  rw [R.sum] at h2
  unfold inR
  exact decide_eq_true ⟨h1, by show cntU (runsTo xs xs.length) i ≤ 200; omega⟩

theorem runU_plain {way : Int} (hw : way ≠ 1) : ∀ (l out : List Int) (last : Int), (∀ x ∈ l, -1000000000 ≤ x ∧ x ≤ 1000000000) → ∃ z, l.foldl (stepU way) (some (out, last)) = some (out ++ l, z)
  | [], out, last, _ => ⟨last, by simp⟩
  | x :: l, out, last, h => by
    have hx := h x (by simp)
    rw [List.foldl_cons]
    have e : stepU way (some (out, last)) x = some (out ++ [x], x) := by
      simp only [stepU, if_neg hw]
      rw [if_pos ⟨fun h0 => absurd h0 hw, by unfold inR; exact decide_eq_true hx⟩]
    rw [e]
    obtain ⟨z, hz⟩ := runU_plain hw l (out ++ [x]) x (fun y hy => h y (by simp [hy]))
    exact ⟨z, by rw [hz]; simp⟩

/-- The differences summed up. -/
theorem runU_diff (xs : List Int) (hb : ∀ x ∈ xs, -1000000000 ≤ x ∧ x ≤ 1000000000) : ∀ k, k ≤ xs.length → runU 1 ((diffS xs).take k) = some (xs.take k, if k = 0 then 0 else xs.getD (k - 1) 0)
  | 0, _ => by simp [runU]
  | k + 1, hk => by
    have hd : (diffS xs).take (k + 1) = (diffS xs).take k ++ [if 0 < k then xs.getD k 0 - xs.getD (k - 1) 0 else xs.getD k 0] := by
      have hlen : k < (diffS xs).length := by rw [diffS_len]; omega
      rw [List.take_succ_eq_append_getElem hlen]
      congr 2
      have := diffFrom_at xs 0 k (by omega)
      rw [show diffFrom xs 0 = diffS xs from rfl, List.getElem?_eq_getElem hlen] at this
      exact Option.some.inj this
    have hxb : ∀ j, -1000000000 ≤ xs.getD j 0 ∧ xs.getD j 0 ≤ 1000000000 := fun j => by
      rw [List.getD_eq_getElem?_getD]
      cases h : xs[j]? with
      | none => simp
      | some x => exact hb x (List.mem_of_getElem? h)
    have ht : xs.take (k + 1) = xs.take k ++ [xs.getD k 0] := by
      rw [List.take_succ_eq_append_getElem (by omega)]
      congr 2
      rw [List.getD_eq_getElem?_getD, List.getElem?_eq_getElem (by omega)]
      rfl
    rw [hd, runU_app, runU_diff xs hb k (by omega), ht]
    have h0 := hxb k
    have h1 := hxb (k - 1)
    rw [if_neg (show ¬ k + 1 = 0 by omega), show k + 1 - 1 = k by omega]
    simp only [List.foldl_cons, List.foldl_nil, stepU, if_true]
    have key : (if 0 < k then xs.getD k 0 - xs.getD (k - 1) 0 else xs.getD k 0) + (if k = 0 then 0 else xs.getD (k - 1) 0) = xs.getD k 0 := by
      by_cases hk0 : k = 0
      · subst hk0; simp
      · rw [if_pos (by omega), if_neg hk0]; omega
    have hin : inR (if 0 < k then xs.getD k 0 - xs.getD (k - 1) 0 else xs.getD k 0) (-2000000000) 2000000000 = true := by
      unfold inR
      refine decide_eq_true ?_
      split <;> omega
    rw [key, if_pos ⟨fun _ => hin, by unfold inR; exact decide_eq_true h0⟩]

/-! ### What is packed is unpacked -/
theorem pack_le (xs : List Int) : (packNums xs).length ≤ xs.length ∧ (packNums xs).length ≤ (runsS xs).length ∧ (packNums xs).length ≤ (runsS (diffS xs)).length := by
  unfold packNums
  dsimp only
  split <;> split <;> omega

theorem unp_of {way : Int} {ns out : List Int} {z : Int} (hw : way = 1 ∨ way = 2) (hl : ns.length ≤ 400) (he : ns.length % 2 = 0) (hc : cntsOk ns (ns.length / 2) = true) (hs : sumU ns (ns.length / 2) ≤ 200) (hr : runU way (expU ns (ns.length / 2)) = some (out, z)) : unpS way ns = (out, 0) := by
  have hE : unpE way ns = 0 := by
    unfold unpE
    have h1 : inR way 0 2 = true := by unfold inR; exact decide_eq_true (by omega)
    have h2 : decide ((ns.length : Int) ≤ 400) = true := decide_eq_true (by omega)
    have h3 : (decide (way = 0) || decide (ns.length % 2 = 0)) = true := by simp [he]
    rw [h1, h2, h3]
    rfl
  have h0 : ¬ way = 0 := by omega
  unfold unpS
  rw [if_neg (by rw [hE]; decide), if_neg h0, if_neg (by rw [hc]; decide), if_neg (by omega), hr]

theorem pack_cases (xs : List Int) : (packWay xs = 0 ∧ packNums xs = xs) ∨ (packWay xs = 1 ∧ packNums xs = runsS (diffS xs)) ∨ (packWay xs = 2 ∧ packNums xs = runsS xs) := by
  unfold packWay packNums
  dsimp only
  by_cases h1 : (runsS (diffS xs)).length < xs.length
  · rw [if_pos h1, if_pos h1]
    by_cases h2 : (runsS xs).length < (runsS (diffS xs)).length
    · rw [if_pos h2, if_pos h2]; exact .inr (.inr ⟨rfl, rfl⟩)
    · rw [if_neg h2, if_neg h2]; exact .inr (.inl ⟨rfl, rfl⟩)
  · rw [if_neg h1, if_neg h1]
    by_cases h2 : (runsS xs).length < xs.length
    · rw [if_pos h2, if_pos h2]; exact .inr (.inr ⟨rfl, rfl⟩)
    · rw [if_neg h2, if_neg h2]; exact .inl ⟨rfl, rfl⟩

/-- THERE AND BACK. -/
theorem there_back (xs : List Int) (hs : serE xs = 0) (hlen : xs.length ≤ 200) (hb : ∀ x ∈ xs, -1000000000 ≤ x ∧ x ≤ 1000000000) : unpS (packWay xs) (packNums xs) = (xs, 0) := by
  have hle := pack_le xs
  rcases pack_cases xs with ⟨h1, h2⟩ | ⟨h1, h2⟩ | ⟨h1, h2⟩
  · rw [h1, h2]
    have hE : unpE 0 xs = 0 := by
      unfold unpE
      rw [show decide ((xs.length : Int) ≤ 400) = true from decide_eq_true (by omega)]
      rfl
    unfold unpS
    rw [if_neg (by rw [hE]; decide), if_pos rfl, if_neg (by rw [hs]; decide)]
  · rw [h1]
    rw [h2] at hle ⊢
    have hd : (diffS xs).length ≤ 200 := by rw [diffS_len]; exact hlen
    obtain ⟨b1, b2, b3, b4⟩ := runs_back (diffS xs) hd
    refine unp_of (z := if xs.length = 0 then 0 else xs.getD (xs.length - 1) 0) (.inl rfl) (by omega) b1 b2 (by rw [b3]; omega) ?_
    rw [b4]
    have := runU_diff xs hb xs.length (Nat.le_refl _)
    rw [List.take_length, List.take_of_length_le (by rw [diffS_len]; omega)] at this
    exact this
  · rw [h1]
    rw [h2] at hle ⊢
    obtain ⟨b1, b2, b3, b4⟩ := runs_back xs hlen
    obtain ⟨z, hz⟩ := runU_plain (way := 2) (by decide) xs [] 0 hb
    refine unp_of (z := z) (.inr rfl) (by omega) b1 b2 (by rw [b3]; omega) ?_
    rw [b4]
    unfold runU
    rw [hz]
    rfl

/-! ### Series that are constant, or grow evenly -/
theorem runsTo_same {xs : List Int} {c : Int} : ∀ {k : Nat}, k ≤ xs.length → (∀ i, i < k → xs[i]? = some c) → (runsTo xs k).length = if k = 0 then 0 else 2
  | 0, _, _ => by simp [runsTo]
  | k + 1, hk, h => by
    have ih := runsTo_same (xs := xs) (c := c) (k := k) (by omega) (fun i hi => h i (by omega))
    rw [if_neg (by omega)]
    by_cases h0 : k = 0
    · subst h0
      simp [runsTo]
    · rw [if_neg h0] at ih
      simp only [runsTo]
      rw [if_pos ⟨by omega, by rw [h (k - 1) (by omega), h k (by omega)]⟩, bump_len, ih]
theorem runsTo_tail {xs : List Int} {c : Int} : ∀ {k : Nat}, k ≤ xs.length → (∀ i, 1 ≤ i → i < k → xs[i]? = some c) → (runsTo xs k).length ≤ 2 * min k 2 
  | 0, _, _ => by simp [runsTo]
  | 1, _, _ => by simp [runsTo]
  | 2, _, _ => by have := runsTo_len xs 2; omega
  | k + 3, hk, h => by
    have ih := runsTo_tail (xs := xs) (c := c) (k := k + 2) (by omega) (fun i h1 hi => h i h1 (by omega))
    rw [show runsTo xs (k + 3) = bump (runsTo xs (k + 2)) by
      rw [show k + 3 = (k + 2) + 1 from rfl]
      simp only [runsTo]
      rw [if_pos ⟨by omega, by rw [h (k + 2 - 1) (by omega) (by omega), h (k + 2) (by omega) (by omega)]⟩], bump_len]
    omega
def evenS (first step : Int) (n : Nat) : List Int := (List.range n).map fun (i : Nat) => first + (i : Int) * step
theorem evenS_len (first step : Int) (n : Nat) : (evenS first step n).length = n := by simp [evenS]
theorem evenS_at (first step : Int) (n i : Nat) (hi : i < n) : (evenS first step n)[i]? = some (first + (i : Int) * step) := by
  unfold evenS
  rw [List.getElem?_map, List.getElem?_range hi]
  rfl
theorem evenS_succ (first step : Int) (n : Nat) : evenS first step (n + 1) = evenS first step n ++ [first + (n : Int) * step] := by
  unfold evenS
  rw [List.range_succ, List.map_append]
  rfl
theorem even_four (first step : Int) (n : Nat) : (packNums (evenS first step n)).length ≤ 4 := by
  refine Nat.le_trans (pack_le _).2.2 ?_
  have : (runsTo (diffS (evenS first step n)) (diffS (evenS first step n)).length).length ≤ 2 * min (diffS (evenS first step n)).length 2 := by
    refine runsTo_tail (c := step) (Nat.le_refl _) (fun i h1 hi => ?_)
    rw [diffS_len, evenS_len] at hi
    have h2 := diffFrom_at (evenS first step n) 0 i (by rw [evenS_len]; exact hi)
    rw [show diffS (evenS first step n) = diffFrom (evenS first step n) 0 from rfl, h2, if_pos (by omega), List.getD_eq_getElem?_getD, List.getD_eq_getElem?_getD, evenS_at _ _ _ _ hi, evenS_at _ _ _ _ (show i - 1 < n by omega)]
    simp only [Option.getD_some]
    congr 1
    obtain ⟨j, rfl⟩ : ∃ j, i = j + 1 := ⟨i - 1, by omega⟩
    rw [show j + 1 - 1 = j by omega, show ((j + 1 : Nat) : Int) = (j : Int) + 1 by omega, Int.add_mul]
    omega
  show (runsTo _ _).length ≤ 4
  omega
theorem even_two (first : Int) (n : Nat) : (packNums (evenS first 0 n)).length ≤ 2 := by
  refine Nat.le_trans (pack_le _).2.1 ?_
  have := runsTo_same (xs := evenS first 0 n) (c := first) (Nat.le_refl _) (fun i hi => by
    rw [evenS_len] at hi
    rw [evenS_at _ _ _ _ hi]
    simp)
  show (runsTo _ _).length ≤ 2
  rw [this]
  split <;> omega
theorem even_bd {first step : Int} {n : Nat} (h1 : -1000000 ≤ first ∧ first ≤ 1000000) (h2 : -1000000 ≤ step ∧ step ≤ 1000000) (hn : n ≤ 200) : ∀ i : Nat, i < n → -1000000000 ≤ first + (i : Int) * step ∧ first + (i : Int) * step ≤ 1000000000 := by
  intro i hi
  have h3 : (i : Int) * step ≤ (i : Int) * 1000000 := Int.mul_le_mul_of_nonneg_left h2.2 (by omega)
  have h4 : (i : Int) * (-1000000) ≤ (i : Int) * step := Int.mul_le_mul_of_nonneg_left h2.1 (by omega)
  constructor <;> omega
theorem serE_of {xs : List Int} (h1 : xs.length ≤ 200) (h2 : ∀ x ∈ xs, -1000000000 ≤ x ∧ x ≤ 1000000000) : serE xs = 0 := by
  unfold serE
  have ha : xs.any strange = false := by
    rw [List.any_eq_false]
    intro x hx
    have := h2 x hx
    simp [strange, inR, this]
  rw [ha, show decide (((xs.length : Nat) : Int) ≤ 200) = true from decide_eq_true (by omega)]
  rfl
theorem even_ok {first step : Int} {n : Nat} (h1 : -1000000 ≤ first ∧ first ≤ 1000000) (h2 : -1000000 ≤ step ∧ step ≤ 1000000) (hn : n ≤ 200) : ∀ x ∈ evenS first step n, -1000000000 ≤ x ∧ x ≤ 1000000000 := by
  intro x hx
  unfold evenS at hx
  obtain ⟨i, hi, rfl⟩ := List.mem_map.1 hx
  exact even_bd h1 h2 hn i (List.mem_range.1 hi)

/-- The walk of the reference: a series that is added up in its place. -/
theorem runU_len {way : Int} : ∀ {l : List Int} {out : List Int} {z : Int}, runU way l = some (out, z) → out.length = l.length := by
  intro l
  rw [← List.reverse_reverse l]
  generalize l.reverse = r
  induction r with
  | nil => intro out z h; simp [runU] at h; simp [← h.1]
  | cons v r ih =>
    intro out z h
    rw [List.reverse_cons, runU_app] at h
    cases hq : runU way r.reverse with
    | none => rw [hq] at h; simp [stepU] at h
    | some p =>
      obtain ⟨o, y⟩ := p
      rw [hq] at h
      rw [List.foldl_cons, List.foldl_nil] at h
      have hi := ih hq
      unfold stepU at h
      dsimp only at h
      generalize (if way = 1 then v + y else v) = u at h
      split at h
      · injection h with h
        injection h with h1 h2
        rw [← h1]
        simp [hi]
      · exact absurd h (by simp)
theorem runU_snoc (way : Int) (l : List Int) (v : Int) : runU way (l ++ [v]) = stepU way (runU way l) v := by rw [runU_app]; rfl
end Go.Sky
