/- Plain functions: the first pair of ranges apart from each other, as the reference has it; three facts on it. No program. -/
import Derived.Test.YtjpkcmlepjbamaaSpecH
namespace Go.Sky

def pairS (l : List (Int × Int)) : (Int × Int) × Bool :=
  match (pairsL l.length).find? (clashAt l) with
  | some p => (((p.1 : Int), (p.2 : Int)), true)
  | none => ((0, 0), false)

theorem clashR_of {a b : Int × Int} (ha : a.1 ≤ a.2) (hb : b.1 ≤ b.2) : clashR a b = (decide (a.2 < b.1) || decide (b.2 < a.1)) := by
  have h : comS [a, b] = (max (max a.1 a.1) b.1, min (min a.2 a.2) b.2) := rfl
  unfold clashR
  rw [h, Bool.eq_iff_iff]
  simp only [Bool.not_eq_true', decide_eq_false_iff_not, Bool.or_eq_true, decide_eq_true_eq]
  omega

theorem off_le {x : Exch} {d t : Int} (hx : exErr x = 0) (ht : timeE d t = 0) : (offBy x d t).1 ≤ (offBy x d t).2 := by
  obtain ⟨e1, e2, e3, e4, e5⟩ := exErr_zero hx
  obtain ⟨t1, t2, t3, t4⟩ := timeE_zero ht
  unfold offBy
  dsimp only
  have hm0 : 0 ≤ max3 (x.s - t) (t - x.r) := by unfold max3; omega
  have k1 : 0 ≤ d * max3 (x.s - t) (t - x.r) := Int.mul_nonneg t1 hm0
  have hW0 : 0 ≤ upS (d * max3 (x.s - t) (t - x.r)) 1000 := by unfold upS; omega
  omega

theorem contra_pair (xs : List Exch) (d t : Int) (h : offsErr xs d t = 0) : contraS xs d t = if (pairS (xs.map (offBy · d t))).2 then ((pairS (xs.map (offBy · d t))).1, 0) else ((0, 0), 12) := by
  unfold contraS pairS
  rw [if_pos h, List.length_map]
  cases (pairsL xs.length).find? (clashAt (xs.map (offBy · d t))) <;> rfl

theorem pair_miss {l : List (Int × Int)} (h : ∀ p ∈ pairsL l.length, clashAt l p = false) : pairS l = ((0, 0), false) := by
  unfold pairS; rw [find_miss h]
theorem pair_hit {l : List (Int × Int)} {i j : Nat} (hij : i < j) (hj : j < l.length) (h : ∀ p ∈ upToP l.length i j, clashAt l p = false) (hc : clashAt l (i, j) = true) : pairS l = (((i : Int), (j : Int)), true) := by
  unfold pairS
  rw [find_hit (q := upToP l.length i j) (x := (i, j)) (by rw [← upToP_step _ hij]; exact upToP_prefix (by omega) (by omega)) h hc]

theorem cut_all : ∀ (l : List (Int × Int)) (a : Int × Int), ∀ r ∈ l, r.1 ≤ (l.foldl rCut a).1 ∧ (l.foldl rCut a).2 ≤ r.2
  | [], _, r, hr => absurd hr List.not_mem_nil
  | s :: l, a, r, hr => by
    rw [List.foldl_cons]
    rcases List.mem_cons.1 hr with rfl | hr
    · have := cut_mono l (rCut a r)
      unfold rCut at this ⊢
      dsimp only at this ⊢
      omega
    · exact cut_all l _ r hr
theorem com_all {l : List (Int × Int)} {r : Int × Int} (hr : r ∈ l) : r.1 ≤ (comS l).1 ∧ (comS l).2 ≤ r.2 := cut_all l _ r hr
theorem mem_pairsL {m i j : Nat} (h : i < j) (hj : j < m) : (i, j) ∈ pairsL m := by
  unfold pairsL rowP
  refine List.mem_flatMap.2 ⟨i, List.mem_range.2 (by omega), List.mem_map.2 ⟨j - (i + 1), List.mem_range.2 (by omega), ?_⟩⟩
  rw [show i + 1 + (j - (i + 1)) = j by omega]

/-- ONE DIMENSION: ranges that have no common part hold two that are apart; and the other way round. -/
theorem pair_com {l : List (Int × Int)} (hl : l ≠ []) (hle : ∀ r ∈ l, r.1 ≤ r.2) : (pairS l).2 = !decide ((comS l).1 ≤ (comS l).2) := by
  have at_ : ∀ i (h : i < l.length), l.getD i (0, 0) = l[i] := fun i h => by rw [List.getD_eq_getElem?_getD, List.getElem?_eq_getElem h]; rfl
  unfold pairS
  cases hf : (pairsL l.length).find? (clashAt l) with
  | some p =>
    have h1 := List.find?_some hf
    obtain ⟨h2, h3⟩ := pairsL_mem (List.mem_of_find?_eq_some hf)
    unfold clashAt at h1
    rw [at_ _ (by omega), at_ _ h3] at h1
    have m1 := List.getElem_mem (l := l) (show p.1 < l.length by omega)
    have m2 := List.getElem_mem (l := l) h3
    rw [clashR_of (hle _ m1) (hle _ m2)] at h1
    simp only [Bool.or_eq_true, decide_eq_true_eq] at h1
    have c1 := com_all m1
    have c2 := com_all m2
    dsimp only
    rw [decide_eq_false (by omega)]; rfl
  | none =>
    rw [List.find?_eq_none] at hf
    have hs : ∀ i j (hi : i < l.length) (hj : j < l.length), i < j → l[i].1 ≤ l[j].2 ∧ l[j].1 ≤ l[i].2 := fun i j hi hj hij => by
      have h1 := hf (i, j) (mem_pairsL hij hj)
      unfold clashAt at h1
      rw [at_ _ hi, at_ _ hj, clashR_of (hle _ (List.getElem_mem hi)) (hle _ (List.getElem_mem hj))] at h1
      simp only [Bool.or_eq_true, decide_eq_true_eq] at h1
      omega
    have key : ∀ r ∈ l, ∀ s ∈ l, r.1 ≤ s.2 := fun r hr s hs' => by
      obtain ⟨i, hi, rfl⟩ := List.mem_iff_getElem.1 hr
      obtain ⟨j, hj, rfl⟩ := List.mem_iff_getElem.1 hs'
      rcases Nat.lt_trichotomy i j with h | rfl | h
      · exact (hs i j hi hj h).1
      · exact hle _ hr
      · exact (hs j i hj hi h).2
    have := com_lo (K := (comS l).2 + 1) hl (fun r hr => by
      have := com_hi (K := r.1 - 1) hl (fun s hs' => by have := key r hr s hs'; omega)
      omega)
    dsimp only
    rw [decide_eq_true (by omega)]; rfl
end Go.Sky
