/- Plain functions of chapter 9 (records sorted, each name once). No program. -/
import Derived.Deep.AppendLies
import Derived.Deep.Draws
import Derived.Lib.Hide
import Derived.Shelf.SlSortCmp.Insertion
import Derived.WalkKit
import Derived.Test.YtkahjpbnlclhhaaDoorC17C

namespace Go.Sky
open Go.Sort Go.Proofs

/-! ### The order of records -/
def cmpT (s t : ByteArray) : Int := if s.toList < t.toList then -1 else if t.toList < s.toList then 1 else 0
def cmpR (x y : Rec) : Int := firstE [cmpT x.n y.n, cmpI y.v x.v, cmpT y.b x.b]
theorem cmpT_neg {s t : ByteArray} : cmpT s t < 0 ↔ s.toList < t.toList := by
  unfold cmpT
  split
  · simp_all
  · split <;> simp_all
theorem cmpT_zero {s t : ByteArray} : cmpT s t = 0 ↔ s.toList = t.toList := by
  unfold cmpT
  split
  · rename_i h
    refine ⟨fun h => absurd h (by decide), fun e => ?_⟩
    rw [e] at h; exact absurd h (List.lt_irrefl _)
  · rename_i h
    split
    · rename_i k
      refine ⟨fun h => absurd h (by decide), fun e => ?_⟩
      rw [e] at k; exact absurd k (List.lt_irrefl _)
    · rename_i k
      exact ⟨fun _ => List.le_antisymm (List.not_lt.1 k) (List.not_lt.1 h), fun _ => rfl⟩
theorem cmpR_neg {x y : Rec} : cmpR x y < 0 ↔ LtR x y := by
  unfold cmpR LtR firstE
  by_cases h1 : x.n.toList = y.n.toList
  · rw [if_pos (cmpT_zero.2 h1)]
    have h0 : ¬ x.n.toList < y.n.toList := by rw [h1]; exact List.lt_irrefl _
    unfold firstE
    by_cases h2 : y.v = x.v
    · rw [if_pos (by unfold cmpI; rw [if_neg (by omega), if_neg (by omega)])]
      have h3 : ¬ y.v < x.v := by omega
      unfold firstE
      by_cases h4 : y.b.toList = x.b.toList
      · rw [if_pos (cmpT_zero.2 h4)]
        have h5 : ¬ y.b.toList < x.b.toList := by rw [h4]; exact List.lt_irrefl _
        simp [firstE, h0, h3, h5]
      · rw [if_neg (fun e => h4 (cmpT_zero.1 e)), cmpT_neg]
        simp [h1, h2, List.lt_irrefl]
    · have h3 : cmpI y.v x.v ≠ 0 := by
        unfold cmpI
        split
        · decide
        · rw [if_pos (by omega)]; decide
      rw [if_neg h3]
      have h4 : cmpI y.v x.v < 0 ↔ y.v < x.v := by
        unfold cmpI
        split
        · simp_all
        · split <;> simp_all
      rw [h4]
      simp [h1, h2, List.lt_irrefl]
  · rw [if_neg (fun e => h1 (cmpT_zero.1 e)), cmpT_neg]
    simp [h1]

theorem ltOf_R (x y : Rec) : ltOf cmpR x y = true ↔ LtR x y := by
  unfold ltOf
  rw [decide_eq_true_iff]
  exact cmpR_neg
theorem ltOf_Rf (x y : Rec) : ltOf cmpR x y = false ↔ ¬ LtR x y := by
  rw [← ltOf_R]; simp

theorem LtR.irrefl (x : Rec) : ¬ LtR x x := by
  rintro (h | ⟨_, h | ⟨_, h⟩⟩)
  · exact List.lt_irrefl _ h
  · omega
  · exact List.lt_irrefl _ h
theorem LtR.trans {x y z : Rec} (h : LtR x y) (k : LtR y z) : LtR x z := by
  rcases h with h | ⟨h1, h⟩
  · rcases k with k | ⟨k1, _⟩
    · exact Or.inl (List.lt_trans h k)
    · exact Or.inl (k1 ▸ h)
  · rcases k with k | ⟨k1, k⟩
    · exact Or.inl (h1 ▸ k)
    · refine Or.inr ⟨h1.trans k1, ?_⟩
      rcases h with h | ⟨h2, h⟩
      · rcases k with k | ⟨k2, k⟩
        · exact Or.inl (by omega)
        · exact Or.inl (by omega)
      · rcases k with k | ⟨k2, k⟩
        · exact Or.inl (by omega)
        · exact Or.inr ⟨by omega, List.lt_trans k h⟩
theorem LtR.total {x y : Rec} (h : ¬ LtR x y) (k : ¬ LtR y x) : x = y := by
  have h1 : ¬ x.n.toList < y.n.toList := fun e => h (Or.inl e)
  have k1 : ¬ y.n.toList < x.n.toList := fun e => k (Or.inl e)
  have e1 : x.n.toList = y.n.toList := List.le_antisymm (List.not_lt.1 k1) (List.not_lt.1 h1)
  have h2 : ¬ y.v < x.v := fun e => h (Or.inr ⟨e1, Or.inl e⟩)
  have k2 : ¬ x.v < y.v := fun e => k (Or.inr ⟨e1.symm, Or.inl e⟩)
  have e2 : x.v = y.v := by omega
  exact Ge.antisymm e1 (Or.inr ⟨e2.symm, fun e => k (Or.inr ⟨e1.symm, Or.inr ⟨e2, e⟩⟩)⟩) (Or.inr ⟨e2, fun e => h (Or.inr ⟨e1, Or.inr ⟨e2.symm, e⟩⟩)⟩)
theorem swoR : SWO (ltOf cmpR) where
  irrefl x := (ltOf_Rf x x).2 (LtR.irrefl x)
  trans x y z h k := (ltOf_R x z).2 (LtR.trans ((ltOf_R x y).1 h) ((ltOf_R y z).1 k))
  ntrans x y z h k := (ltOf_Rf x z).2 fun e => by
    have h' := (ltOf_Rf x y).1 h
    have k' := (ltOf_Rf y z).1 k
    by_cases q : LtR y x
    · exact k' (q.trans e)
    · have := LtR.total h' q
      subst this
      exact k' e

/-! ### Each name once -/
def nameAt (l : List Rec) (i : Nat) : List UInt8 := ((l[i]?).map fun x => x.n.toList).getD []
def starts (l : List Rec) (k : Nat) : Bool := decide (k = 0 ∨ nameAt l k ≠ nameAt l (k - 1))
def firsts (l : List Rec) : Nat → List Rec
  | 0 => []
  | k + 1 => firsts l k ++ if starts l k then (l[k]?).toList else []
def SortedR (l : List Rec) : Prop := ∀ (i j : Nat) (x y : Rec), i < j → l[i]? = some x → l[j]? = some y → ¬ LtR y x

theorem ge_of {x y : Rec} (hn : y.n.toList = x.n.toList) (h : ¬ LtR y x) : Ge x y := by
  by_cases h1 : y.v < x.v
  · exact Or.inl h1
  · refine Or.inr ⟨?_, fun e => ?_⟩
    · have : ¬ x.v < y.v := fun e => h (Or.inr ⟨hn, Or.inl e⟩)
      omega
    · have : ¬ x.v < y.v := fun e => h (Or.inr ⟨hn, Or.inl e⟩)
      exact h (Or.inr ⟨hn, Or.inr ⟨by omega, e⟩⟩)

theorem firsts_merge (l : List Rec) (hs : SortedR l) : ∀ k, k ≤ l.length → MergeOf (l.take k) (firsts l k)
  | 0, _ => MergeOf.nil
  | k + 1, hk => by
    have ih := firsts_merge l hs k (by omega)
    have hkl : l[k]? = some l[k] := List.getElem?_eq_getElem (by omega)
    generalize l[k] = x at hkl
    have ht : l.take (k + 1) = l.take k ++ [x] := by rw [List.take_add_one, hkl]; rfl
    rw [ht]
    have hmem : ∀ u ∈ l.take k, ∃ i, i < k ∧ l[i]? = some u := fun u hu => by
      obtain ⟨i, hi⟩ := List.getElem?_of_mem hu
      by_cases h : i < k
      · exact ⟨i, h, by rw [List.getElem?_take, if_pos h] at hi; exact hi⟩
      · rw [List.getElem?_take, if_neg h] at hi; cases hi
    show MergeOf _ (firsts l k ++ if starts l k then (l[k]?).toList else [])
    by_cases hst : starts l k = true
    · rw [if_pos hst, hkl]
      have hst' : k = 0 ∨ nameAt l k ≠ nameAt l (k - 1) := by unfold starts at hst; simpa using hst
      have ih' : MergeOf (l.take k) (firsts l k ++ []) := by rw [List.append_nil]; exact ih
      refine ih'.insert (fun u hu => ?_) (fun u hu => by cases hu)
      obtain ⟨i, hi, hiu⟩ := hmem u (ih.sub u hu)
      have hle := hs i k u x hi hiu hkl
      have h1 : ¬ x.n.toList < u.n.toList := fun e => hle (Or.inl e)
      by_cases h2 : u.n.toList < x.n.toList
      · exact h2
      · exfalso
        have e : u.n.toList = x.n.toList := List.le_antisymm (List.not_lt.1 h1) (List.not_lt.1 h2)
        rcases hst' with h0 | h0
        · omega
        · have hy : l[k - 1]? = some l[k - 1] := List.getElem?_eq_getElem (by omega)
          generalize l[k - 1] = y at hy
          have hne : x.n.toList ≠ y.n.toList := by
            unfold nameAt at h0
            rw [hkl, hy] at h0
            exact h0
          have h3 : ¬ x.n.toList < y.n.toList := fun e => hs (k - 1) k y x (by omega) hy hkl (Or.inl e)
          have h4 : ¬ y.n.toList < u.n.toList := by
            by_cases hik : i = k - 1
            · subst hik; rw [hy] at hiu; injection hiu with hiu; subst hiu; exact List.lt_irrefl _
            · exact fun e => hs i (k - 1) u y (by omega) hiu hy (Or.inl e)
          rw [e] at h4
          exact hne (List.le_antisymm (List.not_lt.1 h4) (List.not_lt.1 h3))
    · rw [if_neg hst, List.append_nil]
      have hst' : ¬ (k = 0 ∨ nameAt l k ≠ nameAt l (k - 1)) := by unfold starts at hst; simpa using hst
      have hk0 : k ≠ 0 := fun e => hst' (Or.inl e)
      have hy : l[k - 1]? = some l[k - 1] := List.getElem?_eq_getElem (by omega)
      generalize l[k - 1] = y at hy
      have hne : x.n.toList = y.n.toList := by
        have h0 : nameAt l k = nameAt l (k - 1) := by
          by_cases q : nameAt l k = nameAt l (k - 1)
          · exact q
          · exact absurd (Or.inr q) hst'
        unfold nameAt at h0
        rw [hkl, hy] at h0
        exact h0
      have hym : y ∈ l.take k := List.mem_of_getElem? (i := k - 1) (by rw [List.getElem?_take, if_pos (by omega)]; exact hy)
      obtain ⟨z, hz, hzn, hg⟩ := ih.best y hym
      exact ih.stay hz (hzn.trans hne.symm) (hg.trans (ge_of hne (hs (k - 1) k y x (by omega) hy hkl)))
theorem MergeOf.perm {a b L : List Rec} (h : MergeOf a L) (hp : a.Perm b) : MergeOf b L :=
  ⟨h.asc, fun x hx => hp.subset (h.sub x hx), fun y hy => h.best y (hp.symm.subset hy)⟩
theorem merge_sorted {all d : List Rec} (hp : d.Perm all) (hs : SortedR d) : MergeOf all (firsts d d.length) := by
  have := firsts_merge d hs d.length (Nat.le_refl _)
  rw [List.take_length] at this
  exact this.perm hp
end Go.Sky
