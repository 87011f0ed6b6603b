/- Plain functions of chapter 9 (records sorted, each name once). No program.
   Plain functions of chapter 9 (the error of records). No program.
   The row of records while it is made compact, in place: plain words.
   Records merged, by insertion: plain words.
   From the kit's words of a sorted row to lists. No program.
   Records of three copies: plain words.
   Copies that drift apart: plain words. -/
import Derived.Deep.AppendLies
import Derived.Deep.Draws
import Derived.Lib.Hide
import Derived.Shelf.SlSortCmp.Insertion
import Derived.WalkKit
import Derived.Test.YtifppmbolpegpaaC15B

namespace Go.Sky
open Go.Sort Go.Proofs

/-! ### The order of records -/
def cmpT (s t : ByteArray) : Int := if s.toList < t.toList then -1 else if t.toList < s.toList then 1 else 0
def cmpR (x y : Rec) : Int := firstE [cmpT x.n y.n, cmpI y.v x.v, cmpT y.b x.b]
theorem cmpT_neg {s t : ByteArray} : cmpT s t < 0 ↔ s.toList < t.toList := by
  unfold cmpT
  split
  · simp_all
  · split <;> simp_all
theorem cmpT_zero {s t : ByteArray} : cmpT s t = 0 ↔ s.toList = t.toList := by
  unfold cmpT
  split
  · rename_i h
    refine ⟨fun h => absurd h (by decide), fun e => ?_⟩
    rw [e] at h; exact absurd h (List.lt_irrefl _)
  · rename_i h
    split
    · rename_i k
      refine ⟨fun h => absurd h (by decide), fun e => ?_⟩
      rw [e] at k; exact absurd k (List.lt_irrefl _)
    · rename_i k
      exact ⟨fun _ => List.le_antisymm (List.not_lt.1 k) (List.not_lt.1 h), fun _ => rfl⟩
theorem cmpR_neg {x y : Rec} : cmpR x y < 0 ↔ LtR x y := by
  unfold cmpR LtR firstE
  by_cases h1 : x.n.toList = y.n.toList
  · rw [if_pos (cmpT_zero.2 h1)]
    have h0 : ¬ x.n.toList < y.n.toList := by rw [h1]; exact List.lt_irrefl _
    unfold firstE
    by_cases h2 : y.v = x.v
    · rw [if_pos (by unfold cmpI; rw [if_neg (by omega), if_neg (by omega)])]
      have h3 : ¬ y.v < x.v := by omega
      unfold firstE
      by_cases h4 : y.b.toList = x.b.toList
      · rw [if_pos (cmpT_zero.2 h4)]
        have h5 : ¬ y.b.toList < x.b.toList := by rw [h4]; exact List.lt_irrefl _
        simp [firstE, h0, h3, h5]
      · rw [if_neg (fun e => h4 (cmpT_zero.1 e)), cmpT_neg]
        simp [h1, h2, List.lt_irrefl]
    · have h3 : cmpI y.v x.v ≠ 0 := by
        unfold cmpI
        split
        · decide
        · rw [if_pos (by omega)]; decide
      rw [if_neg h3]
      have h4 : cmpI y.v x.v < 0 ↔ y.v < x.v := by
        unfold cmpI
        split
        · simp_all
        · split <;> simp_all
      rw [h4]
      simp [h1, h2, List.lt_irrefl]
  · rw [if_neg (fun e => h1 (cmpT_zero.1 e)), cmpT_neg]
    simp [h1]

theorem ltOf_R (x y : Rec) : ltOf cmpR x y = true ↔ LtR x y := by
  unfold ltOf
  rw [decide_eq_true_iff]
  exact cmpR_neg
theorem ltOf_Rf (x y : Rec) : ltOf cmpR x y = false ↔ ¬ LtR x y := by
  rw [← ltOf_R]; simp

theorem LtR.irrefl (x : Rec) : ¬ LtR x x := by
  rintro (h | ⟨_, h | ⟨_, h⟩⟩)
  · exact List.lt_irrefl _ h
  · omega
  · exact List.lt_irrefl _ h
theorem LtR.trans {x y z : Rec} (h : LtR x y) (k : LtR y z) : LtR x z := by
  rcases h with h | ⟨h1, h⟩
  · rcases k with k | ⟨k1, _⟩
    · exact Or.inl (List.lt_trans h k)
    · exact Or.inl (k1 ▸ h)
  · rcases k with k | ⟨k1, k⟩
    · exact Or.inl (h1 ▸ k)
    · refine Or.inr ⟨h1.trans k1, ?_⟩
      rcases h with h | ⟨h2, h⟩
      · rcases k with k | ⟨k2, k⟩
        · exact Or.inl (by omega)
        · exact Or.inl (by omega)
      · rcases k with k | ⟨k2, k⟩
        · exact Or.inl (by omega)
        · exact Or.inr ⟨by omega, List.lt_trans k h⟩
theorem LtR.total {x y : Rec} (h : ¬ LtR x y) (k : ¬ LtR y x) : x = y := by
  have h1 : ¬ x.n.toList < y.n.toList := fun e => h (Or.inl e)
  have k1 : ¬ y.n.toList < x.n.toList := fun e => k (Or.inl e)
  have e1 : x.n.toList = y.n.toList := List.le_antisymm (List.not_lt.1 k1) (List.not_lt.1 h1)
  have h2 : ¬ y.v < x.v := fun e => h (Or.inr ⟨e1, Or.inl e⟩)
  have k2 : ¬ x.v < y.v := fun e => k (Or.inr ⟨e1.symm, Or.inl e⟩)
  have e2 : x.v = y.v := by omega
  exact Ge.antisymm e1 (Or.inr ⟨e2.symm, fun e => k (Or.inr ⟨e1.symm, Or.inr ⟨e2, e⟩⟩)⟩) (Or.inr ⟨e2, fun e => h (Or.inr ⟨e1, Or.inr ⟨e2.symm, e⟩⟩)⟩)
theorem swoR : SWO (ltOf cmpR) where
  irrefl x := (ltOf_Rf x x).2 (LtR.irrefl x)
  trans x y z h k := (ltOf_R x z).2 (LtR.trans ((ltOf_R x y).1 h) ((ltOf_R y z).1 k))
  ntrans x y z h k := (ltOf_Rf x z).2 fun e => by
    have h' := (ltOf_Rf x y).1 h
    have k' := (ltOf_Rf y z).1 k
    by_cases q : LtR y x
    · exact k' (q.trans e)
    · have := LtR.total h' q
      subst this
      exact k' e

/-! ### Each name once -/
def nameAt (l : List Rec) (i : Nat) : List UInt8 := ((l[i]?).map fun x => x.n.toList).getD []
def starts (l : List Rec) (k : Nat) : Bool := decide (k = 0 ∨ nameAt l k ≠ nameAt l (k - 1))
def firsts (l : List Rec) : Nat → List Rec
  | 0 => []
  | k + 1 => firsts l k ++ if starts l k then (l[k]?).toList else []
def SortedR (l : List Rec) : Prop := ∀ (i j : Nat) (x y : Rec), i < j → l[i]? = some x → l[j]? = some y → ¬ LtR y x

theorem ge_of {x y : Rec} (hn : y.n.toList = x.n.toList) (h : ¬ LtR y x) : Ge x y := by
  by_cases h1 : y.v < x.v
  · exact Or.inl h1
  · refine Or.inr ⟨?_, fun e => ?_⟩
    · have : ¬ x.v < y.v := fun e => h (Or.inr ⟨hn, Or.inl e⟩)
      omega
    · have : ¬ x.v < y.v := fun e => h (Or.inr ⟨hn, Or.inl e⟩)
      exact h (Or.inr ⟨hn, Or.inr ⟨by omega, e⟩⟩)

theorem firsts_merge (l : List Rec) (hs : SortedR l) : ∀ k, k ≤ l.length → MergeOf (l.take k) (firsts l k)
  | 0, _ => MergeOf.nil
  | k + 1, hk => by
    have ih := firsts_merge l hs k (by omega)
    have hkl : l[k]? = some l[k] := List.getElem?_eq_getElem (by omega)
    generalize l[k] = x at hkl
    have ht : l.take (k + 1) = l.take k ++ [x] := by rw [List.take_add_one, hkl]; rfl
    rw [ht]
    have hmem : ∀ u ∈ l.take k, ∃ i, i < k ∧ l[i]? = some u := fun u hu => by
      obtain ⟨i, hi⟩ := List.getElem?_of_mem hu
      by_cases h : i < k
      · exact ⟨i, h, by rw [List.getElem?_take, if_pos h] at hi; exact hi⟩
      · rw [List.getElem?_take, if_neg h] at hi; cases hi
    show MergeOf _ (firsts l k ++ if starts l k then (l[k]?).toList else [])
    by_cases hst : starts l k = true
    · rw [if_pos hst, hkl]
      have hst' : k = 0 ∨ nameAt l k ≠ nameAt l (k - 1) := by unfold starts at hst; simpa using hst
      have ih' : MergeOf (l.take k) (firsts l k ++ []) := by rw [List.append_nil]; exact ih
      refine ih'.insert (fun u hu => ?_) (fun u hu => by cases hu)
      obtain ⟨i, hi, hiu⟩ := hmem u (ih.sub u hu)
      have hle := hs i k u x hi hiu hkl
      have h1 : ¬ x.n.toList < u.n.toList := fun e => hle (Or.inl e)
      by_cases h2 : u.n.toList < x.n.toList
      · exact h2
      · exfalso
        have e : u.n.toList = x.n.toList := List.le_antisymm (List.not_lt.1 h1) (List.not_lt.1 h2)
        rcases hst' with h0 | h0
        · omega
        · have hy : l[k - 1]? = some l[k - 1] := List.getElem?_eq_getElem (by omega)
          generalize l[k - 1] = y at hy
          have hne : x.n.toList ≠ y.n.toList := by
            unfold nameAt at h0
            rw [hkl, hy] at h0
            exact h0
          have h3 : ¬ x.n.toList < y.n.toList := fun e => hs (k - 1) k y x (by omega) hy hkl (Or.inl e)
          have h4 : ¬ y.n.toList < u.n.toList := by
            by_cases hik : i = k - 1
            · subst hik; rw [hy] at hiu; injection hiu with hiu; subst hiu; exact List.lt_irrefl _
            · exact fun e => hs i (k - 1) u y (by omega) hiu hy (Or.inl e)
          rw [e] at h4
          exact hne (List.le_antisymm (List.not_lt.1 h4) (List.not_lt.1 h3))
    · rw [if_neg hst, List.append_nil]
      have hst' : ¬ (k = 0 ∨ nameAt l k ≠ nameAt l (k - 1)) := by unfold starts at hst; simpa using hst
      have hk0 : k ≠ 0 := fun e => hst' (Or.inl e)
      have hy : l[k - 1]? = some l[k - 1] := List.getElem?_eq_getElem (by omega)
      generalize l[k - 1] = y at hy
      have hne : x.n.toList = y.n.toList := by
        have h0 : nameAt l k = nameAt l (k - 1) := by
          by_cases q : nameAt l k = nameAt l (k - 1)
          · exact q
          · exact absurd (Or.inr q) hst'
        unfold nameAt at h0
        rw [hkl, hy] at h0
        exact h0
      have hym : y ∈ l.take k := List.mem_of_getElem? (i := k - 1) (by rw [List.getElem?_take, if_pos (by omega)]; exact hy)
      obtain ⟨z, hz, hzn, hg⟩ := ih.best y hym
      exact ih.stay hz (hzn.trans hne.symm) (hg.trans (ge_of hne (hs (k - 1) k y x (by omega) hy hkl)))
theorem MergeOf.perm {a b L : List Rec} (h : MergeOf a L) (hp : a.Perm b) : MergeOf b L :=
  ⟨h.asc, fun x hx => hp.subset (h.sub x hx), fun y hy => h.best y (hp.symm.subset hy)⟩
theorem merge_sorted {all d : List Rec} (hp : d.Perm all) (hs : SortedR d) : MergeOf all (firsts d d.length) := by
  have := firsts_merge d hs d.length (Nat.le_refl _)
  rw [List.take_length] at this
  exact this.perm hp
end Go.Sky

namespace Go.Sky
def recE (x : Rec) : Int := firstE [errU (nameS x.n.data.toList) 4, errU (tick x.v) 2, errU (decide ((x.b.size : Int) ≤ 1000)) 8]
def recsFrom : List Rec → Int
  | [] => 0
  | x :: l => if recE x = 0 then recsFrom l else recE x
def recsS (l : List Rec) : Int := if 30 < l.length then 8 else recsFrom l
theorem recsFrom_step {l : List Rec} {k : Nat} {x : Rec} (h : l[k]? = some x) : recsFrom (l.drop k) = if recE x = 0 then recsFrom (l.drop (k + 1)) else recE x := by
  have hk : k < l.length := by
    rcases Nat.lt_or_ge k l.length with q | q
    · exact q
    · rw [List.getElem?_eq_none q] at h; cases h
  rw [List.drop_eq_getElem_cons hk]
  rw [List.getElem?_eq_getElem hk] at h
  injection h with h
  rw [h]
  rfl
def fewX (x : Rec) : Bool := decide (x.n.size ≤ 30) && (decide (x.b.size ≤ 100) || decide (1000 < x.b.size ∧ x.b.size ≤ 1005))
def fewR (l : List Rec) : Bool := decide (l.length ≤ 32) && l.all fewX
theorem fewX_name {x : Rec} (h : fewX x = true) : x.n.size ≤ 30 := by
  unfold fewX at h
  rw [Bool.and_eq_true] at h
  exact of_decide_eq_true h.1
end Go.Sky

namespace Go.Sky
open Go.Proofs

theorem nameAt_of {l : List Rec} {i : Nat} {x : Rec} (h : l[i]? = some x) : nameAt l i = x.n.toList := by unfold nameAt; rw [h]; rfl
theorem starts_yes {l : List Rec} {k : Nat} {x y : Rec} (hx : l[k]? = some x) (hy : l[k - 1]? = some y) (h : x.n.toList ≠ y.n.toList) : starts l k = true := by
  unfold starts
  rw [nameAt_of hx, nameAt_of hy]
  exact decide_eq_true (Or.inr h)
theorem starts_no {l : List Rec} {k : Nat} {x y : Rec} (hk : 0 < k) (hx : l[k]? = some x) (hy : l[k - 1]? = some y) (h : x.n.toList = y.n.toList) : starts l k = false := by
  unfold starts
  rw [nameAt_of hx, nameAt_of hy]
  exact decide_eq_false (by rintro (q | q); exact absurd q (by omega); exact q h)
theorem firsts_yes {l : List Rec} {k : Nat} {x : Rec} (hs : starts l k = true) (hx : l[k]? = some x) : firsts l (k + 1) = firsts l k ++ [x] := by
  rw [firsts, if_pos hs, hx]; rfl
theorem firsts_no {l : List Rec} {k : Nat} (hs : starts l k = false) : firsts l (k + 1) = firsts l k := by
  rw [firsts, if_neg (by rw [hs]; simp), List.append_nil]
theorem firsts_len (l : List Rec) : ∀ k, (firsts l k).length ≤ k
  | 0 => Nat.le_refl _
  | k + 1 => by
    have := firsts_len l k
    rw [firsts]
    split
    · cases l[k]? <;> simp <;> omega
    · simp; omega
/-- All of the first k are the first of their name. -/
theorem firsts_next {l : List Rec} {k : Nat} {x : Rec} (h : firsts l k = l.take k) (hs : starts l k = true) (hx : l[k]? = some x) : firsts l (k + 1) = l.take (k + 1) := by
  obtain ⟨hk, rfl⟩ := List.getElem?_eq_some_iff.1 hx
  rw [firsts_yes hs hx, h, List.take_succ_eq_append_getElem hk]
theorem firsts_one {l : List Rec} {x : Rec} (hx : l[0]? = some x) : firsts l 1 = l.take 1 := firsts_next (k := 0) rfl (by simp [starts]) hx

/-- The row when m elements are read: the firsts of these ahead, then what was there. -/
def rowM (l : List Rec) (m : Nat) : List Rec := firsts l m ++ l.drop (firsts l m).length
theorem rowM_get {l : List Rec} {m i : Nat} (h : (firsts l m).length ≤ i) : (rowM l m)[i]? = l[i]? := by
  rw [rowM, List.getElem?_append_right h, List.getElem?_drop]
  congr 1
  omega
theorem rowM_len {l : List Rec} {m : Nat} (hm : m ≤ l.length) : (rowM l m).length = l.length := by
  have := firsts_len l m
  rw [rowM, List.length_append, List.length_drop]
  omega
theorem rowM_yes {l : List Rec} {m : Nat} {x : Rec} (hs : starts l m = true) (hx : l[m]? = some x) : (rowM l m).set (firsts l m).length x = rowM l (m + 1) := by
  have hm := (List.getElem?_eq_some_iff.1 hx).1
  have hl := firsts_len l m
  have hlt : (firsts l m).length < l.length := by omega
  rw [rowM, rowM, firsts_yes hs hx, List.set_append_right _ _ (Nat.le_refl _), Nat.sub_self, List.length_append, List.length_singleton, List.append_assoc, List.drop_eq_getElem_cons hlt]
  rfl
theorem rowM_no {l : List Rec} {m : Nat} (hs : starts l m = false) : rowM l m = rowM l (m + 1) := by rw [rowM, rowM, firsts_no hs]
theorem rowM_start {l : List Rec} {k : Nat} (h : firsts l k = l.take k) (hk : k ≤ l.length) : rowM l k = l := by
  rw [rowM, h, List.length_take, Nat.min_eq_left hk, List.take_append_drop]
theorem rowM_take (l : List Rec) (m : Nat) : (rowM l m).take (firsts l m).length = firsts l m := by
  rw [rowM, List.take_left]
end Go.Sky

namespace Go.Sky
open Go.Proofs

/-- x is kept in place of y. -/
def newX (x y : Rec) : Bool := decide (y.v < x.v) || (x.v == y.v && decide (y.b.toList < x.b.toList))
theorem newX_yes {x y : Rec} (h : newX x y = true) : Ge x y := by
  unfold newX at h
  rw [Bool.or_eq_true, Bool.and_eq_true, beq_iff_eq, decide_eq_true_iff, decide_eq_true_iff] at h
  rcases h with h | ⟨h1, h2⟩
  · exact Or.inl h
  · exact Or.inr ⟨h1.symm, List.lt_asymm h2⟩
theorem newX_no {x y : Rec} (h : newX x y = false) : Ge y x := by
  unfold newX at h
  rw [Bool.or_eq_false_iff, decide_eq_false_iff_not] at h
  by_cases h1 : x.v = y.v
  · refine Or.inr ⟨h1, fun e => ?_⟩
    have h2 := h.2
    rw [Bool.and_eq_false_iff] at h2
    rcases h2 with h2 | h2
    · simp [h1] at h2
    · exact absurd e (by simpa using h2)
  · exact Or.inl (by have := h.1; omega)

/-- x put in by its name. -/
def insR : List Rec → Rec → List Rec
  | [], x => [x]
  | y :: r, x => if y.n.toList < x.n.toList then y :: insR r x else if y.n.toList = x.n.toList then (if newX x y then x :: r else y :: r) else x :: y :: r
def mergeR (l : List Rec) : List Rec := l.foldl insR []
theorem mergeR_snoc (l : List Rec) (x : Rec) : mergeR (l ++ [x]) = insR (mergeR l) x := by simp [mergeR]
theorem ins_set : ∀ (out : List Rec) (x : Rec) (k : Nat) (y : Rec), (∀ z ∈ out.take k, z.n.toList < x.n.toList) → out[k]? = some y → y.n.toList = x.n.toList → newX x y = true → insR out x = out.set k x
  | [], _, _, _, _, h, _, _ => by simp at h
  | z :: r, x, 0, y, _, h, hn, hx => by
    simp at h; subst h
    rw [insR, if_neg (by rw [hn]; exact List.lt_irrefl _), if_pos hn, if_pos hx]; rfl
  | z :: r, x, k + 1, y, hl, h, hn, hx => by
    simp at h
    rw [insR, if_pos (hl z (by simp)), ins_set r x k y (fun q hq => hl q (by simp [hq])) h hn hx]; rfl
theorem ins_stay : ∀ (out : List Rec) (x : Rec) (k : Nat) (y : Rec), (∀ z ∈ out.take k, z.n.toList < x.n.toList) → out[k]? = some y → y.n.toList = x.n.toList → newX x y = false → insR out x = out
  | [], _, _, _, _, h, _, _ => by simp at h
  | z :: r, x, 0, y, _, h, hn, hx => by
    simp at h; subst h
    rw [insR, if_neg (by rw [hn]; exact List.lt_irrefl _), if_pos hn, if_neg (by rw [hx]; simp)]
  | z :: r, x, k + 1, y, hl, h, hn, hx => by
    simp at h
    rw [insR, if_pos (hl z (by simp)), ins_stay r x k y (fun q hq => hl q (by simp [hq])) h hn hx]
theorem ins_put : ∀ (out : List Rec) (x : Rec) (k : Nat), k ≤ out.length → (∀ z ∈ out.take k, z.n.toList < x.n.toList) → (∀ y, out[k]? = some y → ¬ y.n.toList < x.n.toList ∧ y.n.toList ≠ x.n.toList) → insR out x = out.take k ++ x :: out.drop k
  | [], x, k, _, _, _ => by simp [insR]
  | z :: r, x, 0, _, _, h => by
    have := h z rfl
    rw [insR, if_neg this.1, if_neg this.2]; rfl
  | z :: r, x, k + 1, hk, hl, h => by
    rw [insR, if_pos (hl z (by simp)), ins_put r x k (by simpa using hk) (fun q hq => hl q (by simp [hq])) (fun y hy => h y (by simpa using hy))]; rfl

/-- Where x is to be put. -/
theorem ins_where (x : Rec) : ∀ out : List Rec, ∃ k, k ≤ out.length ∧ (∀ z ∈ out.take k, z.n.toList < x.n.toList) ∧ ∀ y, out[k]? = some y → ¬ y.n.toList < x.n.toList
  | [] => ⟨0, by simp, by simp, by simp⟩
  | z :: r => by
    by_cases h : z.n.toList < x.n.toList
    · obtain ⟨k, h1, h2, h3⟩ := ins_where x r
      refine ⟨k + 1, by simpa using h1, ?_, by simpa using h3⟩
      intro q hq
      rw [List.take_succ_cons] at hq
      rcases List.mem_cons.1 hq with e | e
      · rw [e]; exact h
      · exact h2 q e
    · exact ⟨0, by simp, by simp, by intro y hy; simp at hy; subst hy; exact h⟩

theorem merge_ins {pre out : List Rec} {x : Rec} (h : MergeOf pre out) : MergeOf (pre ++ [x]) (insR out x) := by
  obtain ⟨k, hk, hl, hy⟩ := ins_where x out
  have hcut : out.take k ++ out.drop k = out := List.take_append_drop k out
  rcases hq : out[k]? with _ | y
  · rw [ins_put out x k hk hl (fun y hy' => by rw [hq] at hy'; cases hy')]
    have hd : out.drop k = [] := by rw [List.drop_eq_nil_iff]; exact List.getElem?_eq_none_iff.1 hq
    refine MergeOf.insert (by rw [hcut]; exact h) hl ?_
    rw [hd]; intro y hy; cases hy
  · obtain ⟨hlt, rfl⟩ := List.getElem?_eq_some_iff.1 hq
    have hd : out.drop k = out[k] :: out.drop (k + 1) := List.drop_eq_getElem_cons hlt
    have hn := hy _ hq
    by_cases he : out[k].n.toList = x.n.toList
    · cases hx : newX x out[k]
      · rw [ins_stay out x k _ hl hq he hx]
        exact MergeOf.stay h (List.getElem_mem hlt) he (newX_no hx)
      · rw [ins_set out x k _ hl hq he hx]
        have e1 : out.set k x = out.take k ++ x :: out.drop (k + 1) := List.set_eq_take_append_cons_drop .. |>.trans (by rw [if_pos hlt])
        rw [e1]
        refine MergeOf.replace ?_ he (newX_yes hx)
        rw [← hd, hcut]
        exact h
    · rw [ins_put out x k hk hl (fun y hy' => by rw [hq] at hy'; injection hy' with hy'; subst hy'; exact ⟨hn, he⟩)]
      refine MergeOf.insert (by rw [hcut]; exact h) hl ?_
      have hgt : x.n.toList < out[k].n.toList := by
        rcases Decidable.em (x.n.toList < out[k].n.toList) with q | q
        · exact q
        · exact absurd (List.le_antisymm (List.not_lt.1 q) (List.not_lt.1 hn)) he
      intro y hy
      rw [hd] at hy
      rcases List.mem_cons.1 hy with e | e
      · rw [e]; exact hgt
      · have hasc := h.asc
        rw [← hcut, hd, List.pairwise_append, List.pairwise_cons] at hasc
        exact List.lt_trans hgt (hasc.2.1.1 y e)
theorem foldl_merge : ∀ (l pre out : List Rec), MergeOf pre out → MergeOf (pre ++ l) (l.foldl insR out)
  | [], pre, out, h => by simpa using h
  | x :: l, pre, out, h => by
    have := foldl_merge l (pre ++ [x]) (insR out x) (merge_ins h)
    simpa using this
theorem merge_mergeR (l : List Rec) : MergeOf l (mergeR l) := foldl_merge l [] [] MergeOf.nil
theorem mergeR_eq {l L : List Rec} (h : MergeOf l L) : L = mergeR l := h.unique (merge_mergeR l) fun _ => Iff.rfl
theorem mergeR_len (l : List Rec) : (mergeR l).length ≤ l.length := (merge_mergeR l).length_le

theorem recsFrom_zero {l : List Rec} : recsFrom l = 0 ↔ ∀ x ∈ l, recE x = 0 := by
  induction l with
  | nil => simp [recsFrom]
  | cons x l ih =>
    rw [recsFrom]
    by_cases h : recE x = 0
    · rw [if_pos h, ih]; simp [h]
    · rw [if_neg h]; simp [h]
theorem recsS_zero {l : List Rec} : recsS l = 0 ↔ l.length ≤ 30 ∧ ∀ x ∈ l, recE x = 0 := by
  unfold recsS
  by_cases h : 30 < l.length
  · rw [if_pos h]; constructor
    · intro e; cases e
    · intro e; omega
  · rw [if_neg h, recsFrom_zero]; constructor
    · intro e; exact ⟨by omega, e⟩
    · intro e; exact e.2
theorem recsS_mergeR {a b : List Rec} (ha : recsS a = 0) (hb : recsS b = 0) (hl : (mergeR (a ++ b)).length ≤ 30) : recsS (mergeR (a ++ b)) = 0 := by
  rw [recsS_zero] at *
  refine ⟨hl, fun x hx => ?_⟩
  rcases List.mem_append.1 ((merge_mergeR _).sub x hx) with h | h
  · exact ha.2 x h
  · exact hb.2 x h
end Go.Sky

namespace Go.Sky
open Go.Sort Go.Proofs

theorem perm_of {d d' : Array Rec} (h : PermIn 0 d.size d d') : d'.toList.Perm d.toList := by
  have h1 := h.1
  have h2 := h.2.2
  have e1 : d'.extract 0 d.size = d' := by rw [← h1]; simp
  have e2 : d.extract 0 d.size = d := by simp
  rw [e1, e2] at h2
  exact h2
theorem sorted_of {d d' : Array Rec} (hz : d'.size = d.size) (h : SortedIn (ltOf cmpR) 0 d.size d') : SortedR d'.toList := by
  intro i j x y hij hx hy
  have hj : j < d'.toList.length := by
    rcases Nat.lt_or_ge j d'.toList.length with q | q
    · exact q
    · rw [List.getElem?_eq_none q] at hy; cases hy
  have hj' : j < d'.size := by simpa using hj
  have hk := h i j (Nat.zero_le _) hij (by omega)
  have ex : d'[i]! = x := by
    rw [Array.getElem?_toList] at hx
    rw [getElem!_def, hx]
  have ey : d'[j]! = y := by
    rw [Array.getElem?_toList] at hy
    rw [getElem!_def, hy]
  rw [ex, ey] at hk
  exact (ltOf_Rf y x).1 hk
/-- What the sort and the compaction leave. -/
theorem merge_array {d d' : Array Rec} (hp : PermIn 0 d.size d d') (hs : SortedIn (ltOf cmpR) 0 d.size d') : MergeOf d.toList (firsts d'.toList d'.toList.length) :=
  merge_sorted (perm_of hp) (sorted_of hp.1 hs)
end Go.Sky

namespace Go.Sky
open Go.Proofs

def foundR (L : List Rec) (x : Rec) (j : Nat) : Bool := (L.take j).any fun y => y.n.toList == x.n.toList
theorem foundR_step {L : List Rec} {x y : Rec} {j : Nat} (h : L[j]? = some y) : foundR L x (j + 1) = (foundR L x j || (y.n.toList == x.n.toList)) := by
  unfold foundR
  rw [List.take_add_one, h, List.any_append]
  simp
theorem before_other {all L : List Rec} {y : Rec} {j : Nat} (h : MergeOf all L) (hy : L[j]? = some y) : ∀ z ∈ L.take j, z.n.toList ≠ y.n.toList := by
  intro z hz e
  obtain ⟨hj, hy'⟩ := List.getElem?_eq_some_iff.1 hy
  obtain ⟨i, hi, hz'⟩ := List.mem_take_iff_getElem.1 hz
  have := List.pairwise_iff_getElem.1 h.asc i j (by omega) hj (by omega)
  rw [hz', hy', e] at this
  exact List.lt_irrefl _ this
theorem found_no {all L : List Rec} {x y : Rec} {j : Nat} (h : MergeOf all L) (hy : L[j]? = some y) (hn : y.n.toList = x.n.toList) : foundR L x j = false := by
  unfold foundR
  rw [List.any_eq_false]
  intro z hz
  have := before_other h hy z hz
  rw [hn] at this
  simpa using this
theorem best_of {all L : List Rec} {x y : Rec} (h : MergeOf all L) (hx : x ∈ all) (hy : y ∈ L) (hn : y.n.toList = x.n.toList) : Ge y x := by
  obtain ⟨z, hz, hzn, hg⟩ := h.best x hx
  rwa [asc_one h.asc y hy z hz (hn.trans hzn.symm)]
theorem Ge.version {x y : Rec} (h : Ge y x) : x.v ≤ y.v := by
  rcases h with h | ⟨h, _⟩ <;> omega
theorem found_end {all L : List Rec} {x : Rec} {k : Nat} (h : MergeOf all L) (hx : x ∈ all) (hk : L.length = k) : foundR L x k = true := by
  obtain ⟨z, hz, hzn, _⟩ := h.best x hx
  unfold foundR
  rw [List.take_of_length_le (by omega), List.any_eq_true]
  exact ⟨z, hz, by simpa using hzn⟩
end Go.Sky

namespace Go.Sky
open Go.Proofs

/-- A copy: its names ascend, and it has nothing that is not in 'all'. -/
def OkR (all r : List Rec) : Prop := (r.Pairwise fun x y => x.n.toList < y.n.toList) ∧ ∀ x ∈ r, x ∈ all
/-- r has what c has, or what is greater. -/
def Has (r c : List Rec) : Prop := ∀ y ∈ c, ∃ x ∈ r, x.n.toList = y.n.toList ∧ Ge x y

theorem Has.refl (r : List Rec) : Has r r := fun y hy => ⟨y, hy, rfl, Ge.refl y⟩
theorem Has.trans {r q c : List Rec} (h : Has r q) (k : Has q c) : Has r c := fun y hy => by
  obtain ⟨x, hx, hn, hg⟩ := k y hy
  obtain ⟨z, hz, hn', hg'⟩ := h x hx
  exact ⟨z, hz, hn'.trans hn, hg'.trans hg⟩
theorem Has.merge (l : List Rec) : Has (mergeR l) l := (merge_mergeR l).best
theorem Has.left (r q : List Rec) : Has (mergeR (r ++ q)) r := fun y hy => Has.merge _ y (List.mem_append_left _ hy)
theorem Has.right (r q : List Rec) : Has (mergeR (r ++ q)) q := fun y hy => Has.merge _ y (List.mem_append_right _ hy)
theorem OkR.merge {all r q : List Rec} (h : ∀ x ∈ r, x ∈ all) (k : ∀ x ∈ q, x ∈ all) : OkR all (mergeR (r ++ q)) :=
  ⟨(merge_mergeR _).asc, fun x hx => by
    rcases List.mem_append.1 ((merge_mergeR _).sub x hx) with e | e
    · exact h x e
    · exact k x e⟩
theorem OkR.mono {all all' r : List Rec} (h : OkR all r) (k : ∀ x ∈ all, x ∈ all') : OkR all' r := ⟨h.1, fun x hx => k x (h.2 x hx)⟩
theorem OkR.len {all r : List Rec} (h : OkR all r) : r.length ≤ all.length := by
  have nd : r.Nodup := h.1.imp fun {a b} hab e => by subst e; exact List.lt_irrefl _ hab
  exact nd.length_le_of_subset h.2
theorem OkR.eq {all r : List Rec} (h : OkR all r) (k : Has r all) : r = mergeR all := mergeR_eq ⟨h.1, h.2, k⟩
theorem OkR.err {all r : List Rec} (h : OkR all r) (k : ∀ x ∈ all, recE x = 0) (hl : all.length ≤ 30) : recsS r = 0 := by
  rw [recsS_zero]
  exact ⟨Nat.le_trans h.len hl, fun x hx => k x (h.2 x hx)⟩

/-! ### What is kept, what is known -/
def eqX (x y : Rec) : Bool := x.n.toList == y.n.toList && (x.v == y.v && x.b.toList == y.b.toList)
theorem eqX_iff {x y : Rec} : eqX x y = true ↔ x = y := by
  unfold eqX
  rw [Bool.and_eq_true, Bool.and_eq_true, beq_iff_eq, beq_iff_eq, beq_iff_eq]
  constructor
  · rintro ⟨h1, h2, h3⟩
    obtain ⟨n, v, b⟩ := x
    obtain ⟨n', v', b'⟩ := y
    simp only at h1 h2 h3
    rw [bytes_inj h1, h2, bytes_inj h3]
  · rintro rfl; exact ⟨rfl, rfl, rfl⟩
/-- y (of the copy) keeps x. -/
def keepX (x y : Rec) : Bool := (y.n.toList == x.n.toList) && (eqX y x || decide (x.v < y.v) || ((y.v == x.v) && decide (x.b.toList < y.b.toList)))
def keptTo (L : List Rec) (x : Rec) (j : Nat) : Bool := (L.take j).any fun y => keepX x y
theorem keptTo_step {L : List Rec} {x y : Rec} {j : Nat} (h : L[j]? = some y) : keptTo L x (j + 1) = (keptTo L x j || keepX x y) := by
  unfold keptTo
  rw [List.take_add_one, h, List.any_append]
  simp
theorem keptTo_end {L all : List Rec} {x : Rec} {k : Nat} (h : Has L all) (hx : x ∈ all) (hk : L.length = k) : keptTo L x k = true := by
  obtain ⟨y, hy, hn, hg⟩ := h x hx
  unfold keptTo
  rw [List.take_of_length_le (by omega), List.any_eq_true]
  refine ⟨y, hy, ?_⟩
  unfold keepX
  rw [Bool.and_eq_true, beq_iff_eq, Bool.or_eq_true, Bool.or_eq_true, Bool.and_eq_true, decide_eq_true_iff, decide_eq_true_iff, beq_iff_eq]
  refine ⟨hn, ?_⟩
  rcases hg with hg | ⟨hv, hb⟩
  · exact .inl (.inr hg)
  · by_cases q : x.b.toList < y.b.toList
    · exact .inr ⟨hv.symm, q⟩
    · refine .inl (.inl ?_)
      unfold eqX
      rw [Bool.and_eq_true, Bool.and_eq_true, beq_iff_eq, beq_iff_eq, beq_iff_eq]
      exact ⟨hn, hv.symm, List.le_antisymm (List.not_lt.1 q) (List.not_lt.1 hb)⟩
def knownTo (all : List Rec) (y : Rec) (j : Nat) : Bool := (all.take j).any fun x => eqX x y
theorem knownTo_step {all : List Rec} {x y : Rec} {j : Nat} (h : all[j]? = some x) : knownTo all y (j + 1) = (knownTo all y j || eqX x y) := by
  unfold knownTo
  rw [List.take_add_one, h, List.any_append]
  simp
theorem knownTo_end {all : List Rec} {y : Rec} {k : Nat} (hy : y ∈ all) (hk : all.length = k) : knownTo all y k = true := by
  unfold knownTo
  rw [List.take_of_length_le (by omega), List.any_eq_true]
  exact ⟨y, hy, eqX_iff.2 rfl⟩

/-! ### The copies, round by round -/
/-- The copies rs of what was cs; all: what there is. -/
structure Now (all : List Rec) (cs rs : List (List Rec)) : Prop where
  len : rs.length = cs.length
  ok : ∀ r ∈ rs, OkR all r
  has : ∀ (j : Nat) (r c : List Rec), rs[j]? = some r → cs[j]? = some c → Has r c
theorem Now.set {all : List Rec} {cs rs : List (List Rec)} {a b : Nat} {r q : List Rec} (h : Now all cs rs) (ha : rs[a]? = some r) (hb : rs[b]? = some q) : Now all cs (rs.set a (mergeR (r ++ q))) := by
  refine ⟨by rw [List.length_set]; exact h.len, fun x hx => ?_, fun j x c hx hc => ?_⟩
  · rcases List.mem_or_eq_of_mem_set hx with e | e
    · exact h.ok x e
    · rw [e]; exact OkR.merge (h.ok r (List.mem_of_getElem? ha)).2 (h.ok q (List.mem_of_getElem? hb)).2
  · rw [List.getElem?_set] at hx
    split at hx
    · rename_i e
      subst e
      split at hx
      · injection hx with hx; subst hx; exact (Has.left r q).trans (h.has _ r c ha hc)
      · cases hx
    · exact h.has j x c hx hc
/-- The first i copies are in the first one. -/
def Gath (cs rs : List (List Rec)) (i : Nat) : Prop := ∀ (j : Nat) (r c : List Rec), j < i → rs[0]? = some r → cs[j]? = some c → Has r c
theorem Gath.zero (cs rs : List (List Rec)) : Gath cs rs 0 := fun j r c h => absurd h (by omega)
theorem Gath.step {all : List Rec} {cs rs : List (List Rec)} {i : Nat} {r q : List Rec} (h : Gath cs rs i) (hn : Now all cs rs) (ha : rs[0]? = some r) (hb : rs[i]? = some q) : Gath cs (rs.set 0 (mergeR (r ++ q))) (i + 1) := by
  intro j x c hj hx hc
  rw [List.getElem?_set] at hx
  have h0 := (List.getElem?_eq_some_iff.1 ha).1
  rw [if_pos rfl, if_pos h0] at hx
  injection hx with hx
  subst hx
  rcases Nat.lt_or_ge j i with q1 | q1
  · exact (Has.left r q).trans (h j r c q1 ha hc)
  · obtain rfl : j = i := by omega
    exact (Has.right r q).trans (hn.has j q c hb hc)
theorem Gath.all {cs rs : List (List Rec)} {n : Nat} {r : List Rec} (h : Gath cs rs n) (hn : cs.length = n) (ha : rs[0]? = some r) : Has r cs.flatten := by
  intro y hy
  obtain ⟨c, hc, hy⟩ := List.mem_flatten.1 hy
  obtain ⟨j, hj, rfl⟩ := List.getElem_of_mem hc
  exact h j r cs[j] (by omega) ha (List.getElem?_eq_getElem hj) y hy
/-- The first i copies are what is left of all. -/
def Done (L : List Rec) (rs : List (List Rec)) (i : Nat) : Prop := rs[0]? = some L ∧ ∀ (j : Nat) (r : List Rec), j < i → rs[j]? = some r → r = L
theorem Done.start {cs rs : List (List Rec)} {n : Nat} {r : List Rec} (h : Gath cs rs n) (hn : cs.length = n) (hw : Now cs.flatten cs rs) (ha : rs[0]? = some r) : Done (mergeR cs.flatten) rs 0 := by
  have e := (hw.ok r (List.mem_of_getElem? ha)).eq (h.all hn ha)
  exact ⟨by rw [ha, e], fun j r h => absurd h (by omega)⟩
theorem Done.step {all : List Rec} {cs rs : List (List Rec)} {i : Nat} {r : List Rec} (h : Done (mergeR all) rs i) (hw : Now all cs rs) (ha : rs[i]? = some r) :
    mergeR (r ++ mergeR all) = mergeR all ∧ Done (mergeR all) (rs.set i (mergeR all)) (i + 1) := by
  have hk := hw.ok r (List.mem_of_getElem? ha)
  have e : mergeR (r ++ mergeR all) = mergeR all := by
    refine OkR.eq (OkR.merge hk.2 fun x hx => (merge_mergeR all).sub x hx) ?_
    exact (Has.right _ _).trans (Has.merge all)
  have hi := (List.getElem?_eq_some_iff.1 ha).1
  refine ⟨e, ?_, fun j x hj hx => ?_⟩
  · rw [List.getElem?_set]
    split
    · rfl
    · exact h.1
  · rw [List.getElem?_set] at hx
    split at hx
    · injection hx with hx
      exact hx.symm
    · exact h.2 j x (by omega) hx
end Go.Sky
