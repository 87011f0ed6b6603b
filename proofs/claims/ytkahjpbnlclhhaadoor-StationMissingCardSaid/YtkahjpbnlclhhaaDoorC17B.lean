/- Plain functions of chapter 9 (plans): groups, the order of lists, plans that are right. No program. -/

import Derived.Test.YtkahjpbnlclhhaaDoorC17A

namespace Go.Sky

/-- The order of two lists: below, alike, above. -/
def cmpI (a b : Int) : Int := if a < b then -1 else if b < a then 1 else 0
def lexC : List Int → List Int → Int
  | [], [] => 0
  | [], _ :: _ => -1
  | _ :: _, [] => 1
  | a :: l, b :: m => if cmpI a b = 0 then lexC l m else cmpI a b
theorem lexC_drop {xs ys : List Int} {k : Nat} {a b : Int} (h1 : xs[k]? = some a) (h2 : ys[k]? = some b) : lexC (xs.drop k) (ys.drop k) = if cmpI a b = 0 then lexC (xs.drop (k + 1)) (ys.drop (k + 1)) else cmpI a b := by
  obtain ⟨hk, rfl⟩ := List.getElem?_eq_some_iff.1 h1
  obtain ⟨hk2, rfl⟩ := List.getElem?_eq_some_iff.1 h2
  rw [List.drop_eq_getElem_cons hk, List.drop_eq_getElem_cons hk2, lexC]
theorem lexC_end {xs ys : List Int} {k : Nat} (h : xs.length ≤ k) : lexC (xs.drop k) (ys.drop k) = if k < ys.length then -1 else 0 := by
  rw [List.drop_of_length_le h]
  by_cases hk : k < ys.length
  · rw [if_pos hk, List.drop_eq_getElem_cons hk]; rfl
  · rw [if_neg hk, List.drop_of_length_le (by omega)]; rfl
theorem lexC_over {xs ys : List Int} {k : Nat} (h : k < xs.length) (h2 : ys.length ≤ k) : lexC (xs.drop k) (ys.drop k) = 1 := by
  rw [List.drop_of_length_le h2, List.drop_eq_getElem_cons h]; rfl

/-! ### Groups -/
def distB (ms : List Nat) (a b : Int) : Bool := (ms.getD a.toNat 0).testBit b.toNat
def memTo (set : Nat) : Nat → List Int
  | 0 => []
  | i + 1 => if set.testBit i then memTo set i ++ [(i : Int)] else memTo set i
def grpTo (ms : List Nat) (set : Nat) : Nat → Option (List Int)
  | 0 => some []
  | i + 1 => match grpTo ms set i with
    | none => none
    | some out => if set.testBit i then (if out.any (fun o => !distB ms o (i : Int)) then none else some (out ++ [(i : Int)])) else some out
def better (l b : List Int) : Bool := decide (b.length < l.length) || (decide (l.length = b.length) && decide (lexC l b < 0))
def grpS (ms : List Nat) (set s : Nat) : List Int := (grpTo ms set s).getD []
def bestTo (ms : List Nat) (s : Nat) : Nat → List Int
  | 0 => []
  | N + 1 => if better (grpS ms N s) (bestTo ms s N) then grpS ms N s else bestTo ms s N
/-- No two of the first i do not disturb each other. -/
def cliqTo (ms : List Nat) (l : List Int) : Nat → Bool
  | 0 => true
  | i + 1 => cliqTo ms l i && (l.take i).all (fun o => distB ms o (l.getD i 0))
def cliqRow (ms : List Nat) (l : List Int) (x : Int) (k : Nat) : Bool := (l.take k).all (fun o => distB ms o x)

theorem memTo_len (set : Nat) : ∀ i, (memTo set i).length ≤ i
  | 0 => by simp [memTo]
  | i + 1 => by
    have := memTo_len set i
    simp only [memTo]
    split
    · simp; omega
    · omega
theorem memTo_lt (set : Nat) : ∀ i, ∀ x ∈ memTo set i, 0 ≤ x ∧ x < (i : Int)
  | 0 => by simp [memTo]
  | i + 1 => by
    intro x hx
    simp only [memTo] at hx
    have ih := memTo_lt set i
    split at hx
    · rcases List.mem_append.1 hx with h | h
      · have := ih x h; omega
      · rw [List.mem_singleton] at h; omega
    · have := ih x hx; omega
theorem cliqTo_app (ms : List Nat) (l r : List Int) : ∀ i, i ≤ l.length → cliqTo ms (l ++ r) i = cliqTo ms l i
  | 0, _ => rfl
  | i + 1, h => by
    simp only [cliqTo]
    rw [cliqTo_app ms l r i (by omega), List.take_append_of_le_length (by omega)]
    congr 2
    funext o
    congr 1
    rw [List.getD_eq_getElem?_getD, List.getD_eq_getElem?_getD, List.getElem?_append_left (by omega)]
theorem mem_yes {set i : Nat} (h : set.testBit i = true) : memTo set (i + 1) = memTo set i ++ [(i : Int)] := by simp only [memTo]; rw [if_pos h]
theorem mem_no {set i : Nat} (h : set.testBit i = false) : memTo set (i + 1) = memTo set i := by simp only [memTo]; rw [if_neg (by rw [h]; decide)]
theorem cliq_snoc (ms : List Nat) (l : List Int) (x : Int) : cliqTo ms (l ++ [x]) (l ++ [x]).length = (cliqTo ms l l.length && l.all (fun o => distB ms o x)) := by
  rw [List.length_append, List.length_singleton]
  simp only [cliqTo]
  rw [cliqTo_app ms _ _ _ (Nat.le_refl _), List.take_append_of_le_length (Nat.le_refl _), List.take_length, List.getD_eq_getElem?_getD, List.getElem?_append_right (Nat.le_refl _), Nat.sub_self]
  rfl
theorem all_any (ms : List Nat) (l : List Int) (x : Int) : (l.any fun o => !distB ms o x) = !(l.all fun o => distB ms o x) := by
  induction l with
  | nil => rfl
  | cons a l ih => rw [List.any_cons, List.all_cons, ih, Bool.not_and]
theorem grp_yes {ms : List Nat} {set i : Nat} {out : List Int} (h : set.testBit i = true) (hg : grpTo ms set i = some out) : grpTo ms set (i + 1) = if out.any (fun o => !distB ms o (i : Int)) = true then none else some (out ++ [(i : Int)]) := by
  simp only [grpTo]
  rw [hg]
  dsimp only
  rw [if_pos h]
theorem grp_no {ms : List Nat} {set i : Nat} {out : List Int} (h : set.testBit i = false) (hg : grpTo ms set i = some out) : grpTo ms set (i + 1) = some out := by
  simp only [grpTo]
  rw [hg]
  dsimp only
  rw [if_neg (by rw [h]; decide)]
theorem grp_none {ms : List Nat} {set i : Nat} (hg : grpTo ms set i = none) : grpTo ms set (i + 1) = none := by
  simp only [grpTo]
  rw [hg]
/-- The group of a set is its members, if they are one. -/
theorem grp_mem (ms : List Nat) (set : Nat) : ∀ i, (cliqTo ms (memTo set i) (memTo set i).length = true ∧ grpTo ms set i = some (memTo set i)) ∨ (cliqTo ms (memTo set i) (memTo set i).length = false ∧ grpTo ms set i = none)
  | 0 => .inl ⟨rfl, rfl⟩
  | i + 1 => by
    by_cases hb : set.testBit i = true
    · rw [mem_yes hb, cliq_snoc]
      rcases grp_mem ms set i with ⟨h1, h2⟩ | ⟨h1, h2⟩
      · rw [grp_yes hb h2, h1, Bool.true_and, all_any]
        cases hq : (memTo set i).all fun o => distB ms o (i : Int)
        · exact .inr ⟨rfl, rfl⟩
        · exact .inl ⟨rfl, rfl⟩
      · rw [grp_none h2, h1]
        exact .inr ⟨rfl, rfl⟩
    · rw [Bool.not_eq_true] at hb
      rw [mem_no hb]
      rcases grp_mem ms set i with ⟨h1, h2⟩ | ⟨h1, h2⟩
      · exact .inl ⟨h1, grp_no hb h2⟩
      · exact .inr ⟨h1, grp_none h2⟩
theorem better_nil (b : List Int) : better [] b = false := by
  unfold better
  cases b with
  | nil => simp [lexC]
  | cons a l => simp
theorem best_succ (ms : List Nat) (s N : Nat) : bestTo ms s (N + 1) = if better (grpS ms N s) (bestTo ms s N) = true then grpS ms N s else bestTo ms s N := rfl
/-- The reference's round: the members, if they are a group and better. -/
theorem best_ref (ms : List Nat) (s N : Nat) : bestTo ms s (N + 1) = if (cliqTo ms (memTo N s) (memTo N s).length && better (memTo N s) (bestTo ms s N)) = true then memTo N s else bestTo ms s N := by
  rw [best_succ]
  rcases grp_mem ms N s with ⟨h1, h2⟩ | ⟨h1, h2⟩
  · have h3 : grpS ms N s = memTo N s := by unfold grpS; rw [h2]; rfl
    rw [h3, h1, Bool.true_and]
  · have h3 : grpS ms N s = [] := by unfold grpS; rw [h2]; rfl
    rw [h3, better_nil, h1, Bool.false_and, if_neg (by decide), if_neg (by decide)]
theorem best_one (ms : List Nat) (s : Nat) : bestTo ms s 1 = [] := by
  have h : memTo 0 s = [] := by
    induction s with
    | zero => rfl
    | succ s ih => simp only [memTo]; rw [if_neg (by simp), ih]
  rw [best_ref, h, better_nil, Bool.and_false, if_neg (by decide)]
  rfl
theorem best_from (ms : List Nat) (s : Nat) : ∀ N, bestTo ms s N = [] ∨ ∃ set, bestTo ms s N = memTo set s ∧ cliqTo ms (memTo set s) (memTo set s).length = true
  | 0 => .inl rfl
  | N + 1 => by
    rw [best_ref]
    by_cases h : (cliqTo ms (memTo N s) (memTo N s).length && better (memTo N s) (bestTo ms s N)) = true
    · rw [if_pos h]
      rw [Bool.and_eq_true] at h
      exact .inr ⟨N, rfl, h.1⟩
    · rw [if_neg h]
      exact best_from ms s N
theorem best_len (ms : List Nat) (s N : Nat) : (bestTo ms s N).length ≤ s := by
  rcases best_from ms s N with h | ⟨set, h, _⟩
  · rw [h]; simp
  · rw [h]; exact memTo_len set s

/-! ### The masks say who disturbs whom -/
def meets (p : Int × Int) (a b : Nat) : Bool := (p.1.toNat == a && p.2.toNat == b) || (p.2.toNat == a && p.1.toNat == b)
theorem orAt_bit {ms : List Nat} {x y a b : Nat} (ha : a < ms.length) : ((orAt ms x y).getD a 0).testBit b = ((ms.getD a 0).testBit b || (x == a && y == b)) := by
  unfold orAt
  by_cases h : x = a
  · subst h
    rw [List.getD_eq_getElem?_getD, List.getElem?_set_self ha, Option.getD_some, Nat.testBit_or, Nat.testBit_two_pow]
    simp
    congr 1
  · rw [List.getD_eq_getElem?_getD, List.getElem?_set_ne h, ← List.getD_eq_getElem?_getD]
    have : (x == a) = false := by simpa using h
    rw [this, Bool.false_and, Bool.or_false]
theorem fold_bit : ∀ (ps : List (Int × Int)) (ms : List Nat) (a b : Nat), a < ms.length → ((ps.foldl maskStep ms).getD a 0).testBit b = ((ms.getD a 0).testBit b || ps.any (meets · a b))
  | [], ms, a, b, _ => by simp
  | p :: ps, ms, a, b, ha => by
    rw [List.foldl_cons, fold_bit ps (maskStep ms p) a b (by unfold maskStep; rw [orAt_len, orAt_len]; exact ha)]
    unfold maskStep
    rw [orAt_bit (by rw [orAt_len]; exact ha), orAt_bit ha, List.any_cons]
    unfold meets
    simp only [Bool.or_assoc]
theorem mask_len (s : Nat) (ps : List (Int × Int)) : (maskS s ps).length = s := by
  unfold maskS
  suffices h : ∀ (ps : List (Int × Int)) (ms : List Nat), (ps.foldl maskStep ms).length = ms.length by rw [h]; simp
  intro ps
  induction ps with
  | nil => intro ms; rfl
  | cons p ps ih => intro ms; rw [List.foldl_cons, ih]; unfold maskStep; rw [orAt_len, orAt_len]
/-- Of a valid net: two stations disturb each other if their pair is one of the net's. -/
theorem dist_pairs {st : Int} {ps : List (Int × Int)} (h : (netS st ps).2 = 0) {a b : Int} (ha : 0 ≤ a ∧ a < st) (hb : 0 ≤ b ∧ b < st) : distB (maskS st.toNat ps) a b = ps.any (fun q => sameP q (min a b, max a b)) := by
  obtain ⟨_, _, _, hp⟩ := netS_zero h
  unfold distB maskS
  rw [fold_bit _ _ _ _ (by simp; omega)]
  rw [List.getD_eq_getElem?_getD, List.getElem?_replicate, if_pos (by omega), Option.getD_some, Nat.zero_testBit, Bool.false_or]
  rw [Bool.eq_iff_iff, List.any_eq_true, List.any_eq_true]
  constructor
  · rintro ⟨q, hq, hm⟩
    refine ⟨q, hq, ?_⟩
    have := hp q hq
    unfold meets at hm
    unfold sameP
    simp only [Bool.or_eq_true, Bool.and_eq_true, beq_iff_eq] at hm ⊢
    omega
  · rintro ⟨q, hq, hm⟩
    refine ⟨q, hq, ?_⟩
    have := hp q hq
    unfold sameP at hm
    unfold meets
    simp only [Bool.or_eq_true, Bool.and_eq_true, beq_iff_eq] at hm ⊢
    omega
theorem dist_sym {st : Int} {ps : List (Int × Int)} (h : (netS st ps).2 = 0) {a b : Int} (ha : 0 ≤ a ∧ a < st) (hb : 0 ≤ b ∧ b < st) : distB (maskS st.toNat ps) a b = distB (maskS st.toNat ps) b a := by
  rw [dist_pairs h ha hb, dist_pairs h hb ha, Int.min_comm, Int.max_comm]

/-! ### Plans that are right -/
/-- No two of the slots clash. -/
def okPlan (ms : List Nat) (cnt : Nat) (r : List Int) : Prop := (∀ x ∈ r, 0 ≤ x ∧ x < (cnt : Int)) ∧ ∀ i j, i < j → j < r.length → (ms.getD i 0).testBit j = true → r.getD i 0 ≠ r.getD j 0
theorem freeTo_ok {ms : List Nat} {slots : List Int} {c : Int} : ∀ {j : Nat}, freeTo ms slots c j = true → ∀ i, i < j → (ms.getD i 0).testBit slots.length = true → slots.getD i 0 ≠ c
  | 0, _, i, hi, _ => absurd hi (by omega)
  | j + 1, h, i, hi, hb => by
    simp only [freeTo, Bool.and_eq_true, Bool.not_eq_true', Bool.and_eq_false_iff] at h
    by_cases hij : i < j
    · exact freeTo_ok h.1 i hij hb
    · obtain rfl : i = j := by omega
      rcases h.2 with h2 | h2
      · simpa using h2
      · rw [hb] at h2; cases h2
theorem planF_ok {ms : List Nat} {cnt : Nat} : ∀ (f : Nat) (slots r : List Int), okPlan ms cnt slots → planF ms cnt f slots = some r → okPlan ms cnt r := by
  intro f
  induction f with
  | zero => intro slots r h hp; injection hp with hp; subst hp; exact h
  | succ f ih =>
    intro slots r h hp
    rw [planF_succ] at hp
    obtain ⟨l1, c, l2, hl, hc, _⟩ := List.findSome?_eq_some_iff.1 hp
    have hcn : c < cnt := List.mem_range.1 (by rw [hl]; simp)
    unfold candS at hc
    split at hc
    · rename_i hfree
      refine ih _ _ ⟨fun x hx => ?_, fun i j hij hj hb => ?_⟩ hc
      · rcases List.mem_append.1 hx with hx | hx
        · exact h.1 x hx
        · rw [List.mem_singleton] at hx; omega
      · rw [List.length_append, List.length_singleton] at hj
        by_cases hjl : j < slots.length
        · rw [List.getD_eq_getElem?_getD, List.getD_eq_getElem?_getD, List.getElem?_append_left (by omega), List.getElem?_append_left hjl, ← List.getD_eq_getElem?_getD, ← List.getD_eq_getElem?_getD]
          exact h.2 i j hij hjl hb
        · obtain rfl : j = slots.length := by omega
          rw [List.getD_eq_getElem?_getD, List.getD_eq_getElem?_getD, List.getElem?_append_left (by omega), List.getElem?_append_right (Nat.le_refl _), Nat.sub_self, ← List.getD_eq_getElem?_getD]
          exact freeTo_ok hfree i hij hb
    · cases hc
theorem planF_right {ms : List Nat} {cnt s : Nat} {r : List Int} (h : planF ms cnt s [] = some r) : okPlan ms cnt r ∧ r.length = s := by
  refine ⟨planF_ok s [] r ⟨by simp, fun i j _ hj => absurd hj (by simp)⟩ h, ?_⟩
  have := planF_len s [] r h
  simpa using this

/-! ### As many slots as the group has stations -/
theorem pigeon : ∀ (k : Nat) (l : List Nat), l.Nodup → (∀ x ∈ l, x < k) → l.length ≤ k
  | 0, l, _, h => by
    cases l with
    | nil => simp
    | cons a l => exact absurd (h a (by simp)) (by omega)
  | k + 1, l, hn, h => by
    by_cases hk : k ∈ l
    · have h1 := pigeon k (l.erase k) (hn.erase k) (fun x hx => by
        have h2 := h x (List.mem_of_mem_erase hx)
        have h3 : x ≠ k := fun e => by subst e; exact (List.Nodup.not_mem_erase hn) hx
        omega)
      rw [List.length_erase_of_mem hk] at h1
      omega
    · have h1 := pigeon k l hn (fun x hx => by
        have h2 := h x hx
        have h3 : x ≠ k := fun e => hk (e ▸ hx)
        omega)
      omega
theorem memTo_sorted (set : Nat) : ∀ i, (memTo set i).Pairwise (· < ·)
  | 0 => by simp [memTo]
  | i + 1 => by
    simp only [memTo]
    have ih := memTo_sorted set i
    split
    · rw [List.pairwise_append]
      exact ⟨ih, by simp, fun a ha b hb => by rw [List.mem_singleton] at hb; have := memTo_lt set i a ha; omega⟩
    · exact ih
theorem cliq_pair {ms : List Nat} {l : List Int} : ∀ {i : Nat}, i ≤ l.length → cliqTo ms l i = true → ∀ a b, a < b → b < i → distB ms (l.getD a 0) (l.getD b 0) = true
  | 0, _, _, a, b, _, hb => absurd hb (by omega)
  | i + 1, hi, h, a, b, hab, hb => by
    simp only [cliqTo, Bool.and_eq_true] at h
    by_cases hbi : b < i
    · exact cliq_pair (by omega) h.1 a b hab hbi
    · obtain rfl : b = i := by omega
      have h2 := h.2
      rw [List.all_eq_true] at h2
      refine h2 _ ?_
      rw [List.getD_eq_getElem?_getD, List.getElem?_eq_getElem (by omega), Option.getD_some]
      exact List.mem_take_iff_getElem.2 ⟨a, by omega, rfl⟩
theorem group_le {ms : List Nat} {s cnt set : Nat} {r : List Int} (hr : okPlan ms cnt r) (hl : r.length = s) (hc : cliqTo ms (memTo set s) (memTo set s).length = true) : (memTo set s).length ≤ cnt := by
  have hs := memTo_sorted set s
  have hm := memTo_lt set s
  have hp := cliq_pair (Nat.le_refl _) hc
  generalize memTo set s = l at *
  have key : ((l.map fun x => (r.getD x.toNat 0).toNat)).length ≤ cnt := by
    refine pigeon cnt _ ?_ ?_
    · rw [List.Nodup, List.pairwise_iff_getElem]
      intro i j hi hj hij
      rw [List.length_map] at hi hj
      rw [List.getElem_map, List.getElem_map]
      rw [List.pairwise_iff_getElem] at hs
      have h1 := hs i j hi hj hij
      have h2 := hp i j hij hj
      rw [List.getD_eq_getElem?_getD, List.getElem?_eq_getElem hi, List.getD_eq_getElem?_getD, List.getElem?_eq_getElem hj] at h2
      simp only [Option.getD_some] at h2
      have ha := hm l[i] (List.getElem_mem hi)
      have hb := hm l[j] (List.getElem_mem hj)
      have h3 := hr.2 l[i].toNat l[j].toNat (by omega) (by omega) h2
      have e1 : ∀ x : Nat, x < s → 0 ≤ r.getD x 0 := fun x hx => by
        rw [List.getD_eq_getElem?_getD, List.getElem?_eq_getElem (by omega)]
        exact (hr.1 _ (List.getElem_mem _)).1
      have := e1 l[i].toNat (by omega)
      have := e1 l[j].toNat (by omega)
      omega
    · intro x hx
      obtain ⟨y, hy, rfl⟩ := List.mem_map.1 hx
      have := hm y hy
      rw [List.getD_eq_getElem?_getD, List.getElem?_eq_getElem (by omega)]
      have h2 := hr.1 _ (List.getElem_mem (l := r) (n := y.toNat) (by omega))
      simp only [Option.getD_some]
      omega
  rwa [List.length_map] at key
theorem best_le {ms : List Nat} {s cnt N : Nat} {r : List Int} (h : planF ms cnt s [] = some r) : (bestTo ms s N).length ≤ cnt := by
  obtain ⟨h1, h2⟩ := planF_right h
  rcases best_from ms s N with hb | ⟨set, hb, hc⟩
  · rw [hb]; simp
  · rw [hb]; exact group_le h1 h2 hc

/-! ### Whether a plan is right -/
def clashP (slots : List Int) (p : Int × Int) : Bool := slots.getD p.1.toNat 0 == slots.getD p.2.toNat 0
def idxZ {α : Type} (p : α → Bool) (xs : List α) : Int := match xs.findIdx? p with | some i => (i : Int) | none => -1
def chkS (st : Int) (ps : List (Int × Int)) (slots : List Int) : Int × Int :=
  if (slots.length : Int) ≠ st then (0, 10) else if 0 ≤ idxZ (fun x => !inR x 0 7) slots then (idxZ (fun x => !inR x 0 7) slots, 2)
  else if 0 ≤ idxZ (clashP slots) ps then (idxZ (clashP slots) ps, 13) else (0, 0)
theorem idxZ_none {α : Type} {p : α → Bool} {xs : List α} (h : ∀ x ∈ xs, p x = false) : idxZ p xs = -1 := by
  unfold idxZ
  rw [List.findIdx?_eq_none_iff.2 h]
theorem chk_ok {st : Int} {ps : List (Int × Int)} (h : (netS st ps).2 = 0) {cnt : Nat} {r : List Int} (hr : planF (maskS st.toNat ps) cnt st.toNat [] = some r) (hc : cnt ≤ 8) : chkS st ps r = (0, 0) := by
  obtain ⟨⟨h1, h2⟩, h3⟩ := planF_right hr
  obtain ⟨n1, n2, _, n3⟩ := netS_zero h
  unfold chkS
  rw [if_neg (by omega), idxZ_none (fun x hx => by have := h1 x hx; simp [inR]; omega), if_neg (by omega), idxZ_none, if_neg (by omega)]
  intro p hp
  have hq := n3 p hp
  have hd : distB (maskS st.toNat ps) p.1 p.2 = true := by
    rw [dist_pairs h (by omega) (by omega), List.any_eq_true]
    refine ⟨p, hp, ?_⟩
    unfold sameP
    rw [Int.min_eq_left (by omega), Int.max_eq_right (by omega)]
    simp
  have := h2 p.1.toNat p.2.toNat (by omega) (by omega) hd
  unfold clashP
  simpa using this
end Go.Sky
