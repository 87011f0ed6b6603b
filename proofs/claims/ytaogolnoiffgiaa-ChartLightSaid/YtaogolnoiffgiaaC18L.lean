/- Stations left out, ratios compared, the worst one; plain Lean.
   The document's grid and its contours; plain Lean.
   The law of light: after four quarters the sun is where it was; what is light is dark two quarters later. Plain Lean. -/
import Derived.BigQuiet
import Derived.Deep.AppendLies
import Derived.Deep.Draws
import Derived.Deep.Quiet
import Derived.Deep.QuietTactic
import Derived.Lib.Hide
import Derived.MapKept
import Derived.Maps.Keyed
import Derived.OrdersIn
import Derived.OwnWalkIn
import Derived.RangeFuncCalls
import Derived.Shelf.RegionOpen
import Derived.StillTail
import Derived.TacticsIn
import Derived.WalkKit
import Derived.Test.YtaogolnoiffgiaaC18K

namespace Go.Sky.Ch
open Go.RowKit Go.Sky

theorem dot_bdM {M : Int} {ws : List Int} {f : Nat → Int} (hw : ∀ j, 0 ≤ ws.getD j 0 ∧ ws.getD j 0 ≤ M) (hf : ∀ j, -10000 ≤ f j ∧ f j ≤ 10000) : ∀ k : Nat, -((k : Int) * (M * 10000)) ≤ dotTo ws f k ∧ dotTo ws f k ≤ (k : Int) * (M * 10000)
  | 0 => by simp [dotTo]
  | k + 1 => by
    have ih := dot_bdM hw hf k
    have h1 := hw k
    have h2 := hf k
    unfold dotTo
    have p1 := mulBd h1.1 h1.2 h2.1 h2.2
    rw [show ((k + 1 : Nat) : Int) = (k : Int) + 1 by omega, Int.add_mul, Int.one_mul]
    omega
theorem pow_bd3 {k : Nat} (h : k ≤ 3) : (1800 : Int) ^ k ≤ 5832000000 := by
  match k, h with
  | 0, _ => decide
  | 1, _ => decide
  | 2, _ => decide
  | 3, _ => decide
theorem wAt_bd4 {l : List Sta} {x y : Int} (hl : ∀ s ∈ l, StOk s) (hp : PlOk x y) (hn : l.length ≤ 4) {i : Nat} (hi : i ≤ 3) : 0 ≤ wAt l x y i ∧ wAt l x y i ≤ 58320000000 := by
  have h1 := prodTo_bd hl hp i l.length
  have h2 := pow_bd3 (k := cntTo i l.length) (by unfold cntTo; split <;> omega)
  unfold wAt
  omega
theorem sumTo_bd4 {l : List Sta} {x y : Int} (hl : ∀ s ∈ l, StOk s) (hp : PlOk x y) (hn : l.length ≤ 4) : ∀ k : Nat, k ≤ 4 → 0 ≤ sumTo l x y k ∧ sumTo l x y k ≤ (k : Int) * 58320000000
  | 0, _ => by simp [sumTo]
  | k + 1, hk => by
    have h1 := sumTo_bd4 hl hp hn k (by omega)
    have h2 := wAt_bd4 hl hp hn (i := k) (by omega)
    unfold sumTo
    rw [show ((k + 1 : Nat) : Int) = (k : Int) + 1 by omega, Int.add_mul]
    omega
theorem wS_bd4 {l : List Sta} {x y : Int} (hl : ∀ s ∈ l, StOk s) (hp : PlOk x y) (hn : l.length ≤ 4) (j : Nat) : 0 ≤ (wS l x y).1.getD j 0 ∧ (wS l x y).1.getD j 0 ≤ 58320000000 := by
  rw [List.getD_eq_getElem?_getD]
  cases h : (wS l x y).1[j]? with
  | none =>
    show (0 : Int) ≤ 0 ∧ (0 : Int) ≤ 58320000000
    omega
  | some v =>
    show 0 ≤ v ∧ v ≤ 58320000000
    unfold wS wOf at h
    split at h
    · rw [List.getElem?_set] at h
      split at h
      · split at h
        · injection h with h; omega
        · cases h
      · rw [List.getElem?_replicate] at h
        split at h
        · injection h with h; omega
        · cases h
    · rw [List.getElem?_map] at h
      cases hr : (List.range l.length)[j]? with
      | none => rw [hr] at h; cases h
      | some i =>
        rw [hr] at h
        injection h with h
        have hi : i < l.length := List.mem_range.1 (List.mem_of_getElem? hr)
        rw [← h]
        exact wAt_bd4 hl hp hn (by omega)
theorem den_bd4 {l : List Sta} {x y : Int} (hl : ∀ s ∈ l, StOk s) (hp : PlOk x y) (h1 : 1 ≤ l.length) (h4 : l.length ≤ 4) : 1 ≤ (wS l x y).2 ∧ (wS l x y).2 ≤ 233280000000 := by
  unfold wS wOf
  split
  · show (1 : Int) ≤ 1 ∧ (1 : Int) ≤ 233280000000
    omega
  · rename_i h
    show 1 ≤ sumTo l x y l.length ∧ sumTo l x y l.length ≤ 233280000000
    have a := sumTo_pos hl h l.length (Nat.le_refl _)
    have b := sumTo_bd4 hl hp h4 l.length h4
    omega
structure Ends4 (e : Ends) : Prop where
  lo : -3000000000000000 ≤ e.lo ∧ e.lo ≤ 3000000000000000
  hi : -3000000000000000 ≤ e.hi ∧ e.hi ≤ 3000000000000000
  den : 1 ≤ e.den ∧ e.den ≤ 233280000000
theorem ends4 {l : List Sta} {x y : Int} (hl : ∀ s ∈ l, StOk s) (hp : PlOk x y) (h1 : 1 ≤ l.length) (h4 : l.length ≤ 4) : Ends4 (endsS l x y) := by
  have hw := fun j => wS_bd4 (x := x) (y := y) hl hp h4 j
  have a := dot_bdM hw (loAt_bd hl) l.length
  have b := dot_bdM hw (hiAt_bd hl) l.length
  have hl5 : (l.length : Int) * (58320000000 * 10000) ≤ 3000000000000000 := by omega
  exact ⟨by show -3000000000000000 ≤ dotTo _ _ _ ∧ dotTo _ _ _ ≤ 3000000000000000; omega, by show -3000000000000000 ≤ dotTo _ _ _ ∧ dotTo _ _ _ ≤ 3000000000000000; omega, den_bd4 hl hp h1 h4⟩

/-- The others, and the error of a station that is left out. -/
def others (l : List Sta) (i : Nat) : List Sta := l.take i ++ l.drop (i + 1)
def leftE (l : List Sta) (i : Nat) : Ends := match l[i]? with
  | some s => ⟨(endsS (others l i) s.x s.y).lo - (endsS (others l i) s.x s.y).den * s.hi, (endsS (others l i) s.x s.y).hi - (endsS (others l i) s.x s.y).den * s.lo, (endsS (others l i) s.x s.y).den⟩
  | none => ⟨0, 0, 1⟩
theorem others_len {l : List Sta} {i : Nat} (h : i < l.length) : (others l i).length = l.length - 1 := by
  unfold others
  rw [List.length_append, List.length_take, List.length_drop]
  omega
theorem others_mem {l : List Sta} {i : Nat} {s : Sta} (h : s ∈ others l i) : s ∈ l := by
  rcases List.mem_append.1 h with h | h
  · exact List.mem_of_mem_take h
  · exact List.mem_of_mem_drop h
structure LeftOk (e : Ends) : Prop where
  lo : -6000000000000000 ≤ e.lo ∧ e.lo ≤ 6000000000000000
  hi : -6000000000000000 ≤ e.hi ∧ e.hi ≤ 6000000000000000
  den : 1 ≤ e.den ∧ e.den ≤ 233280000000
theorem left_ok {l : List Sta} (hl : ∀ s ∈ l, StOk s) (h2 : 2 ≤ l.length) (h5 : l.length ≤ 5) (i : Nat) : LeftOk (leftE l i) := by
  unfold leftE
  cases hs : l[i]? with
  | none => exact ⟨by show (-6000000000000000 : Int) ≤ 0 ∧ (0 : Int) ≤ _; omega, by show (-6000000000000000 : Int) ≤ 0 ∧ (0 : Int) ≤ _; omega, by show (1 : Int) ≤ 1 ∧ (1 : Int) ≤ _; omega⟩
  | some s =>
    have hi := (List.getElem?_eq_some_iff.1 hs).1
    have so := hl s (List.mem_of_getElem? hs)
    have e := ends4 (l := others l i) (x := s.x) (y := s.y) (fun t ht => hl t (others_mem ht)) ⟨so.x, so.y⟩ (by rw [others_len hi]; omega) (by rw [others_len hi]; omega)
    have p1 := mulBd (V := 10000) (by have := e.den; omega) e.den.2 so.lo.1 so.lo.2
    have p2 := mulBd (V := 10000) (by have := e.den; omega) e.den.2 so.hi.1 so.hi.2
    have a1 := e.lo
    have a2 := e.hi
    exact ⟨by show -6000000000000000 ≤ _ - _ ∧ _ - _ ≤ 6000000000000000; omega, by show -6000000000000000 ≤ _ - _ ∧ _ - _ ≤ 6000000000000000; omega, e.den⟩
/-- A ratio is less than another. -/
def lessS (n d m k : Int) : Bool := decide (n * k < m * d)
theorem floor_bd (n : Int) {d : Int} (hd : 0 < d) : floorS n d * d ≤ n ∧ n < floorS n d * d + d := by
  have h1 := Int.lt_tmod_of_pos n hd
  have h2 := Int.tmod_lt_of_pos n hd
  have h3 := Int.mul_tdiv_add_tmod n d
  rw [Int.mul_comm] at h3
  unfold floorS
  split
  · rw [Int.sub_mul, Int.one_mul]; omega
  · omega
theorem less_ne {n d m k : Int} (hd : 0 < d) (hk : 0 < k) (h : floorS n d ≠ floorS m k) : lessS n d m k = decide (floorS n d < floorS m k) := by
  have f1 := floor_bd n hd
  have f2 := floor_bd m hk
  generalize floorS n d = a at *
  generalize floorS m k = b at *
  have key : ∀ {a b n d m k : Int}, 0 < d → 0 < k → n < a * d + d → b * k ≤ m → a < b → n * k < m * d := by
    intro a b n d m k hd hk h1 h2 hab
    have t1 : a * d + d ≤ b * d := by
      have := Int.mul_le_mul_of_nonneg_right (show a + 1 ≤ b by omega) (show 0 ≤ d by omega)
      rw [Int.add_mul, Int.one_mul] at this
      exact this
    have t2 : n * k < b * d * k := Int.mul_lt_mul_of_pos_right (by omega) hk
    have t3 : b * k * d ≤ m * d := Int.mul_le_mul_of_nonneg_right h2 (by omega)
    have t4 : b * d * k = b * k * d := by rw [Int.mul_assoc, Int.mul_comm d k, ← Int.mul_assoc]
    omega
  unfold lessS
  rcases Int.lt_trichotomy a b with h2 | h2 | h2
  · rw [decide_eq_true h2, decide_eq_true (key hd hk f1.2 f2.1 h2)]
  · exact absurd h2 h
  · have := key hk hd f2.2 f1.1 h2
    rw [decide_eq_false (by omega), decide_eq_false (by omega)]
theorem less_same {n d m k : Int} (a : Int) : lessS n d m k = lessS (n - a * d) d (m - a * k) k := by
  unfold lessS
  rw [Int.sub_mul, Int.sub_mul, show a * k * d = a * d * k by rw [Int.mul_assoc, Int.mul_comm k d, ← Int.mul_assoc]]
  by_cases h : n * k < m * d
  · rw [decide_eq_true h, decide_eq_true (by omega)]
  · rw [decide_eq_false h, decide_eq_false (by omega)]
theorem less_zero {d m k : Int} (hd : 0 < d) : lessS 0 d m k = decide (0 < m) := by
  unfold lessS
  rw [Int.zero_mul]
  by_cases h : 0 < m
  · rw [decide_eq_true h, decide_eq_true (Int.mul_pos h hd)]
  · rw [decide_eq_false h, decide_eq_false]
    have := Int.mul_le_mul_of_nonneg_right (show m ≤ 0 by omega) (show 0 ≤ d by omega)
    omega
theorem less_pos {n d k : Int} (hn : 0 ≤ n) (hk : 0 < k) : lessS n d 0 k = false := by
  unfold lessS
  rw [Int.zero_mul]
  exact decide_eq_false (by have := Int.mul_nonneg hn (show 0 ≤ k by omega); omega)
theorem less_flip (n d m k : Int) : lessS n d m k = lessS k m d n := by
  unfold lessS
  rw [Int.mul_comm n k, Int.mul_comm m d]
def farS (e : Ends) : Int × Int := if 0 < e.lo then (e.lo, e.den) else if e.hi < 0 then (-e.hi, e.den) else (0, 1)
def worstTo (l : List Sta) : Nat → Nat × (Int × Int)
  | 0 => (0, (0, 1))
  | k + 1 => if lessS (worstTo l k).2.1 (worstTo l k).2.2 (farS (leftE l k)).1 (farS (leftE l k)).2 = true then (k, farS (leftE l k)) else worstTo l k
def nameAt (l : List Sta) (i : Nat) : ByteArray := match l[i]? with
  | some s => s.n
  | none => .empty
def sevE (l : List Sta) : Int := firstE [(ckS l).2, errU (decide (1 < l.length)) 10]
def worstS (l : List Sta) : ByteArray × Int := if sevE l = 0 then (nameAt l (worstTo l l.length).1, 0) else (.empty, sevE l)
theorem sev_ok {l : List Sta} (h : sevE l = 0) : (ckS l).2 = 0 ∧ 2 ≤ l.length := by
  have hz := firstE_zero h
  have := errU_nil (by decide) (hz (errU (decide (1 < l.length)) 10) (by simp))
  exact ⟨hz _ (by simp), of_decide_eq_true this⟩
theorem far_ok {e : Ends} (h : LeftOk e) : 0 ≤ (farS e).1 ∧ (farS e).1 ≤ 6000000000000000 ∧ 1 ≤ (farS e).2 ∧ (farS e).2 ≤ 233280000000 := by
  have h1 := h.lo
  have h2 := h.hi
  have h3 := h.den
  unfold farS
  split
  · show 0 ≤ e.lo ∧ e.lo ≤ 6000000000000000 ∧ 1 ≤ e.den ∧ e.den ≤ 233280000000; omega
  · split
    · show 0 ≤ -e.hi ∧ -e.hi ≤ 6000000000000000 ∧ 1 ≤ e.den ∧ e.den ≤ 233280000000; omega
    · show (0 : Int) ≤ 0 ∧ (0 : Int) ≤ 6000000000000000 ∧ (1 : Int) ≤ 1 ∧ (1 : Int) ≤ 233280000000; omega
theorem worst_lt (l : List Sta) : ∀ k, (worstTo l k).1 ≤ k - 1
  | 0 => Nat.le_refl _
  | k + 1 => by
    have := worst_lt l k
    unfold worstTo
    split
    · show k ≤ k + 1 - 1; omega
    · omega
theorem worst_ok {l : List Sta} (hl : ∀ s ∈ l, StOk s) (h2 : 2 ≤ l.length) (h5 : l.length ≤ 5) : ∀ k, 0 ≤ (worstTo l k).2.1 ∧ (worstTo l k).2.1 ≤ 6000000000000000 ∧ 1 ≤ (worstTo l k).2.2 ∧ (worstTo l k).2.2 ≤ 233280000000
  | 0 => by unfold worstTo; show (0 : Int) ≤ 0 ∧ (0 : Int) ≤ 6000000000000000 ∧ (1 : Int) ≤ 1 ∧ (1 : Int) ≤ 233280000000; omega
  | k + 1 => by
    unfold worstTo
    split
    · exact far_ok (left_ok hl h2 h5 k)
    · exact worst_ok hl h2 h5 k
end Go.Sky.Ch

namespace Go.Sky.Ch
open Go.RowKit Go.Sky

instance (a b : Sd) : Decidable (LtSd a b) := by unfold LtSd; infer_instance
theorem sd_unique : ∀ (xs ys : List Sd), xs.Perm ys → xs.Pairwise (fun a b => ¬ LtSd b a) → ys.Pairwise (fun a b => ¬ LtSd b a) → xs = ys
  | [], ys, h, _, _ => h.nil_eq
  | x :: xs, [], h, _, _ => by have := h.length_eq; simp at this
  | x :: xs, y :: ys, h, hx, hy => by
    rw [List.pairwise_cons] at hx hy
    have e : x = y := by
      have h1 : x ∈ y :: ys := h.mem_iff.1 (List.mem_cons_self ..)
      have h2 : y ∈ x :: xs := h.mem_iff.2 (List.mem_cons_self ..)
      rcases List.mem_cons.1 h1 with h1 | h1
      · exact h1
      · rcases List.mem_cons.1 h2 with h2 | h2
        · exact h2.symm
        · exact (LtSd.total (hy.1 x h1) (hx.1 y h2))
    subst e
    rw [sd_unique xs ys h.cons_inv hx.2 hy.2]
def gridD : List (List Int) := [[5, 5, 5], [5, 0, 5], [5, 5, 5]]
def sidesD : List Sd := [⟨0, 0, 0⟩, ⟨1, 0, 0⟩, ⟨2, 0, 0⟩, ⟨3, 0, 1⟩, ⟨0, 1, 3⟩, ⟨1, 1, 1⟩, ⟨2, 1, 2⟩, ⟨3, 1, 1⟩, ⟨0, 2, 3⟩, ⟨1, 2, 0⟩, ⟨2, 2, 3⟩, ⟨3, 2, 1⟩, ⟨0, 3, 3⟩, ⟨1, 3, 2⟩, ⟨2, 3, 2⟩, ⟨3, 3, 2⟩]
theorem sidesD_perm : sidesD.Perm (allSides (regS gridD 3) 3) := by decide
theorem sidesD_sorted : sidesD.Pairwise (fun a b => ¬ LtSd b a) := by decide
theorem sidesD_is {ys : List Sd} (h1 : ys.Perm (allSides (regS gridD 3) 3)) (h2 : ys.Pairwise fun a b => ¬ LtSd b a) : ys = sidesD :=
  sd_unique _ _ (h1.trans sidesD_perm.symm) h2 sidesD_sorted
def contD0 : List Pl := [(0, 0), (1, 0), (2, 0), (3, 0), (3, 1), (3, 2), (3, 3), (2, 3), (1, 3), (0, 3), (0, 2), (0, 1)]
def contD1 : List Pl := [(1, 1), (1, 2), (2, 2), (2, 1)]
theorem contD : contS sidesD sidesD = [contD0, contD1] := by decide
theorem contD1_ok : (conS contD1).2 = 0 := by decide
theorem contD1_area : areaS contD1 = -1 := by decide
theorem gridD_open : openE gridD 3 = 0 := by decide
theorem awake_lit : litE ⟨100, 0, 10⟩ ⟨50, 80, 0⟩ 1000 = 0 ∧ litS ⟨100, 0, 10⟩ ⟨50, 80, 0⟩ 1000 = 2 := by decide
end Go.Sky.Ch

namespace Go.Sky.Ch
open Go.RowKit Go.Sky

theorem sizedI_neg (x m : Int) : sizedI (-x) m = sizedI x m := by
  unfold sizedI inR
  exact decide_eq_decide.2 ⟨fun h => by omega, fun h => by omega⟩
theorem beq_neg0 (x : Int) : (-x == 0) = (x == 0) := by
  by_cases h : x = 0
  · subst h; rfl
  · rw [beq_eq_false_iff_ne.2 h, beq_eq_false_iff_ne.2 (by omega)]
theorem vecE_quarter (v : Ve) : vecE (quarterV v) = vecE v := by
  obtain ⟨x, y, z⟩ := v
  unfold vecE quarterV nzV
  dsimp only
  rw [sizedI_neg, beq_neg0]
  rw [show (sizedI y 1000 && sizedI x 1000 && sizedI z 1000) = (sizedI x 1000 && sizedI y 1000 && sizedI z 1000) by cases sizedI x 1000 <;> cases sizedI y 1000 <;> rfl]
  rw [show (y == 0 && (x == 0 && z == 0)) = (x == 0 && (y == 0 && z == 0)) by cases (x == 0) <;> cases (y == 0) <;> cases (z == 0) <;> rfl]
theorem vecE_sun (v : Ve) : ∀ n, vecE (sunS v n) = vecE v
  | 0 => rfl
  | n + 1 => by show vecE (quarterV (sunS v n)) = _; rw [vecE_quarter, vecE_sun v n]
theorem half_of (v : Ve) (q : Int) (_h : 0 ≤ q) :
    (sunS v ((q + 2) % 4).toNat).x = -(sunS v (q % 4).toNat).x ∧ (sunS v ((q + 2) % 4).toNat).y = -(sunS v (q % 4).toNat).y ∧ (sunS v ((q + 2) % 4).toNat).z = v.z ∧ (sunS v (q % 4).toNat).z = v.z := by
  rcases (show q % 4 = 0 ∨ q % 4 = 1 ∨ q % 4 = 2 ∨ q % 4 = 3 by omega) with h | h | h | h
  · rw [h, show (q + 2) % 4 = 2 by omega]; simp [sunS, quarterV]
  · rw [h, show (q + 2) % 4 = 3 by omega]; simp [sunS, quarterV]
  · rw [h, show (q + 2) % 4 = 0 by omega]; simp [sunS, quarterV]
  · rw [h, show (q + 2) % 4 = 1 by omega]; simp [sunS, quarterV]
theorem lit_sum {u u2 b : Ve} (h : dotV u2 b = -dotV u b) : litS u b 0 + litS u2 b 0 = 2 ∧ (0 ≤ litS u b 0 ∧ litS u b 0 ≤ 2) ∧ (0 ≤ litS u2 b 0 ∧ litS u2 b 0 ≤ 2) := by
  unfold litS
  rw [h]
  obtain ⟨p, hp⟩ : ∃ p, dotV u b = p := ⟨_, rfl⟩
  rw [hp]
  split <;> split <;> (try split) <;> (try split) <;> omega
theorem dot_neg {u u2 b : Ve} (hx : u2.x = -u.x) (hy : u2.y = -u.y) (hz : u2.z * b.z = 0) (hz2 : u.z * b.z = 0) : dotV u2 b = -dotV u b := by
  unfold dotV
  rw [hx, hy, hz, hz2, Int.neg_mul, Int.neg_mul]
  omega
end Go.Sky.Ch
