/- Stations left out, ratios compared, the worst one; plain Lean.
   The document's grid and its contours; plain Lean.
   Polygons as the reference sees them: directions of steps, turns; plain Lean.
   Sums around a polygon: backwards, the area, the turns around all cells. Plain Lean.
   Polygons that fill a grid; plain Lean. -/
import Derived.BigQuiet
import Derived.Deep.AppendLies
import Derived.Deep.Draws
import Derived.Deep.Quiet
import Derived.Deep.QuietTactic
import Derived.Lib.Hide
import Derived.MapKept
import Derived.Maps.Keyed
import Derived.OrdersIn
import Derived.OwnWalkIn
import Derived.RangeFuncCalls
import Derived.Shelf.RegionOpen
import Derived.StillTail
import Derived.TacticsIn
import Derived.WalkKit
import Derived.Test.YtaogolnoiffgiaaC22K

namespace Go.Sky.Ch
open Go.RowKit Go.Sky

theorem dot_bdM {M : Int} {ws : List Int} {f : Nat → Int} (hw : ∀ j, 0 ≤ ws.getD j 0 ∧ ws.getD j 0 ≤ M) (hf : ∀ j, -10000 ≤ f j ∧ f j ≤ 10000) : ∀ k : Nat, -((k : Int) * (M * 10000)) ≤ dotTo ws f k ∧ dotTo ws f k ≤ (k : Int) * (M * 10000)
  | 0 => by simp [dotTo]
  | k + 1 => by
    have ih := dot_bdM hw hf k
    have h1 := hw k
    have h2 := hf k
    unfold dotTo
    have p1 := mulBd h1.1 h1.2 h2.1 h2.2
    rw [show ((k + 1 : Nat) : Int) = (k : Int) + 1 by omega, Int.add_mul, Int.one_mul]
    omega
theorem pow_bd3 {k : Nat} (h : k ≤ 3) : (1800 : Int) ^ k ≤ 5832000000 := by
  match k, h with
  | 0, _ => decide
  | 1, _ => decide
  | 2, _ => decide
  | 3, _ => decide
theorem wAt_bd4 {l : List Sta} {x y : Int} (hl : ∀ s ∈ l, StOk s) (hp : PlOk x y) (hn : l.length ≤ 4) {i : Nat} (hi : i ≤ 3) : 0 ≤ wAt l x y i ∧ wAt l x y i ≤ 58320000000 := by
  have h1 := prodTo_bd hl hp i l.length
  have h2 := pow_bd3 (k := cntTo i l.length) (by unfold cntTo; split <;> omega)
  unfold wAt
  omega
theorem sumTo_bd4 {l : List Sta} {x y : Int} (hl : ∀ s ∈ l, StOk s) (hp : PlOk x y) (hn : l.length ≤ 4) : ∀ k : Nat, k ≤ 4 → 0 ≤ sumTo l x y k ∧ sumTo l x y k ≤ (k : Int) * 58320000000
  | 0, _ => by simp [sumTo]
  | k + 1, hk => by
    have h1 := sumTo_bd4 hl hp hn k (by omega)
    have h2 := wAt_bd4 hl hp hn (i := k) (by omega)
    unfold sumTo
    rw [show ((k + 1 : Nat) : Int) = (k : Int) + 1 by omega, Int.add_mul]
    omega
theorem wS_bd4 {l : List Sta} {x y : Int} (hl : ∀ s ∈ l, StOk s) (hp : PlOk x y) (hn : l.length ≤ 4) (j : Nat) : 0 ≤ (wS l x y).1.getD j 0 ∧ (wS l x y).1.getD j 0 ≤ 58320000000 := by
  rw [List.getD_eq_getElem?_getD]
  cases h : (wS l x y).1[j]? with
  | none =>
    show (0 : Int) ≤ 0 ∧ (0 : Int) ≤ 58320000000
    omega
  | some v =>
    show 0 ≤ v ∧ v ≤ 58320000000
    unfold wS wOf at h
    split at h
    · rw [List.getElem?_set] at h
      split at h
      · split at h
        · injection h with h; omega
        · cases h
      · rw [List.getElem?_replicate] at h
        split at h
        · injection h with h; omega
        · cases h
    · rw [List.getElem?_map] at h
      cases hr : (List.range l.length)[j]? with
      | none => rw [hr] at h; cases h
      | some i =>
        rw [hr] at h
        injection h with h
        have hi : i < l.length := List.mem_range.1 (List.mem_of_getElem? hr)
        rw [← h]
        exact wAt_bd4 hl hp hn (by omega)
theorem den_bd4 {l : List Sta} {x y : Int} (hl : ∀ s ∈ l, StOk s) (hp : PlOk x y) (h1 : 1 ≤ l.length) (h4 : l.length ≤ 4) : 1 ≤ (wS l x y).2 ∧ (wS l x y).2 ≤ 233280000000 := by
  unfold wS wOf
  split
  · show (1 : Int) ≤ 1 ∧ (1 : Int) ≤ 233280000000
    omega
  · rename_i h
    show 1 ≤ sumTo l x y l.length ∧ sumTo l x y l.length ≤ 233280000000
    have a := sumTo_pos hl h l.length (Nat.le_refl _)
    have b := sumTo_bd4 hl hp h4 l.length h4
    omega
structure Ends4 (e : Ends) : Prop where
  lo : -3000000000000000 ≤ e.lo ∧ e.lo ≤ 3000000000000000
  hi : -3000000000000000 ≤ e.hi ∧ e.hi ≤ 3000000000000000
  den : 1 ≤ e.den ∧ e.den ≤ 233280000000
theorem ends4 {l : List Sta} {x y : Int} (hl : ∀ s ∈ l, StOk s) (hp : PlOk x y) (h1 : 1 ≤ l.length) (h4 : l.length ≤ 4) : Ends4 (endsS l x y) := by
  have hw := fun j => wS_bd4 (x := x) (y := y) hl hp h4 j
  have a := dot_bdM hw (loAt_bd hl) l.length
  have b := dot_bdM hw (hiAt_bd hl) l.length
  have hl5 : (l.length : Int) * (58320000000 * 10000) ≤ 3000000000000000 := by omega
  exact ⟨by show -3000000000000000 ≤ dotTo _ _ _ ∧ dotTo _ _ _ ≤ 3000000000000000; omega, by show -3000000000000000 ≤ dotTo _ _ _ ∧ dotTo _ _ _ ≤ 3000000000000000; omega, den_bd4 hl hp h1 h4⟩

/-- The others, and the error of a station that is left out. -/
def others (l : List Sta) (i : Nat) : List Sta := l.take i ++ l.drop (i + 1)
def leftE (l : List Sta) (i : Nat) : Ends := match l[i]? with
  | some s => ⟨(endsS (others l i) s.x s.y).lo - (endsS (others l i) s.x s.y).den * s.hi, (endsS (others l i) s.x s.y).hi - (endsS (others l i) s.x s.y).den * s.lo, (endsS (others l i) s.x s.y).den⟩
  | none => ⟨0, 0, 1⟩
theorem others_len {l : List Sta} {i : Nat} (h : i < l.length) : (others l i).length = l.length - 1 := by
  unfold others
  rw [List.length_append, List.length_take, List.length_drop]
  omega
theorem others_mem {l : List Sta} {i : Nat} {s : Sta} (h : s ∈ others l i) : s ∈ l := by
  rcases List.mem_append.1 h with h | h
  · exact List.mem_of_mem_take h
  · exact List.mem_of_mem_drop h
structure LeftOk (e : Ends) : Prop where
  lo : -6000000000000000 ≤ e.lo ∧ e.lo ≤ 6000000000000000
  hi : -6000000000000000 ≤ e.hi ∧ e.hi ≤ 6000000000000000
  den : 1 ≤ e.den ∧ e.den ≤ 233280000000
theorem left_ok {l : List Sta} (hl : ∀ s ∈ l, StOk s) (h2 : 2 ≤ l.length) (h5 : l.length ≤ 5) (i : Nat) : LeftOk (leftE l i) := by
  unfold leftE
  cases hs : l[i]? with
  | none => exact ⟨by show (-6000000000000000 : Int) ≤ 0 ∧ (0 : Int) ≤ _; omega, by show (-6000000000000000 : Int) ≤ 0 ∧ (0 : Int) ≤ _; omega, by show (1 : Int) ≤ 1 ∧ (1 : Int) ≤ _; omega⟩
  | some s =>
    have hi := (List.getElem?_eq_some_iff.1 hs).1
    have so := hl s (List.mem_of_getElem? hs)
    have e := ends4 (l := others l i) (x := s.x) (y := s.y) (fun t ht => hl t (others_mem ht)) ⟨so.x, so.y⟩ (by rw [others_len hi]; omega) (by rw [others_len hi]; omega)
    have p1 := mulBd (V := 10000) (by have := e.den; omega) e.den.2 so.lo.1 so.lo.2
    have p2 := mulBd (V := 10000) (by have := e.den; omega) e.den.2 so.hi.1 so.hi.2
    have a1 := e.lo
    have a2 := e.hi
    exact ⟨by show -6000000000000000 ≤ _ - _ ∧ _ - _ ≤ 6000000000000000; omega, by show -6000000000000000 ≤ _ - _ ∧ _ - _ ≤ 6000000000000000; omega, e.den⟩
/-- A ratio is less than another. -/
def lessS (n d m k : Int) : Bool := decide (n * k < m * d)
theorem floor_bd (n : Int) {d : Int} (hd : 0 < d) : floorS n d * d ≤ n ∧ n < floorS n d * d + d := by
  have h1 := Int.lt_tmod_of_pos n hd
  have h2 := Int.tmod_lt_of_pos n hd
  have h3 := Int.mul_tdiv_add_tmod n d
  rw [Int.mul_comm] at h3
  unfold floorS
  split
  · rw [Int.sub_mul, Int.one_mul]; omega
  · omega
theorem less_ne {n d m k : Int} (hd : 0 < d) (hk : 0 < k) (h : floorS n d ≠ floorS m k) : lessS n d m k = decide (floorS n d < floorS m k) := by
  have f1 := floor_bd n hd
  have f2 := floor_bd m hk
  generalize floorS n d = a at *
  generalize floorS m k = b at *
  have key : ∀ {a b n d m k : Int}, 0 < d → 0 < k → n < a * d + d → b * k ≤ m → a < b → n * k < m * d := by
    intro a b n d m k hd hk h1 h2 hab
    have t1 : a * d + d ≤ b * d := by
      have := Int.mul_le_mul_of_nonneg_right (show a + 1 ≤ b by omega) (show 0 ≤ d by omega)
      rw [Int.add_mul, Int.one_mul] at this
      exact this
    have t2 : n * k < b * d * k := Int.mul_lt_mul_of_pos_right (by omega) hk
    have t3 : b * k * d ≤ m * d := Int.mul_le_mul_of_nonneg_right h2 (by omega)
    have t4 : b * d * k = b * k * d := by rw [Int.mul_assoc, Int.mul_comm d k, ← Int.mul_assoc]
    omega
  unfold lessS
  rcases Int.lt_trichotomy a b with h2 | h2 | h2
  · rw [decide_eq_true h2, decide_eq_true (key hd hk f1.2 f2.1 h2)]
  · exact absurd h2 h
  · have := key hk hd f2.2 f1.1 h2
    rw [decide_eq_false (by omega), decide_eq_false (by omega)]
theorem less_same {n d m k : Int} (a : Int) : lessS n d m k = lessS (n - a * d) d (m - a * k) k := by
  unfold lessS
  rw [Int.sub_mul, Int.sub_mul, show a * k * d = a * d * k by rw [Int.mul_assoc, Int.mul_comm k d, ← Int.mul_assoc]]
  by_cases h : n * k < m * d
  · rw [decide_eq_true h, decide_eq_true (by omega)]
  · rw [decide_eq_false h, decide_eq_false (by omega)]
theorem less_zero {d m k : Int} (hd : 0 < d) : lessS 0 d m k = decide (0 < m) := by
  unfold lessS
  rw [Int.zero_mul]
  by_cases h : 0 < m
  · rw [decide_eq_true h, decide_eq_true (Int.mul_pos h hd)]
  · rw [decide_eq_false h, decide_eq_false]
    have := Int.mul_le_mul_of_nonneg_right (show m ≤ 0 by omega) (show 0 ≤ d by omega)
    omega
theorem less_pos {n d k : Int} (hn : 0 ≤ n) (hk : 0 < k) : lessS n d 0 k = false := by
  unfold lessS
  rw [Int.zero_mul]
  exact decide_eq_false (by have := Int.mul_nonneg hn (show 0 ≤ k by omega); omega)
theorem less_flip (n d m k : Int) : lessS n d m k = lessS k m d n := by
  unfold lessS
  rw [Int.mul_comm n k, Int.mul_comm m d]
def farS (e : Ends) : Int × Int := if 0 < e.lo then (e.lo, e.den) else if e.hi < 0 then (-e.hi, e.den) else (0, 1)
def worstTo (l : List Sta) : Nat → Nat × (Int × Int)
  | 0 => (0, (0, 1))
  | k + 1 => if lessS (worstTo l k).2.1 (worstTo l k).2.2 (farS (leftE l k)).1 (farS (leftE l k)).2 = true then (k, farS (leftE l k)) else worstTo l k
def nameAt (l : List Sta) (i : Nat) : ByteArray := match l[i]? with
  | some s => s.n
  | none => .empty
def sevE (l : List Sta) : Int := firstE [(ckS l).2, errU (decide (1 < l.length)) 10]
def worstS (l : List Sta) : ByteArray × Int := if sevE l = 0 then (nameAt l (worstTo l l.length).1, 0) else (.empty, sevE l)
theorem sev_ok {l : List Sta} (h : sevE l = 0) : (ckS l).2 = 0 ∧ 2 ≤ l.length := by
  have hz := firstE_zero h
  have := errU_nil (by decide) (hz (errU (decide (1 < l.length)) 10) (by simp))
  exact ⟨hz _ (by simp), of_decide_eq_true this⟩
theorem far_ok {e : Ends} (h : LeftOk e) : 0 ≤ (farS e).1 ∧ (farS e).1 ≤ 6000000000000000 ∧ 1 ≤ (farS e).2 ∧ (farS e).2 ≤ 233280000000 := by
  have h1 := h.lo
  have h2 := h.hi
  have h3 := h.den
  unfold farS
  split
  · show 0 ≤ e.lo ∧ e.lo ≤ 6000000000000000 ∧ 1 ≤ e.den ∧ e.den ≤ 233280000000; omega
  · split
    · show 0 ≤ -e.hi ∧ -e.hi ≤ 6000000000000000 ∧ 1 ≤ e.den ∧ e.den ≤ 233280000000; omega
    · show (0 : Int) ≤ 0 ∧ (0 : Int) ≤ 6000000000000000 ∧ (1 : Int) ≤ 1 ∧ (1 : Int) ≤ 233280000000; omega
theorem worst_lt (l : List Sta) : ∀ k, (worstTo l k).1 ≤ k - 1
  | 0 => Nat.le_refl _
  | k + 1 => by
    have := worst_lt l k
    unfold worstTo
    split
    · show k ≤ k + 1 - 1; omega
    · omega
theorem worst_ok {l : List Sta} (hl : ∀ s ∈ l, StOk s) (h2 : 2 ≤ l.length) (h5 : l.length ≤ 5) : ∀ k, 0 ≤ (worstTo l k).2.1 ∧ (worstTo l k).2.1 ≤ 6000000000000000 ∧ 1 ≤ (worstTo l k).2.2 ∧ (worstTo l k).2.2 ≤ 233280000000
  | 0 => by unfold worstTo; show (0 : Int) ≤ 0 ∧ (0 : Int) ≤ 6000000000000000 ∧ (1 : Int) ≤ 1 ∧ (1 : Int) ≤ 233280000000; omega
  | k + 1 => by
    unfold worstTo
    split
    · exact far_ok (left_ok hl h2 h5 k)
    · exact worst_ok hl h2 h5 k
end Go.Sky.Ch

namespace Go.Sky.Ch
open Go.RowKit Go.Sky

instance (a b : Sd) : Decidable (LtSd a b) := by unfold LtSd; infer_instance
theorem sd_unique : ∀ (xs ys : List Sd), xs.Perm ys → xs.Pairwise (fun a b => ¬ LtSd b a) → ys.Pairwise (fun a b => ¬ LtSd b a) → xs = ys
  | [], ys, h, _, _ => h.nil_eq
  | x :: xs, [], h, _, _ => by have := h.length_eq; simp at this
  | x :: xs, y :: ys, h, hx, hy => by
    rw [List.pairwise_cons] at hx hy
    have e : x = y := by
      have h1 : x ∈ y :: ys := h.mem_iff.1 (List.mem_cons_self ..)
      have h2 : y ∈ x :: xs := h.mem_iff.2 (List.mem_cons_self ..)
      rcases List.mem_cons.1 h1 with h1 | h1
      · exact h1
      · rcases List.mem_cons.1 h2 with h2 | h2
        · exact h2.symm
        · exact (LtSd.total (hy.1 x h1) (hx.1 y h2))
    subst e
    rw [sd_unique xs ys h.cons_inv hx.2 hy.2]
def gridD : List (List Int) := [[5, 5, 5], [5, 0, 5], [5, 5, 5]]
def sidesD : List Sd := [⟨0, 0, 0⟩, ⟨1, 0, 0⟩, ⟨2, 0, 0⟩, ⟨3, 0, 1⟩, ⟨0, 1, 3⟩, ⟨1, 1, 1⟩, ⟨2, 1, 2⟩, ⟨3, 1, 1⟩, ⟨0, 2, 3⟩, ⟨1, 2, 0⟩, ⟨2, 2, 3⟩, ⟨3, 2, 1⟩, ⟨0, 3, 3⟩, ⟨1, 3, 2⟩, ⟨2, 3, 2⟩, ⟨3, 3, 2⟩]
theorem sidesD_perm : sidesD.Perm (allSides (regS gridD 3) 3) := by decide
theorem sidesD_sorted : sidesD.Pairwise (fun a b => ¬ LtSd b a) := by decide
theorem sidesD_is {ys : List Sd} (h1 : ys.Perm (allSides (regS gridD 3) 3)) (h2 : ys.Pairwise fun a b => ¬ LtSd b a) : ys = sidesD :=
  sd_unique _ _ (h1.trans sidesD_perm.symm) h2 sidesD_sorted
def contD0 : List Pl := [(0, 0), (1, 0), (2, 0), (3, 0), (3, 1), (3, 2), (3, 3), (2, 3), (1, 3), (0, 3), (0, 2), (0, 1)]
def contD1 : List Pl := [(1, 1), (1, 2), (2, 2), (2, 1)]
theorem contD : contS sidesD sidesD = [contD0, contD1] := by decide
theorem contD1_ok : (conS contD1).2 = 0 := by decide
theorem contD1_area : areaS contD1 = -1 := by decide
theorem gridD_open : openE gridD 3 = 0 := by decide
theorem awake_lit : litE ⟨100, 0, 10⟩ ⟨50, 80, 0⟩ 1000 = 0 ∧ litS ⟨100, 0, 10⟩ ⟨50, 80, 0⟩ 1000 = 2 := by decide
end Go.Sky.Ch

namespace Go.Sky.Ch
open Go.RowKit Go.Sky

def hitD (a b : Pl) (d : Int) : Bool := (a.1 + dxS d == b.1) && (a.2 + dyS d == b.2)
def dirS (a b : Pl) : Int := if hitD a b 0 = true then 0 else if hitD a b 1 = true then 1 else if hitD a b 2 = true then 2 else if hitD a b 3 = true then 3 else -1
theorem sq_one {u : Int} (h : u * u ≤ 1) : u = -1 ∨ u = 0 ∨ u = 1 := by
  rcases (show u ≤ -2 ∨ u = -1 ∨ u = 0 ∨ u = 1 ∨ 2 ≤ u by omega) with h1 | h1 | h1 | h1 | h1
  · have := Int.mul_le_mul (show 2 ≤ -u by omega) (show 2 ≤ -u by omega) (by decide) (by omega)
    rw [Int.neg_mul_neg] at this
    omega
  · exact .inl h1
  · exact .inr (.inl h1)
  · exact .inr (.inr h1)
  · have := Int.mul_le_mul h1 h1 (by decide) (by omega)
    omega
theorem sq_nonneg (u : Int) : 0 ≤ u * u := by
  rcases Int.le_total 0 u with h | h
  · exact Int.mul_nonneg h h
  · have := Int.mul_nonneg (show 0 ≤ -u by omega) (show 0 ≤ -u by omega)
    rwa [Int.neg_mul_neg] at this
/-- A step of 1. -/
theorem step_cases {a b : Pl} (h : sqS a.1 a.2 b.1 b.2 = 1) : (b.1 = a.1 + 1 ∧ b.2 = a.2) ∨ (b.1 = a.1 ∧ b.2 = a.2 + 1) ∨ (b.1 = a.1 - 1 ∧ b.2 = a.2) ∨ (b.1 = a.1 ∧ b.2 = a.2 - 1) := by
  unfold sqS at h
  have h1 := sq_nonneg (a.1 - b.1)
  have h2 := sq_nonneg (a.2 - b.2)
  rcases sq_one (show (a.1 - b.1) * (a.1 - b.1) ≤ 1 by omega) with e1 | e1 | e1 <;> rcases sq_one (show (a.2 - b.2) * (a.2 - b.2) ≤ 1 by omega) with e2 | e2 | e2 <;>
    (rw [e1, e2] at h; first | (exfalso; revert h; decide) | omega)
theorem hit_iff {a b : Pl} {d : Int} : hitD a b d = true ↔ a.1 + dxS d = b.1 ∧ a.2 + dyS d = b.2 := by unfold hitD; simp
theorem dir_le (a b : Pl) : -1 ≤ dirS a b ∧ dirS a b ≤ 3 := by unfold dirS; repeat' split <;> omega
theorem dir_sq (a b : Pl) : (dirS a b < 0) ↔ sqS a.1 a.2 b.1 b.2 ≠ 1 := by
  have e0 : dxS 0 = 1 ∧ dyS 0 = 0 := by decide
  have e1 : dxS 1 = 0 ∧ dyS 1 = 1 := by decide
  have e2 : dxS 2 = -1 ∧ dyS 2 = 0 := by decide
  have e3 : dxS 3 = 0 ∧ dyS 3 = -1 := by decide
  constructor
  · intro h hs
    unfold dirS at h
    rcases step_cases hs with h1 | h1 | h1 | h1
    · have : hitD a b 0 = true := hit_iff.2 (by rw [e0.1, e0.2]; omega)
      (repeat' split at h) <;> first | omega | contradiction
    · have : hitD a b 1 = true := hit_iff.2 (by rw [e1.1, e1.2]; omega)
      (repeat' split at h) <;> first | omega | contradiction
    · have : hitD a b 2 = true := hit_iff.2 (by rw [e2.1, e2.2]; omega)
      (repeat' split at h) <;> first | omega | contradiction
    · have : hitD a b 3 = true := hit_iff.2 (by rw [e3.1, e3.2]; omega)
      (repeat' split at h) <;> first | omega | contradiction
  · intro hs
    unfold dirS
    have key : ∀ d, (dxS d = 1 ∧ dyS d = 0) ∨ (dxS d = 0 ∧ dyS d = 1) ∨ (dxS d = -1 ∧ dyS d = 0) ∨ (dxS d = 0 ∧ dyS d = -1) → ¬ hitD a b d = true := by
      intro d hd h
      obtain ⟨h1, h2⟩ := hit_iff.1 h
      apply hs
      unfold sqS
      rcases hd with ⟨x1, x2⟩ | ⟨x1, x2⟩ | ⟨x1, x2⟩ | ⟨x1, x2⟩
      · rw [show a.1 - b.1 = -1 by omega, show a.2 - b.2 = 0 by omega]; decide
      · rw [show a.1 - b.1 = 0 by omega, show a.2 - b.2 = -1 by omega]; decide
      · rw [show a.1 - b.1 = 1 by omega, show a.2 - b.2 = 0 by omega]; decide
      · rw [show a.1 - b.1 = 0 by omega, show a.2 - b.2 = 1 by omega]; decide
    rw [if_neg (key 0 (.inl e0)), if_neg (key 1 (.inr (.inl e1))), if_neg (key 2 (.inr (.inr (.inl e2)))), if_neg (key 3 (.inr (.inr (.inr e3))))]
    omega
theorem dir_dec (a b : Pl) : decide (dirS a b < 0) = (sqS a.1 a.2 b.1 b.2 != 1) := by
  rw [Bool.eq_iff_iff, decide_eq_true_eq, dir_sq]
  simp
/-- The program's turns of a step, and the reference's. -/
def turnP (x y : Int) (a b : Pl) : Int := if x < a.1 ∧ min a.2 b.2 = y then b.2 - a.2 else 0
def turnsTo (c : List Pl) (x y : Int) : Nat → Int
  | 0 => 0
  | i + 1 => turnsTo c x y i + turnP x y (c.getD i (0, 0)) (nextP c i)
def turnsS (c : List Pl) (x y : Int) : Int := turnsTo c x y c.length
def turnR (x y : Int) (a b : Pl) : Int := if a.1 ≠ b.1 ∨ a.1 ≤ x then 0 else (if a.2 = y ∧ b.2 = y + 1 then 1 else 0) - (if b.2 = y ∧ a.2 = y + 1 then 1 else 0)
theorem turn_eq {x y : Int} {a b : Pl} (h : sqS a.1 a.2 b.1 b.2 = 1) : turnP x y a b = turnR x y a b := by
  unfold turnP turnR
  rcases step_cases h with ⟨h1, h2⟩ | ⟨h1, h2⟩ | ⟨h1, h2⟩ | ⟨h1, h2⟩ <;> rw [h1, h2] <;> (repeat' split) <;> omega
theorem turnP_bd {x y : Int} {a b : Pl} (h : sqS a.1 a.2 b.1 b.2 = 1) : -1 ≤ turnP x y a b ∧ turnP x y a b ≤ 1 := by
  unfold turnP
  rcases step_cases h with ⟨h1, h2⟩ | ⟨h1, h2⟩ | ⟨h1, h2⟩ | ⟨h1, h2⟩ <;> rw [h2] <;> (repeat' split) <;> omega
/-- Each step of a polygon that is right is a step of 1. -/
def StepsOf (c : List Pl) : Prop := ∀ i, i < c.length → sqS (c.getD i (0, 0)).1 (c.getD i (0, 0)).2 (nextP c i).1 (nextP c i).2 = 1
theorem steps_ok {c : List Pl} (h : (conS c).2 = 0) : StepsOf c := by
  intro i hi
  unfold conS at h
  split at h
  · cases h
  · split at h
    · cases h
    · unfold conM at h
      split at h
      · cases h
      · have h2 := fb_zero h ((i + 1) % c.length) (Nat.mod_lt _ (by omega))
        have hlt : (i + 1) % c.length < c.length := Nat.mod_lt _ (by omega)
        unfold gapAt at h2
        rw [List.getElem?_eq_getElem hlt] at h2
        dsimp only at h2
        have hp : prevP c ((i + 1) % c.length) = c.getD i (0, 0) := by
          unfold prevP
          rw [List.getD_eq_getElem?_getD]
          by_cases he : i + 1 = c.length
          · rw [he, Nat.mod_self, if_pos rfl]
            congr 2
            omega
          · rw [Nat.mod_eq_of_lt (by omega), if_neg (by omega), Nat.add_sub_cancel]
        have hn : nextP c i = c[(i + 1) % c.length] := by
          unfold nextP
          rw [List.getElem?_eq_getElem hlt]
          rfl
        rw [hp] at h2
        rw [hn]
        split at h2
        · assumption
        · cases h2
theorem turnsTo_bd {c : List Pl} (h : StepsOf c) (x y : Int) : ∀ k, k ≤ c.length → -(k : Int) ≤ turnsTo c x y k ∧ turnsTo c x y k ≤ (k : Int)
  | 0, _ => by simp [turnsTo]
  | k + 1, hk => by
    have h1 := turnsTo_bd h x y k (by omega)
    have h2 := turnP_bd (x := x) (y := y) (h k (by omega))
    rw [turnsTo]
    omega
end Go.Sky.Ch

namespace Go.Sky.Ch
open Go.RowKit Go.Sky

def path (F : Pl → Pl → Int) : List Pl → Int
  | a :: b :: l => F a b + path F (b :: l)
  | _ => 0
theorem path_snoc (F : Pl → Pl → Int) (a b : Pl) : ∀ l : List Pl, path F (l ++ [a, b]) = path F (l ++ [a]) + F a b
  | [] => by simp [path]
  | [x] => by simp [path]
  | x :: y :: l => by
    show F x y + path F ((y :: l) ++ [a, b]) = F x y + path F ((y :: l) ++ [a]) + F a b
    rw [path_snoc F a b (y :: l)]
    omega
theorem path_rev (F G : Pl → Pl → Int) : ∀ (l : List Pl), (∀ i a b, l[i]? = some a → l[i + 1]? = some b → G b a = - F a b) → path G l.reverse = - path F l
  | [], _ => by simp [path]
  | [x], _ => by simp [path]
  | x :: y :: l, h => by
    have h0 := h 0 x y rfl rfl
    have ih := path_rev F G (y :: l) (fun i a b ha hb => h (i + 1) a b ha hb)
    rw [List.reverse_cons] at ih
    rw [List.reverse_cons, List.reverse_cons, List.append_assoc]
    show path G (l.reverse ++ [y, x]) = - (F x y + path F (y :: l))
    rw [path_snoc, ih, h0]
    omega
theorem path_tel (F : Pl → Pl → Int) (g : Pl → Int) : ∀ (l : List Pl) (a z : Pl), (∀ i p q, (a :: l)[i]? = some p → (a :: l)[i + 1]? = some q → F p q = g q - g p) → (a :: l).getLast? = some z → path F (a :: l) = g z - g a
  | [], a, z, _, hz => by simp at hz; subst hz; simp [path]
  | b :: l, a, z, h, hz => by
    have h0 := h 0 a b rfl rfl
    have ih := path_tel F g l b z (fun i p q hp hq => h (i + 1) p q hp hq) (by rw [List.getLast?_cons_cons] at hz; exact hz)
    rw [path, ih, h0]
    omega
/-- The sum over the steps of a polygon, up to a place. -/
def cycTo (F : Pl → Pl → Int) (c : List Pl) : Nat → Int
  | 0 => 0
  | i + 1 => cycTo F c i + F (c.getD i (0, 0)) (nextP c i)
def cross (a b : Pl) : Int := a.1 * b.2 - b.1 * a.2
theorem area2_cyc (c : List Pl) : ∀ k, area2 c k = cycTo cross c k
  | 0 => rfl
  | k + 1 => by rw [area2, cycTo, area2_cyc c k]; rfl
theorem turns_cyc (c : List Pl) (x y : Int) : ∀ k, turnsTo c x y k = cycTo (turnP x y) c k
  | 0 => rfl
  | k + 1 => by rw [turnsTo, cycTo, turns_cyc c x y k]
theorem cycTo_path (F : Pl → Pl → Int) (p : Pl) (t : List Pl) : ∀ k, k ≤ (p :: t).length → cycTo F (p :: t) k = path F (((p :: t) ++ [p]).take (k + 1))
  | 0, _ => by simp [cycTo, path]
  | k + 1, hk => by
    rw [cycTo, cycTo_path F p t k (by omega)]
    have hl : ((p :: t) ++ [p]).length = (p :: t).length + 1 := by simp
    have h1 : ((p :: t) ++ [p])[k]? = some ((p :: t).getD k (0, 0)) := by
      rw [List.getElem?_append_left (by omega), List.getD_eq_getElem?_getD, List.getElem?_eq_getElem (by omega)]; rfl
    have h2 : ((p :: t) ++ [p])[k + 1]? = some (nextP (p :: t) k) := by
      unfold nextP
      by_cases h : k + 1 = (p :: t).length
      · rw [h, Nat.mod_self, List.getElem?_append_right (Nat.le_refl _)]; simp
      · rw [Nat.mod_eq_of_lt (by omega), List.getElem?_append_left (by omega), List.getElem?_eq_getElem (by omega)]; rfl
    have e1 := take_snoc _ k _ h1
    have e2 := take_snoc _ (k + 1) _ h2
    rw [e2, e1, List.append_assoc]
    exact (path_snoc F _ _ _).symm
theorem cyc_path (F : Pl → Pl → Int) (p : Pl) (t : List Pl) : cycTo F (p :: t) (p :: t).length = path F ((p :: t) ++ [p]) := by
  rw [cycTo_path F p t _ (Nat.le_refl _), List.take_of_length_le (by simp)]
/-- The steps of a closed row. -/
theorem closed_step {c : List Pl} {R : Pl → Pl → Prop} (h : ∀ i, i < c.length → R (c.getD i (0, 0)) (nextP c i)) {p : Pl} {t : List Pl} (hc : c = p :: t) : ∀ i a b, (c ++ [p])[i]? = some a → (c ++ [p])[i + 1]? = some b → R a b := by
  intro i a b ha hb
  have hl := (List.getElem?_eq_some_iff.1 hb).1
  rw [List.length_append, List.length_singleton] at hl
  have hi : i < c.length := by omega
  have := h i hi
  rw [List.getElem?_append_left hi] at ha
  rw [List.getD_eq_getElem?_getD, ha] at this
  have e : nextP c i = b := by
    unfold nextP
    by_cases h1 : i + 1 = c.length
    · rw [h1, Nat.mod_self]
      rw [h1, List.getElem?_append_right (Nat.le_refl _)] at hb
      simp at hb
      rw [hc]
      simpa using hb
    · rw [Nat.mod_eq_of_lt (by omega)]
      rw [List.getElem?_append_left (by omega)] at hb
      rw [hb]; rfl
  rw [e] at this
  exact this
theorem cyc_rev {F G : Pl → Pl → Int} {c : List Pl} (h : ∀ i, i < c.length → G (nextP c i) (c.getD i (0, 0)) = - F (c.getD i (0, 0)) (nextP c i)) : cycTo G c.reverse c.length = - cycTo F c c.length := by
  cases hc : c with
  | nil => rfl
  | cons p t =>
    have hs := closed_step (R := fun a b => G b a = - F a b) h hc
    rw [hc] at hs
    have h1 := path_rev F G ((p :: t) ++ [p]) hs
    rw [cyc_path, ← h1]
    -- the row backwards begins elsewhere: it is turned
    obtain ⟨z, l, hz⟩ : ∃ z l, (p :: t).reverse = z :: l := by
      cases hr : (p :: t).reverse with
      | nil => simp at hr
      | cons z l => exact ⟨z, l, rfl⟩
    have hlen : (p :: t).length = (z :: l).length := by rw [← hz, List.length_reverse]
    rw [hz, hlen, cyc_path, List.reverse_append, hz]
    have hlast : ∃ m, (z :: l) = m ++ [p] := ⟨t.reverse, by rw [← hz, List.reverse_cons]⟩
    obtain ⟨m, hm⟩ := hlast
    rw [hm, List.append_assoc]
    show path G (m ++ [p, z]) = path G (p :: (m ++ [p]))
    rw [path_snoc, ← hm]
    show path G (z :: l) + G p z = G p z + path G (z :: l)
    omega
theorem cyc_add (F G H : Pl → Pl → Int) (c : List Pl) : ∀ k, (∀ i, i < k → F (c.getD i (0, 0)) (nextP c i) = G (c.getD i (0, 0)) (nextP c i) + H (c.getD i (0, 0)) (nextP c i)) → cycTo F c k = cycTo G c k + cycTo H c k
  | 0, _ => rfl
  | k + 1, h => by
    rw [cycTo, cycTo, cycTo, cyc_add F G H c k (fun i hi => h i (by omega)), h k (by omega)]
    omega
theorem cyc_tel {F : Pl → Pl → Int} {g : Pl → Int} {c : List Pl} (h : ∀ i, i < c.length → F (c.getD i (0, 0)) (nextP c i) = g (nextP c i) - g (c.getD i (0, 0))) : cycTo F c c.length = 0 := by
  cases hc : c with
  | nil => rfl
  | cons p t =>
    have hs := closed_step (R := fun a b => F a b = g b - g a) h hc
    rw [hc] at hs
    rw [cyc_path]
    have := path_tel F g (t ++ [p]) p p hs (by rw [show p :: (t ++ [p]) = (p :: t) ++ [p] from rfl, List.getLast?_concat])
    rw [List.cons_append, this]
    omega
/-- Twice the area is twice the sum of X dY. -/
def xdy (a b : Pl) : Int := a.1 * (b.2 - a.2)
theorem cross_step {a b : Pl} (h : sqS a.1 a.2 b.1 b.2 = 1) : cross a b - xdy a b = xdy a b + (a.1 * a.2 - b.1 * b.2) := by
  unfold cross xdy
  rcases step_cases h with ⟨h1, h2⟩ | ⟨h1, h2⟩ | ⟨h1, h2⟩ | ⟨h1, h2⟩ <;> rw [h1, h2] <;> simp only [Int.mul_add, Int.add_mul, Int.mul_sub, Int.sub_mul, Int.mul_one, Int.one_mul, Int.mul_comm a.1 a.2] <;> omega
theorem area_xdy {c : List Pl} (h : StepsOf c) : areaS c = cycTo xdy c c.length := by
  have h1 : cycTo cross c c.length = cycTo xdy c c.length + cycTo (fun a b => cross a b - xdy a b) c c.length := cyc_add _ _ _ c _ (fun i _ => by omega)
  have h2 : cycTo (fun a b => cross a b - xdy a b) c c.length = cycTo xdy c c.length + cycTo (fun a b => a.1 * a.2 - b.1 * b.2) c c.length := cyc_add _ _ _ c _ (fun i hi => cross_step (h i hi))
  have h3 : cycTo (fun a b : Pl => a.1 * a.2 - b.1 * b.2) c c.length = 0 := cyc_tel (g := fun p => -(p.1 * p.2)) (fun i _ => by omega)
  unfold areaS
  rw [area2_cyc, h1, h2, h3, show cycTo xdy c c.length + (cycTo xdy c c.length + 0) = cycTo xdy c c.length * 2 by omega]
  exact Int.mul_tdiv_cancel _ (by decide)
/-! ### Backwards -/
theorem rev_next {c : List Pl} {i : Nat} (hi : i < c.length) : nextP c.reverse i = c.getD (if i + 1 = c.length then c.length - 1 else c.length - 2 - i) (0, 0) := by
  unfold nextP
  rw [List.length_reverse, List.getD_eq_getElem?_getD]
  by_cases h : i + 1 = c.length
  · rw [h, Nat.mod_self, if_pos rfl, List.getElem?_reverse (by omega)]
    congr 2
  · rw [Nat.mod_eq_of_lt (by omega), if_neg h, List.getElem?_reverse (by omega)]
    congr 2
    omega
theorem rev_at {c : List Pl} {i : Nat} (hi : i < c.length) : c.reverse.getD i (0, 0) = c.getD (c.length - 1 - i) (0, 0) := by
  rw [List.getD_eq_getElem?_getD, List.getD_eq_getElem?_getD, List.getElem?_reverse hi]
theorem sqS_comm (x y u v : Int) : sqS x y u v = sqS u v x y := by
  unfold sqS
  rw [show x - u = -(u - x) by omega, show y - v = -(v - y) by omega, Int.neg_mul_neg, Int.neg_mul_neg]
theorem rev_steps {c : List Pl} (h : StepsOf c) : StepsOf c.reverse := by
  intro i hi
  rw [List.length_reverse] at hi
  rw [rev_at hi, rev_next hi, sqS_comm]
  by_cases h1 : i + 1 = c.length
  · rw [if_pos h1]
    have := h (c.length - 1) (by omega)
    have e : nextP c (c.length - 1) = c.getD (c.length - 1 - i) (0, 0) := by
      unfold nextP
      rw [show c.length - 1 + 1 = c.length by omega, Nat.mod_self, List.getD_eq_getElem?_getD, show c.length - 1 - i = 0 by omega]
    rw [e] at this
    exact this
  · rw [if_neg h1]
    have := h (c.length - 2 - i) (by omega)
    have e : nextP c (c.length - 2 - i) = c.getD (c.length - 1 - i) (0, 0) := by
      unfold nextP
      rw [Nat.mod_eq_of_lt (by omega), List.getD_eq_getElem?_getD, show c.length - 2 - i + 1 = c.length - 1 - i by omega]
    rw [e] at this
    exact this
theorem con_steps {c : List Pl} (h4 : 4 ≤ c.length) (h200 : c.length ≤ 200) (hp : ∀ p ∈ c, placeOk p.1 p.2 = true) (hs : StepsOf c) : conS c = (0, 0) := by
  unfold conS conM
  rw [if_neg (by omega), if_neg (by omega)]
  have hf : c.findIdx? plBad = none := List.findIdx?_eq_none_iff.2 (fun p hm => by unfold plBad; rw [hp p hm]; rfl)
  rw [hf]
  refine fb_none fun j hj => ?_
  unfold gapAt
  rw [List.getElem?_eq_getElem hj]
  dsimp only
  rw [if_pos ?_]
  by_cases h0 : j = 0
  · have := hs (c.length - 1) (by omega)
    have e : nextP c (c.length - 1) = c[j] := by
      unfold nextP
      rw [show c.length - 1 + 1 = c.length by omega, Nat.mod_self, List.getElem?_eq_getElem (by omega)]
      simp [h0]
    rw [e] at this
    unfold prevP
    rw [if_pos h0, ← List.getD_eq_getElem?_getD]
    exact this
  · have := hs (j - 1) (by omega)
    have e : nextP c (j - 1) = c[j] := by
      unfold nextP
      rw [Nat.mod_eq_of_lt (by omega)]
      simp only [show j - 1 + 1 = j by omega, List.getElem?_eq_getElem hj]
      rfl
    rw [e] at this
    unfold prevP
    rw [if_neg h0, ← List.getD_eq_getElem?_getD]
    exact this
theorem con_places {c : List Pl} (h : (conS c).2 = 0) : 4 ≤ c.length ∧ c.length ≤ 200 ∧ ∀ p ∈ c, placeOk p.1 p.2 = true := by
  unfold conS at h
  split at h
  · cases h
  · split at h
    · cases h
    · refine ⟨by omega, by omega, fun p hp => ?_⟩
      unfold conM at h
      rcases hfi : c.findIdx? plBad with _ | i
      · have := List.findIdx?_eq_none_iff.1 hfi p hp
        unfold plBad at this
        simpa using this
      · rw [hfi] at h
        cases h
theorem con_rev {c : List Pl} (h : (conS c).2 = 0) : (conS c.reverse).2 = 0 := by
  obtain ⟨h4, h200, hp⟩ := con_places h
  rw [con_steps (by simpa using h4) (by simpa using h200) (fun p hm => hp p (List.mem_reverse.1 hm)) (rev_steps (steps_ok h))]
theorem area_rev (c : List Pl) : areaS c.reverse = - areaS c := by
  unfold areaS
  rw [List.length_reverse, area2_cyc, area2_cyc, cyc_rev (F := cross) (G := cross) (fun i _ => by unfold cross; omega), Int.neg_tdiv]
theorem turnP_rev {x y : Int} {a b : Pl} (h : sqS a.1 a.2 b.1 b.2 = 1) : turnP x y b a = - turnP x y a b := by
  unfold turnP
  rcases step_cases h with ⟨h1, h2⟩ | ⟨h1, h2⟩ | ⟨h1, h2⟩ | ⟨h1, h2⟩ <;> rw [h1, h2] <;> (repeat' split) <;> omega
theorem turns_rev {c : List Pl} (h : StepsOf c) (x y : Int) : turnsS c.reverse x y = - turnsS c x y := by
  unfold turnsS
  rw [List.length_reverse, turns_cyc, turns_cyc]
  exact cyc_rev fun i hi => turnP_rev (h i hi)
/-! ### All cells -/
def sumN (g : Nat → Int) : Nat → Int
  | 0 => 0
  | n + 1 => sumN g n + g n
theorem sumN_zero : ∀ n, sumN (fun _ => 0) n = 0
  | 0 => rfl
  | n + 1 => by rw [sumN, sumN_zero n]; rfl
theorem sumN_congr {f g : Nat → Int} : ∀ n, (∀ i, i < n → f i = g i) → sumN f n = sumN g n
  | 0, _ => rfl
  | n + 1, h => by rw [sumN, sumN, sumN_congr n (fun i hi => h i (by omega)), h n (by omega)]
theorem sumN_add (f g : Nat → Int) : ∀ n, sumN (fun i => f i + g i) n = sumN f n + sumN g n
  | 0 => rfl
  | n + 1 => by rw [sumN, sumN, sumN, sumN_add f g n]; omega
theorem sumN_lt (A c : Int) (hA : 0 ≤ A) : ∀ n : Nat, sumN (fun x => if (x : Int) < A then c else 0) n = (if (n : Int) ≤ A then (n : Int) else A) * c
  | 0 => by
    show (0 : Int) = (if (0 : Int) ≤ A then 0 else A) * c
    rw [if_pos hA, Int.zero_mul]
  | n + 1 => by
    rw [sumN, sumN_lt A c hA n]
    by_cases h1 : ((n + 1 : Nat) : Int) ≤ A
    · rw [if_pos (by omega), if_pos (by omega), if_pos h1, show ((n + 1 : Nat) : Int) = (n : Int) + 1 by omega, Int.add_mul, Int.one_mul]
    · rw [if_neg h1, if_neg (show ¬ (n : Int) < A by omega), Int.add_zero]
      by_cases h2 : (n : Int) ≤ A
      · rw [if_pos h2, show (n : Int) = A by omega]
      · rw [if_neg h2]
theorem sumN_one (Y c : Int) (hY : 0 ≤ Y) : ∀ n : Nat, sumN (fun y => if Y = (y : Int) then c else 0) n = if Y < (n : Int) then c else 0
  | 0 => by
    show (0 : Int) = if Y < (0 : Int) then c else 0
    rw [if_neg (by omega)]
  | n + 1 => by
    rw [sumN, sumN_one Y c hY n]
    by_cases h1 : Y < (n : Int)
    · rw [if_pos h1, if_neg (by omega), if_pos (by omega)]; omega
    · rw [if_neg h1]
      by_cases h2 : Y = (n : Int)
      · rw [if_pos h2, if_pos (by omega)]; omega
      · rw [if_neg h2, if_neg (by omega)]; omega
/-- The sum over all cells of a grid, row by row. -/
def sum2 (w h : Nat) (g : Int → Int → Int) : Int := sumN (fun y => sumN (fun x => g x y) w) h
theorem sum2_add (w h : Nat) (f g : Int → Int → Int) : sum2 w h (fun x y => f x y + g x y) = sum2 w h f + sum2 w h g := by
  unfold sum2
  rw [← sumN_add]
  exact sumN_congr h fun y _ => sumN_add _ _ w
def InBox (w h : Nat) (p : Pl) : Prop := (0 ≤ p.1 ∧ p.1 ≤ (w : Int)) ∧ (0 ≤ p.2 ∧ p.2 ≤ (h : Int))
theorem sum2_step {w h : Nat} {a b : Pl} (hs : sqS a.1 a.2 b.1 b.2 = 1) (ha : InBox w h a) (hb : InBox w h b) : sum2 w h (fun x y => turnP x y a b) = xdy a b := by
  obtain ⟨⟨a0, a1⟩, a2, a3⟩ := ha
  obtain ⟨⟨b0, b1⟩, b2, b3⟩ := hb
  have hm : 0 ≤ min a.2 b.2 := by omega
  have e : ∀ y : Nat, sumN (fun x => turnP (x : Int) (y : Int) a b) w = if min a.2 b.2 = (y : Int) then a.1 * (b.2 - a.2) else 0 := by
    intro y
    by_cases hy : min a.2 b.2 = (y : Int)
    · rw [if_pos hy, sumN_congr (g := fun x => if (x : Int) < a.1 then b.2 - a.2 else 0) w (fun x _ => by
        unfold turnP
        by_cases hx : (x : Int) < a.1
        · rw [if_pos ⟨hx, hy⟩, if_pos hx]
        · rw [if_neg (fun h => hx h.1), if_neg hx]), sumN_lt _ _ a0]
      congr 1
      split <;> omega
    · rw [if_neg hy, sumN_congr (g := fun _ => 0) w (fun x _ => by unfold turnP; rw [if_neg (fun h => hy h.2)]), sumN_zero]
  unfold sum2
  rw [sumN_congr h (fun y _ => e y), sumN_one _ _ hm]
  unfold xdy
  rcases step_cases hs with ⟨h1, h2⟩ | ⟨h1, h2⟩ | ⟨h1, h2⟩ | ⟨h1, h2⟩
  · rw [h2, Int.sub_self, Int.mul_zero, ite_self]
  · rw [if_pos (by omega)]
  · rw [h2, Int.sub_self, Int.mul_zero, ite_self]
  · rw [if_pos (by omega)]
theorem sum2_cyc {w h : Nat} {c : List Pl} (hs : StepsOf c) (hb : ∀ p ∈ c, InBox w h p) : ∀ k, k ≤ c.length → sum2 w h (fun x y => turnsTo c x y k) = cycTo xdy c k
  | 0, _ => by
    show sum2 w h (fun _ _ => 0) = 0
    unfold sum2
    rw [sumN_congr (g := fun _ => 0) h (fun y _ => sumN_zero w), sumN_zero]
  | k + 1, hk => by
    have hin : ∀ j, j < c.length → InBox w h (c.getD j (0, 0)) := by
      intro j hj
      rw [List.getD_eq_getElem?_getD, List.getElem?_eq_getElem hj]
      exact hb _ (List.getElem_mem hj)
    have hnx : InBox w h (nextP c k) := by
      unfold nextP
      have hlt : (k + 1) % c.length < c.length := Nat.mod_lt _ (by omega)
      rw [List.getElem?_eq_getElem hlt]
      exact hb _ (List.getElem_mem hlt)
    have e : sum2 w h (fun x y => turnsTo c x y (k + 1)) = sum2 w h (fun x y => turnsTo c x y k) + sum2 w h (fun x y => turnP x y (c.getD k (0, 0)) (nextP c k)) := sum2_add w h _ _
    rw [e, sum2_cyc hs hb k (by omega), sum2_step (hs k (by omega)) (hin k (by omega)) hnx, cycTo]
theorem sum2_area {w h : Nat} {c : List Pl} (hs : StepsOf c) (hb : ∀ p ∈ c, InBox w h p) : sum2 w h (fun x y => turnsS c x y) = areaS c := by
  rw [area_xdy hs]
  exact sum2_cyc hs hb _ (Nat.le_refl _)
end Go.Sky.Ch

namespace Go.Sky.Ch
open Go.RowKit Go.Sky

def sumT (l : List (List Pl)) (x y : Int) : Nat → Int
  | 0 => 0
  | k + 1 => sumT l x y k + turnsS (l.getD k []) x y
def rowT (l : List (List Pl)) (y : Int) (W : Nat) : List Int := (List.range W).map fun c : Nat => sumT l (c : Int) y l.length
def fillS (l : List (List Pl)) (W H : Nat) : List (List Int) := (List.range H).map fun y : Nat => rowT l (y : Int) W
def sizeOk (W H : Int) : Bool := inR W 1 8 && inR H 1 8
def conF (c : List Pl) : Int := (conS c).2
def consE (l : List (List Pl)) : Int := firstE (l.map conF)
def fillE (W H : Int) (l : List (List Pl)) : Int := if sizeOk W H = false then 2 else if 64 < l.length then 8 else consE l
theorem firstE_cons (a : Int) (l : List Int) : firstE (a :: l) = if a = 0 then firstE l else a := rfl
theorem consE_drop {l : List (List Pl)} {k : Nat} {c : List Pl} (h : l[k]? = some c) : firstE ((l.map conF).drop k) = if conF c = 0 then firstE ((l.map conF).drop (k + 1)) else conF c := by
  have hm : (l.map conF)[k]? = some (conF c) := by rw [List.getElem?_map, h]; rfl
  obtain ⟨hk, he⟩ := List.getElem?_eq_some_iff.1 hm
  rw [List.drop_eq_getElem_cons hk, he, firstE_cons]
theorem consE_ok {l : List (List Pl)} (h : consE l = 0) : ∀ c ∈ l, (conS c).2 = 0 := fun c hc => firstE_zero h (conF c) (List.mem_map.2 ⟨c, hc, rfl⟩)
theorem sumT_bd {l : List (List Pl)} (h : ∀ c ∈ l, (conS c).2 = 0) (x y : Int) : ∀ k : Nat, k ≤ l.length → -(200 * (k : Int)) ≤ sumT l x y k ∧ sumT l x y k ≤ 200 * (k : Int)
  | 0, _ => by simp [sumT]
  | k + 1, hk => by
    have h1 := sumT_bd h x y k (by omega)
    have hc : l.getD k [] ∈ l := by
      rw [List.getD_eq_getElem?_getD, List.getElem?_eq_getElem (by omega)]
      exact List.getElem_mem (by omega)
    have h0 := h _ hc
    have h2 := turnsTo_bd (steps_ok h0) x y _ (Nat.le_refl _)
    have h3 := (con_places h0).2.1
    rw [sumT]
    unfold turnsS
    omega
theorem rowT_len (l : List (List Pl)) (y : Int) (W : Nat) : (rowT l y W).length = W := by unfold rowT; simp
theorem fillS_len (l : List (List Pl)) (W H : Nat) : (fillS l W H).length = H := by unfold fillS; simp
theorem fillS_at {l : List (List Pl)} {W H y : Nat} (h : y < H) : (fillS l W H)[y]? = some (rowT l (y : Int) W) := by unfold fillS; simp [h]
theorem rowT_at {l : List (List Pl)} {y : Int} {W c : Nat} (h : c < W) : (rowT l y W)[c]? = some (sumT l (c : Int) y l.length) := by unfold rowT; simp [h]
theorem fillS_step (l : List (List Pl)) (W y : Nat) : fillS l W (y + 1) = fillS l W y ++ [rowT l (y : Int) W] := by unfold fillS; rw [List.range_succ, List.map_append]; rfl
theorem rowT_step (l : List (List Pl)) (y : Int) (c : Nat) : rowT l y (c + 1) = rowT l y c ++ [sumT l (c : Int) y l.length] := by unfold rowT; rw [List.range_succ, List.map_append]; rfl
end Go.Sky.Ch
