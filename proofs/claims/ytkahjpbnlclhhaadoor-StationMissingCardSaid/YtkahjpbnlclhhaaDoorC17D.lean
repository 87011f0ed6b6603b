/- Plain: where an item is put by a search in the middle. No program.
   Plain functions of chapter 9: Put. No program. -/
import Derived.Deep.AppendLies
import Derived.Deep.Draws
import Derived.Lib.Hide
import Derived.WalkKit
import Derived.Test.YtkahjpbnlclhhaaDoorC17C

namespace Go.Sky

theorem cut_iff {q : List Item} {i h : Nat} (hh : h < i) : befQ q i ((sortQ q i).getD h 0) = false ↔ h < cutI (befQ q i) (sortQ q i) i := by
  have hl := sortQ_len q i
  have hs := sortQ_sorted q i
  have hR := cutI_right (p := befQ q i) (R := sortQ q i) i
  have hL := cutI_left (p := befQ q i) (R := sortQ q i) i
  have hc := cutI_le (befQ q i) (sortQ q i) i
  obtain ⟨c, hcc⟩ : ∃ c, cutI (befQ q i) (sortQ q i) i = c := ⟨_, rfl⟩
  rw [hcc] at hR hL hc ⊢
  generalize sortQ q i = R at *
  have hp := List.pairwise_iff_getElem.1 hs
  constructor
  · intro h1
    rcases Nat.lt_or_ge h c with h2 | h2
    · exact h2
    · rw [hR h h2 hh] at h1; cases h1
  · intro h1
    have h2 := hL (by omega)
    by_cases he : h = c - 1
    · rw [he]; exact h2
    · cases h3 : befQ q i (R.getD h 0) with
      | false => rfl
      | true =>
        rw [List.getD_eq_getElem?_getD, List.getElem?_eq_getElem (by omega), Option.getD_some] at h2 h3
        have h4 := hp h (c - 1) (by omega) (by omega) (by omega)
        rw [bef_trans h3 h4] at h2
        cases h2
end Go.Sky

namespace Go.Sky

def addZ (s : Int) (x : Item) : Int := s + x.z
def totalI (xs : List Item) : Int := foldTo addZ 0 xs xs.length
theorem total_in {xs : List Item} (h : ∀ x ∈ xs, 0 ≤ x.z ∧ x.z ≤ 10000) : ∀ k : Nat, k ≤ xs.length → 0 ≤ foldTo addZ 0 xs k ∧ foldTo addZ 0 xs k ≤ 10000 * k
  | 0, _ => by rw [foldTo_zero]; omega
  | k + 1, hk => by
    have h1 := total_in h k (by omega)
    have h2 := h xs[k] (List.getElem_mem _)
    rw [foldTo_step _ _ _ _ _ (List.getElem?_eq_getElem (by omega))]
    unfold addZ
    unfold addZ at h1
    omega
/-- The last of the order. -/
def lastI (xs : List Item) : Nat := (sortQ xs xs.length).getD (xs.length - 1) 0
theorem lastI_lt {xs : List Item} (h : 0 < xs.length) : lastI xs < xs.length := getD_lt (by omega)
/-- Items are dropped until the rest has room. -/
def putTo (c : Int) : Nat → List Item → List ByteArray → List Item × List ByteArray
  | 0, xs, ds => (xs, ds)
  | f + 1, xs, ds => if c < totalI xs then putTo c f (xs.eraseIdx (lastI xs)) (ds ++ [((xs[lastI xs]?).getD ⟨.empty, 0, 0, 0⟩).n]) else (xs, ds)
theorem putTo_go {c : Int} {f : Nat} {xs : List Item} {ds : List ByteArray} {x : Item} (h : c < totalI xs) (hx : xs[lastI xs]? = some x) : putTo c (f + 1) xs ds = putTo c f (xs.eraseIdx (lastI xs)) (ds ++ [x.n]) := by
  rw [putTo, if_pos h, hx]
  rfl
theorem putTo_stop {c : Int} {f : Nat} {xs : List Item} {ds : List ByteArray} (h : ¬ c < totalI xs) : putTo c f xs ds = (xs, ds) := by
  cases f with
  | zero => rfl
  | succ f => rw [putTo, if_neg h]
theorem total_nil {xs : List Item} (h : xs.length = 0) : totalI xs = 0 := by
  rw [List.length_eq_zero_iff] at h
  subst h
  rfl
end Go.Sky
