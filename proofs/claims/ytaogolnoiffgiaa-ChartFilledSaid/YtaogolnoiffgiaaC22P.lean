/- Laws for slices.Delete at items: clear of one item; an owned row cut, and read from its middle. -/
import Derived.BigQuiet
import Derived.BigRegion
import Derived.Deep.AppendLies
import Derived.Deep.Draws
import Derived.Deep.Quiet
import Derived.Deep.QuietTactic
import Derived.Laws.BitsAllLaws
import Derived.Lib.Hide
import Derived.Lib.SliceRun
import Derived.OrdersIn
import Derived.OwnWalkIn
import Derived.RangeFuncCalls
import Derived.StillTail
import Derived.TacticsIn
import Derived.Test.YtaogolnoiffgiaaProg
import Derived.WalkKit
import Derived.WalkLawsBesides
import Derived.WalkSpells
import Derived.Test.YtaogolnoiffgiaaC22O

namespace Go.Proofs.Ytaogolnoiffgiaa
open Go.RowKit Go.Sky

def zeroI : List Value := [.string .empty, .int .i64 0, .int .i64 0, .int .i64 0]

/-- A cell behind the row's end. -/
theorem own_beyond {α : Type} {w : World} {base e k n cap : Nat} {enc : α → List Value} {g : Nat} {xs : List α} (h : Sky.Own w base e k enc (some ⟨g, 0, none⟩) n cap xs) (o : Nat) (u : Value) (ho : n * k ≤ o) :
    Sky.Own (w.setCell ⟨g, o, none⟩ u) base e k enc (some ⟨g, 0, none⟩) n cap xs := by
  refine ⟨h.1, h.2.1, ?_, ?_⟩
  · rw [flat_len h.2.1, h.1]
  · rcases h.2.2.2 with ⟨hv, _⟩ | ⟨g', c', cur, hv, hb, hg, hn, hm, hs, ht⟩
    · cases hv
    · right
      have hgg : g' = g := by injection hv with h1 _ _; injection h1 with h1; injection h1 with h1; exact h1.symm
      subst hgg
      refine ⟨g', c', cur.setIfInBounds o u, hv, hb, ?_, hn, hm, by simp [hs], ?_⟩
      · simp [World.setCell, Array.getElem?_modify, hg]
      · rw [← ht, Array.toList_setIfInBounds, List.take_set, List.set_eq_of_length_le]
        rw [List.length_take]
        omega

theorem flat_take {α : Type} {k : Nat} {enc : α → List Value} (hk : ∀ x, (enc x).length = k) : ∀ (xs : List α) (m : Nat), (xs.take m).flatMap enc = (xs.flatMap enc).take (m * k)
  | [], m => by simp
  | x :: xs, 0 => by simp
  | x :: xs, m + 1 => by
    rw [List.take_succ_cons, List.flatMap_cons, List.flatMap_cons, flat_take hk xs m, List.take_append, hk, List.take_of_length_le (l := enc x) (by rw [hk, Nat.add_mul]; omega)]
    rw [show (m + 1) * k - k = m * k by rw [Nat.add_mul]; omega]
theorem flat_drop {α : Type} {k : Nat} {enc : α → List Value} (hk : ∀ x, (enc x).length = k) : ∀ (xs : List α) (m : Nat), (xs.drop m).flatMap enc = (xs.flatMap enc).drop (m * k)
  | [], m => by simp
  | x :: xs, 0 => by simp
  | x :: xs, m + 1 => by
    rw [List.drop_succ_cons, List.flatMap_cons, flat_drop hk xs m, List.drop_append, hk, List.drop_of_length_le (l := enc x) (by rw [hk, Nat.add_mul]; omega)]
    rw [show (m + 1) * k - k = m * k by rw [Nat.add_mul]; omega, List.nil_append]
/-- The row cut: its first m elements. -/
theorem own_cut {α : Type} {w : World} {base e k n cap : Nat} {enc : α → List Value} {g : Nat} {xs : List α} (h : Sky.Own w base e k enc (some ⟨g, 0, none⟩) n cap xs) (m : Nat) (hm : m ≤ n) :
    Sky.Own w base e k enc (some ⟨g, 0, none⟩) m cap (xs.take m) := by
  have hl : (xs.take m).length = m := by rw [List.length_take, h.1]; omega
  refine ⟨hl, h.2.1, by rw [flat_len h.2.1, hl], ?_⟩
  rcases h.2.2.2 with ⟨hv, _⟩ | ⟨g', c', cur, hv, hb, hg, hn, hm', hs, ht⟩
  · cases hv
  · right
    injection hv with h1 h2 h3
    injection h1 with h1
    injection h1 with h1
    subst h1
    refine ⟨_, c', cur, by rw [h3], hb, hg, by omega, hm', hs, ?_⟩
    rw [flat_take h.2.1, ← ht, List.take_take, Nat.min_eq_left (Nat.mul_le_mul_right k hm)]

/-- A cell of the row. -/
theorem own_at {α : Type} {w : World} {base e k n cap : Nat} {enc : α → List Value} {g : Nat} {xs : List α} (h : Sky.Own w base e k enc (some ⟨g, 0, none⟩) n cap xs) (o : Nat) (u : Value) (hu : (xs.flatMap enc)[o]? = some u) : w.cell? ⟨g, o, none⟩ = some u := by
  rcases h.2.2.2 with ⟨hv, _⟩ | ⟨g', c', cur, hv, hb, hg, hn, hm', hs, ht⟩
  · cases hv
  · injection hv with h1 h2 h3
    injection h1 with h1
    injection h1 with h1
    subst h1
    rw [cell_of_row w g o cur _ (0, 0) hg]
    rw [← ht] at hu
    rw [List.getElem?_take] at hu
    split at hu
    · simpa using hu
    · cases hu

/-- A place of the row's room. -/
theorem own_room {α : Type} {w : World} {base e k n cap : Nat} {enc : α → List Value} {g : Nat} {xs : List α} (h : Sky.Own w base e k enc (some ⟨g, 0, none⟩) n cap xs) (o : Nat) (ho : o < cap * k) : (w.cell? ⟨g, o, none⟩).isSome = true ∧ w.frozen? ⟨g, o, none⟩ = false := by
  rcases h.2.2.2 with ⟨hv, _⟩ | ⟨g', c', cur, hv, hb, hg, hn, hm', hs, ht⟩
  · cases hv
  · injection hv with h1 h2 h3
    injection h1 with h1
    injection h1 with h1
    subst h1 h3
    refine ⟨?_, by simp [World.frozen?, hg]⟩
    rw [cell_of_row w g o cur _ (0, 0) hg, Array.getElem?_eq_getElem (by omega)]
    rfl

end Go.Proofs.Ytaogolnoiffgiaa
