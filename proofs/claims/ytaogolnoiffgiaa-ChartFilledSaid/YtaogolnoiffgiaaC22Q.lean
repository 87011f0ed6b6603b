/- From the kit's words of a sorted row to an owned row. -/
import Derived.BigQuiet
import Derived.BigRegion
import Derived.Deep.AppendLies
import Derived.Deep.Draws
import Derived.Deep.Quiet
import Derived.Deep.QuietTactic
import Derived.Laws.BitsAllLaws
import Derived.Lib.Hide
import Derived.Lib.SliceRun
import Derived.OrdersIn
import Derived.OwnWalkIn
import Derived.RangeFuncCalls
import Derived.Shelf.GgSortFunc.InsertionK
import Derived.StillTail
import Derived.TacticsIn
import Derived.Test.YtaogolnoiffgiaaProg
import Derived.WalkKit
import Derived.WalkLawsBesides
import Derived.WalkSpells
import Derived.Test.YtaogolnoiffgiaaC22P

namespace Go.Proofs.Ytaogolnoiffgiaa
open Go.RowKit Go.Sky Go.Sort

theorem flatK_list {α : Type} [Inhabited α] {enc : α → List Value} {k : Nat} (hk : ∀ x, (enc x).length = k) (d : Array α) : (flatK enc k d).toList = d.toList.flatMap enc := by
  apply List.ext_getElem?
  intro t
  rcases Nat.lt_or_ge t (d.size * k) with h | h
  · have k0 : 0 < k := by
      rcases Nat.eq_zero_or_pos k with q | q
      · subst q; simp at h
      · exact q
    have hq : t / k < d.size := Nat.div_lt_of_lt_mul (by rw [Nat.mul_comm]; exact h)
    have hm : t % k < (enc d[t / k]!).length := by rw [hk]; exact Nat.mod_lt _ k0
    have e : d.toList[t / k]? = some d[t / k]! := by rw [Array.getElem?_toList, getElem!_pos d _ hq]; exact Array.getElem?_eq_getElem hq
    have h2 := flat_at hk d.toList (t / k) _ e (t % k) _ (List.getElem?_eq_getElem hm)
    have et : t / k * k + t % k = t := by rw [Nat.mul_comm]; exact Nat.div_add_mod t k
    rw [et] at h2
    have hf : t < (flatK enc k d).size := by rw [size_flatK]; exact h
    rw [h2, Array.getElem?_toList, Array.getElem?_eq_getElem hf, ← getElem!_pos (flatK enc k d) t hf, get_flatK _ _ _ _ h, getElem!_pos (enc d[t / k]!) _ hm]
  · rw [List.getElem?_eq_none (by simpa using h), List.getElem?_eq_none (by rw [flat_len hk]; simpa using h)]

theorem own_holds {α : Type} [Inhabited α] {w : World} {base e k n cap : Nat} {enc : α → List Value} {g : Nat} {xs : List α} (h : Sky.Own w base e k enc (some ⟨g, 0, none⟩) n cap xs) : HoldsK enc k w g 0 xs.toArray := by
  intro j hj
  refine ⟨?_, h.free _⟩
  have hl : (flatK enc k xs.toArray)[j]? = some ((flatK enc k xs.toArray)[j]!) := by rw [getElem!_pos _ j hj]; exact Array.getElem?_eq_getElem hj
  rw [← Array.getElem?_toList, flatK_list h.2.1] at hl
  rw [Nat.zero_add]
  exact own_at h j _ hl

theorem put_cells {F cur : Array Value} (h : F.size ≤ cur.size) : (putCells id 0 F cur).toList.take F.size = F.toList := by
  apply List.ext_getElem?
  intro t
  rcases Nat.lt_or_ge t F.size with q | q
  · rw [List.getElem?_take, if_pos q, Array.getElem?_toList, Array.getElem?_toList, putCells, Array.getElem?_mapIdx, Array.getElem?_eq_getElem (show t < cur.size by omega), Array.getElem?_eq_getElem q]
    simp [q]
  · rw [List.getElem?_take, if_neg (by omega), List.getElem?_eq_none (by simpa using q)]

theorem own_sorted {α : Type} [Inhabited α] {w : World} {base e k n cap : Nat} {enc : α → List Value} {g : Nat} {xs : List α} (h : Sky.Own w base e k enc (some ⟨g, 0, none⟩) n cap xs) (d' : Array α) (hd : d'.size = n) (m : Nat) (os : Array Obj) :
    Sky.Own (sortWorldK enc k w g 0 m d' os) base e k enc (some ⟨g, 0, none⟩) n cap d'.toList ∧ w.grownBy (sortWorldK enc k w g 0 m d' os) (some g) := by
  rcases h.2.2.2 with ⟨hv, _⟩ | ⟨g', c', cur, hv, hb, hg, hn, hm, hs, ht⟩
  · cases hv
  · injection hv with h1 h2 h3
    injection h1 with h1
    injection h1 with h1
    subst h1 h3
    have hlt : g < w.heap.size := (Array.getElem?_eq_some_iff.1 hg).1
    have hF : (flatK enc k d').size = n * k := by rw [size_flatK, hd]
    have hheap : (sortWorldK enc k w g 0 m d' os).heap[g]? = some (.cells (putCells id 0 (flatK enc k d') cur) e (0, 0)) := by
      show (Array.modify w.heap g _ ++ os)[g]? = _
      rw [Array.getElem?_append_left (by simpa using hlt), Array.getElem?_modify, if_pos rfl, hg]
      rfl
    refine ⟨⟨by simpa using hd, h.2.1, by rw [flat_len h.2.1]; simp [hd], .inr ⟨g, cap, _, rfl, hb, hheap, hn, hm, by simp [putCells, hs], ?_⟩⟩, rfl, rfl, rfl, ?_, ?_⟩
    · rw [← hF, put_cells (by rw [hF, hs]; exact Nat.mul_le_mul_right k hn), flatK_list h.2.1]
    · show w.heap.size ≤ (Array.modify w.heap g _ ++ os).size
      simp
    · intro q hq hne
      show (Array.modify w.heap g _ ++ os)[q]? = _
      rw [Array.getElem?_append_left (by simpa using hq), Array.getElem?_modify, if_neg (fun e => hne (congrArg some e).symm)]
end Go.Proofs.Ytaogolnoiffgiaa
