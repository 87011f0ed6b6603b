/- Arguments opened: a struct of one-cell fields by value; integers of a slice. -/
import Derived.Test.YtjpkcmlepjbamaaLaw
namespace Go.Proofs.Ytjpkcmlepjbamaa
open Go.ChangeShapes Go.WideShapes Go.ChangeAt Go.RowKit Go.Sky Go.Deep

section
variable {H : Type} {enc : TypeId × Value → H} {P : Program} {w : World} {base : Nat} {spare : Nat → Bool} {held : Bool}

/-- A struct by value, each field one cell: its cells, and each one's reading. -/
theorem open_cells {r : Reach} {b0 : Nat} {t : TypeId} {fs : Array Field} {v : Value} {d : DataW H} {p : List MemPlace} (hs : P.underlying t = some (.struct fs)) (hone : oneCellFields P fs = true) (hC : P.cellsOf t = fs.size)
    (hv : Value.okWide P w r b0 t v) (h : DataW.Trod enc P w base spare held t v d p) :
    ∃ cs : List Value, v = .agg cs.toArray ∧ cs.length = fs.size ∧ ∃ n, ∀ (i : Nat) (f : Field), fs[i]? = some f → ∃ c z, cs[i]? = some c ∧ DataW.trod enc P w base spare held n f.type [c] = some z := by
  obtain ⟨cs, rfl, hsz⟩ := okWide_struct hs hv
  obtain ⟨fuel, hf⟩ := h
  obtain ⟨xs, n, _, _, _, hlen, hg⟩ := DataW.trod_struct hs hf
  have hcl : cs.toList.length = fs.size := by rw [← hC, ← hsz]; simp
  refine ⟨cs.toList, by simp, hcl, n, fun i f hi => ?_⟩
  obtain ⟨ho, hk⟩ := Go.Deep.hone_of hone i f hi
  have hif : i < fs.size := (Array.getElem?_eq_some_iff.1 hi).1
  have h1 := hg i f hi
  rw [ho, hk] at h1
  have hc : (Value.agg cs).cells.toList = cs.toList := rfl
  rw [hc, Go.Deep.take1_drop _ i undef (by omega)] at h1
  refine ⟨cs.toList.getD i undef, xs[i]'(by omega), ?_, ?_⟩
  · rw [List.getD_eq_getElem?_getD, List.getElem?_eq_getElem (by omega)]; rfl
  · rw [h1, List.getElem?_eq_getElem (by omega)]

theorem el_int {e : TypeId} (he : P.underlying e = some (.int .i64)) : ∀ n l z, l.length = 1 → DataW.trod enc P w base spare held n e l = some z → ∃ y : Int, l = [Value.int .i64 y] ∧ i64ok y := by
  intro n l z _ h
  obtain ⟨y, hy, _, hw⟩ := DataW.trod_int he h
  exact ⟨y, hy, i64ok_of hw⟩
end
end Go.Proofs.Ytjpkcmlepjbamaa
