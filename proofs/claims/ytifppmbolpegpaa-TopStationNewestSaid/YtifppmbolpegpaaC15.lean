/- TopStationNewest: for all copies and all exchanges the law returns true. No condition.
   Arguments opened: a row of rows of records, a row of pairs. -/
import Derived.BigQuiet
import Derived.BigRegion
import Derived.Deep.AppendLies
import Derived.Deep.Draws
import Derived.Deep.Fields
import Derived.Deep.Quiet
import Derived.Deep.QuietTactic
import Derived.Deep.Slices
import Derived.Laws.BitsAllLaws
import Derived.Lib.Hide
import Derived.Lib.SliceRun
import Derived.OpenShut
import Derived.OrdersIn
import Derived.OwnWalkIn
import Derived.ProofKit
import Derived.RangeFuncCalls
import Derived.Shelf.GgSortFunc.InsertionK
import Derived.Shelf.SlSortCmp.Insertion
import Derived.Shelf.SlSortCmp.NoneTotal
import Derived.Shelf.SlSortCmp.QuietGrown
import Derived.Shelf.SlSortCmp.WholeK
import Derived.Shelf.Spec.SlicesGrow
import Derived.StillTail
import Derived.TacticsIn
import Derived.Test.YtifppmbolpegpaaProg
import Derived.Test.YtifppmbolpegpaaRows
import Derived.WalkKit
import Derived.WalkLawsBesides
import Derived.WalkSpells
import Derived.Test.YtifppmbolpegpaaC15O
import Derived.Test.YtifppmbolpegpaaC15V
import Derived.Test.YtifppmbolpegpaaC15W

namespace Go.Proofs.Ytifppmbolpegpaa
open Go.ChangeShapes Go.WideShapes Go.ChangeAt Go.RowKit Go.Sky

section
variable {H : Type} {enc : TypeId × Value → H} {w : World} {base : Nat} {spare : Nat → Bool} {held : Bool}
set_option maxRecDepth 100000 in
theorem el_row : ∀ n l z, l.length = 1 → DataW.trod enc Try.prog w base spare held n 41 l = some z → ∃ y : RowV, l = encV y ∧ Rd w 3 encRec y.A y.n y.xs := by
  intro n l z _ h
  obtain ⟨A, m, cap, xs, e, _, _, hr, _⟩ := open_rd (el := encRec) Try.underlying41 (k := 3) (by kernel_rfl) (by omega) (fun y => i64ok y.v) el_rec h
  exact ⟨⟨A, m, cap, xs⟩, e, hr⟩
end
set_option maxRecDepth 100000 in
theorem rows_open {H : Type} {enc : TypeId × Value → H} {W : World} {v : Value} {d : DataW H} {p : List MemPlace} {base : Nat} (hv : Value.okWide Try.prog W .any base 52 v)
    (h : DataW.Trod enc Try.prog W 0 (fun _ => true) true 52 v d p) : ∃ A n cap xs, v = .slice A n cap ∧ Rd W 1 encV A n xs ∧ ∀ y ∈ xs, Rd W 3 encRec y.A y.n y.xs := by
  obtain ⟨A0, n0, c0, rfl⟩ := okWide_slice Try.underlying52 hv
  obtain ⟨fuel, hf⟩ := h
  obtain ⟨A, n, cap, xs, e, _, _, hr, hok⟩ := open_rd (el := encV) Try.underlying52 (k := 1) (by kernel_rfl) (by omega) (fun y => Rd W 3 encRec y.A y.n y.xs) el_row hf
  have e' : [Value.slice A0 n0 c0] = [Value.slice A n cap] := e
  injection e' with e'
  exact ⟨A, n, cap, xs, e', hr, hok⟩
set_option maxRecDepth 100000 in
theorem pairs_open {H : Type} {enc : TypeId × Value → H} {W : World} {v : Value} {d : DataW H} {p : List MemPlace} {base : Nat} (hv : Value.okWide Try.prog W .any base 53 v)
    (h : DataW.Trod enc Try.prog W 0 (fun _ => true) true 53 v d p) : ∃ A n cap xs, v = .slice A n cap ∧ Rd W 2 encP A n xs := by
  obtain ⟨A0, n0, c0, rfl⟩ := okWide_slice Try.underlying53 hv
  obtain ⟨fuel, hf⟩ := h
  obtain ⟨A, n, cap, xs, e, _, _, hr, _⟩ := open_rd (el := encP) Try.underlying53 (k := 2) (by kernel_rfl) (by omega) (fun y => i64ok y.1 ∧ i64ok y.2) el_pair hf
  have e' : [Value.slice A0 n0 c0] = [Value.slice A n cap] := e
  injection e' with e'
  exact ⟨A, n, cap, xs, e', hr⟩
end Go.Proofs.Ytifppmbolpegpaa

namespace Go.Proofs.Ytifppmbolpegpaa
open Go.ChangeShapes Go.WideShapes Go.ChangeAt Go.RowKit Go.Sky

set_option maxRecDepth 100000 in
theorem newest_lifted (os : Os) (started : os.Started) (H : Type) (enc : TypeId × Value → H) :
    ReturnsInHanded {} Try.checked os 6 .any (Rows.topStationNewestSpec.pre6 enc Try.prog Try.f6 Rows.topStationNewestRow.domain false) (Rows.topStationNewestSpec.post enc Try.prog Try.f6 false true false false) := by
  refine returnsInHanded_of_change (C := Try.checked) ownKnob_none started (by kernel_rfl) Try.func6
    (ChangeSpec.witness6 (enc := enc) (C := Try.checked) false ⟨#[], #[.slice none 0 0, .slice none 0 0], []⟩ 8 (by kernel_rfl) (by kernel_rfl) (by kernel_rfl) (by kernel_rfl)) ?_
  intro W base args ds gs before hval0 hW _ _
  have hval : ∀ (j : Nat) t v, Try.f6.params[j]? = some t → args[j]? = some v → Value.okWide Try.prog W .any base t v := hval0
  have hW' := hW
  obtain ⟨p, q, hA0, hV, rfl, hfz, hnd⟩ := hW
  have hA : DataW.TrodAll enc Try.prog W 0 (fun _ => true) true Try.f6.params.toList args.toList ds p := hA0
  rw [Try.params6] at hA hval
  obtain ⟨v0, v1, d0, d1, p0, p1, rfl, rfl, rfl, h0, h1⟩ := trodAll_two hA
  obtain ⟨S, n, ca, rows, rfl, hra, hrr⟩ := rows_open (hval 0 52 v0 rfl rfl) h0
  obtain ⟨T, m, cb, ps, rfl, hrb⟩ := pairs_open (hval 1 53 v1 rfl rfl) h1
  refine (newest_any S T n ca m cb rows ps W hra hrr hrb).mono fun e W' ⟨he, hn⟩ => ?_
  subst he
  exact ⟨_, rfl, post_new hW' rfl laid_out (by rw [Try.params6]; decide +kernel) rfl Try.underlying4 rfl hn⟩

theorem newest_holds : Rows.TopStationNewestSaid :=
  OpenClaim.holds_of_wide 6 Try.f6 rfl rfl rfl rfl rfl rfl rfl ⟨rfl, rfl, rfl, rfl, rfl⟩ rfl rfl rfl rfl rfl (by kernel_rfl) Try.func6 (by kernel_rfl)
    (of_decide_eq_true (by kernel_rfl)) (by unfold Func.isWrapper; first | (rw [if_pos (by decide +kernel)]; kernel_rfl) | (rw [if_neg (by decide +kernel)]; exact ⟨rfl, rfl⟩))
    (fun os started H enc _ => newest_lifted os started H enc)
end Go.Proofs.Ytifppmbolpegpaa
