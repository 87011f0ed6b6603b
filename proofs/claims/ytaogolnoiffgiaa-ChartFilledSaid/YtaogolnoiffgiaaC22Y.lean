/- Arguments opened: lists of numbers, lists of places. -/
import Derived.BigQuiet
import Derived.Deep.AppendLies
import Derived.Deep.Draws
import Derived.Deep.Fields
import Derived.Deep.Quiet
import Derived.Deep.QuietTactic
import Derived.Deep.Slices
import Derived.Laws.BitsAllLaws
import Derived.Laws.Rows
import Derived.Lib.Hide
import Derived.MapKept
import Derived.Maps.Keyed
import Derived.OpenShut
import Derived.OrdersIn
import Derived.OwnWalkIn
import Derived.ProofKit
import Derived.RangeFuncCalls
import Derived.Shelf.RegionOpen
import Derived.StillTail
import Derived.TacticsIn
import Derived.Test.YtaogolnoiffgiaaProg
import Derived.Test.YtaogolnoiffgiaaRows
import Derived.WalkKit
import Derived.WalkLawsBesides
import Derived.WalkSpells
import Derived.Test.YtaogolnoiffgiaaC22H
import Derived.Test.YtaogolnoiffgiaaC22M
import Derived.Test.YtaogolnoiffgiaaC22R
import Derived.Test.YtaogolnoiffgiaaC22X

namespace Go.Sky
open Go.RowKit
theorem rowsAt_cons {α : Type} {w : World} {k : Nat} {enc : α → List Value} {r : SlV} {rv : List SlV} {xs : List α} {rows : List (List α)} (h : RowOf w k enc r xs) (ht : RowsAt w k enc rv rows) : RowsAt w k enc (r :: rv) (xs :: rows) := by
  refine ⟨by simp [ht.1], fun i r' xs' h1 h2 => ?_⟩
  cases i with
  | zero =>
    injection h1 with h1
    injection h2 with h2
    subst h1 h2
    exact h
  | succ i => exact ht.2 i r' xs' h1 h2
theorem rows_of {α : Type} {w : World} {k : Nat} {enc : α → List Value} : ∀ {rv : List SlV}, (∀ r ∈ rv, ∃ xs : List α, RowOf w k enc r xs) → ∃ rows, RowsAt w k enc rv rows
  | [], _ => ⟨[], RowsAt.nil⟩
  | r :: t, h => by
    obtain ⟨xs, hx⟩ := h r (List.mem_cons_self ..)
    obtain ⟨rows, hr⟩ := rows_of (rv := t) (fun r hr => h r (List.mem_cons_of_mem _ hr))
    exact ⟨xs :: rows, rowsAt_cons hx hr⟩
end Go.Sky
namespace Go.Proofs.Ytaogolnoiffgiaa
open Go.ChangeShapes Go.WideShapes Go.ChangeAt Go.RowKit Go.Sky Go.Sky.Ch

section
variable {H : Type} {enc : TypeId × Value → H} {w : World} {base : Nat} {spare : Nat → Bool} {held : Bool}
set_option maxRecDepth 100000 in
theorem el_rowI : ∀ n l z, l.length = 1 → DataW.trod enc Try.prog w base spare held n 22 l = some z → ∃ y : SlV, l = encSl y ∧ ∃ xs : List Int, RowOf w 1 encI y xs := by
  intro n l z _ h
  obtain ⟨A, m, cap, xs, e, hle, _, hr, _⟩ := open_rd (el := encI) Try.underlying22 (k := 1) (by kernel_rfl) (by omega) i64ok (el_int Try.underlying3) h
  exact ⟨⟨A, m, cap⟩, e, xs, hle, hr⟩
set_option maxRecDepth 100000 in
theorem el_rowP : ∀ n l z, l.length = 1 → DataW.trod enc Try.prog w base spare held n 82 l = some z → ∃ y : SlV, l = encSl y ∧ ∃ xs : List Pl, RowOf w 2 encPl y xs := by
  intro n l z _ h
  obtain ⟨A, m, cap, xs, e, hle, _, hr, _⟩ := open_rd (el := fun p : Pl => [Value.int .i64 p.1, Value.int .i64 p.2]) Try.underlying82 (k := 2) (by kernel_rfl) (by omega) (fun y => i64ok y.1 ∧ i64ok y.2) el_pl2 h
  exact ⟨⟨A, m, cap⟩, e, xs, hle, hr⟩
end
set_option maxRecDepth 100000 in
theorem lists_open {H : Type} {enc : TypeId × Value → H} {W : World} {v : Value} {d : DataW H} {p : List MemPlace} {base : Nat} (hv : Value.okWide Try.prog W .any base 41 v)
    (h : DataW.Trod enc Try.prog W 0 (fun _ => true) true 41 v d p) : ∃ A n cap rows, v = .slice A n cap ∧ n ≤ cap ∧ RowsL W 1 encI A n rows := by
  obtain ⟨A0, n0, c0, rfl⟩ := okWide_slice Try.underlying41 hv
  obtain ⟨fuel, hf⟩ := h
  obtain ⟨A, n, cap, rv, e, hle, _, hr, hok⟩ := open_rd (el := encSl) Try.underlying41 (k := 1) (by kernel_rfl) (by omega) (fun y => ∃ xs : List Int, RowOf W 1 encI y xs) el_rowI hf
  have e' : [Value.slice A0 n0 c0] = [Value.slice A n cap] := e
  injection e' with e'
  obtain ⟨rows, hrows⟩ := rows_of hok
  exact ⟨A, n, cap, rows, e', hle, rv, hr, hrows⟩
set_option maxRecDepth 100000 in
theorem contours_open {H : Type} {enc : TypeId × Value → H} {W : World} {v : Value} {d : DataW H} {p : List MemPlace} {base : Nat} (hv : Value.okWide Try.prog W .any base 47 v)
    (h : DataW.Trod enc Try.prog W 0 (fun _ => true) true 47 v d p) : ∃ A n cap rows, v = .slice A n cap ∧ n ≤ cap ∧ RowsL W 2 encPl A n rows := by
  obtain ⟨A0, n0, c0, rfl⟩ := okWide_slice Try.underlying47 hv
  obtain ⟨fuel, hf⟩ := h
  obtain ⟨A, n, cap, rv, e, hle, _, hr, hok⟩ := open_rd (el := encSl) Try.underlying47 (k := 1) (by kernel_rfl) (by omega) (fun y => ∃ xs : List Pl, RowOf W 2 encPl y xs) el_rowP hf
  have e' : [Value.slice A0 n0 c0] = [Value.slice A n cap] := e
  injection e' with e'
  obtain ⟨rows, hrows⟩ := rows_of hok
  exact ⟨A, n, cap, rows, e', hle, rv, hr, hrows⟩
end Go.Proofs.Ytaogolnoiffgiaa
