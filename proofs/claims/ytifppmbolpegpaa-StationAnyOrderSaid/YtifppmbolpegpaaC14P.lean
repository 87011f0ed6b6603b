/- Contracts: slices.SortFunc at records. -/
import Derived.BigQuiet
import Derived.BigRegion
import Derived.Deep.AppendLies
import Derived.Deep.Draws
import Derived.Deep.Quiet
import Derived.Deep.QuietTactic
import Derived.Ground.SlsfProg
import Derived.Laws.BitsAllLaws
import Derived.Lib.Hide
import Derived.Shelf.Lay
import Derived.Shelf.SlSortCmp.Insertion
import Derived.Shelf.SlSortCmp.QuietGrown
import Derived.Shelf.SlSortCmp.WholeK
import Derived.StillTail
import Derived.Test.YtifppmbolpegpaaProg
import Derived.WalkKit
import Derived.WalkLawsBesides
import Derived.WalkSpells
import Derived.Test.YtifppmbolpegpaaC14M

namespace Go.Proofs.Ytifppmbolpegpaa
open Go.RowKit Go.Sky Go.Sort Go.Shelf

shelf_lay_g SlLaysF0.n6 Slsf 6 at Try 48 as sortRec

theorem recLays (blk off size : Nat) (w : World) : CmpLays Try.prog 49 #[] encRec 3 cmpR blk off size w :=
  fun _ _ _ _ x y => recClos x y _

theorem sortRec_any (blk off cap : Nat) (d : Array Sky.Rec) (w : World) (hH : HoldsK encRec 3 w blk off d) (hblk : blk < w.heap.size) (hsz : d.size < 4611686018427387904) :
    Calls Try.prog 48 #[.slice (some ⟨blk, off, none⟩) d.size cap, .func (.func 49) #[] #[]] w fun e w' =>
      e = .returned (.tuple #[]) ∧ ∃ d' n os, PermIn 0 d.size d d' ∧ SortedIn (ltOf cmpR) 0 d.size d' ∧ w' = sortWorldK encRec 3 w blk off n d' os := by
  have eg : ∀ args w, (callFunc 49 args).run Try.prog w = .ok (.enter 49 args) w := enters_of Try.func49 (by kernel_rfl) rfl
  exact AnyQ.slices_SortFunc sortRec 3 Try.isAgg50 Try.sizeOf50 encRec (fun _ => rfl) encRec_one cmpR swoR 49 #[] blk off cap d w eg (recLays blk off d.size w) hH hblk hsz
end Go.Proofs.Ytifppmbolpegpaa
