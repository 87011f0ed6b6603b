/- Contracts: the reference of queues: before, OrderOf.
   Contracts: the reference's OrderOf.
   The walk of StationQueues.
   Contracts: the orders, owned; SentBy.
   Contracts: symMerge where one element lies on the right.
   Contracts: the stable sort at 21; order at 21 or fewer.
   Contracts: total, of the program and of the reference.
   Contracts: Clone at items; the reference's PutErr; rows of texts.
   Contracts: rows of texts, rows of items, each against its like. -/
import Derived.BigQuiet
import Derived.BigRegion
import Derived.Deep.AppendLies
import Derived.Deep.Draws
import Derived.Deep.Quiet
import Derived.Deep.QuietTactic
import Derived.Laws.BitsAllLaws
import Derived.Lib.Hide
import Derived.OrdersIn
import Derived.OwnWalkIn
import Derived.RangeFuncCalls
import Derived.StillTail
import Derived.TacticsIn
import Derived.Test.YtaogolnoiffgiaaProg
import Derived.WalkKit
import Derived.WalkLawsBesides
import Derived.WalkSpells
import Derived.Test.YtaogolnoiffgiaaC22B
import Derived.Test.YtaogolnoiffgiaaC22F
import Derived.Test.YtaogolnoiffgiaaC22I
import Derived.Test.YtaogolnoiffgiaaC22J

namespace Go.Proofs.Ytaogolnoiffgiaa
open Go.RowKit Go.Sky

theorem bef_of {q : List Sky.Item} {a b : Nat} {x y : Sky.Item} (hx : q[a]? = some x) (hy : q[b]? = some y) : befQ q a b = if x.p ≠ y.p then decide (y.p < x.p) else if x.t ≠ y.t then decide (x.t < y.t) else decide (a < b) := by
  unfold befQ
  rw [hx, hy]
  rfl

end Go.Proofs.Ytaogolnoiffgiaa

namespace Go.Proofs.Ytaogolnoiffgiaa
open Go.RowKit Go.Sky

end Go.Proofs.Ytaogolnoiffgiaa

namespace Go.Proofs.Ytaogolnoiffgiaa
open Go.RowKit Go.Sky

theorem fewI_yes {n : Nat} {q : List Sky.Item} (h : fewI n q = true) : n ≤ 22 ∧ ∀ x ∈ q, x.n.size ≤ 30 := by
  unfold fewI at h
  rw [Bool.and_eq_true, List.all_eq_true] at h
  exact ⟨of_decide_eq_true h.1, fun x hx => of_decide_eq_true (h.2 x hx)⟩

end Go.Proofs.Ytaogolnoiffgiaa

namespace Go.Proofs.Ytaogolnoiffgiaa
open Go.RowKit Go.Sky

end Go.Proofs.Ytaogolnoiffgiaa

namespace Go.Proofs.Ytaogolnoiffgiaa
open Go.RowKit Go.Sky

end Go.Proofs.Ytaogolnoiffgiaa

namespace Go.Proofs.Ytaogolnoiffgiaa
open Go.RowKit Go.Sky

end Go.Proofs.Ytaogolnoiffgiaa

namespace Go.Proofs.Ytaogolnoiffgiaa
open Go.RowKit Go.Sky

end Go.Proofs.Ytaogolnoiffgiaa

namespace Go.Proofs.Ytaogolnoiffgiaa
open Go.RowKit Go.Sky

/-- What Put's tests answer beside the queue's own. -/
def putE (q : List Sky.Item) (x : Sky.Item) (c : Int) (n : Nat) : Int := firstE [itemE q x, errU (inR c 0 200000) 2, errU (decide (n < 20)) 8]

end Go.Proofs.Ytaogolnoiffgiaa

namespace Go.Proofs.Ytaogolnoiffgiaa
open Go.RowKit Go.Sky

def encS (s : ByteArray) : List Value := [.string s]
theorem encS_len (x : ByteArray) : (encS x).length = 1 := rfl
theorem encS_one (x : ByteArray) : ∀ u ∈ encS x, u.oneCell' = true := by intro u hu; simp [encS] at hu; subst hu; rfl

end Go.Proofs.Ytaogolnoiffgiaa
