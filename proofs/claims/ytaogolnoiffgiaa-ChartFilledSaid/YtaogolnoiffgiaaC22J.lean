/- Contracts: cmp.Or; the order of items; the insertion sort.
   Contracts: the insertion sort of ints; the stable sort at 21 or fewer.
   Contracts: the stable sort at 20 or fewer; order; OrderOf.
   Contracts: order; OrderOf.
   Contracts: OrderOf; the reference of queues: errors, copies.
   Contracts: the reference of queues: itemErr, CheckQueue. -/
import Derived.BigQuiet
import Derived.BigRegion
import Derived.Deep.AppendLies
import Derived.Deep.Draws
import Derived.Deep.Quiet
import Derived.Deep.QuietTactic
import Derived.Laws.BitsAllLaws
import Derived.Lib.Hide
import Derived.StillTail
import Derived.Test.YtaogolnoiffgiaaProg
import Derived.WalkKit
import Derived.WalkLawsBesides
import Derived.WalkSpells
import Derived.Test.YtaogolnoiffgiaaC22B
import Derived.Test.YtaogolnoiffgiaaC22F
import Derived.Test.YtaogolnoiffgiaaC22G

namespace Go.Proofs.Ytaogolnoiffgiaa
open Go.RowKit Go.Sky

theorem cmpQ_of {q : List Sky.Item} {a b : Nat} {x y : Sky.Item} (hx : q[a]? = some x) (hy : q[b]? = some y) : cmpQ q a b = firstE [cmpI y.p x.p, cmpI x.t y.t] := by
  unfold cmpQ
  rw [hx, hy, firstE_two]
  dsimp only [Option.getD_some]
  by_cases h : cmpI y.p x.p = 0
  · rw [if_neg (by rw [h]; decide), if_pos h]
  · rw [if_pos h, if_neg h]

end Go.Proofs.Ytaogolnoiffgiaa

namespace Go.Proofs.Ytaogolnoiffgiaa
open Go.RowKit Go.Sky

theorem encN_len (x : Nat) : (encN x).length = 1 := rfl
theorem encN_one (x : Nat) : ∀ u ∈ encN x, u.oneCell' = true := by intro u hu; simp [encN] at hu; subst hu; rfl
theorem cmpIs {g : Nat} {c : Value} {q : List Sky.Item} {n base : Nat} {w : World} (hc : ∀ i y, i < n → y < n → ∀ W, Below base w W → Calls Try.prog g #[.int .i64 ((i : Nat) : Int), .int .i64 ((y : Nat) : Int), c] W fun e w' => e = .returned (.int .i64 (cmpQ q i y)) ∧ New W w')
    {i y : Nat} (hi : i < n) (hy : y < n) {v : Int} (h : cmpQ q i y = v) {W : World} (hW : Below base w W) :
    Calls Try.prog g #[.int .i64 ((i : Nat) : Int), .int .i64 ((y : Nat) : Int), c] W fun e w' => e = .returned (.int .i64 v) ∧ New W w' := h ▸ hc i y hi hy W hW

end Go.Proofs.Ytaogolnoiffgiaa

namespace Go.Proofs.Ytaogolnoiffgiaa
open Go.RowKit Go.Sky

end Go.Proofs.Ytaogolnoiffgiaa

namespace Go.Proofs.Ytaogolnoiffgiaa
open Go.RowKit Go.Sky

theorem _root_.Go.Sky.New.trans' {w wr W : World} (h : New w wr) (k : Below (w.heap.size + 1) wr W) : New w W := Below.trans h (Below.mono k (by omega))
def mapN (xs : List Nat) : List Int := xs.map Int.ofNat
theorem rdN {w : World} {A : Option Addr} {n : Nat} {xs : List Nat} (h : Rd w 1 encN A n xs) : Rd w 1 encI A n (mapN xs) := by
  refine ⟨by unfold mapN; rw [List.length_map]; exact h.len, fun hn => ?_⟩
  obtain ⟨b, o, hA, hlt, hc⟩ := h.some_ hn
  refine ⟨b, o, hA, hlt, ?_⟩
  intro i x hx j u hu
  unfold mapN at hx
  rw [List.getElem?_map] at hx
  cases hy : xs[i]? with
  | none => rw [hy] at hx; cases hx
  | some y =>
    rw [hy] at hx
    injection hx with hx
    subst hx
    exact hc i y hy j u hu

end Go.Proofs.Ytaogolnoiffgiaa

namespace Go.Proofs.Ytaogolnoiffgiaa
open Go.RowKit Go.Sky

def fewI (n : Nat) (q : List Sky.Item) : Bool := decide (n ≤ 22) && q.all (fun x => decide (x.n.size ≤ 30))
end Go.Proofs.Ytaogolnoiffgiaa

namespace Go.Proofs.Ytaogolnoiffgiaa
open Go.RowKit Go.Sky

theorem bIsTick_is (n : Int) (c : Bool) (w : World) (h : tick n = c) : Calls Try.prog 36 #[.int .i64 n] w fun e w' => e = .returned (.bool c) ∧ w = w' := h ▸ bIsTick_any n w

end Go.Proofs.Ytaogolnoiffgiaa
