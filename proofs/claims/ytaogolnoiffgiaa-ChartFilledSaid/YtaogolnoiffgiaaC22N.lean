/- What stays though two blocks change. No program. -/
import Derived.BigQuiet
import Derived.Deep.AppendLies
import Derived.Deep.Draws
import Derived.Deep.Quiet
import Derived.Deep.QuietTactic
import Derived.Laws.Rows
import Derived.Lib.Hide
import Derived.MapKept
import Derived.Maps.Keyed
import Derived.OrdersIn
import Derived.OwnWalkIn
import Derived.RangeFuncCalls
import Derived.Shelf.RegionOpen
import Derived.StillTail
import Derived.TacticsIn
import Derived.WalkKit
import Derived.Test.YtaogolnoiffgiaaC22H
import Derived.Test.YtaogolnoiffgiaaC22K

namespace Go.Sky
open Go.RowKit

/-- All blocks of a world but two, as they were. -/
structure Ex (m s : Nat) (w W : World) : Prop where
  size : w.heap.size ≤ W.heap.size
  blk : ∀ b, b < w.heap.size → b ≠ m → b ≠ s → W.heap[b]? = w.heap[b]?
section
variable {m s : Nat} {w W W' : World}
theorem Ex.refl (w : World) : Ex m s w w := ⟨Nat.le_refl _, fun _ _ _ _ => rfl⟩
theorem Ex.keep (h : Ex m s w W) (hn : New W W') : Ex m s w W' :=
  ⟨Nat.le_trans h.size hn.size, fun b hb h1 h2 => (Below.block hn b (Nat.lt_of_lt_of_le hb h.size)).trans (h.blk b hb h1 h2)⟩
theorem Ex.grown {row : Option Nat} (h : Ex m s w W) (hg : W.grownBy W' row) (hr : ∀ k, row = some k → k = m ∨ k = s ∨ w.heap.size ≤ k) : Ex m s w W' :=
  ⟨Nat.le_trans h.size hg.size, fun b hb h1 h2 => (hg.block b (Nat.lt_of_lt_of_le hb h.size) (fun e => by
    rcases hr b e.symm with h3 | h3 | h3
    · exact h1 h3
    · exact h2 h3
    · omega)).trans (h.blk b hb h1 h2)⟩
theorem Ex.set (h : Ex m s w W) {p : Addr} (hp : p.block = s) (u : Value) : Ex m s w (W.setCell p u) :=
  ⟨Nat.le_trans h.size (by simp [World.setCell]), fun b hb h1 h2 => (Below.heap_setCell W p u b (by rw [hp]; exact h2)).trans (h.blk b hb h1 h2)⟩
theorem Own.same {α : Type} {base e k n cap : Nat} {enc : α → List Value} {A : Option Addr} {xs : List α} (h : Own w base e k enc A n cap xs) (hs : ∀ g, A.map (·.block) = some g → W.heap[g]? = w.heap[g]?) : Own W base e k enc A n cap xs := by
  refine ⟨h.1, h.2.1, h.2.2.1, ?_⟩
  rcases h.2.2.2 with h0 | ⟨g, c', cur, hv, hb, hg, r⟩
  · exact .inl h0
  · refine .inr ⟨g, c', cur, hv, hb, ?_, r⟩
    rw [hs g (by injection hv with hv; subst hv; rfl)]
    exact hg
theorem Own.blkAt {α : Type} {base e k n cap : Nat} {enc : α → List Value} {A : Option Addr} {xs : List α} (h : Own w base e k enc A n cap xs) {g : Nat} (hg : A.map (·.block) = some g) : base ≤ g ∧ g < w.heap.size := by
  rcases h.form with ⟨rfl, _⟩ | ⟨g', rfl, h1, h2, _⟩
  · cases hg
  · injection hg with hg
    subst hg
    exact ⟨h1, h2⟩
theorem Own.ex {α : Type} {base e k n cap : Nat} {enc : α → List Value} {A : Option Addr} {xs : List α} (h : Own w base e k enc A n cap xs) (hx : Ex m s w W) (h1 : some m ≠ A.map (·.block)) (h2 : some s ≠ A.map (·.block)) : Own W base e k enc A n cap xs :=
  h.same fun g hg => hx.blk g (Own.blkAt h hg).2 (fun e => h1 (by rw [hg, e])) (fun e => h2 (by rw [hg, e]))
theorem Own.not_below {α : Type} {base e k n cap : Nat} {enc : α → List Value} {A : Option Addr} {xs : List α} (h : Own w base e k enc A n cap xs) (hm : m < base) : some m ≠ A.map (·.block) := fun e => by
  have := (Own.blkAt h e.symm).1
  omega
theorem OwnRows.ex {α : Type} {B e1 e2 k n c : Nat} {enc : α → List Value} {A : Option Addr} {rv : List SlV} {rows : List (List α)} {t : TypeId} {cs : Array Value} (h : OwnRows w B e1 e2 k enc A n c rv rows) (hx : Ex m s w W) (hm : m < B) (hs : Bx w s t cs) (h1 : t ≠ e1) (h2 : t ≠ e2) : OwnRows W B e1 e2 k enc A n c rv rows :=
  ⟨h.own.ex hx (h.own.not_below hm) (bx_apart hs h.own h2), h.len, fun i r xs hr hxs => (h.each i r xs hr hxs).ex hx ((h.each i r xs hr hxs).not_below hm) (bx_apart hs (h.each i r xs hr hxs) h1)⟩
end
end Go.Sky
