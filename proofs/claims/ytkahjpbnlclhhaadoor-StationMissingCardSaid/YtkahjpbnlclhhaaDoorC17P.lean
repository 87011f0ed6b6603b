/- Contracts: the order of records (the closure of Merged). -/
import Derived.BigQuiet
import Derived.BigRegion
import Derived.Deep.AppendLies
import Derived.Deep.Draws
import Derived.Deep.Quiet
import Derived.Deep.QuietTactic
import Derived.Laws.BitsAllLaws
import Derived.Lib.Hide
import Derived.Shelf.SlSortCmp.Insertion
import Derived.Shelf.SlSortCmp.QuietGrown
import Derived.StillTail
import Derived.Test.YtkahjpbnlclhhaaDoorProg
import Derived.WalkKit
import Derived.WalkLawsBesides
import Derived.WalkSpells
import Derived.Test.YtkahjpbnlclhhaaDoorC17E
import Derived.Test.YtkahjpbnlclhhaaDoorC17N

namespace Go.Proofs.YtkahjpbnlclhhaaDoor
open Go.RowKit Go.Sky Go.Sort

theorem less_dec (s t : ByteArray) : Op.bytesLess s.toList t.toList = decide (s.toList < t.toList) := bytesLess_eq _ _
/-- A region that draws: a head of reads and calls (draws and blocks behind), a tail in one order. -/
theorem wp_region_grown_tail {P : Program} {id : Nat} {Q : Exit → Act → World → Prop} {a : Act} {w : World} {l : List Oper} (n : Nat) (hm : P.follows .mixedOrders = true) (hB : Region.lexTailB .any l.toArray n = true)
    (h : wpQuiet P l.toArray (fun w' => ∃ p : GrownBy, w' = grow (w.drewN p.n) p.os) (fun a' => ∀ w', (∃ p : GrownBy, w' = grow (w.drewN p.n) p.os) → wpList P l.toArray Q (l.drop n) a' w') (l.take n) a) : (Code.region id l.toArray true).wp P Q a w :=
  wp_region_qtail (fun w' => ∃ p : GrownBy, w' = grow (w.drewN p.n) p.os) n hm hB ⟨⟨1, #[]⟩, by rw [grow_empty]; rfl⟩ h
theorem grown_same {P : Program} {f : FuncId} {args : Array Value} {w : World} {n : Nat} {os : Array Obj} {v : Value}
    (h : Calls P f args (grow (w.drewN n) os) fun e w' => e = .returned v ∧ grow (w.drewN n) os = w') : Calls P f args (grow (w.drewN n) os) fun e w'' => e = .returned v ∧ ∃ p : GrownBy, w'' = grow (w.drewN p.n) p.os :=
  h.mono fun _ _ ⟨he, hq⟩ => ⟨he, ⟨n, os⟩, hq.symm⟩
theorem grow_drewN' (w : World) (os : Array Obj) (n : Nat) : (grow w os).drewN n = grow (w.drewN n) os := rfl

theorem grown_two (W : World) (o o' : Obj) (q : Nat) (os : Array Obj) : grow (((W.alloc o).alloc o').drewN q) os = grow (W.drewN q) ((#[o] ++ #[o']) ++ os) := by
  rw [alloc_eq_grow, alloc_eq_grow, grow_grow, grow_drewN', grow_grow]

end Go.Proofs.YtkahjpbnlclhhaaDoor
