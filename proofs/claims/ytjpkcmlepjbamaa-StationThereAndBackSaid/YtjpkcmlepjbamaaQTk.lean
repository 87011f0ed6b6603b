/- A region that draws its order: reads taken first, the others as they come; the class of worlds over an older world, so that a store into a block of the call's own keeps it. No program. -/
import Derived.Test.YtjpkcmlepjbamaaQAl
namespace Go.Sky
open Go.RowKit

theorem new_plus_of {w0 w W : World} (h0 : New w0 w) (h : New w W) : ∃ od, W = plus w0 od := new_plus (h0.trans h)

section
variable {P : Program} {F : Fence} {n : Nat}
theorem wpIn_region_takes0 {id : Nat} {Q : Exit → Act → World → Prop} {a : Act} {w : World} {l : List Oper} (w0 : World) (h0 : New w0 w) (m g : Nat) (listed : Array Bool) (R : Act → World → Prop) (hnd : noDefer l.toArray = true) (hsel : Region.noSelect l.toArray = true) (hm : P.follows .mixedOrders = true)
    (hB : takesB .any l.toArray (l.take m).length 0 (Array.replicate l.toArray.size false) = true) (hml : g + (l.take m).length = l.toArray.size) (hls : tookAll (l.take m).length 0 (Array.replicate l.toArray.size false) = listed) (hR : ∀ a' w', R a' w' → Q .normal a' w')
    (h : wpQuiet P l.toArray (fun w' => ∃ od, w' = plus w0 od) (fun a' => ∀ w', New w w' → wpAnyS F n P .any l.toArray (endsIn R) (fun w' => ∃ od, w' = plus w0 od) g listed a' w') (l.take m) a) (hF : ∀ g, F.fn g := by exact fun _ => trivial) :
    (Code.region id l.toArray true).wpIn F n P Q a w := by
  refine Code.wpIn_mono (Q := endsIn R) (fun e a' w' he => ?_) (wpIn_region_any hm ?_)
  · cases e with
    | normal => exact hR _ _ he
    | _ => exact he.elim
  · refine wpAnyIn_of_S (S := fun w' => ∃ od, w' = plus w0 od) _ _ _ _ ?_
    have := take_all (F := F) (n := n) (P := P) (md := .any) (ops := l.toArray) (Q := endsIn R) (S := fun w' => ∃ od, w' = plus w0 od) hsel hnd (fun _ _ _ h => h) (by rintro ⟨_, _, h⟩; exact h) hF (f := g) (w := w.drew) (l.take m) 0 (Array.replicate l.toArray.size false) a
      (fun j hj => by have : j < m := by simp at hj; omega
                      simp [this]) hB (by
        rw [hls]; exact quiet_list_mono (fun a' h' => h' _ (New.refl w).drew) _ _ h)
    rw [hml] at this
    exact this
/-- The same for a plain body: the end is the code behind the region. -/
theorem wp_region_takes0 {id : Nat} {Q : Exit → Act → World → Prop} {a : Act} {w : World} {l : List Oper} (w0 : World) (h0 : New w0 w) (m g : Nat) (listed : Array Bool) (hnd : noDefer l.toArray = true) (hsel : Region.noSelect l.toArray = true) (hm : P.follows .mixedOrders = true)
    (hB : takesB .any l.toArray (l.take m).length 0 (Array.replicate l.toArray.size false) = true) (hml : g + (l.take m).length = l.toArray.size) (hls : tookAll (l.take m).length 0 (Array.replicate l.toArray.size false) = listed)
    (h : wpQuiet P l.toArray (fun w' => ∃ od, w' = plus w0 od) (fun a' => ∀ w', New w w' → wpAnyS Fence.wide 6 P .any l.toArray (endsIn (Q .normal)) (fun w' => ∃ od, w' = plus w0 od) g listed a' w') (l.take m) a) :
    (Code.region id l.toArray true).wp P Q a w :=
  wpIn_wide.1 (wpIn_region_takes0 w0 h0 m g listed _ hnd hsel hm hB hml hls (fun _ _ h => h) h)
end
end Go.Sky
