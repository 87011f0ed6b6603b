/- Contracts: pairs; its iterator, as a range over a function asks it. -/
import Derived.Test.YtjpkcmlepjbamaaW22
import Derived.Test.YtjpkcmlepjbamaaQIn
import Derived.Test.YtjpkcmlepjbamaaSpecH
import Derived.RangeFuncNested
import Derived.RangeFuncBound
import Derived.RangeFuncCalls
import Derived.RangeFuncLeaves
import Derived.Shelf.Abstract
import Derived.Shelf.RegionOpen
import Derived.WalkKit
import Derived.OwnWalkIn
import Derived.TacticsInMore
import Derived.LoopNIn
import Derived.LoopIn
namespace Go.Proofs.Ytjpkcmlepjbamaa
open Go.RowKit Go.Sky Go.Shelf
attribute [local go_sem] Oper.semAt_some

theorem pairs_any (c : Int) (w : World) : Calls Try.prog 91 #[.int .i64 c] w fun e w' => e = .returned (.func (.func 134) #[] #[.pointer (some ⟨w.heap.size, 0, none⟩)]) ∧ w' = w.alloc (.cells #[.int .i64 c] 3) := by
  go_enter Try.func91, Try.ntmps91
  go_wp2
  go_ret
  exact ⟨rfl, rfl⟩

def val2 {m : Nat} (p : Fin m × Fin m) : Nat × Nat := (p.1.val, p.2.val)
def encF {m : Nat} (p : Fin m × Fin m) : Array Value := #[.agg #[.int .i64 ((p.1.val : Nat) : Int), .int .i64 ((p.2.val : Nat) : Int)]]

set_option maxRecDepth 100000 in
set_option maxHeartbeats 2000000 in
theorem pairsIt (n : Nat) (hn : 1 ≤ n) (l Bn n₀ m : Nat) (J Jx : List (Fin m × Fin m) → World → Prop)
    (hY : ∀ pre x W, J pre W → pre.length < (pairsL m).length → YieldAt Fence.wide (n - 1) Try.prog l (encF x) W fun e W' =>
      (e = .returned (.bool true) ∧ J (pre ++ [x]) W' ∧ Below n₀ W W') ∨ (e = .returned (.bool false) ∧ Jx (pre ++ [x]) W'))
    (W : World) (hBn : Bn < n₀) (hm : m ≤ 1000000) (hc : W.cell? ⟨Bn, 0, none⟩ = some (.int .i64 (m : Int))) (h0 : J [] W) :
    CallsIn Fence.wide n Try.prog 134 #[.func (.yield l) #[] #[], .pointer (some ⟨Bn, 0, none⟩)] W fun e W' => (∃ v, e = .returned v) ∧
      ((∃ ys, ys.map val2 = pairsL m ∧ J ys W') ∨ (∃ pre, pre.map val2 <+: pairsL m ∧ Jx pre W')) := by
  have HY := Lib.hid hY; clear hY
  refine callsIn_of_wp Try.func134 rfl trivial ?_ rfl
  simp only [Try.ntmps134, List.size_toArray, List.length_cons, List.length_nil, Nat.reduceAdd, Nat.reduceSub, Array.replicate_succ, Array.replicate_zero, List.push_toArray, List.append_toArray, List.nil_append, List.cons_append]
  gi_wp2
  gi_loopw [6] (fun h wr => ∃ (i : Nat) (pre : List (Fin m × Fin m)), i ≤ m ∧ h = .int .i64 (i : Int) ∧ Hid (pre.map val2 = upToP m i (i + 1)) ∧ J pre wr ∧ wr.cell? ⟨Bn, 0, none⟩ = some (.int .i64 (m : Int))) (fun h _ => m - (intOf h).toNat)
  case atStart => exact ⟨0, [], by omega, rfl, (upToP_start m).symm, h0, hc⟩
  case round =>
    clear hc h0
    obtain ⟨i, pre, hi, rfl, HP, hJ, hcell⟩ := hrel
    by_cases hlt : i < m
    · gi_wp2
      gi_loopw [4] (fun h wr => ∃ (j : Nat) (pre : List (Fin m × Fin m)), i < j ∧ j ≤ m ∧ h = .int .i64 (j : Int) ∧ Hid (pre.map val2 = upToP m i j) ∧ J pre wr ∧ wr.cell? ⟨Bn, 0, none⟩ = some (.int .i64 (m : Int))) (fun h _ => m - (intOf h).toNat)
      case atStart => exact ⟨i + 1, pre, by omega, by omega, by go_num, HP, hJ, hcell⟩
      case round =>
        clear HP hJ hcell
        obtain ⟨j, pre, hij, hj, rfl, HP, hJ, hcell⟩ := hrel
        by_cases hjm : j < m
        · have hlen : pre.length < (pairsL m).length := by
            rw [← List.length_map (f := val2), HP.out]; exact upToP_lt hij hjm
          obtain ⟨fn, tmps, assign, body, hy, hR⟩ := HY.out pre (⟨i, hlt⟩, ⟨j, hjm⟩) _ hJ hlen
          unfold encF at hy
          dsimp only at hy
          gi_wp2
          refine hR.mono ?_
          rintro e W3 (⟨rfl, hJ3, hk3⟩ | ⟨rfl, hJx3⟩)
          · have hc3 := (hk3.cell (p := ⟨Bn, 0, none⟩) hBn).trans hcell
            gi_wp2
            go_roundw
            case rel => exact ⟨j + 1, _, by omega, by omega, by go_num, by show List.map _ _ = _; rw [List.map_append, HP.out, upToP_step m hij]; rfl, hJ3, hc3⟩
            case measure => simp [intOf]; omega
          · gi_wp2
            refine bodyPost_ret (results_none rfl _ _ _) rfl ?_
            exact ⟨⟨_, rfl⟩, .inr ⟨_, by rw [List.map_append, HP.out]; have := upToP_prefix (m := m) (i := i) (j := j + 1) hlt (by omega); rw [upToP_step m hij] at this; exact this, hJx3⟩⟩
        · obtain rfl : j = m := by omega
          gi_wp2
          go_roundw
          case rel => exact ⟨i + 1, pre, by omega, by go_num, by show List.map _ _ = _; rw [HP.out, upToP_row], hJ, hcell⟩
          case measure => simp [intOf]; omega
    · obtain rfl : i = m := by omega
      gi_wp2
      go_end0
      exact ⟨⟨_, rfl⟩, .inl ⟨pre, by rw [HP.out, upToP_end], hJ⟩⟩

theorem pairs_stops (n : Nat) (hn : 1 ≤ n) (Bn n₀ m : Nat) (w : World) (hBn : Bn < n₀) (hn₀ : n₀ ≤ w.heap.size) (hm : m ≤ 1000000) (hc : w.cell? ⟨Bn, 0, none⟩ = some (.int .i64 (m : Int))) :
    SeqStopsK Fence.wide n Try.prog 134 #[.pointer (some ⟨Bn, 0, none⟩)] (encF (m := m)) (Below n₀) (fun ys => ys.map val2 = pairsL m) (fun pre => pre.map val2 <+: pairsL m) (pairsL m).length w := fun l J Jx W hW _ _ hY h0 =>
  pairsIt n hn l Bn n₀ m J Jx hY W hBn hm ((hW.cell (p := ⟨Bn, 0, none⟩) (by show Bn < _; omega)).trans hc) h0
end Go.Proofs.Ytjpkcmlepjbamaa
