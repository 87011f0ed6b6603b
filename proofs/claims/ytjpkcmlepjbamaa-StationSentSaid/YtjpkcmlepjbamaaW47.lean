/- Contracts: the stable sort at 20 or fewer; order; OrderOf. -/
import Derived.Test.YtjpkcmlepjbamaaW46
namespace Go.Proofs.Ytjpkcmlepjbamaa
open Go.RowKit Go.Sky

set_option maxRecDepth 100000 in
set_option maxHeartbeats 2000000 in
theorem stable0 (f : Value) (A : Option Addr) (cap : Nat) (w : World) :
    Calls Try.prog 152 #[.slice A 0 cap, .int .i64 0, f] w fun e w' => e = .returned (.tuple #[]) ∧ w = w' := by
  go_enter Try.func152, Try.ntmps152
  go_wp2
  go_loopw [7, 8] (fun va vb wr => va = .int .i64 0 ∧ vb = .int .i64 20 ∧ wr = w) (fun _ _ _ => 0)
  case atStart => exact ⟨rfl, rfl, rfl⟩
  case round =>
    obtain ⟨rfl, rfl, rfl⟩ := hrel
    go_wp2_with fail
    refine (insTriv f A 0 0 0 cap _ (by omega) (by omega)).mono ?_
    rintro e w' ⟨rfl, rfl⟩
    go_wp2_with fail
    go_loopw [6] (fun v wx => v = .int .i64 20 ∧ wx = wr) (fun _ _ => 0)
    case atStart => exact ⟨rfl, rfl⟩
    case round =>
      obtain ⟨rfl, rfl⟩ := hrel
      go_wp2
      go_end0
      exact ⟨rfl, rfl⟩

set_option maxRecDepth 100000 in
set_option maxHeartbeats 4000000 in
theorem stable20 (g : Nat) (c : Value) (q : List Sky.Item) (G n cap base : Nat) (w : World) (hG : base ≤ G) (hm : 1 ≤ n) (hn : n ≤ 20)
    (eg : ∀ (args : Array Value) (W : World), (callFunc g args).run Try.prog W = .ok (.enter g args) W)
    (hc : ∀ i y, i < n → y < n → ∀ W, Below base w W → Calls Try.prog g #[.int .i64 ((i : Nat) : Int), .int .i64 ((y : Nat) : Int), c] W fun e w' => e = .returned (.int .i64 (cmpQ q i y)) ∧ New W w')
    (hb : base ≤ w.heap.size) (ho : Own w base 3 1 encN (some ⟨G, 0, none⟩) n cap (List.range n)) :
    Calls Try.prog 152 #[.slice (some ⟨G, 0, none⟩) n cap, .int .i64 (n : Int), .func (.func g) #[] #[c]] w fun e w' => e = .returned (.tuple #[]) ∧ Own w' base 3 1 encN (some ⟨G, 0, none⟩) n cap (sortQ q n) ∧ Below base w w' := by
  have ho1 : Own w base 3 1 encN (some ⟨G, 0, none⟩) n cap (rowI q 1 n) := by rw [rowI_start q hm]; exact ho
  clear ho
  have HC := Lib.hid hc; clear hc
  have HEG := Lib.hid eg; clear eg
  by_cases h20 : n = 20
  · have H20 := Lib.hid h20
    have hge : 20 ≤ n := by omega
    clear h20
    go_enter Try.func152, Try.ntmps152
    go_wp2
    go_loopw [7, 8] (fun va vb wr => (va = .int .i64 0 ∧ vb = .int .i64 20 ∧ wr = w) ∨ (va = .int .i64 20 ∧ vb = .int .i64 40 ∧ Own wr base 3 1 encN (some ⟨G, 0, none⟩) n cap (sortQ q n) ∧ Below base w wr)) (fun va _ _ => 40 - (intOf va).toNat)
    case atStart => exact .inl ⟨rfl, rfl, rfl⟩
    case round =>
      rcases hrel with ⟨rfl, rfl, rfl⟩ | ⟨rfl, rfl, ho2, hB⟩
      · go_wp2_with fail
        refine (insSort g c q G n 20 cap base _ hG (by omega) (by omega) (by omega) HEG.out HC.out hb ho1).mono ?_
        rintro e w2 ⟨rfl, o2, hB⟩
        have o3 : Own w2 base 3 1 encN (some ⟨G, 0, none⟩) n cap (sortQ q n) := by
          have := rowI_full q n
          rw [← this]
          rw [show (20 : Nat) = n from H20.out.symm] at o2
          exact o2
        clear o2
        go_wp2
        go_roundw
        case rel => exact .inr ⟨rfl, rfl, o3, hB⟩
        case measure => simp [intOf]
      · go_wp2_with fail
        refine (insTriv _ _ n 20 n cap _ (by omega) (by omega)).mono ?_
        rintro e w' ⟨rfl, rfl⟩
        go_wp2_with fail
        go_loopw [6] (fun v wx => v = .int .i64 20 ∧ wx = wr) (fun _ _ => 0)
        case atStart => exact ⟨rfl, rfl⟩
        case round =>
          obtain ⟨rfl, rfl⟩ := hrel
          go_wp2
          go_end0
          exact ⟨rfl, ho2, hB⟩
  · go_enter Try.func152, Try.ntmps152
    have hlt : n < 20 := by omega
    go_wp2
    go_loopw [7, 8] (fun va vb wr => va = .int .i64 0 ∧ vb = .int .i64 20 ∧ wr = w) (fun _ _ _ => 0)
    case atStart => exact ⟨rfl, rfl, rfl⟩
    case round =>
      obtain ⟨rfl, rfl, rfl⟩ := hrel
      go_wp2_with fail
      refine (insSort g c q G n n cap base _ hG hm (by omega) (by omega) HEG.out HC.out hb ho1).mono ?_
      rintro e w2 ⟨rfl, o2, hB⟩
      rw [rowI_full] at o2
      go_wp2_with fail
      go_loopw [6] (fun v wx => v = .int .i64 20 ∧ wx = w2) (fun _ _ => 0)
      case atStart => exact ⟨rfl, rfl⟩
      case round =>
        obtain ⟨rfl, rfl⟩ := hrel
        go_wp2
        go_end0
        exact ⟨rfl, o2, hB⟩
end Go.Proofs.Ytjpkcmlepjbamaa
