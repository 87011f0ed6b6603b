/- Contracts: OrderOf; the reference of queues: errors, copies. -/
import Derived.Test.YtjpkcmlepjbamaaW48
import Derived.Test.YtjpkcmlepjbamaaW18
namespace Go.Proofs.Ytjpkcmlepjbamaa
open Go.RowKit Go.Sky

set_option maxHeartbeats 1000000 in
theorem orderOf_any (q : List Sky.Item) (A : Option Addr) (n cap : Nat) (w : World) (hn : n ≤ 1000000) (hcap : n ≤ cap) (hx : ∀ x ∈ q, x.n.size ≤ 1000) (hr : Rd w 4 encM A n q) :
    Calls Try.prog 58 #[.slice A n cap] w fun e w' => New w w' ∧
      (((queueS q).2 ≠ 0 ∧ e = .returned (.tuple #[.slice none 0 0, .int .i64 (queueS q).2])) ∨
       ((queueS q).2 = 0 ∧ ∃ A' c', e = .returned (.tuple #[.slice A' n c', .int .i64 0]) ∧ Rd w' 1 encI A' n (mapN (sortQ q n)))) := by
  have HL := Lib.hid hr.len
  have HR := Lib.hid hr; clear hr
  have HX := Lib.hid hx; clear hx
  obtain ⟨E, hE⟩ : ∃ E, (queueS q).2 = E := ⟨_, rfl⟩
  have HE := Lib.hid hE
  by_cases hz : E = 0
  · have b1 : (E != 0) = false := by simpa using hz
    have HZ := Lib.hid hz
    have h20 : n ≤ 20 := by rw [← HL.out]; exact queueS_small (by rw [hE]; exact hz)
    clear hE hz
    go_enter Try.func58, Try.ntmps58
    go_wp2_with fail
    refine (queueErr_any A n cap q _ hn hcap HX.out HR.out).mono ?_
    rw [HE.out]
    rintro e w1 ⟨rfl, n1⟩
    go_wp2_with fail
    refine (order_any q A n cap _ h20 (HR.out.keep n1)).mono ?_
    rintro e w2 ⟨A', c', rfl, hrd, n2⟩
    go_wp2
    go_ret2
    exact ⟨n1.trans n2, .inr ⟨HE.out.trans HZ.out, A', c', rfl, hrd⟩⟩
  · have b1 : (E != 0) = true := by simpa using hz
    have HZ := Lib.hid hz
    clear hE hz
    go_enter Try.func58, Try.ntmps58
    go_wp2_with fail
    refine (queueErr_any A n cap q _ hn hcap HX.out HR.out).mono ?_
    rw [HE.out]
    rintro e w1 ⟨rfl, n1⟩
    go_wp2
    go_ret2
    exact ⟨n1, .inl ⟨by rw [HE.out]; exact HZ.out, by rw [HE.out]; rfl⟩⟩

theorem infoItem : (Try.prog.info? 102).map (fun i => (i.zero, i.size, i.bytes)) = some (some (.agg #[.string .empty, .int .i64 0, .int .i64 0, .int .i64 0]), 4, 40) := by kernel_rfl

set_option maxHeartbeats 400000 in
theorem copyItems_any (A : Option Addr) (n cap : Nat) (xs : List Sky.Item) (w : World) (hn : n ≤ 1000000) (hr : Rd w 4 encM A n xs) :
    Calls Try.prog 57 #[.slice A n cap] w fun e w' => ∃ A' cap', e = .returned (.slice A' n cap') ∧ Own w' w.heap.size 102 4 encM A' n cap' xs ∧ New w w' := by
  obtain ⟨i0, hi, hz0, hz1, hz2⟩ := info_parts infoItem
  have HR := Lib.hid hr; clear hr
  go_enter Try.func57, Try.ntmps57
  go_wp2_with (at_builtin; refine wpList_pour _ rfl _ _ 88 rfl 102 i0 _ 4 40 Try.underlying88 hi hz0 hz1 hz2 rfl (by omega) w.heap.size encM _ 0 0 [] rfl (by exact Own.empty _ _ _ _ encM_len _ (by simp) (by simp)) A n cap xs rfl (by exact HR.out.keep ((New.refl _).alloc _)) encM_one (by unfold maxLen; omega) (by omega) (by simp) ?_; intro A2 cap2 w2 hown2 hg2 hN2)
  go_ret
  refine ⟨A2, cap2, rfl, ?_, hN2 w ((New.refl w).alloc _) (Nat.le_refl _)⟩
  rw [Nat.zero_add] at hown2
  exact hown2

def fewI (n : Nat) (q : List Sky.Item) : Bool := decide (n ≤ 22) && q.all (fun x => decide (x.n.size ≤ 30))
set_option maxRecDepth 100000 in
set_option maxHeartbeats 1000000 in
theorem fewItems_any (A : Option Addr) (n cap : Nat) (q : List Sky.Item) (w : World) (hr : Rd w 4 encM A n q) :
    Calls Try.prog 55 #[.slice A n cap] w fun e w' => e = .returned (.bool (fewI n q)) ∧ w = w' := by
  have HL := Lib.hid hr.len
  have HR := Lib.hid hr; clear hr
  by_cases h22 : n ≤ 22
  · go_enter Try.func55, Try.ntmps55
    go_wp2
    go_loopw [3] (fun i wr => ∃ k : Nat, k ≤ n ∧ i = .int .i64 (k : Int) ∧ Hid (∀ j x, j < k → q[j]? = some x → x.n.size ≤ 30) ∧ wr = w) (fun i _ => n - (intOf i).toNat)
    case atStart => exact ⟨0, by omega, rfl, Lib.hid (fun j x hj => absurd hj (by omega)), rfl⟩
    case round =>
      obtain ⟨k, hk, rfl, HF, rfl⟩ := hrel
      by_cases hlt : k < n
      · obtain ⟨b, o, x, rfl, hb, hx, hc⟩ := HR.out.at_ hlt
        have g0 := hc 0 _ rfl
        simp only [Nat.add_zero] at g0
        have HX := Lib.hid hx
        clear hx hc
        by_cases h30 : 30 < x.n.size
        · have HV := Lib.hid (show fewI n q = false by
            unfold fewI
            rw [show (q.all fun x => decide (x.n.size ≤ 30)) = false from List.all_eq_false.2 ⟨x, List.mem_of_getElem? HX.out, by simp; omega⟩]
            simp)
          go_wp2
          go_ret
          exact ⟨by rw [HV.out]; rfl, rfl⟩
        · have h30' : x.n.size ≤ 30 := by omega
          go_wp2
          go_roundw
          case rel => exact ⟨k + 1, by omega, by go_num, Lib.hid (fun j y hj hy => by
            rcases Nat.lt_or_ge j k with h | h
            · exact HF.out j y h hy
            · obtain rfl : j = k := by omega
              have hxy := HX.out
              rw [hy] at hxy
              injection hxy with hxy
              rw [hxy]; exact h30'), trivial⟩
          case measure => simp [intOf]; omega
      · have HV := Lib.hid (show fewI n q = true by
          unfold fewI
          rw [decide_eq_true h22, Bool.true_and, List.all_eq_true]
          intro x hx
          obtain ⟨i, hi, rfl⟩ := List.getElem_of_mem hx
          have h := HL.out
          exact decide_eq_true (HF.out i _ (by omega) (List.getElem?_eq_getElem hi)))
        go_wp2
        go_ret
        exact ⟨by rw [HV.out]; rfl, rfl⟩
  · have HV := Lib.hid (show fewI n q = false by unfold fewI; rw [decide_eq_false h22]; rfl)
    go_enter Try.func55, Try.ntmps55
    go_wp2
    go_ret
    exact ⟨by rw [HV.out]; rfl, rfl⟩
end Go.Proofs.Ytjpkcmlepjbamaa
