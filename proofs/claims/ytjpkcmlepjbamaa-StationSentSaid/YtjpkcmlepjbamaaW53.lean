/- The walk of StationQueues. -/
import Derived.Test.YtjpkcmlepjbamaaW52
import Derived.Test.YtjpkcmlepjbamaaW15
namespace Go.Proofs.Ytjpkcmlepjbamaa
open Go.RowKit Go.Sky

theorem fewI_yes {n : Nat} {q : List Sky.Item} (h : fewI n q = true) : n ≤ 22 ∧ ∀ x ∈ q, x.n.size ≤ 30 := by
  unfold fewI at h
  rw [Bool.and_eq_true, List.all_eq_true] at h
  exact ⟨of_decide_eq_true h.1, fun x hx => of_decide_eq_true (h.2 x hx)⟩

set_option maxRecDepth 100000 in
set_option maxHeartbeats 4000000 in
theorem queues_any (A : Option Addr) (n cap : Nat) (q : List Sky.Item) (w : World) (hcap : n ≤ cap) (hr : Rd w 4 encM A n q) :
    Calls Try.prog 10 #[.slice A n cap] w fun e w' => e = .returned (.bool true) ∧ New w w' := by
  have HR := Lib.hid hr; clear hr
  obtain ⟨fw, hfw⟩ : ∃ b, fewI n q = b := ⟨_, rfl⟩
  have HFW := Lib.hid hfw
  cases fw
  · clear hfw
    go_enter Try.func10, Try.ntmps10
    go_wp2_with fail
    refine (awake_any _).mono ?_
    rintro e w1 ⟨rfl, n1⟩
    go_wp2_with fail
    refine (fewItems_any A n cap q _ (HR.out.keep n1)).mono ?_
    rintro e w' ⟨rfl, rfl⟩
    rw [HFW.out]
    go_wp2
    go_ret
    exact ⟨rfl, n1⟩
  obtain ⟨h22, hsz⟩ := fewI_yes hfw
  have HX := Lib.hid (show ∀ x ∈ q, x.n.size ≤ 1000 from fun x hx => by have := hsz x hx; omega)
  clear hfw hsz
  obtain ⟨I, hI⟩ : ∃ c, (queueS q).1 = c := ⟨_, rfl⟩
  obtain ⟨E, hE⟩ : ∃ c, (queueS q).2 = c := ⟨_, rfl⟩
  have HI := Lib.hid hI
  have HE := Lib.hid hE
  clear hI hE
  have hz : (E = 0 ∧ (E != 0) = false) ∨ (E ≠ 0 ∧ (E != 0) = true) := by
    by_cases h : E = 0
    · exact .inl ⟨h, by simpa using h⟩
    · exact .inr ⟨h, by simpa using h⟩
  go_enter Try.func10, Try.ntmps10
  go_wp2_with fail
  refine (awake_any _).mono ?_
  rintro e w1 ⟨rfl, n1⟩
  go_wp2_with fail
  refine (fewItems_any A n cap q _ (HR.out.keep n1)).mono ?_
  rintro e w' ⟨rfl, rfl⟩
  rw [HFW.out]
  go_wp2_with fail
  refine (copyItems_any A n cap q _ (by omega) (HR.out.keep n1)).mono ?_
  rintro e w2 ⟨A2, c2, rfl, o2, n2⟩
  have hc2 := o2.le.1
  have HR2 := Lib.hid o2.rd
  have nw2 := n1.trans n2
  clear o2 n1 n2
  go_wp2_with fail
  refine (checkQ_any A2 n c2 q _ (by omega) hc2 HX.out HR2.out).mono ?_
  rw [HI.out, HE.out]
  rintro e w3 ⟨rfl, n3⟩
  have nw3 := nw2.trans n3
  clear HR2 nw2 n3
  go_wp2_with fail
  refine (copyItems_any A n cap q _ (by omega) (HR.out.keep nw3)).mono ?_
  rintro e w4 ⟨A4, c4, rfl, o4, n4⟩
  have hc4 := o4.le.1
  have HR4 := Lib.hid o4.rd
  have nw4 := nw3.trans n4
  clear o4 nw3 n4
  go_wp2_with fail
  refine (orderOf_any q A4 n c4 _ (by omega) hc4 HX.out HR4.out).mono ?_
  rw [HE.out]
  rintro e w5 ⟨n5, ⟨hne, rfl⟩ | ⟨heq, A', c', rfl, hrd⟩⟩
  · have nw5 := nw4.trans n5
    clear HR4 nw4 n5
    have b1 : (E != 0) = true := by simpa using hne
    clear hne hz
    go_wp2_with fail
    refine (refQ_any A n cap q _ (by omega) hcap HX.out (HR.out.keep nw5)).mono ?_
    rw [HI.out, HE.out]
    rintro e w6 ⟨rfl, n6⟩
    have d1 : (E != E) = false := by simp
    have d2 : (I != I) = false := by simp
    have d3 : (E == E) = true := by simp
    go_wp2
    go_ret
    exact ⟨rfl, nw5.trans n6⟩
  · have nw5 := nw4.trans n5
    have HRD := Lib.hid hrd
    clear HR4 nw4 n5 hrd hz
    subst heq
    have d2 : (I != I) = false := by simp
    go_wp2_with fail
    refine (refQ_any A n cap q _ (by omega) hcap HX.out (HR.out.keep nw5)).mono ?_
    rw [HI.out, HE.out]
    rintro e w6 ⟨rfl, n6⟩
    have nw6 := nw5.trans n6
    go_wp2_with fail
    refine (refOrder_any q A n cap _ (by omega) (HR.out.keep nw6)).mono ?_
    rintro e w7 ⟨A7, c7, rfl, hrd7, n7⟩
    have nw7 := nw6.trans n7
    have HRD7 := Lib.hid hrd7
    clear hrd7
    go_wp2_with fail
    refine (ints_any A' A7 n n c' c7 _ _ _ (by omega) (by omega) (HRD.out.keep (n6.trans n7)) HRD7.out).mono ?_
    rintro e w8 ⟨rfl, n8⟩
    rw [decide_eq_true rfl]
    go_wp2
    go_ret
    exact ⟨rfl, nw7.trans n8⟩
end Go.Proofs.Ytjpkcmlepjbamaa
