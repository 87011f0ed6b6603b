/- Contracts: the reference's OrderOf. -/
import Derived.Test.YtjpkcmlepjbamaaW51
namespace Go.Proofs.Ytjpkcmlepjbamaa
open Go.RowKit Go.Sky

set_option maxRecDepth 100000 in
set_option maxHeartbeats 4000000 in
theorem refOrder_any (q : List Sky.Item) (A : Option Addr) (n cap : Nat) (w : World) (hn : n ≤ 1000) (hr : Rd w 4 encM A n q) :
    Calls Try.prog 60 #[.slice A n cap] w fun e w' => ∃ A' c', e = .returned (.slice A' n c') ∧ Rd w' 1 encI A' n (mapN (sortQ q n)) ∧ New w w' := by
  obtain ⟨i0, hi, hz0, hz1, hz2⟩ := info_parts infoInt
  have HR := Lib.hid hr; clear hr
  go_enter Try.func60, Try.ntmps60
  go_wp2_with (refine wpList_mk _ rfl _ _ 30 rfl w.heap.size 3 i0 _ Try.underlying30 hi hz0 hz1 rfl encN (fun _ => rfl) 0 rfl n rfl rfl (by rw [hz2]; omega) (by unfold maxLen; omega) (Nat.le_refl _) ?_; intro w2 hown n2 hlt2)
  have hgb : w.heap.size ≤ w.heap.size := Nat.le_refl _
  obtain ⟨g, hg⟩ : ∃ g, w.heap.size = g := ⟨_, rfl⟩
  rw [hg] at hown hlt2 hgb ⊢
  have HGE := Lib.hid (show w.heap.size = g from hg)
  clear hg hgb
  go_loopw [4] (fun i wr => ∃ (k : Nat) (xs : List Nat), k ≤ n ∧ i = .int .i64 (k : Int) ∧ Sky.Own wr g 3 1 encN (some ⟨g, 0, none⟩) n n xs ∧ Hid (Placed q n k xs) ∧ New w wr) (fun i _ => n - (intOf i).toNat)
  case atStart => exact ⟨0, _, by omega, rfl, hown, Lib.hid ⟨by simp, fun i hi => absurd hi (by omega)⟩, n2⟩
  case round =>
    clear hown hlt2 n2
    obtain ⟨k, xs, hk, rfl, hown, HP, hN⟩ := hrel
    by_cases hlt : k < n
    · go_wp2
      go_loopw [5, 6] (fun c i wx => ∃ (m : Nat), m ≤ n ∧ i = .int .i64 (m : Int) ∧ c = .int .i64 ((rankTo q k m : Nat) : Int) ∧ Sky.Own wx g 3 1 encN (some ⟨g, 0, none⟩) n n xs ∧ New w wx) (fun _ i _ => n - (intOf i).toNat)
      case atStart => exact ⟨0, by omega, rfl, rfl, hown, hN⟩
      case round =>
        clear hown hN
        obtain ⟨m, hm, rfl, rfl, hown, hN⟩ := hrel
        by_cases hmn : m < n
        · have HST := Lib.hid (rank_step q k m)
          have hle := rank_le q k m
          obtain ⟨r, hr⟩ : ∃ r, rankTo q k m = r := ⟨_, rfl⟩
          rw [hr] at HST hle ⊢
          clear hr
          obtain ⟨bq, hbq⟩ : ∃ c, befQ q m k = c := ⟨_, rfl⟩
          have HB := Lib.hid hbq
          clear hbq
          go_wp2_with fail
          refine (before_item q A n cap m k _ hmn hlt (by omega) (HR.out.keep hN)).mono ?_
          rw [HB.out]
          rintro e w3 ⟨rfl, n3⟩
          cases bq
          · have HV := Lib.hid (show rankTo q k (m + 1) = r by rw [HST.out, HB.out]; rfl)
            go_wp2
            go_roundw
            case rel => exact ⟨m + 1, by omega, by go_num, by rw [HV.out], hown.keep n3, hN.trans n3⟩
            case measure => simp [intOf]; omega
          · have HV := Lib.hid (show rankTo q k (m + 1) = r + 1 by rw [HST.out, HB.out]; rfl)
            go_wp2
            go_roundw
            case rel => exact ⟨m + 1, by omega, by go_num, by rw [HV.out]; go_num, hown.keep n3, hN.trans n3⟩
            case measure => simp [intOf]; omega
        · obtain rfl : m = n := by omega
          have HSTP := Lib.hid (placed_step HP.out hlt)
          have hrk := (sort_rank q m k hlt).1
          obtain ⟨r, hr⟩ : ∃ r, rankTo q k m = r := ⟨_, rfl⟩
          rw [hr] at HSTP hrk ⊢
          clear hr
          have hxl := HP.out.1
          obtain ⟨x0, hx0⟩ : ∃ x0, xs[r]? = some x0 := ⟨_, List.getElem?_eq_getElem (by omega)⟩
          have cr := hown.cell1 r x0 _ hx0 rfl
          have fr := hown.free r
          have HO2 := Lib.hid (hown.set1 r k (.int .i64 (k : Int)) hrk rfl)
          have HN2 := Lib.hid (hN.setCell (p := ⟨g, r, none⟩) (by rw [HGE.out]; exact Nat.le_refl _) (.int .i64 (k : Int)))
          clear hxl hown hN hx0
          go_wp2
          go_roundw
          case rel => exact ⟨k + 1, _, by omega, by go_num, HO2.out, HSTP, HN2.out⟩
          case measure => simp [intOf]; omega
    · obtain rfl : k = n := by omega
      have HV := Lib.hid (placed_end HP.out)
      go_wp2
      go_ret
      exact ⟨_, _, rfl, by rw [← HV.out]; exact rdN hown.rd, hN⟩
end Go.Proofs.Ytjpkcmlepjbamaa
