/- Contracts: order; OrderOf. -/
import Derived.Test.YtjpkcmlepjbamaaW47
namespace Go.Proofs.Ytjpkcmlepjbamaa
open Go.RowKit Go.Sky

theorem _root_.Go.Sky.New.trans' {w wr W : World} (h : New w wr) (k : Below (w.heap.size + 1) wr W) : New w W := Below.trans h (Below.mono k (by omega))
def mapN (xs : List Nat) : List Int := xs.map Int.ofNat
theorem rdN {w : World} {A : Option Addr} {n : Nat} {xs : List Nat} (h : Rd w 1 encN A n xs) : Rd w 1 encI A n (mapN xs) := by
  refine ⟨by unfold mapN; rw [List.length_map]; exact h.len, fun hn => ?_⟩
  obtain ⟨b, o, hA, hlt, hc⟩ := h.some_ hn
  refine ⟨b, o, hA, hlt, ?_⟩
  intro i x hx j u hu
  unfold mapN at hx
  rw [List.getElem?_map] at hx
  cases hy : xs[i]? with
  | none => rw [hy] at hx; cases hx
  | some y =>
    rw [hy] at hx
    injection hx with hx
    subst hx
    exact hc i y hy j u hu

set_option maxHeartbeats 1000000 in
theorem sortStable (g : Nat) (c : Value) (q : List Sky.Item) (A : Option Addr) (n cap base : Nat) (w : World) (hn : n ≤ 20)
    (eg : ∀ (args : Array Value) (W : World), (callFunc g args).run Try.prog W = .ok (.enter g args) W)
    (hc : ∀ i y, i < n → y < n → ∀ W, Below base w W → Calls Try.prog g #[.int .i64 ((i : Nat) : Int), .int .i64 ((y : Nat) : Int), c] W fun e w' => e = .returned (.int .i64 (cmpQ q i y)) ∧ New W w')
    (hb : base ≤ w.heap.size) (ho : Own w base 3 1 encN A n cap (List.range n)) :
    Calls Try.prog 144 #[.slice A n cap, .func (.func g) #[] #[c]] w fun e w' => e = .returned (.tuple #[]) ∧ Own w' base 3 1 encN A n cap (sortQ q n) ∧ Below base w w' := by
  have HC := Lib.hid hc; clear hc
  have HEG := Lib.hid eg; clear eg
  rcases ho.form with ⟨rfl, rfl, rfl, _⟩ | ⟨G, rfl, hG, _, _, _⟩
  · go_enter Try.func144, Try.ntmps144
    go_wp2_with fail
    refine (stable0 _ _ _ _).mono ?_
    rintro e w' ⟨rfl, rfl⟩
    go_wp2
    go_end0
    exact ⟨rfl, ho, Below.refl _ _⟩
  · rcases Nat.eq_zero_or_pos n with rfl | hm
    · go_enter Try.func144, Try.ntmps144
      go_wp2_with fail
      refine (stable0 _ _ _ _).mono ?_
      rintro e w' ⟨rfl, rfl⟩
      go_wp2
      go_end0
      exact ⟨rfl, ho, Below.refl _ _⟩
    · go_enter Try.func144, Try.ntmps144
      go_wp2_with fail
      refine (stable20 g c q G n cap base _ hG hm hn HEG.out HC.out hb ho).mono ?_
      rintro e w' ⟨rfl, o2, hB⟩
      go_wp2
      go_end0
      exact ⟨rfl, o2, hB⟩

set_option maxRecDepth 100000 in
set_option maxHeartbeats 4000000 in
theorem order_any (q : List Sky.Item) (A : Option Addr) (n cap : Nat) (w : World) (hn : n ≤ 20) (hr : Rd w 4 encM A n q) :
    Calls Try.prog 115 #[.slice A n cap] w fun e w' => ∃ A' c', e = .returned (.slice A' n c') ∧ Rd w' 1 encI A' n (mapN (sortQ q n)) ∧ New w w' := by
  obtain ⟨i0, hi, hz0, hz1, hz2⟩ := info_parts infoInt
  have HR := Lib.hid hr; clear hr
  have HG := Lib.hid (enters_go (f := 145) Try.func145 (by kernel_rfl) rfl)
  have b0 := Bx.mk w 88 #[.slice A n cap]
  have hN0 := (New.refl w).alloc (.cells #[.slice A n cap] 88)
  have c0 : World.cell? _ ⟨w.heap.size, 0, none⟩ = some (.slice A n cap) := b0.cell 0
  have l0 := b0.lt
  go_enter Try.func115, Try.ntmps115
  go_wp2
  go_loopw [3, 4, 7] (fun v _ i wr => ∃ (k : Nat) (A' : Option Addr) (c' : Nat), k ≤ n ∧ i = .int .i64 (k : Int) ∧ v = .slice A' k c' ∧ Own wr (w.heap.size + 1) 3 1 encN A' k c' (List.range k) ∧ New w wr ∧ Bx wr w.heap.size 88 #[.slice A n cap]) (fun _ _ i _ => n - (intOf i).toNat)
  case atStart => exact ⟨0, none, 0, by omega, rfl, rfl, Own.nil _ _ _ _ encN_len, hN0, b0⟩
  case round =>
    clear b0 hN0 c0 l0
    obtain ⟨k, A', c', hk, rfl, rfl, hown, hN, b1⟩ := hrel
    by_cases hlt : k < n
    · have hks := b1.lt
      go_wp2_with (at_builtin; refine wpList_push _ rfl _ _ 30 rfl 3 i0 _ 1 8 Try.underlying30 hi hz0 hz1 hz2 rfl (by omega) (w.heap.size + 1) encN A' k c' _ rfl (by exact hown.alloc _) _ 1 1 [k] rfl rfl (by omega) (by exact cells_new _ _ _ _ (by simp) _ rfl) encN_one (by unfold maxLen; omega) (by omega) (by simp; omega) ?_; intro g cap2 w4 hown4 hg4 hat4 hb4 hlt4 hN4)
      have b4 := (b1.alloc (.cells #[.int .i64 (k : Int)] 3)).grown hg4 (fun e => by
        rcases hown.form with ⟨h0, _⟩ | ⟨g', h0, hge, _⟩
        · rw [h0] at e; cases e
        · rw [h0] at e
          simp at e
          omega)
      go_roundw
      case rel => exact ⟨k + 1, _, cap2, by omega, by go_num, rfl, by rw [List.range_succ]; exact hown4, (hN.alloc _).grownOwn (hown.alloc _) (by omega) hg4, b4⟩
      case measure => simp [intOf]; omega
    · obtain rfl : k = n := by omega
      have hsz := b1.lt
      have hNs := hN.size
      go_wp2_with fail
      refine (sortStable 145 _ q A' k c' (w.heap.size + 1) _ hn HG.out (fun i y hi hy W hW => ordClos q A k cap i y w.heap.size W hi hy (by omega) ((b1.below hW (by omega)).cell 0) (HR.out.keep (hN.trans' hW))) (by omega) hown).mono ?_
      rintro e w2 ⟨rfl, o2, hB⟩
      go_wp2
      go_ret
      exact ⟨A', c', rfl, rdN o2.rd, hN.trans' hB⟩
end Go.Proofs.Ytjpkcmlepjbamaa
