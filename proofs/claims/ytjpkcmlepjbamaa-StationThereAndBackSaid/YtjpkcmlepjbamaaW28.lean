/- Contracts: slices.Chunk of a slice of numbers, two and two; its iterator, as a range over a function asks it. -/
import Derived.Test.YtjpkcmlepjbamaaW24
namespace Go.Proofs.Ytjpkcmlepjbamaa
open Go.RowKit Go.Sky Go.Shelf
attribute [local go_sem] Oper.semAt_some

theorem Chunk_any (v : Value) (w : World) (hv : ∃ A n cap, v = .slice A n cap) : Calls Try.prog 97 #[v, .int .i64 2] w fun e w' =>
    e = .returned (.func (.func 137) #[] #[.pointer (some ⟨w.heap.size, 0, none⟩), .pointer (some ⟨w.heap.size + 1, 0, none⟩)]) ∧ w' = (w.alloc (.cells #[v] 30)).alloc (.cells #[.int .i64 2] 3) := by
  obtain ⟨A, n, cap, rfl⟩ := hv
  go_enter Try.func97, Try.ntmps97
  go_wp2
  go_ret
  exact ⟨rfl, rfl⟩

def encC (b o : Nat) {h : Nat} (i : Fin h) : Array Value := #[.slice (some ⟨b, o + 2 * i.val, none⟩) 2 2]
/-- Two blocks lie as they lay. -/
def KeepTwo (Bn : Nat) (W W' : World) : Prop := W'.heap[Bn]? = W.heap[Bn]? ∧ W'.heap[Bn + 1]? = W.heap[Bn + 1]?
theorem KeepTwo.refl (Bn : Nat) (W : World) : KeepTwo Bn W W := ⟨rfl, rfl⟩
theorem keepTwo_t {Bn : Nat} {A B C : World} (h : KeepTwo Bn A B) (k : KeepTwo Bn B C) : KeepTwo Bn A C := ⟨k.1.trans h.1, k.2.trans h.2⟩
theorem keepTwo_b {Bn : Nat} {w : World} (hn : Bn + 1 < w.heap.size) (W : World) (l : Nat) (o o' : Obj) (hl : w.heap.size ≤ l) (h : W.heap[l]? = some o) (hc : o.isCells = false) (hw : o.isWalk = false) : KeepTwo Bn W (W.putObj l o') := by
  have := belowK_b (n₀ := w.heap.size) (Nat.le_refl _) W l o o' hl h hc hw
  exact ⟨this.block Bn (by omega), this.block (Bn + 1) hn⟩
theorem keepTwo_set {Bn : Nat} {W W' : World} (h : KeepTwo Bn W W') {p : Addr} (h1 : Bn ≠ p.block) (h2 : Bn + 1 ≠ p.block) (u : Value) : KeepTwo Bn W (W'.setCell p u) :=
  ⟨(Below.heap_setCell W' p u Bn h1).trans h.1, (Below.heap_setCell W' p u (Bn + 1) h2).trans h.2⟩
theorem keepTwo_new {Bn : Nat} {W W' : World} (h : New W W') (hb : Bn + 1 < W.heap.size) : KeepTwo Bn W W' := ⟨h.block Bn (by omega), h.block (Bn + 1) hb⟩

def valF {h : Nat} (i : Fin h) : Nat := i.val

set_option maxRecDepth 100000 in
set_option maxHeartbeats 2000000 in
theorem chunkIt (n : Nat) (hn : 1 ≤ n) (l Bn b o h cap : Nat) (A : Option Addr) (hA : 0 < h → A = some ⟨b, o, none⟩) (J Jx : List (Fin h) → World → Prop) (hJd : ∀ pre W m, J pre W → J pre (W.drewN m))
    (hY : ∀ pre x W, J pre W → pre.length < h → YieldAt Fence.wide (n - 1) Try.prog l (encC b o x) W fun e W' =>
      (e = .returned (.bool true) ∧ J (pre ++ [x]) W' ∧ KeepTwo Bn W W') ∨ (e = .returned (.bool false) ∧ Jx (pre ++ [x]) W'))
    (W : World) (hm : 2 * h ≤ 1000000) (hcap : 2 * h ≤ cap) (hc : Bx W Bn 30 #[.slice A (2 * h) cap]) (hc2 : Bx W (Bn + 1) 3 #[.int .i64 2]) (h0 : J [] W) :
    CallsIn Fence.wide n Try.prog 137 #[.func (.yield l) #[] #[], .pointer (some ⟨Bn, 0, none⟩), .pointer (some ⟨Bn + 1, 0, none⟩)] W fun e W' => (∃ v, e = .returned v) ∧
      ((∃ ys, ys.map valF = List.range h ∧ J ys W') ∨ (∃ pre, pre.map valF <+: List.range h ∧ Jx pre W')) := by
  have HY := Lib.hid hY; clear hY
  have HD := Lib.hid hJd; clear hJd
  refine callsIn_of_wp Try.func137 rfl trivial ?_ rfl
  simp only [Try.ntmps137, List.size_toArray, List.length_cons, List.length_nil, Nat.reduceAdd, Nat.reduceSub, Array.replicate_succ, Array.replicate_zero, List.push_toArray, List.append_toArray, List.nil_append, List.cons_append]
  gi_wp2
  gi_loopw [4] (fun v wr => ∃ (i : Nat) (pre : List (Fin h)), i ≤ h ∧ v = .int .i64 ((2 * i : Nat) : Int) ∧ Hid (pre.map valF = List.range i) ∧ J pre wr ∧ Bx wr Bn 30 #[.slice A (2 * h) cap] ∧ Bx wr (Bn + 1) 3 #[.int .i64 2]) (fun v _ => 2 * h - (intOf v).toNat)
  case atStart => exact ⟨0, [], by omega, rfl, rfl, h0, hc, hc2⟩
  case round =>
    clear hc hc2 h0
    obtain ⟨i, pre, hi, rfl, HP, hJ, kA, kB⟩ := hrel
    have hcell : wr.cell? _ = some _ := kA.cell 0
    have hcell2 : wr.cell? _ = some _ := kB.cell 0
    by_cases hlt : i < h
    · obtain rfl := hA (by omega)
      clear hA
      have l1 : (0 : Int) ≤ ((2 * i : Nat) : Int) := by omega
      have l2 : ((2 * i : Nat) : Int) < ((2 * h : Nat) : Int) := by omega
      have hmin : min (2 : Int) ((2 * h : Nat) - (2 * i : Nat) : Int) = 2 := by omega
      gi_wp2_with fail
      refine wpIn_wide.2 ?_
      go_quiet (fail)
      obtain ⟨W2, hW2⟩ : ∃ W2, wr.drewN nq = W2 := ⟨_, rfl⟩
      have hJ2 : J pre W2 := hW2 ▸ HD.out _ _ nq hJ
      have kA' : Bx W2 Bn 30 #[.slice (some ⟨b, o, none⟩) (2 * h) cap] := hW2 ▸ kA.drewN nq
      have kB' : Bx W2 (Bn + 1) 3 #[.int .i64 2] := hW2 ▸ kB.drewN nq
      have hcell' : W2.cell? _ = some _ := kA'.cell 0
      have hcell2' : W2.cell? _ = some _ := kB'.cell 0
      rw [hW2]
      clear hW2 hJ hcell hcell2 kA kB
      obtain ⟨fn, tmps, assign, body, hy, hR⟩ := HY.out pre ⟨i, hlt⟩ _ hJ2 (by rw [← List.length_map (f := valF), HP.out, List.length_range]; exact hlt)
      unfold encC at hy
      dsimp only at hy
      gi_wp2_with fail
      refine hR.mono ?_
      rintro e W3 (⟨rfl, hJ3, hk3⟩ | ⟨rfl, hJx3⟩)
      · have hc3 : Bx W3 Bn 30 #[.slice (some ⟨b, o, none⟩) (2 * h) cap] := hk3.1.trans kA'
        have hc4 : Bx W3 (Bn + 1) 3 #[.int .i64 2] := hk3.2.trans kB'
        have hd3 : W3.cell? _ = some _ := hc3.cell 0
        have hd4 : W3.cell? _ = some _ := hc4.cell 0
        gi_wp2
        go_roundw
        case rel => exact ⟨i + 1, _, by omega, by go_num, by show List.map _ _ = _; rw [List.map_append, HP.out, List.range_succ]; rfl, hJ3, hc3, hc4⟩
        case measure => simp [intOf]; omega
      · gi_wp2
        refine bodyPost_ret (results_none rfl _ _ _) rfl ?_
        refine ⟨⟨_, rfl⟩, .inr ⟨_, ?_, hJx3⟩⟩
        rw [List.map_append, HP.out, show List.map valF [(⟨i, hlt⟩ : Fin h)] = [i] from rfl, ← List.range_succ]
        conv => rhs; rw [show h = i + 1 + (h - (i + 1)) by omega, List.range_add]
        exact List.prefix_append _ _
    · obtain rfl : i = h := by omega
      gi_wp2
      go_end0
      exact ⟨⟨_, rfl⟩, .inl ⟨_, HP.out, hJ⟩⟩

theorem drewN_grown (W : World) (m : Nat) : W.grownBy (W.drewN m) none := ⟨rfl, rfl, rfl, Nat.le_refl _, fun _ _ _ => rfl⟩

theorem chunk_stops (n : Nat) (hn : 1 ≤ n) (Bn b o h cap : Nat) (A : Option Addr) (hA : 0 < h → A = some ⟨b, o, none⟩) (w : World) (hm : 2 * h ≤ 1000000) (hcap : 2 * h ≤ cap)
    (hc : Bx w Bn 30 #[.slice A (2 * h) cap]) (hc2 : Bx w (Bn + 1) 3 #[.int .i64 2]) :
    SeqStopsK Fence.wide n Try.prog 137 #[.pointer (some ⟨Bn, 0, none⟩), .pointer (some ⟨Bn + 1, 0, none⟩)] (encC b o (h := h)) (KeepTwo Bn) (fun ys => ys.map valF = List.range h) (fun pre => pre.map valF <+: List.range h) h w := fun l J Jx W hW hJ _ hY h0 =>
  chunkIt n hn l Bn b o h cap A hA J Jx (fun pre W1 m hj => hJ pre W1 _ none hj (drewN_grown W1 m) (fun r e => nomatch e)) hY W hm hcap (hc.below hW hc.lt) (hc2.below hW hc2.lt) h0
end Go.Proofs.Ytjpkcmlepjbamaa
