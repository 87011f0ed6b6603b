/- What the second walk over the pairs keeps: station.Unpacked. -/
import Derived.Test.YtjpkcmlepjbamaaW28
import Derived.Test.YtjpkcmlepjbamaaW25
import Derived.Test.YtjpkcmlepjbamaaQPush
import Derived.Test.YtjpkcmlepjbamaaSpecJ
namespace Go.Proofs.Ytjpkcmlepjbamaa
open Go.RowKit Go.Sky Go.Shelf

/-- The series so far in its box, the last number in its own; c: how many at most. -/
structure OutB (way : Int) (A : Option Addr) (n cap Bo Bl D base : Nat) (w : World) (c : Int) (s : Option (List Int × Int)) (W : World) : Prop where
  rN : Bx W w.heap.size 58 #[.int .i64 way, .slice A n cap]
  r2 : Bx W (w.heap.size + 1) 30 #[.slice none 0 0]
  r3 : Bx W (w.heap.size + 1 + 1) 25 #[.int .i64 0]
  kD : W.heap[D]? = some (.deferred (some []))
  st : ∃ (out : List Int) (last : Int) (A' : Option Addr) (m cap' : Nat), s = some (out, last) ∧ (m : Int) ≤ c ∧ -1000000000 ≤ last ∧ last ≤ 1000000000 ∧ Bx W Bo 30 #[.slice A' m cap'] ∧ Bx W Bl 3 #[.int .i64 last] ∧ Sky.Own W base 3 1 encI A' m cap' out
  bl : New w W
  sz : base ≤ W.heap.size

/-- A number is none. -/
structure OutX (way : Int) (ns : List Int) (h D : Nat) (w : World) (c : Code) (pre : List (Fin h)) (W : World) : Prop where
  jump : c = .ret
  bad : runL way ns (pre.map valF) = none
  r2 : Bx W (w.heap.size + 1) 30 #[.slice none 0 0]
  r3 : Bx W (w.heap.size + 1 + 1) 25 #[.int .i64 2]
  kD : W.heap[D]? = some (.deferred (some []))
  bl : New w W

theorem outB_turn {way : Int} {A : Option Addr} {n cap Bo Bl D base B : Nat} {w : World} {c : Int} {s : Option (List Int × Int)} {W W' : World} {row : Option Nat} (h : OutB way A n cap Bo Bl D base w c s W) (hw : w.heap.size ≤ B) (hD : D < B) (hg : W.grownBy W' row)
    (hr : ∀ r, row = some r → B ≤ r ∧ ∃ o : Obj, W.heap[r]? = some o ∧ o.isCells = false) : OutB way A n cap Bo Bl D base w c s W' := by
  obtain ⟨out, last, A', m, cap', h1, h2, h3, h4, h5, h6, h7⟩ := h.st
  have hDlt := (Array.getElem?_eq_some_iff.1 h.kD).1
  exact ⟨h.rN.grown hg (bx_ne h.rN hr), h.r2.grown hg (bx_ne h.r2 hr), h.r3.grown hg (bx_ne h.r3 hr),
    (hg.block D hDlt (fun e => by have := (hr D e.symm).1; omega)).trans h.kD,
    ⟨out, last, A', m, cap', h1, h2, h3, h4, h5.grown hg (bx_ne h5 hr), h6.grown hg (bx_ne h6 hr), h7.turn hg hr⟩,
    h.bl.grown hg (fun k e => Nat.le_trans hw (hr k e).1), Nat.le_trans h.sz hg.size⟩
theorem outX_own (way : Int) (ns : List Int) (h D : Nat) (w : World) (B : Nat) (hB : w.heap.size ≤ B) (hD : D < B) (c : Code) : OwnFrom B (OutX way ns h D w c) := fun _ _ _ _ hs hg hr =>
  ⟨hs.jump, hs.bad, hs.r2.grown hg (bx_ne hs.r2 hr), hs.r3.grown hg (bx_ne hs.r3 hr),
    (hg.block D (Array.getElem?_eq_some_iff.1 hs.kD).1 (fun e => by have := (hr D e.symm).1; omega)).trans hs.kD, hs.bl.grown hg (fun k e => Nat.le_trans hB (hr k e).1)⟩

/-- One number more: its own new block, the append, the two stores. -/
theorem outB_push {way : Int} {A : Option Addr} {n cap Bo Bl D base Bc : Nat} {w : World} {c : Int} {out : List Int} {last : Int} {A' : Option Addr} {m cap' : Nat} {wr w3 : World} {o : Obj} (v : Int) (s' : Option (List Int × Int)) {A2 : Option Addr} {cap2 : Nat}
    (rN : Bx wr w.heap.size 58 #[.int .i64 way, .slice A n cap]) (r2 : Bx wr (w.heap.size + 1) 30 #[.slice none 0 0]) (r3 : Bx wr (w.heap.size + 1 + 1) 25 #[.int .i64 0])
    (kD : wr.heap[D]? = some (.deferred (some []))) (hm : (m : Int) ≤ c) (hv1 : -1000000000 ≤ v) (hv2 : v ≤ 1000000000) (hs' : s' = some (out ++ [v], v))
    (bo : Bx wr Bo 30 #[.slice A' m cap']) (bl : Bx wr Bl 3 #[.int .i64 last]) (hown : Sky.Own wr base 3 1 encI A' m cap' out) (hN : New w wr)
    (hsz : base ≤ wr.heap.size) (h0 : w.heap.size + 3 ≤ base) (hBo : Bo < base) (hBl : Bl < base) (hD : D < base) (hBc : Bc + 1 < base) (ho : w.heap.size + 3 ≤ Bo) (hl : w.heap.size + 3 ≤ Bl) (hDo : D ≠ Bo) (hDl : D ≠ Bl) (hol : Bo ≠ Bl) (hBo2 : Bc ≠ Bo ∧ Bc + 1 ≠ Bo) (hBl2 : Bc ≠ Bl ∧ Bc + 1 ≠ Bl)
    (hown3 : Sky.Own w3 base 3 1 encI A2 (m + 1) cap2 (out ++ [v])) (hg3 : (wr.alloc o).grownBy w3 (A'.map (·.block))) :
    OutB way A n cap Bo Bl D base w (c + 1) s' ((w3.setCell ⟨Bo, 0, none⟩ (.slice A2 (m + 1) cap2)).setCell ⟨Bl, 0, none⟩ (.int .i64 v)) ∧
    KeepsOthers wr ((w3.setCell ⟨Bo, 0, none⟩ (.slice A2 (m + 1) cap2)).setCell ⟨Bl, 0, none⟩ (.int .i64 v)) ∧ KeepTwo Bc wr ((w3.setCell ⟨Bo, 0, none⟩ (.slice A2 (m + 1) cap2)).setCell ⟨Bl, 0, none⟩ (.int .i64 v)) := by
  have hga := hown.alloc o
  have hrow := hga.row_ge
  have hne : ∀ b, b < base → some b ≠ A'.map (·.block) := fun b hb e => by have := hrow b e.symm; omega
  have far : ∀ {b : Nat} {t : TypeId} {cs : Array Value}, Bx wr b t cs → b < base → Bx w3 b t cs := fun h hb => (h.alloc o).grown hg3 (hne _ hb)
  have hblk : ∀ b, b < base → b < wr.heap.size → w3.heap[b]? = wr.heap[b]? := fun b hb hlt => (hg3.block b (by simp; omega) (hne b hb)).trans (Below.heap_alloc wr o b hlt)
  have hset : ∀ b, b ≠ Bo → b ≠ Bl → ((w3.setCell ⟨Bo, 0, none⟩ (.slice A2 (m + 1) cap2)).setCell ⟨Bl, 0, none⟩ (.int .i64 v)).heap[b]? = w3.heap[b]? := fun b h1 h2 =>
    (Below.heap_setCell _ _ _ _ h2).trans (Below.heap_setCell _ _ _ _ h1)
  have hszs : ((w3.setCell ⟨Bo, 0, none⟩ (.slice A2 (m + 1) cap2)).setCell ⟨Bl, 0, none⟩ (.int .i64 v)).heap.size = w3.heap.size := by simp [World.setCell]
  have hs3 : wr.heap.size ≤ w3.heap.size := by have := hg3.size; simp at this; omega
  refine ⟨⟨?_, ?_, ?_, ?_, ?_, ?_, ?_⟩, ?_, ?_⟩
  · exact ((far rN (by omega)).far (by show _ ≠ Bo; omega) _).far (by show _ ≠ Bl; omega) _
  · exact ((far r2 (by omega)).far (by show _ ≠ Bo; omega) _).far (by show _ ≠ Bl; omega) _
  · exact ((far r3 (by omega)).far (by show _ ≠ Bo; omega) _).far (by show _ ≠ Bl; omega) _
  · exact (hset D hDo hDl).trans ((hblk D hD (Array.getElem?_eq_some_iff.1 kD).1).trans kD)
  · refine ⟨out ++ [v], v, A2, m + 1, cap2, hs', by omega, hv1, hv2, ?_, ?_, ?_⟩
    · exact ((far bo hBo).set 0 _).far hol _
    · exact ((far bl hBl).far (fun e => hol e.symm) _).set 0 _
    · exact (hown3.setBelow hBo _).setBelow hBl _
  · exact (((hN.alloc o).grownOwn hga (by omega) hg3).setCell (by show _ ≤ Bo; omega) _).setCell (by show _ ≤ Bl; omega) _
  · omega
  · exact (((KeepsOthers.alloc wr o).trans (KeepsOthers.of_grownBy hg3 hga.isCells)).trans (KeepsOthers.setCell _ _ _)).trans (KeepsOthers.setCell _ _ _)
  · exact ⟨(hset Bc hBo2.1 hBl2.1).trans (hblk Bc (by omega) (by omega)), (hset (Bc + 1) hBo2.2 hBl2.2).trans (hblk (Bc + 1) (by omega) (by omega))⟩

theorem rep_step (way v : Int) (s : Option (List Int × Int)) (k : Nat) : (List.replicate (k + 1) v).foldl (stepU way) s = stepU way ((List.replicate k v).foldl (stepU way) s) v := by
  rw [List.replicate_succ', List.foldl_append]; rfl
theorem rep_none {way v : Int} {s : Option (List Int × Int)} {k c : Nat} (hk : k ≤ c) (h : (List.replicate k v).foldl (stepU way) s = none) : (List.replicate c v).foldl (stepU way) s = none := by
  obtain ⟨d, rfl⟩ := Nat.exists_eq_add_of_le hk
  rw [← List.replicate_append_replicate, List.foldl_append, h, stepU_none]
theorem step_two (out : List Int) (last v : Int) : stepU 2 (some (out, last)) v = if inR v (-1000000000) 1000000000 = true then some (out ++ [v], v) else none := by
  simp [stepU]
theorem step_one (out : List Int) (last v : Int) : stepU 1 (some (out, last)) v = if inR v (-2000000000) 2000000000 = true ∧ inR (v + last) (-1000000000) 1000000000 = true then some (out ++ [v + last], v + last) else none := by
  simp [stepU]
theorem okL_fin {ns : List Int} {h : Nat} (hc : cntsOk ns h = true) (pre : List (Fin h)) : okL ns (pre.map valF) = true := by
  unfold okL
  rw [List.all_eq_true]
  intro i hi
  obtain ⟨j, _, rfl⟩ := List.mem_map.1 hi
  have := cntsOk_at j.isLt hc
  unfold inR
  exact decide_eq_true this
theorem runL_snoc {h : Nat} (way : Int) (ns : List Int) (pre : List (Fin h)) (x : Fin h) : runL way ns ((pre ++ [x]).map valF) = (List.replicate (cntU ns x.val).toNat (valU ns x.val)).foldl (stepU way) (runL way ns (pre.map valF)) := by
  rw [List.map_append, show List.map valF [x] = [x.val] from rfl, runL_app]
theorem sumL_snoc {h : Nat} (ns : List Int) (pre : List (Fin h)) (x : Fin h) : sumL ns ((pre ++ [x]).map valF) = sumL ns (pre.map valF) + cntU ns x.val := by
  rw [List.map_append, show List.map valF [x] = [x.val] from rfl, sumL_app]
end Go.Proofs.Ytjpkcmlepjbamaa
