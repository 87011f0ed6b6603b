/- Three rows of a call's own and two boxes: what is kept when one of them grows. No program. -/
import Derived.BigQuiet
import Derived.Deep.AppendLies
import Derived.Deep.Draws
import Derived.Deep.Quiet
import Derived.Deep.QuietTactic
import Derived.Laws.Rows
import Derived.Lib.Hide
import Derived.OrdersIn
import Derived.OwnWalkIn
import Derived.RangeFuncCalls
import Derived.StillTail
import Derived.TacticsIn
import Derived.WalkKit
import Derived.Test.YtaogolnoiffgiaaC21H
import Derived.Test.YtaogolnoiffgiaaC21I

namespace Go.Sky
open Go.RowKit

/-- append of elements at a fenced region's list, with the place of the new row. -/
theorem wpListIn_pushB {F : Fence} {nF : Nat} {P : Program} (w : World) {ops : Array Oper} {rest : List Oper} {o : Oper} {a : Act} {Q : Exit → Act → World → Prop} (hgd : o.guard = none) (s x : Operand) (t : TypeId)
    (ho : o.op = .call { callee := .builtin .append, args := #[s, x], argTypes := #[t, t] })
    {α : Type} (e : TypeId) (i : TypeInfo) (z : Value) (k bytes : Nat) (ht : P.underlying t = some (.slice e)) (hi : P.info? e = some i) (hz : i.zero = some z)
    (hsize : i.size = k) (hby : i.bytes = bytes) (hzs : z.cells.size = k) (hsz : 0 < k)
    (base : Nat) (enc : α → List Value) (A : Option Addr) (n cap : Nat) (xs : List α) (hs : a.eval s = .slice A n cap) (hown : Own w base e k enc A n cap xs)
    (B m c : Nat) (ys : List α) (hx : a.eval x = .slice (some ⟨B, 0, none⟩) m c) (hm : ys.length = m) (hm0 : 0 < m) (hnews : ∀ j u, (ys.flatMap enc)[j]? = some u → w.cell? ⟨B, j, none⟩ = some u) (h1 : ∀ x, ∀ u ∈ enc x, u.oneCell' = true)
    (h63 : n + m ≤ maxLen) (hbytes : (n + m) * bytes ≤ 140737488355328) (hbase : base ≤ w.heap.size)
    (h : ∀ g cap' w', Own w' base e k enc (some ⟨g, 0, none⟩) (n + m) cap' (xs ++ ys) → w.grownBy w' (A.map (·.block)) → (A.map (·.block) = some g ∨ g = w.heap.size) → (∀ w0, New w0 w → w0.heap.size ≤ base → New w0 w') →
      wpListIn F nF P ops Q rest (a.put o.dst (.slice (some ⟨g, 0, none⟩) (n + m) cap')) w') : wpListIn F nF P ops Q (o :: rest) a w := by
  have hOb : Value.ownBlock (.slice A n cap) = A.map (·.block) := by cases A <;> rfl
  refine wpListIn_plain hgd fun K hK => ?_
  obtain ⟨g, cap', w', hrun, h2, h3, h4, _⟩ := run_append_lies (P := P) (w := w) t o.type base e i z k bytes ht hi hz hsize hby hzs hsz _ n _ hown.2.2 ⟨B, 0, none⟩ m c (ys.flatMap enc) (by rw [flat_len hown.2.1, hm]) (by
      intro j u hu
      have hadd : (⟨B, 0, none⟩ : Addr).add j = ⟨B, j, none⟩ := by unfold Addr.add; split <;> simp_all
      rw [hadd]
      exact hnews j u hu) (by intro u hu; obtain ⟨x, _, hux⟩ := List.mem_flatMap.1 hu; exact h1 x u hux) hm0 h63 hbytes hbase _ rfl
  rw [hOb] at h3 h4
  unfold Oper.wpIn
  refine ⟨?_, ?_⟩
  · simp [Oper.about, ho, resolve, Target.leads, Sem.run_pure]
  · rw [Oper.semAt_plain F _ _ (by rw [ho]; intro c hc'; cases hc')]
    simp [execOp, ho, resolve, invoke, builtin, hs, hx, hrun, Result.andThen]
    exact hK _ _ (h g cap' w' ⟨by rw [List.length_append, hown.1, hm], hown.2.1, by rw [List.flatMap_append]; exact h2⟩ h3 h4 (fun w0 hn hb0 => hn.grownOwn hown hb0 h3))

section
variable {α β : Type} {V X X' : World} {B0 fb nb tP tS tR kp ks : Nat} {fc bc : Array Value} {ep : α → List Value} {es : β → List Value}
  {C U O : Option Addr} {cn cc un uc on oc : Nat} {cl : List α} {ul : List β} {rv : List SlV} {ol : List (List α)}
/-- Two rows that are grown: what is used, and the rows that are ready. -/
structure SitO (V : World) (tP tS tR kp ks : Nat) (ep : α → List Value) (es : β → List Value) (U : Option Addr) (un uc : Nat) (ul : List β) (O : Option Addr) (on oc : Nat) (rv : List SlV) (ol : List (List α)) (X : World) : Prop where
  n : New V X
  u : Own X V.heap.size tS ks es U un uc ul
  o : OwnRows X V.heap.size tP tR kp ep O on oc rv ol
theorem SitO.keep (h : SitO V tP tS tR kp ks ep es U un uc ul O on oc rv ol X) (hn : New X X') : SitO V tP tS tR kp ks ep es U un uc ul O on oc rv ol X' := ⟨h.n.trans hn, h.u.keep hn, h.o.keep hn⟩
/-- The row that is being made, and two boxes, beside them. -/
structure Sit (V : World) (B0 fb nb : Nat) (tP tS tR kp ks : Nat) (ep : α → List Value) (es : β → List Value) (fc bc : Array Value) (C : Option Addr) (cn cc : Nat) (cl : List α) (U : Option Addr) (un uc : Nat) (ul : List β) (O : Option Addr) (on oc : Nat) (rv : List SlV) (ol : List (List α)) (X : World) : Prop where
  s : SitO V tP tS tR kp ks ep es U un uc ul O on oc rv ol X
  c : Own X B0 tP kp ep C cn cc cl
  lo : ∀ r ∈ rv, ∀ g, r.A.map (·.block) = some g → g < B0
  f : Bx X fb tS fc
  b : Bx X nb tS bc
  d1 : some fb ≠ U.map (·.block)
  d2 : some nb ≠ U.map (·.block)
  d3 : fb ≠ nb
  hv : V.heap.size ≤ nb
  h0 : V.heap.size ≤ B0
  hx : B0 ≤ X.heap.size
theorem Sit.keep (h : Sit V B0 fb nb tP tS tR kp ks ep es fc bc C cn cc cl U un uc ul O on oc rv ol X) (hn : New X X') : Sit V B0 fb nb tP tS tR kp ks ep es fc bc C cn cc cl U un uc ul O on oc rv ol X' :=
  ⟨h.s.keep hn, h.c.keep hn, h.lo, h.f.keep hn, h.b.keep hn, h.d1, h.d2, h.d3, h.hv, h.h0, Nat.le_trans h.hx hn.size⟩
theorem Sit.alloc (h : Sit V B0 fb nb tP tS tR kp ks ep es fc bc C cn cc cl U un uc ul O on oc rv ol X) (o : Obj) : Sit V B0 fb nb tP tS tR kp ks ep es fc bc C cn cc cl U un uc ul O on oc rv ol (X.alloc o) := h.keep ((New.refl X).alloc o)
theorem Sit.growC {C' : Option Addr} {cn' cc' : Nat} {cl' : List α} (h : Sit V B0 fb nb tP tS tR kp ks ep es fc bc C cn cc cl U un uc ul O on oc rv ol X) (hc : Own X' B0 tP kp ep C' cn' cc' cl') (hg : X.grownBy X' (C.map (·.block))) (hn : ∀ w0, New w0 X → w0.heap.size ≤ B0 → New w0 X')
    (t1 : tS ≠ tP) (t2 : tR ≠ tP) : Sit V B0 fb nb tP tS tR kp ks ep es fc bc C' cn' cc' cl' U un uc ul O on oc rv ol X' := by
  refine ⟨⟨hn V h.s.n h.h0, h.s.u.kept hg (own_apart2 h.s.u h.c t1), ⟨h.s.o.own.kept hg (own_apart2 h.s.o.own h.c t2), h.s.o.len, fun i r xs hr hx => (h.s.o.each i r xs hr hx).kept hg ?_⟩⟩, hc, h.lo, h.f.grown hg (bx_apart h.f h.c t1), h.b.grown hg (bx_apart h.b h.c t1), h.d1, h.d2, h.d3, h.hv, h.h0, Nat.le_trans h.hx hg.size⟩
  cases hA : r.A with
  | none => exact .inl rfl
  | some ad =>
    right
    intro e
    have h1 := h.lo r (List.mem_of_getElem? hr) ad.block (by rw [hA]; rfl)
    have h2 := h.c.row_ge ad.block e.symm
    omega
theorem Sit.growU {g un' uc' : Nat} {ul' : List β} (h : Sit V B0 fb nb tP tS tR kp ks ep es fc bc C cn cc cl U un uc ul O on oc rv ol X) (hu : Own X' V.heap.size tS ks es (some ⟨g, 0, none⟩) un' uc' ul') (hg : X.grownBy X' (U.map (·.block))) (hat : U.map (·.block) = some g ∨ g = X.heap.size) (hn : ∀ w0, New w0 X → w0.heap.size ≤ V.heap.size → New w0 X')
    (t1 : tP ≠ tS) (t2 : tR ≠ tS) : Sit V B0 fb nb tP tS tR kp ks ep es fc bc C cn cc cl (some ⟨g, 0, none⟩) un' uc' ul' O on oc rv ol X' := by
  refine ⟨⟨hn V h.s.n (Nat.le_refl _), hu, ⟨h.s.o.own.kept hg (own_apart2 h.s.o.own h.s.u t2), h.s.o.len, fun i r xs hr hx => (h.s.o.each i r xs hr hx).kept hg (own_apart2 (h.s.o.each i r xs hr hx) h.s.u t1)⟩⟩, h.c.kept hg (own_apart2 h.c h.s.u t1), h.lo, h.f.grown hg h.d1, h.b.grown hg h.d2, ?_, ?_, h.d3, h.hv, h.h0, Nat.le_trans h.hx hg.size⟩
  · rcases hat with hat | hat
    · rw [show (some ⟨g, 0, none⟩ : Option Addr).map (·.block) = some g from rfl, ← hat]; exact h.d1
    · have := h.f.lt
      intro e
      simp at e
      omega
  · rcases hat with hat | hat
    · rw [show (some ⟨g, 0, none⟩ : Option Addr).map (·.block) = some g from rfl, ← hat]; exact h.d2
    · have := h.b.lt
      intro e
      simp at e
      omega
theorem Sit.setB (h : Sit V B0 fb nb tP tS tR kp ks ep es fc bc C cn cc cl U un uc ul O on oc rv ol X) (i : Nat) (v : Value) (t1 : tS ≠ tP) (t2 : tS ≠ tR) : Sit V B0 fb nb tP tS tR kp ks ep es fc (bc.setIfInBounds i v) C cn cc cl U un uc ul O on oc rv ol (X.setCell ⟨nb, i, none⟩ v) := by
  have hc : C.map (·.block) ≠ some nb := fun e => bx_apart h.b h.c t1 e.symm
  have hu : U.map (·.block) ≠ some nb := fun e => h.d2 e.symm
  have ho : O.map (·.block) ≠ some nb := fun e => bx_apart h.b h.s.o.own t2 e.symm
  refine ⟨⟨h.s.n.setCell h.hv v, h.s.u.setOther hu v, ⟨h.s.o.own.setOther ho v, h.s.o.len, fun j r xs hr hx => (h.s.o.each j r xs hr hx).setOther (fun e => bx_apart h.b (h.s.o.each j r xs hr hx) t1 e.symm) v⟩⟩, h.c.setOther hc v, h.lo, h.f.far h.d3 v, h.b.set i v, h.d1, h.d2, h.d3, h.hv, h.h0, by simpa using h.hx⟩
/-- The beginning: an empty row, two boxes behind all that was. -/
theorem Sit.start {Y : World} (h : SitO V tP tS tR kp ks ep es U un uc ul O on oc rv ol Y) (hn : New Y X) (hk : ∀ x, (ep x).length = kp) (hf : Bx X fb tS fc) (hb : Bx X nb tS bc) (h1 : Y.heap.size ≤ fb) (h2 : Y.heap.size ≤ nb) (h3 : fb ≠ nb) :
    Sit V X.heap.size fb nb tP tS tR kp ks ep es fc bc none 0 0 [] U un uc ul O on oc rv ol X := by
  have hs := h.keep hn
  have key : ∀ b, Y.heap.size ≤ b → some b ≠ U.map (·.block) := by
    intro b hb e
    rcases h.u.form with ⟨rfl, _⟩ | ⟨g, rfl, _, hlt, _⟩
    · cases e
    · simp at e; omega
  refine ⟨hs, Own.nil _ _ _ _ hk, ?_, hf, hb, key fb h1, key nb h2, h3, Nat.le_trans h.n.size h2, hs.n.size, Nat.le_refl _⟩
  intro r hr g hg
  obtain ⟨i, hi⟩ := List.mem_iff_getElem?.1 hr
  have hl := (List.getElem?_eq_some_iff.1 hi).1
  have hx : ∃ xs, ol[i]? = some xs := ⟨_, List.getElem?_eq_getElem (by rw [hs.o.len]; exact hl)⟩
  obtain ⟨xs, hx⟩ := hx
  rcases (hs.o.each i r xs hi hx).form with ⟨h4, _⟩ | ⟨g', h4, _, hlt, _⟩
  · rw [h4] at hg; cases hg
  · rw [h4] at hg; simp at hg; omega
/-- The end: the row that was made goes to the others. -/
theorem Sit.fin {C' : Option Addr} {oc' : Nat} (h : Sit V B0 fb nb tP tS tR kp ks ep es fc bc C cn cc cl U un uc ul O on oc rv ol X) (ho : Own X' V.heap.size tR 1 encSl C' (on + 1) oc' (rv ++ [⟨C, cn, cc⟩])) (hg : X.grownBy X' (O.map (·.block))) (hn : ∀ w0, New w0 X → w0.heap.size ≤ V.heap.size → New w0 X')
    (t1 : tS ≠ tR) (t2 : tP ≠ tR) : SitO V tP tS tR kp ks ep es U un uc ul C' (on + 1) oc' (rv ++ [⟨C, cn, cc⟩]) (ol ++ [cl]) X' :=
  ⟨hn V h.s.n (Nat.le_refl _), h.s.u.kept hg (own_apart2 h.s.u h.s.o.own t1), h.s.o.snoc (h.c.base_le h.h0) t2 ho hg⟩
end
end Go.Sky
