/- append of a whole slice at a fenced region's list; a slice read off a block known whole. No program.
   A region that draws its order: reads taken first, the others as they come; the class of worlds over an older world, so that a store into a block of the call's own keeps it. No program. -/
import Derived.BigQuiet
import Derived.Deep.AppendLies
import Derived.Deep.Draws
import Derived.Deep.Quiet
import Derived.Deep.QuietTactic
import Derived.Lib.Hide
import Derived.OrdersIn
import Derived.OwnWalkIn
import Derived.RangeFuncCalls
import Derived.StillTail
import Derived.TacticsIn
import Derived.WalkKit
import Derived.Test.YtaogolnoiffgiaaC22E

namespace Go.Sky
open Go.RowKit

theorem rd_bx {α : Type} {w : World} {b k : Nat} {t : TypeId} {cs : Array Value} {enc : α → List Value} (h : Bx w b t cs) (hk : ∀ x, (enc x).length = k) (xs : List α) (hx : xs.flatMap enc = cs.toList) (n : Nat) (hn : xs.length = n) : Rd w k enc (some ⟨b, 0, none⟩) n xs :=
  ⟨hn, fun _ => ⟨b, 0, rfl, h.lt, fun i x hx' j u hu => by
    have h1 := flat_at hk xs i x hx' j u hu
    rw [h.cell, ← Array.getElem?_toList, ← hx, Nat.zero_add]
    exact h1⟩⟩

theorem Own.isCells {α : Type} {w : World} {base e k n cap : Nat} {enc : α → List Value} {A : Option Addr} {xs : List α} (h : Own w base e k enc A n cap xs) : ∀ (j : Nat) (o : Obj), A.map (·.block) = some j → w.heap[j]? = some o → o.isCells = true := by
  intro j o hj ho
  rcases h.2.2.2 with ⟨hv, _⟩ | ⟨g, c, cur, hv, hb, hg, _⟩
  · cases hv; cases hj
  · injection hv with h1 _ _
    subst h1
    simp at hj
    subst hj
    rw [hg] at ho
    injection ho with ho
    subst ho
    rfl
theorem Own.row_ge {α : Type} {w : World} {base e k n cap : Nat} {enc : α → List Value} {A : Option Addr} {xs : List α} (h : Own w base e k enc A n cap xs) : ∀ j, A.map (·.block) = some j → base ≤ j := by
  intro j hj
  rcases h.form with ⟨rfl, _⟩ | ⟨g, rfl, hg, _⟩
  · cases hj
  · simp at hj; omega
/-- What is owned lies as it lay where a block that is no cells turns. -/
theorem Own.turn {α : Type} {w W : World} {base e k n cap : Nat} {enc : α → List Value} {A : Option Addr} {xs : List α} {row : Option Nat} {B : Nat} (h : Own w base e k enc A n cap xs) (hg : w.grownBy W row)
    (hr : ∀ r, row = some r → B ≤ r ∧ ∃ o : Obj, w.heap[r]? = some o ∧ o.isCells = false) : Own W base e k enc A n cap xs := by
  refine h.kept hg ?_
  cases hA : A with
  | none => exact .inl rfl
  | some a =>
    right
    intro e
    rw [← hA] at e
    cases hrow : row with
    | none => rw [hrow, hA] at e; cases e
    | some r =>
      obtain ⟨_, o, ho, hc⟩ := hr r hrow
      rw [hrow] at e
      rw [h.isCells r o e ho] at hc
      cases hc

section
variable {F : Fence} {nF : Nat} {P : Program}
theorem wpListIn_pour (w : World) {ops : Array Oper} {rest : List Oper} {o : Oper} {a : Act} {Q : Exit → Act → World → Prop} (hgd : o.guard = none) (s x : Operand) (t : TypeId)
    (ho : o.op = .call { callee := .builtin .append, args := #[s, x], argTypes := #[t, t] })
    {α : Type} (e : TypeId) (i : TypeInfo) (z : Value) (k bytes : Nat) (ht : P.underlying t = some (.slice e)) (hi : P.info? e = some i) (hz : i.zero = some z)
    (hsize : i.size = k) (hby : i.bytes = bytes) (hzs : z.cells.size = k) (hsz : 0 < k)
    (base : Nat) (enc : α → List Value) (A : Option Addr) (n cap : Nat) (xs : List α) (hs : a.eval s = .slice A n cap) (hown : Own w base e k enc A n cap xs)
    (B : Nat) (m c : Nat) (ys : List α) (hx : a.eval x = .slice (some ⟨B, 0, none⟩) m c) (hr : Rd w k enc (some ⟨B, 0, none⟩) m ys) (h1 : ∀ x, ∀ u ∈ enc x, u.oneCell' = true)
    (h63 : n + m ≤ maxLen) (hbytes : (n + m) * bytes ≤ 140737488355328) (hbase : base ≤ w.heap.size)
    (h : ∀ A' cap' w', Own w' base e k enc A' (n + m) cap' (xs ++ ys) → w.grownBy w' (A.map (·.block)) → (∀ w0, New w0 w → w0.heap.size ≤ base → New w0 w') →
      wpListIn F nF P ops Q rest (a.put o.dst (.slice A' (n + m) cap')) w') : wpListIn F nF P ops Q (o :: rest) a w := by
  have hOb : Value.ownBlock (.slice A n cap) = A.map (·.block) := by cases A <;> rfl
  have hnews : ∀ j u, (ys.flatMap enc)[j]? = some u → w.cell? ((⟨B, 0, none⟩ : Addr).add j) = some u := by
    intro j u hu
    rcases Nat.eq_zero_or_pos m with h0 | h0
    · subst h0
      have hys : ys = [] := List.eq_nil_of_length_eq_zero hr.1
      subst hys
      simp at hu
    · obtain ⟨b, o', e', _, hc⟩ := hr.2 h0
      injection e' with e'
      injection e' with e1 e2
      subst e1 e2
      have hlen := flat_len hown.2.1 ys
      have hj : j < ys.length * k := by rw [← hlen]; exact (List.getElem?_eq_some_iff.1 hu).1
      have hdm := Nat.div_add_mod j k
      have hjk : j / k < ys.length := Nat.div_lt_of_lt_mul (by rw [Nat.mul_comm]; exact hj)
      have hmod : j % k < (enc ys[j / k]).length := by rw [hown.2.1]; exact Nat.mod_lt _ hsz
      have h2 := flat_at hown.2.1 ys (j / k) ys[j / k] (List.getElem?_eq_getElem hjk) (j % k) _ (List.getElem?_eq_getElem hmod)
      have hjj : j / k * k + j % k = j := by rw [Nat.mul_comm]; exact hdm
      rw [hjj, hu] at h2
      injection h2 with h2
      have h3 := hc (j / k) _ (List.getElem?_eq_getElem hjk) (j % k) _ (List.getElem?_eq_getElem hmod)
      rw [← h2] at h3
      rw [show 0 + j / k * k + j % k = 0 + j by omega] at h3
      unfold Addr.add
      split
      · rename_i hj0; subst hj0; exact h3
      · exact h3
  refine wpListIn_append_own w hgd s x t ho base e i z k bytes ht hi hz hsize hby hzs hsz _ n _ hs hown.2.2 ⟨B, 0, none⟩ m c (ys.flatMap enc) hx (by rw [flat_len hown.2.1, hr.1]) hnews
    (by intro u hu; obtain ⟨x, _, hux⟩ := List.mem_flatMap.1 hu; exact h1 x u hux) h63 hbytes hbase ?_
  intro v' w' h2 h3 _
  have hv : ∃ A' cap', v' = .slice A' (n + m) cap' := by
    rcases h2.2 with ⟨hv, h0⟩ | ⟨g, cp, cur, hv, _⟩
    · exact ⟨none, 0, by rw [h0]; exact hv⟩
    · exact ⟨_, cp, hv⟩
  obtain ⟨A', cap', rfl⟩ := hv
  rw [hOb] at h3
  exact h A' cap' w' ⟨by rw [List.length_append, hown.1, hr.1], hown.2.1, by rw [List.flatMap_append]; exact h2⟩ h3 (fun w0 hn hb0 => hn.grownOwn hown hb0 h3)
end

/-- append of elements at a step of a region that draws its order. -/
theorem step_push {P : Program} (w : World) {ops : Array Oper} {o : Oper} {a : Act} {K : Act → World → Prop} {Q : Exit → Act → World → Prop} {E : Prop} (hgd : o.guard = none) (s x : Operand) (t : TypeId)
    (ho : o.op = .call { callee := .builtin .append, args := #[s, x], argTypes := #[t, t] })
    {α : Type} (e : TypeId) (i : TypeInfo) (z : Value) (k bytes : Nat) (ht : P.underlying t = some (.slice e)) (hi : P.info? e = some i) (hz : i.zero = some z)
    (hsize : i.size = k) (hby : i.bytes = bytes) (hzs : z.cells.size = k) (hsz : 0 < k)
    (base : Nat) (enc : α → List Value) (A : Option Addr) (n cap : Nat) (xs : List α) (hs : a.eval s = .slice A n cap) (hown : Own w base e k enc A n cap xs)
    (B m c : Nat) (ys : List α) (hx : a.eval x = .slice (some ⟨B, 0, none⟩) m c) (hm : ys.length = m) (hm0 : 0 < m) (hnews : ∀ j u, (ys.flatMap enc)[j]? = some u → w.cell? ⟨B, j, none⟩ = some u) (h1 : ∀ x, ∀ u ∈ enc x, u.oneCell' = true)
    (h63 : n + m ≤ maxLen) (hbytes : (n + m) * bytes ≤ 140737488355328) (hbase : base ≤ w.heap.size)
    (h : ∀ g cap' w', Own w' base e k enc (some ⟨g, 0, none⟩) (n + m) cap' (xs ++ ys) → w.grownBy w' (A.map (·.block)) → base ≤ g → g < w'.heap.size → (∀ w0, New w0 w → w0.heap.size ≤ base → New w0 w') →
      K (a.put o.dst (.slice (some ⟨g, 0, none⟩) (n + m) cap')) w') : if Region.wanted o (yielded ops a.tmps) = true then Oper.wp P o a w K Q else E := by
  refine step_append_lies w hgd s x t ho base e i z k bytes ht hi hz hsize hby hzs hsz _ n _ hs hown.2.2 ⟨B, 0, none⟩ m c (ys.flatMap enc) hx (by rw [flat_len hown.2.1, hm]) ?_ ?_ hm0 h63 hbytes hbase _ rfl ?_
  · intro j u hu
    have hadd : (⟨B, 0, none⟩ : Addr).add j = ⟨B, j, none⟩ := by unfold Addr.add; split <;> simp_all
    rw [hadd]
    exact hnews j u hu
  · intro u hu
    obtain ⟨x, _, hux⟩ := List.mem_flatMap.1 hu
    exact h1 x u hux
  · intro g cap' w' hrow hgrow hat hlt
    have hOb : Value.ownBlock (.slice A n cap) = A.map (·.block) := by cases A <;> rfl
    rw [hOb] at hgrow hat
    have hb : base ≤ g := by
      rcases hrow.2 with ⟨hv, _⟩ | ⟨g', c', cur, hv, hb, _⟩
      · cases hv
      · injection hv with h1 _ _
        injection h1 with h1
        injection h1 with h1
        omega
    exact h g cap' w' ⟨by rw [List.length_append, hown.1, hm], hown.2.1, by rw [List.flatMap_append]; exact hrow⟩ hgrow hb hlt (fun w0 hn hb0 => hn.grownOwn hown hb0 hgrow)
/-- A cell below an owned row's own blocks, behind a growth of that row. -/
theorem grown_cell {α : Type} {w w' wx : World} {base e k n cap : Nat} {enc : α → List Value} {A : Option Addr} {xs : List α} (hown : Own wx base e k enc A n cap xs) (hg : w.grownBy w' (A.map (·.block))) {b o : Nat} {v : Value} (hb : b < base)
    (hc : w.cell? ⟨b, o, none⟩ = some v) : w'.cell? ⟨b, o, none⟩ = some v :=
  (hg.cell_far _ (World.block_lt_of_cell? w _ hc) (fun h => by have := hown.row_ge b h.symm; omega)).trans hc
end Go.Sky

namespace Go.Sky
open Go.RowKit

theorem new_plus_of {w0 w W : World} (h0 : New w0 w) (h : New w W) : ∃ od, W = plus w0 od := new_plus (h0.trans h)

section
variable {P : Program} {F : Fence} {n : Nat}
theorem wpIn_region_takes0 {id : Nat} {Q : Exit → Act → World → Prop} {a : Act} {w : World} {l : List Oper} (w0 : World) (_h0 : New w0 w) (m g : Nat) (listed : Array Bool) (R : Act → World → Prop) (hnd : noDefer l.toArray = true) (hsel : Region.noSelect l.toArray = true) (hm : P.follows .mixedOrders = true)
    (hB : takesB .any l.toArray (l.take m).length 0 (Array.replicate l.toArray.size false) = true) (hml : g + (l.take m).length = l.toArray.size) (hls : tookAll (l.take m).length 0 (Array.replicate l.toArray.size false) = listed) (hR : ∀ a' w', R a' w' → Q .normal a' w')
    (h : wpQuiet P l.toArray (fun w' => ∃ od, w' = plus w0 od) (fun a' => ∀ w', New w w' → wpAnyS F n P .any l.toArray (endsIn R) (fun w' => ∃ od, w' = plus w0 od) g listed a' w') (l.take m) a) (hF : ∀ g, F.fn g := by exact fun _ => trivial) :
    (Code.region id l.toArray true).wpIn F n P Q a w := by
  refine Code.wpIn_mono (Q := endsIn R) (fun e a' w' he => ?_) (wpIn_region_any hm ?_)
  · cases e with
    | normal => exact hR _ _ he
    | _ => exact he.elim
  · refine wpAnyIn_of_S (S := fun w' => ∃ od, w' = plus w0 od) _ _ _ _ ?_
    have := take_all (F := F) (n := n) (P := P) (md := .any) (ops := l.toArray) (Q := endsIn R) (S := fun w' => ∃ od, w' = plus w0 od) hsel hnd (fun _ _ _ h => h) (by rintro ⟨_, _, h⟩; exact h) hF (f := g) (w := w.drew) (l.take m) 0 (Array.replicate l.toArray.size false) a
      (fun j hj => by have : j < m := by simp at hj; omega
                      simp [this]) hB (by
        rw [hls]; exact quiet_list_mono (fun a' h' => h' _ (New.refl w).drew) _ _ h)
    rw [hml] at this
    exact this
/-- The same for a plain body: the end is the code behind the region. -/
theorem wp_region_takes0 {id : Nat} {Q : Exit → Act → World → Prop} {a : Act} {w : World} {l : List Oper} (w0 : World) (h0 : New w0 w) (m g : Nat) (listed : Array Bool) (hnd : noDefer l.toArray = true) (hsel : Region.noSelect l.toArray = true) (hm : P.follows .mixedOrders = true)
    (hB : takesB .any l.toArray (l.take m).length 0 (Array.replicate l.toArray.size false) = true) (hml : g + (l.take m).length = l.toArray.size) (hls : tookAll (l.take m).length 0 (Array.replicate l.toArray.size false) = listed)
    (h : wpQuiet P l.toArray (fun w' => ∃ od, w' = plus w0 od) (fun a' => ∀ w', New w w' → wpAnyS Fence.wide 6 P .any l.toArray (endsIn (Q .normal)) (fun w' => ∃ od, w' = plus w0 od) g listed a' w') (l.take m) a) :
    (Code.region id l.toArray true).wp P Q a w :=
  wpIn_wide.1 (wpIn_region_takes0 w0 h0 m g listed _ hnd hsel hm hB hml hls (fun _ _ h => h) h)
end
/-- append of a whole slice, wherever it lies: its run. -/
theorem pour_run {P : Program} (w : World) (t ty : TypeId)
    {α : Type} (e : TypeId) (i : TypeInfo) (z : Value) (k bytes : Nat) (ht : P.underlying t = some (.slice e)) (hi : P.info? e = some i) (hz : i.zero = some z)
    (hsize : i.size = k) (hby : i.bytes = bytes) (hzs : z.cells.size = k) (hsz : 0 < k)
    (base : Nat) (enc : α → List Value) (A : Option Addr) (n cap : Nat) (xs : List α) (hown : Own w base e k enc A n cap xs)
    (B : Option Addr) (m c : Nat) (ys : List α) (hr : Rd w k enc B m ys) (h1 : ∀ x, ∀ u ∈ enc x, u.oneCell' = true)
    (h63 : n + m ≤ maxLen) (hbytes : (n + m) * bytes ≤ 140737488355328) (hbase : base ≤ w.heap.size) :
    ∃ A' cap' w', (Builtin.append_ #[t, t] ty #[.slice A n cap, .slice B m c]).run P w = .ok (.slice A' (n + m) cap') w' ∧ Own w' base e k enc A' (n + m) cap' (xs ++ ys) ∧ w.grownBy w' (A.map (·.block)) := by
  have hOb : Value.ownBlock (.slice A n cap) = A.map (·.block) := by cases A <;> rfl
  rcases B with _ | ad
  · have hm : m = 0 := by
      rcases Nat.eq_zero_or_pos m with h0 | h0
      · exact h0
      · obtain ⟨b, o, e, _⟩ := hr.2 h0; cases e
    subst hm
    have hys : ys = [] := List.eq_nil_of_length_eq_zero hr.1
    subst hys
    exact ⟨A, cap, w, run_append_of_nil w base t ty e i k ht hi _ n _ hown.2.2 c, by simpa using hown, World.grownBy.refl w _⟩
  · have hnews : ∀ j u, (ys.flatMap enc)[j]? = some u → w.cell? (ad.add j) = some u := by
      intro j u hu
      rcases Nat.eq_zero_or_pos m with h0 | h0
      · subst h0
        have hys : ys = [] := List.eq_nil_of_length_eq_zero hr.1
        subst hys
        simp at hu
      · obtain ⟨b, o', e', _, hc⟩ := hr.2 h0
        injection e' with e'
        subst e'
        have hlen := flat_len hown.2.1 ys
        have hj : j < ys.length * k := by rw [← hlen]; exact (List.getElem?_eq_some_iff.1 hu).1
        have hdm := Nat.div_add_mod j k
        have hjk : j / k < ys.length := Nat.div_lt_of_lt_mul (by rw [Nat.mul_comm]; exact hj)
        have hmod : j % k < (enc ys[j / k]).length := by rw [hown.2.1]; exact Nat.mod_lt _ hsz
        have h2 := flat_at hown.2.1 ys (j / k) ys[j / k] (List.getElem?_eq_getElem hjk) (j % k) _ (List.getElem?_eq_getElem hmod)
        have hjj : j / k * k + j % k = j := by rw [Nat.mul_comm]; exact hdm
        rw [hjj, hu] at h2
        injection h2 with h2
        have h3 := hc (j / k) _ (List.getElem?_eq_getElem hjk) (j % k) _ (List.getElem?_eq_getElem hmod)
        rw [← h2] at h3
        rw [show o' + j / k * k + j % k = o' + j by omega] at h3
        unfold Addr.add
        split
        · rename_i hj0; subst hj0; exact h3
        · exact h3
    obtain ⟨v', w', hrun, h2, h3, _, _⟩ := run_append_own_at (P := P) w base t ty e i z k bytes ht hi hz hsize hby hzs hsz _ n _ hown.2.2 ad m c (ys.flatMap enc) (by rw [flat_len hown.2.1, hr.1]) hnews
      (by intro u hu; obtain ⟨x, _, hux⟩ := List.mem_flatMap.1 hu; exact h1 x u hux) h63 hbytes hbase
    have hv : ∃ A' cap', v' = .slice A' (n + m) cap' := by
      rcases h2.2 with ⟨hv, h0⟩ | ⟨g, cp, cur, hv, _⟩
      · exact ⟨none, 0, by rw [h0]; exact hv⟩
      · exact ⟨_, cp, hv⟩
    obtain ⟨A', cap', rfl⟩ := hv
    rw [hOb] at h3
    exact ⟨A', cap', w', hrun, ⟨by rw [List.length_append, hown.1, hr.1], hown.2.1, by rw [List.flatMap_append]; exact h2⟩, h3⟩


/-- append of a whole slice, wherever it lies: at a fenced region's list. -/
theorem wpListIn_flow {F : Fence} {nF : Nat} {P : Program} (w : World) {ops : Array Oper} {rest : List Oper} {o : Oper} {a : Act} {Q : Exit → Act → World → Prop} (hgd : o.guard = none) (s x : Operand) (t : TypeId)
    (ho : o.op = .call { callee := .builtin .append, args := #[s, x], argTypes := #[t, t] })
    {α : Type} (e : TypeId) (i : TypeInfo) (z : Value) (k bytes : Nat) (ht : P.underlying t = some (.slice e)) (hi : P.info? e = some i) (hz : i.zero = some z)
    (hsize : i.size = k) (hby : i.bytes = bytes) (hzs : z.cells.size = k) (hsz : 0 < k)
    (base : Nat) (enc : α → List Value) (A : Option Addr) (n cap : Nat) (xs : List α) (hs : a.eval s = .slice A n cap) (hown : Own w base e k enc A n cap xs)
    (B : Option Addr) (m c : Nat) (ys : List α) (hx : a.eval x = .slice B m c) (hr : Rd w k enc B m ys) (h1 : ∀ x, ∀ u ∈ enc x, u.oneCell' = true)
    (h63 : n + m ≤ maxLen) (hbytes : (n + m) * bytes ≤ 140737488355328) (hbase : base ≤ w.heap.size)
    (h : ∀ A' cap' w', Own w' base e k enc A' (n + m) cap' (xs ++ ys) → w.grownBy w' (A.map (·.block)) → (∀ w0, New w0 w → w0.heap.size ≤ base → New w0 w') →
      wpListIn F nF P ops Q rest (a.put o.dst (.slice A' (n + m) cap')) w') : wpListIn F nF P ops Q (o :: rest) a w := by
  refine wpListIn_plain hgd fun K hK => ?_
  obtain ⟨A', cap', w', hrun, h2, h3⟩ := pour_run w t o.type e i z k bytes ht hi hz hsize hby hzs hsz base enc A n cap xs hown B m c ys hr h1 h63 hbytes hbase
  unfold Oper.wpIn
  refine ⟨?_, ?_⟩
  · simp [Oper.about, ho, resolve, Target.leads, Sem.run_pure]
  · rw [Oper.semAt_plain F _ _ (by rw [ho]; intro c hc'; cases hc')]
    simp [execOp, ho, resolve, invoke, builtin, hs, hx, hrun, Result.andThen]
    exact hK _ _ (h A' cap' w' h2 h3 (fun w0 hn hb0 => hn.grownOwn hown hb0 h3))
end Go.Sky
