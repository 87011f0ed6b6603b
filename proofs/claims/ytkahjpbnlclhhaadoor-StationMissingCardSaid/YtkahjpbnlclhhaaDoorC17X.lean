/- A map of strings by numbers: what it says at a key; the look-up, the store; the iterator over sound blocks.
   Contracts: bodies (a range over the iterator of sound blocks).
   Contracts: missing, MissingIn.
   Contracts: strings.Builder off the shelf; Assembled.
   Blocks gathered: the map of bodies against the list; plain Lean. -/
import Derived.BigQuiet
import Derived.BigRegion
import Derived.Deep.AppendLies
import Derived.Deep.Draws
import Derived.Deep.Quiet
import Derived.Deep.QuietTactic
import Derived.Laws.BitsAllLaws
import Derived.Laws.IdiomStrings
import Derived.Laws.Rows
import Derived.Lib.Hide
import Derived.Lib.ItoaLen
import Derived.Lib.ItoaNum
import Derived.LoopIn
import Derived.LoopNIn
import Derived.MapKept
import Derived.Maps.OwnIn
import Derived.OrdersIn
import Derived.OwnWalkIn
import Derived.RangeFuncBound
import Derived.RangeFuncCalls
import Derived.RangeFuncLeaves
import Derived.RangeFuncNested
import Derived.Shelf.Abstract
import Derived.Shelf.RegionOpen
import Derived.Shelf.SlSortCmp.Insertion
import Derived.Shelf.SlSortCmp.QuietGrown
import Derived.Shelf.Strconv.Itoa3
import Derived.Shelf.Strings.OnBuilder
import Derived.StillTail
import Derived.TacticsIn
import Derived.TacticsInMore
import Derived.Test.YtkahjpbnlclhhaaDoorProg
import Derived.Test.YtkahjpbnlclhhaaDoorRows
import Derived.WalkKit
import Derived.WalkLawsBesides
import Derived.WalkSpells
import Derived.Test.YtkahjpbnlclhhaaDoorC17H
import Derived.Test.YtkahjpbnlclhhaaDoorC17M
import Derived.Test.YtkahjpbnlclhhaaDoorC17V

namespace Go.Proofs.YtkahjpbnlclhhaaDoor
open Go.RowKit Go.Sky Go.Shelf
attribute [local go_sem] Oper.semAt_some

def lookM : List (Int × ByteArray) → Int → Option ByteArray
  | [], _ => none
  | p :: ps, k => if p.1 = k then some p.2 else lookM ps k
def putM : List (Int × ByteArray) → Int → ByteArray → List (Int × ByteArray)
  | [], k, v => [(k, v)]
  | p :: ps, k, v => if p.1 = k then (k, v) :: ps else p :: putM ps k v
def updM (f : Int → Option ByteArray) (k : Int) (v : ByteArray) : Int → Option ByteArray := fun j => if j = k then some v else f j
theorem look_put (k : Int) (v : ByteArray) (j : Int) : ∀ m, lookM (putM m k v) j = if j = k then some v else lookM m j
  | [] => by
    unfold putM lookM
    by_cases h : j = k
    · rw [if_pos h, if_pos (by show k = j; exact h.symm)]
    · rw [if_neg h, if_neg (by show ¬ k = j; exact fun e => h e.symm)]; rfl
  | p :: ps => by
    have ih := look_put k v j ps
    unfold putM
    by_cases h : p.1 = k
    · rw [if_pos h]
      unfold lookM
      by_cases hj : j = k
      · rw [if_pos hj, if_pos (by show k = j; exact hj.symm)]
      · rw [if_neg hj, if_neg (by show ¬ k = j; exact fun e => hj e.symm), if_neg (by rw [h]; exact fun e => hj e.symm)]
    · rw [if_neg h]
      unfold lookM
      by_cases hj : p.1 = j
      · rw [if_pos hj, if_pos hj, if_neg (fun e => h (hj.trans e))]
      · rw [if_neg hj, if_neg hj]; exact ih
def kvE (e : MapEntry) : Value × Value := (e.key, e.val)
def kvV (p : Int × ByteArray) : Value × Value := (.int .i64 p.1, .string p.2)
theorem find_put (k : Int) (v : ByteArray) : ∀ (l : List MapEntry) (m : List (Int × ByteArray)) (i : Nat), l.map kvE = m.map kvV →
    (lookM m k = none ∧ Instr.findNow (.int .i64) (.int .i64 k) l i = some none ∧ putM m k v = m ++ [(k, v)]) ∨
    (∃ j u e, lookM m k = some u ∧ Instr.findNow (.int .i64) (.int .i64 k) l i = some (some (i + j, .string u)) ∧ l[j]? = some e ∧ e.key = .int .i64 k ∧
      (l.modify j fun e => { e with key := .int .i64 k, val := .string v }).map kvE = (putM m k v).map kvV)
  | [], m, i, h => by
    obtain rfl : m = [] := by cases m with | nil => rfl | cons => cases h
    exact .inl ⟨rfl, rfl, rfl⟩
  | e :: l, m, i, h => by
    cases m with
    | nil => cases h
    | cons p ps =>
      rw [List.map_cons, List.map_cons] at h
      injection h with h1 h2
      unfold kvE kvV at h1
      injection h1 with hk hv
      by_cases hp : p.1 = k
      · refine .inr ⟨0, p.2, e, by unfold lookM; rw [if_pos hp], ?_, rfl, by rw [hk, hp], ?_⟩
        · unfold Instr.findNow
          rw [hk, hv, hp]
          simp [Instr.sameNow]
        · unfold putM
          rw [if_pos hp]
          show kvE _ :: l.map kvE = _ :: ps.map kvV
          rw [h2]; rfl
      · have hs : Instr.sameNow (.int .i64) (.int .i64 k) e.key = some false := by
          rw [hk]; simp [Instr.sameNow]; exact fun e => hp e.symm
        rcases find_put k v l ps (i + 1) h2 with ⟨a1, a2, a3⟩ | ⟨j, u, e', a1, a2, a3, a4, a5⟩
        · refine .inl ⟨by unfold lookM; rw [if_neg hp]; exact a1, ?_, by unfold putM; rw [if_neg hp, a3]; rfl⟩
          unfold Instr.findNow; rw [hs]; exact a2
        · refine .inr ⟨j + 1, u, e', by unfold lookM; rw [if_neg hp]; exact a1, ?_, a3, a4, ?_⟩
          · unfold Instr.findNow; rw [hs]
            show Instr.findNow _ _ l (i + 1) = _
            rw [a2]; congr 3; omega
          · unfold putM
            rw [if_neg hp]
            show kvE e :: (l.modify j _).map kvE = kvV p :: _
            rw [a5]
            unfold kvE kvV
            rw [hk, hv]

/-- What a map says at a key. -/
def Mp (w : World) (b : Nat) (f : Int → Option ByteArray) : Prop :=
  ∃ (es : Array MapEntry) (ck : Nat) (m : List (Int × ByteArray)), w.heap[b]? = some (.map es ck) ∧ es.toList.map kvE = m.map kvV ∧ ∀ k, lookM m k = f k
theorem Mp.lt {w : World} {b : Nat} {f : Int → Option ByteArray} (h : Mp w b f) : b < w.heap.size := by
  obtain ⟨es, ck, m, h1, _⟩ := h
  exact (Array.getElem?_eq_some_iff.1 h1).1
theorem Mp.grown {w W : World} {b : Nat} {f : Int → Option ByteArray} {row : Option Nat} (h : Mp w b f) (hg : w.grownBy W row) (hne : some b ≠ row) : Mp W b f := by
  have hl := h.lt
  obtain ⟨es, ck, m, h1, h2⟩ := h
  exact ⟨es, ck, m, (hg.block b hl hne).trans h1, h2⟩
theorem Mp.keep {w W : World} {b : Nat} {f : Int → Option ByteArray} (h : Mp w b f) (hn : New w W) : Mp W b f := by
  obtain ⟨es, ck, m, h1, h2⟩ := h
  exact ⟨es, ck, m, hn.heap h1, h2⟩
theorem Mp.below {w W : World} {b B : Nat} {f : Int → Option ByteArray} (h : Mp w b f) (hn : Below B w W) (hb : b < B) : Mp W b f := by
  obtain ⟨es, ck, m, h1, h2⟩ := h
  exact ⟨es, ck, m, (hn.block b hb).trans h1, h2⟩
theorem Mp.far {w : World} {b : Nat} {f : Int → Option ByteArray} (h : Mp w b f) {p : Addr} (hp : b ≠ p.block) (u : Value) : Mp (w.setCell p u) b f := by
  obtain ⟨es, ck, m, h1, h2⟩ := h
  exact ⟨es, ck, m, (Below.heap_setCell w p u b hp).trans h1, h2⟩
theorem Mp.isMap {w : World} {b : Nat} {f : Int → Option ByteArray} (h : Mp w b f) : ∃ es ck, w.heap[b]? = some (.map es ck) := by
  obtain ⟨es, ck, m, h1, _⟩ := h
  exact ⟨es, ck, h1⟩
theorem Mp.new (w : World) : Mp (w.alloc (.map #[] 0)) w.heap.size fun _ => none :=
  ⟨#[], 0, [], heap_alloc_new w _, rfl, fun _ => rfl⟩

theorem mapGet_run {w : World} {b : Nat} {f : Int → Option ByteArray} (h : Mp w b f) (k : Int) (ok : Bool) :
    (Instr.lookup 86 (.map (some b)) (.int .i64 k) ok).run Tryd.prog w = .ok (if ok then .tuple #[.string ((f k).getD .empty), .bool (f k).isSome] else .string ((f k).getD .empty)) w := by
  obtain ⟨es, ck, m, h1, h2, h3⟩ := h
  have hz : (zeroValue 9).run Tryd.prog w = .ok (.string .empty) w := by kernel_rfl
  have hd := Tryd.underlying3
  have hkey : MapKept.IsKey (.int .i64) (.int .i64 k) := rfl
  rcases find_put k .empty es.toList m 0 h2 with ⟨a1, a2, _⟩ | ⟨j, u, e, a1, a2, _⟩
  · rw [← h3 k, a1]
    cases ok <;> simp [Instr.lookup, run_underlying Tryd.underlying86, MapKept.run_getObj_map h1, MapKept.run_checkKey hd hkey, MapKept.run_findKey hd a2, hz, Result.andThen]
  · rw [← h3 k, a1]
    cases ok <;> simp [Instr.lookup, run_underlying Tryd.underlying86, MapKept.run_getObj_map h1, MapKept.run_checkKey hd hkey, MapKept.run_findKey hd a2, Result.andThen]

theorem mapPut_run {w : World} {b : Nat} {f : Int → Option ByteArray} (h : Mp w b f) (k : Int) (v : ByteArray) :
    ∃ W, (Instr.mapUpdate 86 (.map (some b)) (.int .i64 k) (.string v)).run Tryd.prog w = .ok () W ∧ Mp W b (updM f k v) ∧ w.grownBy W (some b) := by
  obtain ⟨es, ck, m, h1, h2, h3⟩ := h
  have hd := Tryd.underlying3
  have hkey : MapKept.IsKey (.int .i64) (.int .i64 k) := rfl
  have hlt := (Array.getElem?_eq_some_iff.1 h1).1
  have hup : ∀ j, lookM (putM m k v) j = updM f k v j := fun j => by rw [look_put]; unfold updM; rw [h3 j]
  rcases find_put k v es.toList m 0 h2 with ⟨a1, a2, a3⟩ | ⟨j, u, e, a1, a2, a3, a4, a5⟩
  · refine ⟨w.putObj b (.map (es.push { key := .int .i64 k, val := .string v, born := ck }) (ck + 1)), ?_, ⟨es.push { key := .int .i64 k, val := .string v, born := ck }, ck + 1, putM m k v, World.putObj_heap_same hlt, ?_, hup⟩, grownBy_putObj' w b _⟩
    · simp [Instr.mapUpdate, run_underlying Tryd.underlying86, MapKept.run_getObj_map h1, MapKept.run_checkKey hd hkey, MapKept.run_findKey hd a2, MapKept.run_setObj_map _ h1, Result.andThen]
      rfl
    · rw [a3, Array.toList_push, List.map_append, h2, List.map_append]; rfl
  · refine ⟨w.putObj b (.map (es.modify j fun e => { e with key := .int .i64 k, val := .string v }) ck), ?_, ⟨es.modify j fun e => { e with key := .int .i64 k, val := .string v }, ck, putM m k v, World.putObj_heap_same hlt, ?_, hup⟩, grownBy_putObj' w b _⟩
    · have hj : es[j]? = some e := by rw [← Array.getElem?_toList]; exact a3
      have hstay : (Instr.keyThatStays (.int .i64 k) (.int .i64 k)).run Tryd.prog w = .ok (.int .i64 k) w := by
        have hb : Instr.sameBits 10000 (.int .i64 k) (.int .i64 k) = true := by simp [Instr.sameBits]
        unfold Instr.keyThatStays
        rw [if_pos hb]; rfl
      rw [Nat.zero_add] at a2
      simp [Instr.mapUpdate, run_underlying Tryd.underlying86, MapKept.run_getObj_map h1, MapKept.run_checkKey hd hkey, MapKept.run_findKey hd a2, hj, a4, hstay, MapKept.run_setObj_map _ h1, Result.andThen]
      rfl
    · rw [Array.toList_modify]; exact a5

theorem wpListIn_mapPut {F : Fence} {nF : Nat} (w : World) {ops : Array Oper} {rest : List Oper} {o : Oper} {a : Act} {Q : Exit → Act → World → Prop}
    (hg : o.guard = none) (m x v : Operand) (hop : o.op = Op.mapUpdate 86 m x v) (b : Nat) (f : Int → Option ByteArray) (k : Int) (s : ByteArray)
    (hm : a.eval m = .map (some b)) (hmp : Mp w b f) (hx : a.eval x = .int .i64 k) (hv : a.eval v = .string s)
    (hK : ∀ w', Mp w' b (updM f k s) → w.grownBy w' (some b) → wpListIn F nF Tryd.prog ops Q rest (a.put o.dst undef) w') :
    wpListIn F nF Tryd.prog ops Q (o :: rest) a w := by
  refine wpListIn_plain hg fun K' hK' => ?_
  obtain ⟨w', hrun, r1, r2⟩ := mapPut_run hmp k s
  unfold Oper.wpIn
  refine ⟨by simp [Oper.about, hop], ?_⟩
  rw [Oper.semAt_plain F _ _ (by rw [hop]; intro c hc'; cases hc')]
  simp [execOp, hop, hm, hx, hv, hrun, Result.andThen]
  exact hK' _ _ (hK w' r1 r2)
theorem wpListIn_mapGet {F : Fence} {nF : Nat} (w : World) {ops : Array Oper} {rest : List Oper} {o : Oper} {a : Act} {Q : Exit → Act → World → Prop}
    (hg : o.guard = none) (m x : Operand) (ok : Bool) (hop : o.op = Op.lookup 86 m x ok) (b : Nat) (f : Int → Option ByteArray) (k : Int)
    (hm : a.eval m = .map (some b)) (hmp : Mp w b f) (hx : a.eval x = .int .i64 k)
    (hK : wpListIn F nF Tryd.prog ops Q rest (a.put o.dst (if ok then .tuple #[.string ((f k).getD .empty), .bool (f k).isSome] else .string ((f k).getD .empty))) w) :
    wpListIn F nF Tryd.prog ops Q (o :: rest) a w := by
  refine wpListIn_plain hg fun K' hK' => ?_
  have hrun := mapGet_run hmp k ok
  unfold Oper.wpIn
  refine ⟨by simp [Oper.about, hop], ?_⟩
  rw [Oper.semAt_plain F _ _ (by rw [hop]; intro c hc'; cases hc')]
  simp only [execOp, hop, hm, hx, Sem.run_bind, hrun, Result.andThen, Sem.run_pure]
  exact hK' _ _ hK
theorem wpList_mapGet (w : World) {ops : Array Oper} {rest : List Oper} {o : Oper} {a : Act} {Q : Exit → Act → World → Prop}
    (hg : o.guard = none) (m x : Operand) (ok : Bool) (hop : o.op = Op.lookup 86 m x ok) (b : Nat) (f : Int → Option ByteArray) (k : Int)
    (hm : a.eval m = .map (some b)) (hmp : Mp w b f) (hx : a.eval x = .int .i64 k)
    (hK : wpList Tryd.prog ops Q rest (a.put o.dst (if ok then .tuple #[.string ((f k).getD .empty), .bool (f k).isSome] else .string ((f k).getD .empty))) w) :
    wpList Tryd.prog ops Q (o :: rest) a w := by
  refine wpList_plain hg fun K' hK' => ?_
  have hrun := mapGet_run hmp k ok
  unfold Oper.wp
  simp only [execOp, hop, hm, hx, Sem.run_bind, hrun, Result.andThen, Sem.run_pure]
  exact hK' _ _ hK

theorem wpListIn_mapGetOk {F : Fence} {nF : Nat} (w : World) {ops : Array Oper} {rest : List Oper} {o : Oper} {a : Act} {Q : Exit → Act → World → Prop}
    (hg : o.guard = none) (m x : Operand) (hop : o.op = Op.lookup 86 m x true) (b : Nat) (f : Int → Option ByteArray) (k : Int)
    (hm : a.eval m = .map (some b)) (hmp : Mp w b f) (hx : a.eval x = .int .i64 k)
    (hK : wpListIn F nF Tryd.prog ops Q rest (a.put o.dst (.tuple #[.string ((f k).getD .empty), .bool (f k).isSome])) w) :
    wpListIn F nF Tryd.prog ops Q (o :: rest) a w := wpListIn_mapGet w hg m x true hop b f k hm hmp hx hK
theorem wpList_mapGetOk (w : World) {ops : Array Oper} {rest : List Oper} {o : Oper} {a : Act} {Q : Exit → Act → World → Prop}
    (hg : o.guard = none) (m x : Operand) (hop : o.op = Op.lookup 86 m x true) (b : Nat) (f : Int → Option ByteArray) (k : Int)
    (hm : a.eval m = .map (some b)) (hmp : Mp w b f) (hx : a.eval x = .int .i64 k)
    (hK : wpList Tryd.prog ops Q rest (a.put o.dst (.tuple #[.string ((f k).getD .empty), .bool (f k).isSome])) w) :
    wpList Tryd.prog ops Q (o :: rest) a w := wpList_mapGet w hg m x true hop b f k hm hmp hx hK
theorem wpList_mapGetOne (w : World) {ops : Array Oper} {rest : List Oper} {o : Oper} {a : Act} {Q : Exit → Act → World → Prop}
    (hg : o.guard = none) (m x : Operand) (hop : o.op = Op.lookup 86 m x false) (b : Nat) (f : Int → Option ByteArray) (k : Int)
    (hm : a.eval m = .map (some b)) (hmp : Mp w b f) (hx : a.eval x = .int .i64 k)
    (hK : wpList Tryd.prog ops Q rest (a.put o.dst (.string ((f k).getD .empty))) w) :
    wpList Tryd.prog ops Q (o :: rest) a w := wpList_mapGet w hg m x false hop b f k hm hmp hx hK

theorem sound_any (A : Option Addr) (n cap : Nat) (c : Int) (w : World) : Calls Tryd.prog 70 #[.slice A n cap, .int .i64 c] w fun e w' =>
    e = .returned (.func (.func 89) #[] #[.pointer (some ⟨w.heap.size, 0, none⟩), .pointer (some ⟨w.heap.size + 1, 0, none⟩)]) ∧ w' = (w.alloc (.cells #[.slice A n cap] 22)).alloc (.cells #[.int .i64 c] 3) := by
  go_enter Tryd.func70, Tryd.ntmps70
  go_wp2
  go_ret
  exact ⟨by simp, rfl⟩

def goodK (c : Int) (x : Blk) : Bool := (x.c == c) && soundK x
def goods (c : Int) (q : List Blk) : List Blk := q.filter (goodK c)
def encV (x : Blk) : Array Value := #[.agg #[.int .i64 x.n, .int .i64 x.c, .int .i64 x.k, .string x.b]]
theorem grown_of_new {w W : World} (h : New w W) : w.grownBy W none := ⟨h.os, h.tape, h.output, Below.size h, fun k hk _ => h.block k hk⟩

/-- What a round keeps: whatever lay when the caller began; the box of the count. -/
def KeepS (n0 Bc : Nat) (A B : World) : Prop := Below n0 A B ∧ (Bc < A.heap.size → B.heap[Bc]? = A.heap[Bc]?)
theorem keepS_t {n0 Bc : Nat} {A B C : World} (h : KeepS n0 Bc A B) (k : KeepS n0 Bc B C) : KeepS n0 Bc A C :=
  ⟨h.1.trans k.1, fun hb => (k.2 (Nat.lt_of_lt_of_le hb (Below.size h.1))).trans (h.2 hb)⟩
theorem keepS_b {n0 Bc : Nat} {w : World} (hn : n0 ≤ w.heap.size) (hb : Bc < w.heap.size) (W : World) (l : Nat) (o o' : Obj) (hl : w.heap.size ≤ l) (h : W.heap[l]? = some o) (h1 : o.isCells = false) (h2 : o.isWalk = false) : KeepS n0 Bc W (W.putObj l o') :=
  ⟨belowK_b hn W l o o' hl h h1 h2, fun _ => World.putObj_heap_other (by omega)⟩

set_option maxRecDepth 100000 in
set_option maxHeartbeats 4000000 in
theorem soundIt (n : Nat) (hn : 1 ≤ n) (l Bs Bc : Nat) (w0 : World) (A : Option Addr) (m cap : Nat) (q : List Blk) (c : Int) (J Jx : List Blk → World → Prop)
    (hY : ∀ pre x W, J pre W → pre.length < q.length → YieldAt Fence.wide (n - 1) Tryd.prog l (encV x) W fun e W' =>
      (e = .returned (.bool true) ∧ J (pre ++ [x]) W' ∧ KeepS w0.heap.size Bc W W') ∨ (e = .returned (.bool false) ∧ Jx (pre ++ [x]) W'))
    (W : World) (hm : m ≤ 1000000) (hr : Rd w0 4 encK A m q) (ht : Tab w0) (hok : ∀ x ∈ q, okK x) (hsz : ∀ x ∈ q, x.b.size ≤ 3000) (hw : New w0 W)
    (hs : W.cell? ⟨Bs, 0, none⟩ = some (.slice A m cap)) (hc : Bx W Bc 3 #[.int .i64 c]) (hJ : AbidesFrom W.heap.size J) (h0 : J [] W) :
    CallsIn Fence.wide n Tryd.prog 89 #[.func (.yield l) #[] #[], .pointer (some ⟨Bs, 0, none⟩), .pointer (some ⟨Bc, 0, none⟩)] W fun e W' => (∃ v, e = .returned v) ∧
      ((∃ ys, ys = goods c q ∧ J ys W') ∨ (∃ pre : List Blk, True ∧ Jx pre W')) := by
  have HY := Lib.hid hY
  have HL := Lib.hid hr.len
  have HR := Lib.hid hr
  have HT := Lib.hid ht
  have HOK := Lib.hid hok
  have HSZ := Lib.hid hsz
  have HJ := Lib.hid hJ
  clear hY hr ht hok hsz hJ
  refine callsIn_of_wp Tryd.func89 rfl trivial ?_ rfl
  simp only [Tryd.ntmps89, List.size_toArray, List.length_cons, List.length_nil, Nat.reduceAdd, Nat.reduceSub, Array.replicate_succ, Array.replicate_zero, List.push_toArray, List.append_toArray, List.nil_append, List.cons_append]
  gi_wp2
  gi_loopw [8] (fun h wr => ∃ (i : Nat), i ≤ m ∧ h = .int .i64 (i : Int) ∧ J (goods c (q.take i)) wr ∧ New w0 wr ∧ Bx wr Bc 3 #[.int .i64 c]) (fun h _ => m - (intOf h).toNat)
  case atStart => exact ⟨0, by omega, rfl, h0, hw, hc⟩
  case round =>
    clear hs h0 hw hc
    obtain ⟨i, hi, rfl, hJ, hN, hBC⟩ := hrel
    by_cases hlt : i < m
    · obtain ⟨b, o, x, rfl, hb, hx, hcx⟩ := (HR.out.keep hN).at_ hlt
      have g0 := hcx 0 _ rfl
      have g1 := hcx 1 _ rfl
      have g2 := hcx 2 _ rfl
      have g3 := hcx 3 _ rfl
      simp only [Nat.add_zero] at g0
      have HMEM := Lib.hid (List.mem_of_getElem? hx)
      have hlen : (goods c (q.take i)).length < q.length := by
        have h1 : (goods c (q.take i)).length ≤ (q.take i).length := List.length_filter_le _ _
        rw [List.length_take] at h1
        have := HL.out
        omega
      have HLEN := Lib.hid hlen
      have HST := Lib.hid (show goods c (q.take (i + 1)) = goods c (q.take i) ++ goods c [x] by unfold goods; rw [take_snoc q i x hx, List.filter_append])
      have HG := Lib.hid (show goods c [x] = if goodK c x = true then [x] else [] by unfold goods; rw [List.filter_cons]; rfl)
      have HK := Lib.hid (show goodK c x = ((x.c == c) && soundK x) from rfl)
      have HJJ := Lib.hid hJ
      have i0 : (0 : Int) ≤ (i : Int) := by omega
      have i1 : (i : Int) < (m : Int) := by omega
      clear hx hcx hlen hJ
      have HBC := Lib.hid hBC
      have hcc : wr.cell? ⟨Bc, 0, none⟩ = some (.int .i64 c) := hBC.cell 0
      have lBC := hBC.lt
      clear hBC
      have nB := (New.refl wr).alloc (.cells #[.int .i64 x.n, .int .i64 x.c, .int .i64 x.k, .string x.b] 54)
      have bB := Bx.mk wr 54 #[.int .i64 x.n, .int .i64 x.c, .int .i64 x.k, .string x.b]
      have hcb := nB.cell hcc
      have c0 : World.cell? _ ⟨wr.heap.size, 0, none⟩ = some (.int .i64 x.n) := bB.cell 0
      have c1 : World.cell? _ ⟨wr.heap.size, 1, none⟩ = some (.int .i64 x.c) := bB.cell 1
      have c2 : World.cell? _ ⟨wr.heap.size, 2, none⟩ = some (.int .i64 x.k) := bB.cell 2
      have c3 : World.cell? _ ⟨wr.heap.size, 3, none⟩ = some (.string x.b) := bB.cell 3
      have lB := bB.lt
      by_cases hcc1 : x.c = c
      · subst hcc1
        have d1 : (x.c == x.c) = true := by simp
        rw [d1, Bool.true_and] at HK
        gi_wp2_with fail
        refine ⟨trivial, (callsIn_wide.2 (isSound_any x _ (HOK.out x HMEM.out) (HSZ.out x HMEM.out) (HT.out.keep (hN.trans nB)))).mono ?_⟩
        rintro e w3 ⟨rfl, n3⟩
        obtain ⟨sd, hsd⟩ : ∃ s, soundK x = s := ⟨_, rfl⟩
        rw [hsd] at HK ⊢
        have nW := nB.trans n3
        have b3 := bB.keep n3
        have e0 : w3.cell? ⟨wr.heap.size, 0, none⟩ = some (.int .i64 x.n) := b3.cell 0
        have e1 : w3.cell? ⟨wr.heap.size, 1, none⟩ = some (.int .i64 x.c) := b3.cell 1
        have e2 : w3.cell? ⟨wr.heap.size, 2, none⟩ = some (.int .i64 x.k) := b3.cell 2
        have e3 : w3.cell? ⟨wr.heap.size, 3, none⟩ = some (.string x.b) := b3.cell 3
        have l3 := b3.lt
        have HJ3 := Lib.hid (HJ.out (goods x.c (q.take i)) wr w3 none HJJ.out (grown_of_new nW) (fun r e => by cases e))
        clear hsd bB b3 nB n3
        cases sd
        · gi_wp2_with fail
          refine ⟨by first | trivial | exact fun _ _ => trivial, ?_⟩
          gi_wp2_with fail
          go_roundw
          case rel => exact ⟨i + 1, by omega, by go_num, by rw [HST.out, HG.out, HK.out]; simpa using HJ3.out, hN.trans nW, HBC.out.keep nW⟩
          case measure => simp [intOf]; omega
        · obtain ⟨fn, tmps, assign, body, hy, hR⟩ := HY.out (goods x.c (q.take i)) x w3 HJ3.out HLEN.out
          unfold encV at hy
          have HRR := Lib.hid hR
          clear hR
          gi_wp2_with fail
          refine HRR.out.mono ?_
          rintro e W3 (⟨rfl, hJ3, hk3⟩ | ⟨rfl, hJx3⟩)
          · gi_wp2
            go_roundw
            case rel => exact ⟨i + 1, by omega, by go_num, by rw [HST.out, HG.out, HK.out]; exact hJ3, Below.trans (hN.trans nW) hk3.1, (hk3.2 (HBC.out.keep nW).lt).trans (HBC.out.keep nW)⟩
            case measure => simp [intOf]; omega
          · gi_wp2
            refine bodyPost_ret (results_none rfl _ _ _) rfl ?_
            exact ⟨⟨_, rfl⟩, .inr ⟨_, trivial, hJx3⟩⟩
      · have d1 : (x.c == c) = false := by simpa using hcc1
        rw [d1, Bool.false_and] at HK
        gi_wp2_with fail
        refine ⟨by first | trivial | exact fun _ _ => trivial, ?_⟩
        gi_wp2_with fail
        refine ⟨by first | trivial | exact fun _ _ => trivial, ?_⟩
        gi_wp2_with fail
        go_roundw
        case rel => exact ⟨i + 1, by omega, by go_num, by rw [HST.out, HG.out, HK.out]; simpa using HJ.out _ _ _ none HJJ.out (grown_of_new nB) (fun r e => by cases e), hN.trans nB, HBC.out.keep nB⟩
        case measure => simp [intOf]; omega
    · obtain rfl : i = m := by omega
      gi_wp2
      go_end0
      exact ⟨⟨_, rfl⟩, .inl ⟨_, by rw [List.take_of_length_le (by rw [HL.out]; omega)], hJ⟩⟩

theorem sound_stops (n : Nat) (hn : 1 ≤ n) (Bs Bc : Nat) (w0 : World) (A : Option Addr) (m cap : Nat) (q : List Blk) (c : Int) (w : World)
    (hm : m ≤ 1000000) (hr : Rd w0 4 encK A m q) (ht : Tab w0) (hok : ∀ x ∈ q, okK x) (hsz : ∀ x ∈ q, x.b.size ≤ 3000) (hw : New w0 w)
    (hs : Bx w Bs 22 #[.slice A m cap]) (hc : Bx w Bc 3 #[.int .i64 c]) :
    SeqStopsK Fence.wide n Tryd.prog 89 #[.pointer (some ⟨Bs, 0, none⟩), .pointer (some ⟨Bc, 0, none⟩)] encV (KeepS w0.heap.size Bc) (fun ys => ys = goods c q) (fun _ => True) q.length w := fun l J Jx W hW hJ _ hY h0 =>
  soundIt n hn l Bs Bc w0 A m cap q c J Jx hY W hm hr ht hok hsz (hw.trans hW) ((hs.keep hW).cell 0) (hc.keep hW) hJ h0
end Go.Proofs.YtkahjpbnlclhhaaDoor

namespace Go.Proofs.YtkahjpbnlclhhaaDoor
open Go.RowKit Go.Sky Go.Shelf
attribute [local go_sem] Oper.semAt_some

def clash1 : Option ByteArray → ByteArray → Bool
  | none, _ => false
  | some y, b => !(y.toList == b.toList)
def stepB (s : (Int → Option ByteArray) × Bool) (x : Blk) : (Int → Option ByteArray) × Bool := (updM s.1 x.n x.b, s.2 || clash1 (s.1 x.n) x.b)
def bodS (pre : List Blk) : (Int → Option ByteArray) × Bool := pre.foldl stepB (fun _ => none, false)
theorem bodS_snoc (pre : List Blk) (x : Blk) : bodS (pre ++ [x]) = stepB (bodS pre) x := by unfold bodS; rw [List.foldl_append]; rfl

/-- Between two rounds of bodies. -/
structure BodI (w : World) (pre : List Blk) (W : World) : Prop where
  mp : Mp W w.heap.size (bodS pre).1
  r6 : Bx W (w.heap.size + 1) 86 #[.map (some w.heap.size)]
  r7 : Bx W (w.heap.size + 2) 4 #[.bool (bodS pre).2]
  bl : New w W
  sz : w.heap.size + 5 ≤ W.heap.size
theorem bx_ne2 {W : World} {b : Nat} {t : TypeId} {cs : Array Value} {row : Option Nat} {B : Nat} (h : Bx W b t cs) (hr : ∀ r, row = some r → B ≤ r ∧ ∃ o : Obj, W.heap[r]? = some o ∧ o.isCells = false) : some b ≠ row := by
  intro e
  obtain ⟨_, o, ho, hc⟩ := hr b e.symm
  unfold Bx at h
  rw [h] at ho
  injection ho with ho
  subst ho
  cases hc
theorem bodI_own (w : World) (B : Nat) (hB : w.heap.size < B) : OwnFrom B (BodI w) := fun s W W' row hs hg hr =>
  ⟨hs.mp.grown hg (fun e => by have := (hr _ e.symm).1; omega), hs.r6.grown hg (bx_ne2 hs.r6 hr), hs.r7.grown hg (bx_ne2 hs.r7 hr), hs.bl.grown hg (fun k e => by have := (hr k e).1; omega), Nat.le_trans hs.sz hg.size⟩

set_option maxRecDepth 100000 in
set_option maxHeartbeats 8000000 in
theorem bodies_any (A : Option Addr) (m cap : Nat) (q : List Blk) (c : Int) (w : World) (hm : m ≤ 1000000) (hr : Rd w 4 encK A m q) (ht : Tab w) (hok : ∀ x ∈ q, okK x) (hsz : ∀ x ∈ q, x.b.size ≤ 3000) :
    Calls Tryd.prog 39 #[.slice A m cap, .int .i64 c] w fun e w' => e = .returned (.tuple #[.map (some w.heap.size), .bool (bodS (goods c q)).2]) ∧ Mp w' w.heap.size (bodS (goods c q)).1 ∧ New w w' := by
  have HR := Lib.hid hr
  have HT := Lib.hid ht
  have HOK := Lib.hid hok
  have HSZ := Lib.hid hsz
  clear hr ht hok hsz
  have hmm := @run_makeMap Tryd.prog
  refine (callsIn_wide (n := 6)).1 (callsIn_of_wp_marks Tryd.func39 rfl trivial ?_ rfl)
  simp only [Tryd.ntmps39, List.size_toArray, List.length_cons, List.length_nil, Nat.reduceAdd, Nat.reduceSub, Array.replicate_succ, Array.replicate_zero, List.push_toArray, List.append_toArray, List.nil_append, List.cons_append]
  gi_wp2_with fail
  refine ⟨trivial, (callsIn_wide.2 (sound_any A m cap c _)).mono ?_⟩
  rintro e w2 ⟨rfl, rfl⟩
  gi_wp2_with fail
  have kN := (((((New.refl w).alloc (.map #[] 0)).alloc (.cells #[.map (some w.heap.size)] 86)).alloc (.cells #[.bool false] 4)).alloc (.cells #[.slice A m cap] 22)).alloc (.cells #[.int .i64 c] 3)
  have k0 := (Mp.new w).keep (((((New.refl _).alloc (.cells #[.map (some w.heap.size)] 86)).alloc (.cells #[.bool false] 4)).alloc (.cells #[.slice A m cap] 22)).alloc (.cells #[.int .i64 c] 3))
  have k6 := (((Bx.mk_at (w.alloc (.map #[] 0)) 86 #[.map (some w.heap.size)] (w.heap.size + 1) (by simp)).alloc (.cells #[.bool false] 4)).alloc (.cells #[.slice A m cap] 22)).alloc (.cells #[.int .i64 c] 3)
  have k7 := ((Bx.mk_at ((w.alloc (.map #[] 0)).alloc (.cells #[.map (some w.heap.size)] 86)) 4 #[.bool false] (w.heap.size + 2) (by simp)).alloc (.cells #[.slice A m cap] 22)).alloc (.cells #[.int .i64 c] 3)
  have k8 := (Bx.mk_at (((w.alloc (.map #[] 0)).alloc (.cells #[.map (some w.heap.size)] 86)).alloc (.cells #[.bool false] 4)) 22 #[.slice A m cap] (w.heap.size + 3) (by simp)).alloc (.cells #[.int .i64 c] 3)
  have k9 := Bx.mk_at ((((w.alloc (.map #[] 0)).alloc (.cells #[.map (some w.heap.size)] 86)).alloc (.cells #[.bool false] 4)).alloc (.cells #[.slice A m cap] 22)) 3 #[.int .i64 c] (w.heap.size + 4) (by simp)
  obtain ⟨V, hV⟩ : ∃ V, (((((w.alloc (.map #[] 0)).alloc (.cells #[.map (some w.heap.size)] 86)).alloc (.cells #[.bool false] 4)).alloc (.cells #[.slice A m cap] 22)).alloc (.cells #[.int .i64 c] 3)) = V := ⟨_, rfl⟩
  have hvs : V.heap.size = w.heap.size + 5 := by rw [← hV]; simp
  rw [hV] at kN k0 k6 k7 k8 k9 ⊢
  clear hV
  have hI0 : BodI w [] V := ⟨k0, k6, k7, kN, by omega⟩
  refine wpIn_rangeFunc_ownH (α := Blk) rfl (by omega) (gf := 89) (lb := #[.pointer (some ⟨w.heap.size + 3, 0, none⟩), .pointer (some ⟨w.heap.size + 4, 0, none⟩)]) rfl trivial (enters_of Tryd.func89 (by kernel_rfl) rfl)
    (sound_stops 5 (by omega) (w.heap.size + 3) (w.heap.size + 4) w A m cap q c V hm HR.out HT.out HOK.out HSZ.out kN k8 k9) keepS_t (keepS_b (by omega) (by omega)) (Below.refl _ _) (fun _ => rfl)
    (BodI w) (fun _ _ _ => False) (bodI_own w _ (by omega)) (fun _ _ _ _ _ h _ _ => h) hI0
    (fun x a' W => ∃ B, w.heap.size + 4 < B ∧ Bx W B 54 #[.int .i64 x.n, .int .i64 x.c, .int .i64 x.k, .string x.b] ∧
      a' = { tmps := #[.slice A m cap, .int .i64 c, undef, undef, .map none, .bool false, .pointer (some ⟨w.heap.size + 1, 0, none⟩), .pointer (some ⟨w.heap.size + 2, 0, none⟩), .pointer (some ⟨B, 0, none⟩), undef, undef, .map (some w.heap.size), .slice A m cap, .int .i64 c, .func (.func 89) #[] #[.pointer (some ⟨w.heap.size + 3, 0, none⟩), .pointer (some ⟨w.heap.size + 4, 0, none⟩)], .agg #[.int .i64 x.n, .int .i64 x.c, .int .i64 x.k, .string x.b], undef, undef, undef, undef, undef, undef, undef, undef, undef, undef, undef, undef, undef, undef, undef, undef, undef, undef, undef, undef, undef], defers := [] })
    (fun x a' _ X Y row hs hg hr => by obtain ⟨B, h1, h2, h3⟩ := hs; exact ⟨B, h1, h2.grown hg (bx_ne2 h2 hr), h3⟩)
    ?assign ?body ?done ?stop
  case assign =>
    rintro l pre x W K hI hK
    have hs := hI.sz
    unfold encV
    gi_wp2
    refine hK _ _ ((KeepsOthers.alloc _ _).from _) ⟨(Below.refl _ W).alloc (Below.size hI.bl) _, fun hb => Below.heap_alloc W _ _ hb⟩ ⟨hI.mp.keep ((New.refl _).alloc _), hI.r6.alloc _, hI.r7.alloc _, hI.bl.alloc _, by simp; omega⟩ ?_
    exact ⟨W.heap.size, by omega, Bx.mk _ _ _, rfl⟩
  case body =>
    rintro l pre x a' W hl ⟨r, hr⟩ hI ⟨B, hB, bX, rfl⟩ hlt
    have h6 := hI.r6
    have h7 := hI.r7
    have hmp := hI.mp
    have hnw := hI.bl
    have hws := hI.sz
    have HSN := Lib.hid (bodS_snoc pre x)
    obtain ⟨⟨f, cl⟩, hf⟩ : ∃ s, bodS pre = s := ⟨_, rfl⟩
    rw [hf] at HSN hmp h7
    dsimp only at hmp h7
    clear hI hf hI0
    have a6 : W.cell? _ = some _ := h6.cell 0
    have a7 : W.cell? _ = some _ := h7.cell 0
    have f7 := h7.free 0
    have x0 : W.cell? ⟨B, 0, none⟩ = some (.int .i64 x.n) := bX.cell 0
    have x1 : W.cell? ⟨B, 1, none⟩ = some (.int .i64 x.c) := bX.cell 1
    have x2 : W.cell? ⟨B, 2, none⟩ = some (.int .i64 x.k) := bX.cell 2
    have x3 : W.cell? ⟨B, 3, none⟩ = some (.string x.b) := bX.cell 3
    have l6 := h6.lt
    have l7 := h7.lt
    have lX := bX.lt
    have HMP := Lib.hid hmp
    have KB : ∀ (W1 W2 : World), w.heap.size + 5 ≤ W1.heap.size → W1.grownBy W2 (some w.heap.size) → KeepsFrom V.heap.size W1 W2 ∧ KeepS w.heap.size (w.heap.size + 4) W1 W2 := fun W1 W2 hs hg =>
      ⟨KeepsFrom.of_grownBy hg (fun j e => by cases e; omega), (Below.refl _ W1).grown hg (by omega) (fun k e => by cases e; exact Nat.le_refl _), fun hb => hg.block _ hb (by simp)⟩
    have HKB := Lib.hid KB
    clear hmp KB
    have hcs : (f x.n = none) ∨ (∃ y, f x.n = some y ∧ (!(y.toList == x.b.toList)) = true) ∨ (∃ y, f x.n = some y ∧ (!(y.toList == x.b.toList)) = false) := by
      cases hfx : f x.n with
      | none => exact .inl rfl
      | some y => cases hyb : (!(y.toList == x.b.toList)) with
        | true => exact .inr (.inl ⟨y, rfl, hyb⟩)
        | false => exact .inr (.inr ⟨y, rfl, hyb⟩)
    rcases hcs with hfx | ⟨y, hfx, hyb⟩ | ⟨y, hfx, hyb⟩
    · have HCL := Lib.hid (show clash1 (f x.n) x.b = false by rw [hfx]; rfl)
      gi_wp2_with (first | (gi_at_lookup; refine wpListIn_mapGetOk _ rfl _ _ rfl w.heap.size f x.n rfl HMP.out rfl ?_; rw [hfx]) | (gi_at_mapUpdate; refine wpListIn_mapPut _ rfl _ _ _ rfl w.heap.size f x.n x.b rfl HMP.out rfl rfl ?_; intro w1 hmp1 hg1))
      have hk := HKB.out _ _ hws hg1
      refine ⟨hk.1, hk.2, ⟨by rw [HSN.out]; exact hmp1, h6.grown hg1 (by simp), ?_, hnw.grown hg1 (fun k e => by cases e; exact Nat.le_refl _), Nat.le_trans hws hg1.size⟩⟩
      rw [HSN.out]
      show Bx w1 _ _ #[.bool (cl || clash1 (f x.n) x.b)]
      rw [HCL.out, Bool.or_false]
      exact h7.grown hg1 (by simp)
    · have HCL := Lib.hid (show clash1 (f x.n) x.b = true by rw [hfx]; exact hyb)
      gi_wp2_with (first | (gi_at_lookup; refine wpListIn_mapGetOk _ rfl _ _ rfl w.heap.size f x.n rfl HMP.out rfl ?_; rw [hfx]) | (gi_at_mapUpdate; refine wpListIn_mapPut _ rfl _ _ _ rfl w.heap.size f x.n x.b rfl (HMP.out.far (by simp) _) rfl rfl ?_; intro w1 hmp1 hg1))
      have hk := HKB.out _ _ (by simp; exact hws) hg1
      have hs2 : W.heap.size ≤ w1.heap.size := by have := hg1.size; simp at this; exact this
      refine ⟨((KeepsOthers.setCell _ _ _).from _).trans hk.1, keepS_t ⟨(Below.refl _ W).setCell (by simp) _, fun hb => Below.heap_setCell _ _ _ _ (by simp)⟩ hk.2, ⟨by rw [HSN.out]; exact hmp1, (h6.far (by simp) _).grown hg1 (by simp), ?_, (hnw.setCell (by simp) _).grown hg1 (fun k e => by cases e; exact Nat.le_refl _), Nat.le_trans hws hs2⟩⟩
      rw [HSN.out]
      show Bx w1 _ _ #[.bool (cl || clash1 (f x.n) x.b)]
      rw [HCL.out, Bool.or_true]
      exact (h7.set 0 (.bool true)).grown hg1 (by simp)
    · have HCL := Lib.hid (show clash1 (f x.n) x.b = false by rw [hfx]; exact hyb)
      gi_wp2_with (first | (gi_at_lookup; refine wpListIn_mapGetOk _ rfl _ _ rfl w.heap.size f x.n rfl HMP.out rfl ?_; rw [hfx]) | (gi_at_mapUpdate; refine wpListIn_mapPut _ rfl _ _ _ rfl w.heap.size f x.n x.b rfl HMP.out rfl rfl ?_; intro w1 hmp1 hg1))
      have hk := HKB.out _ _ hws hg1
      refine ⟨hk.1, hk.2, ⟨by rw [HSN.out]; exact hmp1, h6.grown hg1 (by simp), ?_, hnw.grown hg1 (fun k e => by cases e; exact Nat.le_refl _), Nat.le_trans hws hg1.size⟩⟩
      rw [HSN.out]
      show Bx w1 _ _ #[.bool (cl || clash1 (f x.n) x.b)]
      rw [HCL.out, Bool.or_false]
      exact h7.grown hg1 (by simp)
  case stop =>
    rintro D c pre W _ _ h _
    exact h.elim
  case done =>
    rintro D ys W hD rfl hI hK
    have h6 := hI.r6
    have h7 := hI.r7
    have a6 : W.cell? ⟨w.heap.size + 1, 0, none⟩ = some (.map (some w.heap.size)) := h6.cell 0
    have a7 : W.cell? ⟨w.heap.size + 1 + 1, 0, none⟩ = some (.bool (bodS (goods c q)).2) := h7.cell 0
    have HI := Lib.hid hI
    clear hI
    obtain ⟨cl, hcl⟩ : ∃ cl, (bodS (goods c q)).2 = cl := ⟨_, rfl⟩
    rw [hcl] at a7
    have l6 := h6.lt
    have l7 : w.heap.size + 1 + 1 < W.heap.size := h7.lt
    clear h7 h6
    gi_wp2_with fail
    rw [wpIn_wide]
    (refine wp_region_new (by kernel_rfl) (by kernel_rfl) ?_; (repeat (go_big_quiet_step ((fail)))); refine wpQuiet_nil ?_)
    intro w3 n3
    gi_wp2_with fail
    have hK' := n3.heap hK
    refine ⟨by simp, .inl ⟨_, _, rfl, run_takeDeferred hK', ?_⟩⟩
    have hg := grownBy_putObj' w3 D (.deferred none)
    exact ⟨_, results_tmp2 rfl _ _ _, by rw [hcl]; rfl, (HI.out.mp.keep n3).grown hg (fun e => by cases e; omega), (HI.out.bl.trans n3).grown hg (fun k e => by cases e; omega)⟩
end Go.Proofs.YtkahjpbnlclhhaaDoor

namespace Go.Proofs.YtkahjpbnlclhhaaDoor
open Go.RowKit Go.Sky

def missS (f : Int → Option ByteArray) (j : Nat) : List Int := ((List.range j).filter fun i : Nat => (f (i : Int)).isNone).map fun i : Nat => (i : Int)
theorem missS_step (f : Int → Option ByteArray) (j : Nat) : missS f (j + 1) = missS f j ++ if (f (j : Int)).isNone = true then [(j : Int)] else [] := by
  unfold missS
  rw [List.range_succ, List.filter_append, List.map_append, List.filter_cons]
  cases (f (j : Int)).isNone <;> rfl
theorem missS_len (f : Int → Option ByteArray) (j : Nat) : (missS f j).length ≤ j := by
  unfold missS
  rw [List.length_map]
  exact Nat.le_trans (List.length_filter_le _ _) (by rw [List.length_range]; exact Nat.le_refl _)

set_option maxRecDepth 100000 in
set_option maxHeartbeats 4000000 in
theorem missing_any (b : Nat) (f : Int → Option ByteArray) (cnt : Nat) (w : World) (hc : cnt ≤ 1000) (hmp : Mp w b f) :
    Calls Tryd.prog 40 #[.map (some b), .int .i64 (cnt : Int)] w fun e w' => New w w' ∧ ∃ (A : Option Addr) (n c : Nat), e = .returned (.slice A n c) ∧ n = (missS f cnt).length ∧ Rd w' 1 encI A n (missS f cnt) := by
  obtain ⟨i0, hi, hz0, hz1, hz2⟩ := info_parts infoInt
  have HMP := Lib.hid hmp
  clear hmp
  go_enter Tryd.func40, Tryd.ntmps40
  go_wp2
  have HA0 := Lib.hid (Sky.Own.nil w w.heap.size 3 1 encI_len)
  go_loopw [5, 6, 7, 8, 10] (fun v5 _ _ _ v10 wr => ∃ (j n c : Nat) (A : Option Addr), j ≤ cnt ∧ v10 = .int .i64 (j : Int) ∧ v5 = .slice A n c ∧ Hid (Sky.Own wr w.heap.size 3 1 encI A n c (missS f j)) ∧ New w wr) (fun _ _ _ _ v10 _ => cnt - (intOf v10).toNat)
  case atStart => exact ⟨0, 0, 0, none, by omega, rfl, rfl, HA0, New.refl _⟩
  case round =>
    clear HA0
    obtain ⟨j, n, c, A, hj, rfl, rfl, HO, nw⟩ := hrel
    by_cases hlt : j < cnt
    · have HST := Lib.hid (missS_step f j)
      have hn : n = (missS f j).length := HO.out.len.symm
      have hnb : n ≤ 1000 := by have := missS_len f j; omega
      have HNJ := Lib.hid hn
      have HM := Lib.hid (HMP.out.keep nw)
      obtain ⟨o, ho⟩ : ∃ o, f (j : Int) = o := ⟨_, rfl⟩
      rw [ho] at HST
      have HF := Lib.hid ho
      clear hn ho
      cases o with
      | none =>
        go_wp2_with (first | (at_lookup; refine wpList_mapGetOk _ rfl _ _ rfl b f (j : Int) rfl HM.out rfl ?_; rw [HF.out]) | (at_builtin; refine wpList_pour _ rfl _ _ 25 rfl 3 i0 _ 1 8 Tryd.underlying25 hi hz0 hz1 hz2 rfl (by omega) w.heap.size encI _ _ _ _ rfl (HO.out.alloc _) _ 1 1 [(j : Int)] rfl (by exact rd_bx (Bx.mk _ _ _) encI_len _ rfl 1 rfl) encI_one (by simp [maxLen]; omega) (by omega) (nw.alloc _).size ?_; intro A3 cap3 w3 hown3 hgr3 hN3))
        have n3 := hN3 w (nw.alloc _) (Nat.le_refl _)
        rw [show missS f j ++ [(j : Int)] = missS f (j + 1) by rw [HST.out]; rfl] at hown3
        have HO3 := Lib.hid hown3
        clear hown3 hgr3 hN3
        go_wp2_with fail
        go_roundw
        case rel => exact ⟨j + 1, n + 1, cap3, A3, by omega, by go_num, rfl, HO3, n3⟩
        case measure => simp [intOf]; omega
      | some y =>
        go_wp2_with (first | (at_lookup; refine wpList_mapGetOk _ rfl _ _ rfl b f (j : Int) rfl HM.out rfl ?_; rw [HF.out]))
        go_roundw
        case rel => exact ⟨j + 1, n, c, A, by omega, by go_num, rfl, by unfold Hid; rw [HST.out]; simpa using HO.out, nw⟩
        case measure => simp [intOf]; omega
    · have hjc : j = cnt := by omega
      subst hjc
      go_wp2_with fail
      go_ret
      exact ⟨nw, A, n, c, rfl, HO.out.len.symm, HO.out.rd⟩

theorem blocksE_zero {q : List Blk} {c : Int} (h : blocksE q c = 0) : q.length ≤ 60 ∧ (∀ x ∈ q, x.b.size ≤ 1000) ∧ 1 ≤ c ∧ c ≤ 30 := by
  unfold blocksE at h
  split at h
  · cases h
  · split at h
    · cases h
    · split at h
      · rename_i h1 h2 h3
        unfold inR at h3
        have := of_decide_eq_true h3
        refine ⟨by omega, fun x hx => ?_, this.1, this.2⟩
        rw [← largeK_iff]
        simp only [List.any_eq_true, not_exists, not_and, Bool.not_eq_true] at h2
        exact h2 x hx
      · cases h
theorem blocksErr_is {q : List Blk} {c E : Int} (h : blocksE q c = E) (A : Option Addr) (n cap : Nat) (w : World) (hn : n ≤ 1000000) (hr : Rd w 4 encK A n q) :
    Calls Tryd.prog 38 #[.slice A n cap, .int .i64 c] w fun e w' => e = .returned (.int .i64 E) ∧ New w w' := h ▸ blocksErr_any A n cap q c w hn hr

set_option maxRecDepth 100000 in
set_option maxHeartbeats 2000000 in
theorem MissingIn_any (A : Option Addr) (m cap : Nat) (q : List Blk) (c : Int) (w : World) (hm : m ≤ 1000000) (hr : Rd w 4 encK A m q) (ht : Tab w) (hok : ∀ x ∈ q, okK x) :
    Calls Tryd.prog 8 #[.slice A m cap, .int .i64 c] w fun e w' => New w w' ∧
      ((blocksE q c ≠ 0 ∧ e = .returned (.tuple #[.slice none 0 0, .int .i64 (blocksE q c)])) ∨
       (blocksE q c = 0 ∧ ∃ (B : Option Addr) (n k : Nat), e = .returned (.tuple #[.slice B n k, .int .i64 0]) ∧ n = (missS (bodS (goods c q)).1 c.toNat).length ∧ Rd w' 1 encI B n (missS (bodS (goods c q)).1 c.toNat))) := by
  have HR := Lib.hid hr
  have HT := Lib.hid ht
  have HOK := Lib.hid hok
  clear hr ht hok
  obtain ⟨E, hE⟩ : ∃ E, blocksE q c = E := ⟨_, rfl⟩
  rw [hE]
  have HE := Lib.hid hE
  by_cases h0 : E = 0
  · subst h0
    have hz := blocksE_zero hE
    obtain ⟨cnt, rfl⟩ : ∃ k : Nat, c = (k : Int) := ⟨c.toNat, by omega⟩
    have hc1 : cnt ≤ 30 := by omega
    have HZ := Lib.hid hz
    clear hE hz
    go_enter Tryd.func8, Tryd.ntmps8
    go_wp2_with fail
    refine (blocksErr_is HE.out A m cap _ hm HR.out).mono ?_
    rintro e w1 ⟨rfl, n1⟩
    go_wp2_with fail
    refine (bodies_any A m cap q (cnt : Int) _ hm (HR.out.keep n1) (HT.out.keep n1) HOK.out (fun x hx => by have := HZ.out.2.1 x hx; omega)).mono ?_
    rintro e w2 ⟨rfl, hmp, n2⟩
    have HMP := Lib.hid hmp
    clear hmp
    go_wp2_with fail
    refine (missing_any _ _ cnt _ (by omega) HMP.out).mono ?_
    rintro e w3 ⟨n3, B, n, k, rfl, hn, hr3⟩
    have HN := Lib.hid hn
    have HR3 := Lib.hid hr3
    clear hn hr3
    go_wp2_with fail
    go_ret2
    exact ⟨(n1.trans n2).trans n3, .inr ⟨by first | trivial | rfl, B, n, k, rfl, HN.out, HR3.out⟩⟩
  · have b0 : (E != 0) = true := by simpa using h0
    have H0 := Lib.hid h0
    clear hE h0
    go_enter Tryd.func8, Tryd.ntmps8
    go_wp2_with fail
    refine (blocksErr_is HE.out A m cap _ hm HR.out).mono ?_
    rintro e w1 ⟨rfl, n1⟩
    go_wp2_with fail
    go_ret2
    exact ⟨n1, .inl ⟨H0.out, rfl⟩⟩
end Go.Proofs.YtkahjpbnlclhhaaDoor

namespace Go.Proofs.YtkahjpbnlclhhaaDoor
open Go.RowKit Go.Sky Go.Shelf

theorem bwLay : Lays.n166 Tryd.prog joinLay_ren := { mixed := joinLay.mixed, f166 := joinLay.f166, f240 := joinLay.f240, f276 := joinLay.f276, t0 := joinLay.t0, a0 := joinLay.a0, z0 := joinLay.z0, v0 := joinLay.v0, t3 := joinLay.t3, a3 := joinLay.a3, z3 := joinLay.z3, v3 := joinLay.v3, t4 := joinLay.t4, a4 := joinLay.a4, z4 := joinLay.z4, v4 := joinLay.v4, t9 := joinLay.t9, a9 := joinLay.a9, z9 := joinLay.z9, v9 := joinLay.v9, t20 := joinLay.t20, a20 := joinLay.a20, z20 := joinLay.z20, v20 := joinLay.v20, t37 := joinLay.t37, a37 := joinLay.a37, z37 := joinLay.z37, v37 := joinLay.v37, t70 := joinLay.t70, a70 := joinLay.a70, z70 := joinLay.z70, v70 := joinLay.v70, t72 := joinLay.t72, a72 := joinLay.a72, z72 := joinLay.z72, v72 := joinLay.v72, t75 := joinLay.t75, a75 := joinLay.a75, z75 := joinLay.z75, v75 := joinLay.v75, t164 := joinLay.t164, a164 := joinLay.a164, z164 := joinLay.z164, v164 := joinLay.v164 }
theorem bsLay : Lays.n169 Tryd.prog joinLay_ren := { mixed := joinLay.mixed, f169 := joinLay.f169, t0 := joinLay.t0, a0 := joinLay.a0, z0 := joinLay.z0, v0 := joinLay.v0, t3 := joinLay.t3, a3 := joinLay.a3, z3 := joinLay.z3, v3 := joinLay.v3, t9 := joinLay.t9, a9 := joinLay.a9, z9 := joinLay.z9, v9 := joinLay.v9, t37 := joinLay.t37, a37 := joinLay.a37, z37 := joinLay.z37, v37 := joinLay.v37, t70 := joinLay.t70, a70 := joinLay.a70, z70 := joinLay.z70, v70 := joinLay.v70, t72 := joinLay.t72, a72 := joinLay.a72, z72 := joinLay.z72, v72 := joinLay.v72, t127 := joinLay.t127, a127 := joinLay.a127, z127 := joinLay.z127, v127 := joinLay.v127 }

/-- A builder of the call's own. -/
def Bd (w : World) (b : Nat) (l : List UInt8) : Prop := Lib.IsBuilder 94 5 b b (Lib.byteCells l) w
theorem Bd.fresh (w : World) : Bd (w.alloc (.cells #[.pointer none, .slice none 0 0] 94)) w.heap.size [] :=
  .inl ⟨Nat.le_refl _, .slice none 0 0, heap_alloc_new w _, World.ownsRow_nil _ _ _ _, by simp [Value.ownBlock]⟩
theorem Bd.lt {w : World} {b : Nat} {l : List UInt8} (h : Bd w b l) : b < w.heap.size := by
  rcases h with h | h <;> exact h.lt
theorem bwrite_any (b : Nat) (l : List UInt8) (s : ByteArray) (w : World) (h : Bd w b l) (hl : l.length + s.size ≤ 1000000) :
    Calls Tryd.prog 43 #[.pointer (some ⟨b, 0, none⟩), .string s] w fun e w' => (∃ v, e = .returned v) ∧ Bd w' b (l ++ s.data.toList) ∧ Below b w w' := by
  have hlen : (Lib.byteCells l).length = l.length := by simp [Lib.byteCells]
  refine (Any.Builder_WriteString bwLay joinExtra b b (Lib.byteCells l) s w h (by omega) (Nat.le_of_lt h.lt)).mono ?_
  rintro e w' ⟨rfl, h1, h2⟩
  exact ⟨⟨_, rfl⟩, .inr (by have : Lib.byteCells (l ++ s.data.toList) = Lib.byteCells l ++ Lib.strCells s := by simp [Lib.byteCells, Lib.strCells]
                            rw [this]; exact h1), h2⟩
theorem bstring_any (b : Nat) (l : List UInt8) (w : World) (h : Bd w b l) :
    Calls Tryd.prog 44 #[.pointer (some ⟨b, 0, none⟩)] w fun e w' => e = .returned (.string ⟨l.toArray⟩) ∧ Below b w w' :=
  Any.Builder_String_any bsLay joinExtra b b l w h (Nat.le_of_lt h.lt)

def catS (f : Int → Option ByteArray) (j : Nat) : List UInt8 := (List.range j).flatMap fun i : Nat => ((f (i : Int)).getD .empty).data.toList
theorem catS_step (f : Int → Option ByteArray) (j : Nat) : catS f (j + 1) = catS f j ++ ((f (j : Int)).getD .empty).data.toList := by
  unfold catS
  rw [List.range_succ, List.flatMap_append]
  simp
/-- The string of blocks, or the error. -/
def asmS (q : List Blk) (c : Int) : ByteArray × Int :=
  if (bodS (goods c q)).2 = true then (.empty, 13) else if missS (bodS (goods c q)).1 c.toNat = [] then (⟨(catS (bodS (goods c q)).1 c.toNat).toArray⟩, 0) else (.empty, 14)
/-- No body in the map is longer than K. -/
theorem bodS_from (K : Nat) : ∀ (l : List Blk) (s : (Int → Option ByteArray) × Bool), (∀ x ∈ l, x.b.size ≤ K) → (∀ k, ((s.1 k).getD .empty).size ≤ K) → ∀ k, (((l.foldl stepB s).1 k).getD .empty).size ≤ K
  | [], _, _, h, k => h k
  | x :: l, s, hl, h, k => bodS_from K l (stepB s x) (fun y hy => hl y (List.mem_cons_of_mem _ hy)) (fun j => by
      show ((updM s.1 x.n x.b j).getD .empty).size ≤ K
      unfold updM
      by_cases hk : j = x.n
      · rw [if_pos hk]; exact hl x (List.mem_cons_self ..)
      · rw [if_neg hk]; exact h j) k
theorem bodS_le (K : Nat) (l : List Blk) (h : ∀ x ∈ l, x.b.size ≤ K) (k : Int) : (((bodS l).1 k).getD .empty).size ≤ K :=
  bodS_from K l _ h (fun _ => by show ByteArray.empty.size ≤ K; simp) k
theorem catS_le (f : Int → Option ByteArray) (K : Nat) (h : ∀ k, ((f k).getD .empty).size ≤ K) : ∀ j, (catS f j).length ≤ j * K
  | 0 => by simp [catS]
  | j + 1 => by
    have ih := catS_le f K h j
    rw [catS_step, List.length_append, Nat.add_mul, Nat.one_mul]
    exact Nat.add_le_add ih (by rw [Array.length_toList]; exact h (j : Int))
theorem goods_mem {c : Int} {q : List Blk} {x : Blk} (h : x ∈ goods c q) : x ∈ q := (List.mem_filter.1 h).1

set_option maxRecDepth 100000 in
set_option maxHeartbeats 4000000 in
theorem Assembled_any (A : Option Addr) (m cap : Nat) (q : List Blk) (c : Int) (w : World) (hm : m ≤ 1000000) (hr : Rd w 4 encK A m q) (ht : Tab w) (hok : ∀ x ∈ q, okK x) :
    Calls Tryd.prog 10 #[.slice A m cap, .int .i64 c] w fun e w' => New w w' ∧
      ((blocksE q c ≠ 0 ∧ e = .returned (.tuple #[.string .empty, .int .i64 (blocksE q c)])) ∨
       (blocksE q c = 0 ∧ e = .returned (.tuple #[.string (asmS q c).1, .int .i64 (asmS q c).2]))) := by
  have HR := Lib.hid hr
  have HT := Lib.hid ht
  have HOK := Lib.hid hok
  clear hr ht hok
  obtain ⟨E, hE⟩ : ∃ E, blocksE q c = E := ⟨_, rfl⟩
  rw [hE]
  have HE := Lib.hid hE
  by_cases h0 : E = 0
  · subst h0
    have hz := blocksE_zero hE
    obtain ⟨cnt, rfl⟩ : ∃ k : Nat, c = (k : Int) := ⟨c.toNat, by omega⟩
    have hc1 : cnt ≤ 30 := by omega
    have HZ := Lib.hid hz
    clear hE hz
    have HASM := Lib.hid (show asmS q (cnt : Int) = if (bodS (goods (cnt : Int) q)).2 = true then (.empty, 13) else if missS (bodS (goods (cnt : Int) q)).1 cnt = [] then (⟨(catS (bodS (goods (cnt : Int) q)).1 cnt).toArray⟩, 0) else (.empty, 14) from rfl)
    have HLE := Lib.hid (bodS_le 1000 (goods (cnt : Int) q) (fun x hx => HZ.out.2.1 x (goods_mem hx)))
    go_enter Tryd.func10, Tryd.ntmps10
    go_wp2_with fail
    refine (blocksErr_is HE.out A m cap _ hm HR.out).mono ?_
    rintro e w1 ⟨rfl, n1⟩
    go_wp2_with fail
    refine (bodies_any A m cap q (cnt : Int) _ hm (HR.out.keep n1) (HT.out.keep n1) HOK.out (fun x hx => by have := HZ.out.2.1 x hx; omega)).mono ?_
    rintro e w2 ⟨rfl, hmp, n2⟩
    obtain ⟨⟨f, cl⟩, hf⟩ : ∃ s, bodS (goods (cnt : Int) q) = s := ⟨_, rfl⟩
    rw [hf] at HASM HLE hmp ⊢
    dsimp only at hmp HASM HLE ⊢
    obtain ⟨mb, hmb⟩ : ∃ b, w1.heap.size = b := ⟨_, rfl⟩
    rw [hmb] at hmp ⊢
    have HMP := Lib.hid hmp
    have N2 := n1.trans n2
    clear hmp hf n1 n2 hmb
    cases cl
    · go_wp2_with (first | (go_at_call 42; refine (unless_any _ _ _).mono ?_; rintro e w' ⟨rfl, rfl⟩; rw [show errU true 13 = 0 from rfl]))
      refine (missing_any mb f cnt _ (by omega) HMP.out).mono ?_
      rintro e w3 ⟨n3, B, n, k, rfl, hn, hr3⟩
      have N3 := N2.trans n3
      have HM3 := Lib.hid (HMP.out.keep n3)
      clear hr3 n3 HMP
      by_cases hn0 : n = 0
      · subst hn0
        have HMS := Lib.hid (show missS f cnt = [] from List.length_eq_zero_iff.1 hn.symm)
        clear hn
        go_wp2_with (first | (go_at_call 42; refine (unless_any _ _ _).mono ?_; rintro e w' ⟨rfl, rfl⟩; rw [show errU true 14 = 0 from rfl]) | (go_at_call 41; refine (first_any _ 2 2 [_, _] _ (by omega) rfl (cells_new _ _ _ _ (by simp) _ rfl)).mono ?_; rintro e w' ⟨rfl, rfl⟩; rw [show firstE [0, 0] = 0 from rfl]))
        have hbd := Lib.hid (show Bd ((w3.alloc (.cells #[.int .i64 0, .int .i64 0] 26)).alloc (.cells #[.pointer none, .slice none 0 0] 94)) (w3.heap.size + 1) [] by
          have h := Bd.fresh (w3.alloc (.cells #[.int .i64 0, .int .i64 0] 26))
          rw [show (w3.alloc (.cells #[.int .i64 0, .int .i64 0] 26)).heap.size = w3.heap.size + 1 by simp] at h
          exact h)
        have hnw := Lib.hid ((N3.alloc (.cells #[.int .i64 0, .int .i64 0] 26)).alloc (.cells #[.pointer none, .slice none 0 0] 94))
        have hm5 := Lib.hid (HM3.out.keep (((New.refl w3).alloc (.cells #[.int .i64 0, .int .i64 0] 26)).alloc (.cells #[.pointer none, .slice none 0 0] 94)))
        have hmb := HM3.out.lt
        have hwb := N3.size
        clear N3 HM3
        go_loopw [39] (fun i wr => ∃ t : Nat, t ≤ cnt ∧ i = .int .i64 (t : Int) ∧ Hid (Bd wr (w3.heap.size + 1) (catS f t)) ∧ Hid (Mp wr mb f) ∧ New w wr) (fun i _ => cnt - (intOf i).toNat)
        case atStart => exact ⟨0, by omega, rfl, hbd, hm5, hnw.out⟩
        case round =>
          clear hbd hm5 hnw
          obtain ⟨t, ht, rfl, HBD, HM, hN⟩ := hrel
          by_cases htc : t < cnt
          · have HST := Lib.hid (catS_step f t)
            have HSZ := Lib.hid (show (catS f t).length + ((f (t : Int)).getD .empty).size ≤ 1000000 by
              have h1 := catS_le f 1000 HLE.out t
              have h2 := HLE.out (t : Int)
              omega)
            go_wp2_with (first | (at_lookup; refine wpList_mapGetOne _ rfl _ _ rfl mb f (t : Int) rfl HM.out rfl ?_))
            refine (bwrite_any (w3.heap.size + 1) (catS f t) _ _ HBD.out HSZ.out).mono ?_
            rintro e w4 ⟨⟨v, rfl⟩, hb4, hbl⟩
            have HB4 := Lib.hid hb4
            have HM4 := Lib.hid (HM.out.below hbl (by omega))
            have N4 : New w w4 := Below.trans hN (Below.mono hbl (by omega))
            clear hb4 hbl
            go_wp2_with fail
            go_roundw
            case rel => exact ⟨t + 1, by omega, by go_num, by rw [HST.out]; exact HB4, HM4, N4⟩
            case measure => simp [intOf]; omega
          · obtain rfl : t = cnt := by omega
            go_wp2_with fail
            refine (bstring_any (w3.heap.size + 1) _ _ HBD.out).mono ?_
            rintro e w4 ⟨rfl, hbl⟩
            have N4 : New w w4 := Below.trans hN (Below.mono hbl (by omega))
            clear hbl
            go_wp2_with fail
            go_ret2
            exact ⟨N4, .inr ⟨by first | trivial | rfl, by rw [HASM.out, if_neg (by decide), if_pos HMS.out]; rfl⟩⟩
      · have d1 : ((n : Int) == 0) = false := by simpa using hn0
        have HMS := Lib.hid (show missS f cnt ≠ [] from fun h => hn0 (by rw [hn, h]; rfl))
        clear hn
        go_wp2_with (first | (go_at_call 42; refine (unless_any _ _ _).mono ?_; rintro e w' ⟨rfl, rfl⟩; rw [show errU false 14 = 14 from rfl]) | (go_at_call 41; refine (first_any _ 2 2 [_, _] _ (by omega) rfl (cells_new _ _ _ _ (by simp) _ rfl)).mono ?_; rintro e w' ⟨rfl, rfl⟩; rw [show firstE [0, 14] = 14 from rfl]))
        go_ret2
        exact ⟨N3.alloc _, .inr ⟨by first | trivial | rfl, by rw [HASM.out, if_neg (by decide), if_neg HMS.out]; rfl⟩⟩
    · go_wp2_with (first | (go_at_call 42; refine (unless_any _ _ _).mono ?_; rintro e w' ⟨rfl, rfl⟩; rw [show errU false 13 = 13 from rfl]))
      refine (missing_any mb f cnt _ (by omega) HMP.out).mono ?_
      rintro e w3 ⟨n3, B, n, k, rfl, hn, hr3⟩
      have N3 := N2.trans n3
      clear hr3 n3 HMP hn
      obtain ⟨e2, he2⟩ : ∃ v, errU ((n : Int) == 0) 14 = v := ⟨_, rfl⟩
      have HE2 := Lib.hid he2
      clear he2
      go_wp2_with (first | (go_at_call 42; refine (unless_any _ _ _).mono ?_; rintro e w' ⟨rfl, rfl⟩) | (go_at_call 41; refine (first_any _ 2 2 [_, _] _ (by omega) rfl (cells_new _ _ _ _ (by simp) _ rfl)).mono ?_; rintro e w' ⟨rfl, rfl⟩; rw [show ∀ v, firstE [13, v] = 13 from fun _ => rfl]))
      go_ret2
      exact ⟨N3.alloc _, .inr ⟨by first | trivial | rfl, by rw [HASM.out, if_pos trivial]; rfl⟩⟩
  · have b0 : (E != 0) = true := by simpa using h0
    have H0 := Lib.hid h0
    clear hE h0
    go_enter Tryd.func10, Tryd.ntmps10
    go_wp2_with fail
    refine (blocksErr_is HE.out A m cap _ hm HR.out).mono ?_
    rintro e w1 ⟨rfl, n1⟩
    go_wp2_with fail
    go_ret2
    exact ⟨n1, .inl ⟨H0.out, rfl⟩⟩
end Go.Proofs.YtkahjpbnlclhhaaDoor

namespace Go.Proofs.YtkahjpbnlclhhaaDoor
open Go.RowKit Go.Sky

theorem snoc_ind {α : Type} {P : List α → Prop} (h0 : P []) (h1 : ∀ l x, P l → P (l ++ [x])) : ∀ l, P l := by
  have h : ∀ l : List α, P l.reverse := by
    intro l
    induction l with
    | nil => exact h0
    | cons x l ih => rw [List.reverse_cons]; exact h1 _ _ ih
  intro l
  have := h l.reverse
  rwa [List.reverse_reverse] at this

theorem clash1_not {o : Option ByteArray} {b : ByteArray} : clash1 o b = false ↔ ∀ y, o = some y → y = b := by
  cases o with
  | none => exact ⟨fun _ y e => (by cases e), fun _ => rfl⟩
  | some y =>
    show (!(y.toList == b.toList)) = false ↔ _
    constructor
    · intro h z e
      injection e with e
      subst e
      have h2 : y.toList = b.toList := by simpa using h
      exact bytes_inj h2
    · intro h
      rw [h y rfl]; simp

structure BodK (l : List Blk) : Prop where
  none_ : ∀ k, (bodS l).1 k = none ↔ ∀ x ∈ l, x.n ≠ k
  some_ : ∀ k b, (bodS l).1 k = some b → ∃ x ∈ l, x.n = k ∧ x.b = b
  clash : (bodS l).2 = false ↔ ∀ x ∈ l, ∀ y ∈ l, x.n = y.n → x.b = y.b
theorem bodK (l : List Blk) : BodK l := by
  refine snoc_ind (P := BodK) ?_ ?_ l
  · exact ⟨fun k => ⟨fun _ x h => (by cases h), fun _ => rfl⟩, fun k b h => (by cases h), ⟨fun _ x h => (by cases h), fun _ => rfl⟩⟩
  · intro l x ih
    have e1 : (bodS (l ++ [x])).1 = updM (bodS l).1 x.n x.b := by rw [bodS_snoc]; rfl
    have e2 : (bodS (l ++ [x])).2 = ((bodS l).2 || clash1 ((bodS l).1 x.n) x.b) := by rw [bodS_snoc]; rfl
    refine ⟨fun k => ?_, fun k b h => ?_, ?_⟩
    · rw [e1]
      unfold updM
      by_cases hk : k = x.n
      · rw [if_pos hk]
        exact ⟨fun h => (by cases h), fun h => absurd hk.symm (h x (by simp))⟩
      · rw [if_neg hk, ih.none_ k]
        refine ⟨fun h y hy => ?_, fun h y hy => h y (List.mem_append_left _ hy)⟩
        rcases List.mem_append.1 hy with hy | hy
        · exact h y hy
        · rw [List.mem_singleton.1 hy]; exact fun e => hk e.symm
    · rw [e1] at h
      unfold updM at h
      by_cases hk : k = x.n
      · rw [if_pos hk] at h
        injection h with h
        exact ⟨x, by simp, hk.symm, h⟩
      · rw [if_neg hk] at h
        obtain ⟨y, hy, h1, h2⟩ := ih.some_ k b h
        exact ⟨y, List.mem_append_left _ hy, h1, h2⟩
    · rw [e2]
      constructor
      · intro h
        rw [Bool.or_eq_false_iff] at h
        have h1 := ih.clash.1 h.1
        have h2 := clash1_not.1 h.2
        have h3 : ∀ y ∈ l, y.n = x.n → y.b = x.b := by
          intro y hy hn
          cases ho : (bodS l).1 x.n with
          | none => exact absurd hn ((ih.none_ x.n).1 ho y hy)
          | some b =>
            obtain ⟨z, hz, z1, z2⟩ := ih.some_ _ _ ho
            rw [h1 y hy z hz (hn.trans z1.symm), z2]
            exact h2 b ho
        intro a ha b hb hab
        rcases List.mem_append.1 ha with ha | ha <;> rcases List.mem_append.1 hb with hb | hb
        · exact h1 a ha b hb hab
        · rw [List.mem_singleton.1 hb] at hab ⊢; exact h3 a ha hab
        · rw [List.mem_singleton.1 ha] at hab ⊢; exact (h3 b hb hab.symm).symm
        · rw [List.mem_singleton.1 ha, List.mem_singleton.1 hb]
      · intro h
        rw [Bool.or_eq_false_iff]
        refine ⟨ih.clash.2 fun a ha b hb => h a (List.mem_append_left _ ha) b (List.mem_append_left _ hb), clash1_not.2 fun y hy => ?_⟩
        obtain ⟨z, hz, z1, z2⟩ := ih.some_ _ _ hy
        rw [← z2]
        exact h z (List.mem_append_left _ hz) x (by simp) z1
/-- A number has a good block. -/
def hasK (c : Int) (q : List Blk) (k : Int) : Bool := q.any fun x => x.n == k && (x.c == c && soundK x)
theorem goods_iff {c : Int} {q : List Blk} {x : Blk} : x ∈ goods c q ↔ x ∈ q ∧ (x.c == c && soundK x) = true := by unfold goods; exact List.mem_filter
theorem none_has (c : Int) (q : List Blk) (k : Int) : ((bodS (goods c q)).1 k).isNone = !hasK c q k := by
  cases hh : hasK c q k
  · have : (bodS (goods c q)).1 k = none := ((bodK (goods c q)).none_ k).2 fun x hx hn => by
      have := goods_iff.1 hx
      have h2 : hasK c q k = true := List.any_eq_true.2 ⟨x, this.1, by rw [this.2, hn]; simp⟩
      rw [hh] at h2; cases h2
    rw [this]; rfl
  · have : (bodS (goods c q)).1 k ≠ none := fun h => by
      obtain ⟨x, hx, h2⟩ := List.any_eq_true.1 hh
      rw [Bool.and_eq_true] at h2
      exact ((bodK (goods c q)).none_ k).1 h x (goods_iff.2 ⟨hx, h2.2⟩) (by simpa using h2.1)
    cases ho : (bodS (goods c q)).1 k with
    | none => exact absurd ho this
    | some _ => rfl
theorem missS_has (c : Int) (q : List Blk) (j : Nat) : missS (bodS (goods c q)).1 j = ((List.range j).filter fun i : Nat => !hasK c q (i : Int)).map fun i : Nat => (i : Int) := by
  unfold missS
  congr 2
  funext i
  exact none_has c q i
/-- Two blocks of a string clash. -/
def clashes (c : Int) (x y : Blk) : Bool := x.n == y.n && (!(x.b.toList == y.b.toList) && (x.c == c && (y.c == c && (soundK x && soundK y))))
theorem clash_any {c : Int} {q : List Blk} {x y : Blk} (hx : x ∈ q) (hy : y ∈ q) (h : clashes c x y = true) : (bodS (goods c q)).2 = true := by
  cases hc : (bodS (goods c q)).2
  · unfold clashes at h
    simp only [Bool.and_eq_true, Bool.not_eq_true', beq_iff_eq] at h
    obtain ⟨h1, h2, h3, h4, h5, h6⟩ := h
    have := (bodK (goods c q)).clash.1 hc x (goods_iff.2 ⟨hx, by rw [h5]; simpa using h3⟩) y (goods_iff.2 ⟨hy, by rw [h6]; simpa using h4⟩) h1
    rw [this] at h2
    simp at h2
  · rfl
theorem clash_no {c : Int} {q : List Blk} (h : ∀ (i k : Nat) (x y : Blk), k < i → q[i]? = some x → q[k]? = some y → clashes c x y = false) : (bodS (goods c q)).2 = false := by
  refine (bodK (goods c q)).clash.2 fun x hx y hy hn => ?_
  obtain ⟨hx1, hx2⟩ := goods_iff.1 hx
  obtain ⟨hy1, hy2⟩ := goods_iff.1 hy
  rw [Bool.and_eq_true] at hx2 hy2
  obtain ⟨i, hi⟩ := List.mem_iff_getElem?.1 hx1
  obtain ⟨k, hk⟩ := List.mem_iff_getElem?.1 hy1
  have key : ∀ {a b : Blk}, a.n = b.n → (a.c == c) = true → (b.c == c) = true → soundK a = true → soundK b = true → clashes c a b = false → a.b = b.b := by
    intro a b h1 h2 h3 h4 h5 h6
    unfold clashes at h6
    rw [h1, h2, h3, h4, h5] at h6
    have h7 : a.b.toList = b.b.toList := by simpa using h6
    exact bytes_inj h7
  rcases Nat.lt_trichotomy k i with hki | hki | hki
  · exact key hn hx2.1 hy2.1 hx2.2 hy2.2 (h i k x y hki hi hk)
  · subst hki
    rw [hi] at hk
    injection hk with hk
    rw [hk]
  · exact (key hn.symm hy2.1 hx2.1 hy2.2 hx2.2 (h k i y x hki hk hi)).symm
/-- The first good body of a number. -/
def firstB (c : Int) (q : List Blk) (k : Int) : Option ByteArray := (q.find? fun x => x.n == k && (x.c == c && soundK x)).map (·.b)
theorem firstB_eq {c : Int} {q : List Blk} (h : (bodS (goods c q)).2 = false) (k : Int) : firstB c q k = (bodS (goods c q)).1 k := by
  unfold firstB
  cases hf : q.find? fun x => x.n == k && (x.c == c && soundK x) with
  | none =>
    rw [List.find?_eq_none] at hf
    symm
    refine ((bodK (goods c q)).none_ k).2 fun x hx hn => ?_
    obtain ⟨h1, h2⟩ := goods_iff.1 hx
    exact hf x h1 (by rw [h2, hn]; simp)
  | some x =>
    have h1 := List.mem_of_find?_eq_some hf
    have h2 := List.find?_some hf
    rw [Bool.and_eq_true] at h2
    have hx : x ∈ goods c q := goods_iff.2 ⟨h1, h2.2⟩
    have hn : x.n = k := by simpa using h2.1
    cases ho : (bodS (goods c q)).1 k with
    | none => exact absurd hn (((bodK (goods c q)).none_ k).1 ho x hx)
    | some b =>
      obtain ⟨z, hz, z1, z2⟩ := (bodK (goods c q)).some_ _ _ ho
      show some x.b = some b
      rw [← z2, (bodK (goods c q)).clash.1 h x hx z hz (hn.trans z1.symm)]
end Go.Proofs.YtkahjpbnlclhhaaDoor
