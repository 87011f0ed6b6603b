/- A map of keys of any kind: what it says at a key; the look-up, the store, the deletion. No program.
   Stations of a chart: their errors, the first that is wrong; plain Lean.
   Light: vectors, the sun; plain Lean.
   The weights of stations at a place; plain Lean.
   Polygons: which are closed, their area, their turns; plain Lean.
   The ends of the value of stations at a place, ratios, fractions; plain Lean.
   Sides of a region, contours, as the program finds them; plain Lean.
   Contours as the program follows them: the sides that are left, the next one. No program. -/
import Derived.BigQuiet
import Derived.Deep.AppendLies
import Derived.Deep.Draws
import Derived.Deep.Quiet
import Derived.Deep.QuietTactic
import Derived.Lib.Hide
import Derived.MapKept
import Derived.Maps.Keyed
import Derived.OrdersIn
import Derived.OwnWalkIn
import Derived.RangeFuncCalls
import Derived.Shelf.RegionOpen
import Derived.StillTail
import Derived.TacticsIn
import Derived.WalkKit
import Derived.Test.YtaogolnoiffgiaaC22A
import Derived.Test.YtaogolnoiffgiaaC22B
import Derived.Test.YtaogolnoiffgiaaC22E

namespace Go.Sky
open Go.RowKit Go.Maps

/-- The kinds of a map: how keys and elements lie, which keys are asked for, what an absent one reads as. -/
structure MapK (P : Program) (mt : TypeId) {κ ν : Type} (okk : κ → Prop) (kenc : κ → Value) (venc : ν → Value) (z : Value) : Prop where
  desc : ∃ kt vt, P.underlying mt = some (.map kt vt) ∧ Keyed P kt ∧ (∀ k, okk k → ∃ l, keyOf P kt (kenc k) = some l) ∧ ∀ w, (zeroValue vt).run P w = .ok z w
  inj : ∀ a b, kenc a = kenc b → a = b

/-- What a map says at a key. -/
def Mg {κ ν : Type} (okk : κ → Prop) (kenc : κ → Value) (venc : ν → Value) (w : World) (b : Nat) (f : κ → Option ν) : Prop :=
  ∃ (es : Array MapEntry) (ck : Nat), w.heap[b]? = some (.map es ck) ∧
    (∀ (i : Nat) e, es[i]? = some e → ∃ k v, okk k ∧ e.key = kenc k ∧ e.val = venc v ∧ f k = some v) ∧
    (∀ k v, f k = some v → ∃ (i : Nat) (e : MapEntry), es[i]? = some e ∧ e.key = kenc k) ∧
    (∀ (i j : Nat) (e e' : MapEntry), es[i]? = some e → es[j]? = some e' → e.key = e'.key → i = j)

section
variable {κ ν : Type} {okk : κ → Prop} {kenc : κ → Value} {venc : ν → Value} {w W : World} {b : Nat} {f : κ → Option ν}
theorem Mg.lt (h : Mg okk kenc venc w b f) : b < w.heap.size := by
  obtain ⟨es, ck, h1, _⟩ := h
  exact (Array.getElem?_eq_some_iff.1 h1).1
theorem Mg.grown {row : Option Nat} (h : Mg okk kenc venc w b f) (hg : w.grownBy W row) (hne : some b ≠ row) : Mg okk kenc venc W b f := by
  have hl := h.lt
  obtain ⟨es, ck, h1, h2⟩ := h
  exact ⟨es, ck, (hg.block b hl hne).trans h1, h2⟩
theorem Mg.keep (h : Mg okk kenc venc w b f) (hn : New w W) : Mg okk kenc venc W b f := by
  obtain ⟨es, ck, h1, h2⟩ := h
  exact ⟨es, ck, hn.heap h1, h2⟩
theorem Mg.below {B : Nat} (h : Mg okk kenc venc w b f) (hn : Below B w W) (hb : b < B) : Mg okk kenc venc W b f := by
  obtain ⟨es, ck, h1, h2⟩ := h
  exact ⟨es, ck, (hn.block b hb).trans h1, h2⟩
theorem Mg.far (h : Mg okk kenc venc w b f) {p : Addr} (hp : b ≠ p.block) (u : Value) : Mg okk kenc venc (w.setCell p u) b f := by
  obtain ⟨es, ck, h1, h2⟩ := h
  exact ⟨es, ck, (Below.heap_setCell w p u b hp).trans h1, h2⟩
theorem Mg.alloc (h : Mg okk kenc venc w b f) (o : Obj) : Mg okk kenc venc (w.alloc o) b f := h.keep ((New.refl w).alloc o)
theorem Mg.new (w : World) : Mg okk kenc venc (w.alloc (.map #[] 0)) w.heap.size (fun _ => none) :=
  ⟨#[], 0, heap_alloc_new w _, fun i e h => by simp at h, fun k v h => (by cases h), fun i j e e' h => by simp at h⟩

variable {P : Program} {mt : TypeId} {z : Value}
theorem Mg.get_run (K : MapK P mt okk kenc venc z) (h : Mg okk kenc venc w b f) (k : κ) (hk : okk k) (ok : Bool) :
    (Instr.lookup mt (.map (some b)) (kenc k) ok).run P w = .ok (if ok then .tuple #[((f k).map venc).getD z, .bool (f k).isSome] else ((f k).map venc).getD z) w := by
  obtain ⟨kt, vt, hu, hK, hkey, hz⟩ := K.desc
  obtain ⟨es, ck, h1, h2, h3, h4⟩ := h
  obtain ⟨l, hl⟩ := hkey k hk
  have hall : ∀ e ∈ es.toList, ∃ l, keyOf P kt e.key = some l := fun e he => by
    obtain ⟨i, hi⟩ := List.mem_iff_getElem?.1 he
    rw [Array.getElem?_toList] at hi
    obtain ⟨k', v, hk', e1, _⟩ := h2 i e hi
    rw [e1]; exact hkey k' hk'
  have hchk : ∀ em, (Instr.checkKey em 10000 kt (kenc k)).run P w = .ok () w := fun em => hK.check w em hl
  have hz' := hz w
  rcases hK.find w hl es.toList hall with ⟨a1, a2⟩ | ⟨j, e, a1, a2, a3⟩
  · have hf : f k = none := by
      cases hfk : f k with
      | none => rfl
      | some v =>
        obtain ⟨i, e, he, hek⟩ := h3 k v hfk
        exact absurd hek (a2 e (List.mem_iff_getElem?.2 ⟨i, by rw [Array.getElem?_toList]; exact he⟩))
    rw [hf]
    cases ok <;> simp [Instr.lookup, run_underlying hu, MapKept.run_getObj_map h1, hchk, a1, hz', Result.andThen]
  · rw [Array.getElem?_toList] at a2
    obtain ⟨k', v, _, e1, e2, e3⟩ := h2 j e a2
    obtain rfl : k' = k := K.inj _ _ (e1.symm.trans a3)
    rw [e3]
    cases ok <;> simp [Instr.lookup, run_underlying hu, MapKept.run_getObj_map h1, hchk, a1, e2, Result.andThen]

def updG [DecidableEq κ] (f : κ → Option ν) (k : κ) (v : ν) : κ → Option ν := fun j => if j = k then some v else f j
def delG [DecidableEq κ] (f : κ → Option ν) (k : κ) : κ → Option ν := fun j => if j = k then none else f j

theorem Mg.put_run [DecidableEq κ] (K : MapK P mt okk kenc venc z) (h : Mg okk kenc venc w b f) (k : κ) (hk : okk k) (v : ν) :
    ∃ W, (Instr.mapUpdate mt (.map (some b)) (kenc k) (venc v)).run P w = .ok () W ∧ Mg okk kenc venc W b (updG f k v) ∧ w.grownBy W (some b) := by
  obtain ⟨kt, vt, hu, hK, hkey, hz⟩ := K.desc
  obtain ⟨es, ck, h1, h2, h3, h4⟩ := h
  obtain ⟨l, hl⟩ := hkey k hk
  have hlt := (Array.getElem?_eq_some_iff.1 h1).1
  have hall : ∀ e ∈ es.toList, ∃ l, keyOf P kt e.key = some l := fun e he => by
    obtain ⟨i, hi⟩ := List.mem_iff_getElem?.1 he
    rw [Array.getElem?_toList] at hi
    obtain ⟨k', v, hk', e1, _⟩ := h2 i e hi
    rw [e1]; exact hkey k' hk'
  have hchk : ∀ em, (Instr.checkKey em 10000 kt (kenc k)).run P w = .ok () w := fun em => hK.check w em hl
  rcases hK.find w hl es.toList hall with ⟨a1, a2⟩ | ⟨j, e, a1, a2, a3⟩
  · have hno : ∀ (i : Nat) e, es[i]? = some e → e.key ≠ kenc k := fun i e he => a2 e (List.mem_iff_getElem?.2 ⟨i, by rw [Array.getElem?_toList]; exact he⟩)
    have hps : ∀ (i : Nat) e', (es.push { key := kenc k, val := venc v, born := ck })[i]? = some e' → es[i]? = some e' ∨ (i = es.size ∧ e' = { key := kenc k, val := venc v, born := ck }) := fun i e' h => by
      rw [Array.getElem?_push] at h
      split at h
      · injection h with h; exact .inr ⟨by assumption, h.symm⟩
      · exact .inl h
    refine ⟨w.putObj b (.map (es.push { key := kenc k, val := venc v, born := ck }) (ck + 1)), ?_, ⟨es.push { key := kenc k, val := venc v, born := ck }, ck + 1, World.putObj_heap_same hlt, ?_, ?_, ?_⟩, grownBy_putObj' w b _⟩
    · simp [Instr.mapUpdate, run_underlying hu, MapKept.run_getObj_map h1, hchk, a1, MapKept.run_setObj_map _ h1, Result.andThen]
      rfl
    · intro i e' he'
      rcases hps i e' he' with he' | ⟨_, rfl⟩
      · obtain ⟨k', v', b1, b2, b3, b4⟩ := h2 i e' he'
        refine ⟨k', v', b1, b2, b3, ?_⟩
        unfold updG
        rw [if_neg (fun hkk => hno i e' he' (by rw [b2, hkk])), b4]
      · exact ⟨k, v, hk, rfl, rfl, by unfold updG; rw [if_pos rfl]⟩
    · intro k' v' hf
      unfold updG at hf
      split at hf
      · rename_i hkk
        exact ⟨es.size, { key := kenc k, val := venc v, born := ck }, by simp, by rw [hkk]⟩
      · obtain ⟨i, e, he, hek⟩ := h3 k' v' hf
        refine ⟨i, e, ?_, hek⟩
        rw [Array.getElem?_push, if_neg (by have := (Array.getElem?_eq_some_iff.1 he).1; omega)]
        exact he
    · intro i j' e1 e2 he1 he2 hkk
      rcases hps i e1 he1 with he1 | ⟨hi, rfl⟩ <;> rcases hps j' e2 he2 with he2 | ⟨hj, rfl⟩
      · exact h4 i j' e1 e2 he1 he2 hkk
      · exact absurd hkk (hno i e1 he1)
      · exact absurd hkk.symm (hno j' e2 he2)
      · rw [hi, hj]
  · rw [Array.getElem?_toList] at a2
    have hstay := hK.stays w hl
    have hmod : ∀ (i : Nat) e', (es.modify j fun e => { e with key := kenc k, val := venc v })[i]? = some e' → (i = j ∧ e' = { e with key := kenc k, val := venc v }) ∨ (i ≠ j ∧ es[i]? = some e') := fun i e' h => by
      rw [Array.getElem?_modify] at h
      split at h
      · subst_vars
        rw [a2] at h
        exact .inl ⟨rfl, by simpa using h.symm⟩
      · exact .inr ⟨fun hh => (by omega), h⟩
    refine ⟨w.putObj b (.map (es.modify j fun e => { e with key := kenc k, val := venc v }) ck), ?_, ⟨es.modify j fun e => { e with key := kenc k, val := venc v }, ck, World.putObj_heap_same hlt, ?_, ?_, ?_⟩, grownBy_putObj' w b _⟩
    · simp [Instr.mapUpdate, run_underlying hu, MapKept.run_getObj_map h1, hchk, a1, a2, a3, hstay, MapKept.run_setObj_map _ h1, Result.andThen]
      rfl
    · intro i e' he'
      rcases hmod i e' he' with ⟨_, rfl⟩ | ⟨hne, he'⟩
      · exact ⟨k, v, hk, rfl, rfl, by unfold updG; rw [if_pos rfl]⟩
      · obtain ⟨k', v', b1, b2, b3, b4⟩ := h2 i e' he'
        refine ⟨k', v', b1, b2, b3, ?_⟩
        unfold updG
        rw [if_neg (fun hkk => hne (h4 i j e' e he' a2 (by rw [b2, hkk, a3]))), b4]
    · intro k' v' hf
      have hget : ∀ (i : Nat) e', es[i]? = some e' → ∃ e'', (es.modify j fun e => { e with key := kenc k, val := venc v })[i]? = some e'' ∧ (i = j ∧ e''.key = kenc k ∨ i ≠ j ∧ e'' = e') := fun i e' he' => by
        rw [Array.getElem?_modify]
        by_cases hij : j = i
        · subst hij; rw [if_pos rfl, he']; exact ⟨_, rfl, .inl ⟨rfl, rfl⟩⟩
        · rw [if_neg hij]; exact ⟨e', he', .inr ⟨fun h => hij h.symm, rfl⟩⟩
      unfold updG at hf
      split at hf
      · subst_vars
        obtain ⟨e'', g1, g2⟩ := hget j e a2
        rcases g2 with ⟨_, g2⟩ | ⟨g2, _⟩
        · exact ⟨j, e'', g1, g2⟩
        · exact absurd rfl g2
      · obtain ⟨i, e', he', hek⟩ := h3 k' v' hf
        obtain ⟨e'', g1, g2⟩ := hget i e' he'
        rcases g2 with ⟨hi, _⟩ | ⟨_, rfl⟩
        · subst hi
          rw [a2] at he'
          injection he' with he'
          subst he'
          exact absurd (K.inj _ _ (hek.symm.trans a3)) (by assumption)
        · exact ⟨i, _, g1, hek⟩
    · intro i j' e1 e2 he1 he2 hkk
      rcases hmod i e1 he1 with ⟨hi, rfl⟩ | ⟨hi, he1⟩ <;> rcases hmod j' e2 he2 with ⟨hj, rfl⟩ | ⟨hj, he2⟩
      · rw [hi, hj]
      · exact absurd (h4 j' j e2 e he2 a2 (hkk.symm.trans a3.symm)) hj
      · exact absurd (h4 i j e1 e he1 a2 (hkk.trans a3.symm)) hi
      · exact h4 i j' e1 e2 he1 he2 hkk

theorem Mg.del_run [DecidableEq κ] (K : MapK P mt okk kenc venc z) (h : Mg okk kenc venc w b f) (k : κ) (hk : okk k) (ts : Array TypeId) (ty : TypeId) (ht : ts[0]? = some mt) :
    ∃ W, (Builtin.delete_ ts ty #[.map (some b), kenc k]).run P w = .ok (.tuple #[]) W ∧ Mg okk kenc venc W b (delG f k) ∧ w.grownBy W (some b) := by
  obtain ⟨kt, vt, hu, hK, hkey, hz⟩ := K.desc
  obtain ⟨es, ck, h1, h2, h3, h4⟩ := h
  obtain ⟨l, hl⟩ := hkey k hk
  have hlt := (Array.getElem?_eq_some_iff.1 h1).1
  have hall : ∀ e ∈ es.toList, ∃ l, keyOf P kt e.key = some l := fun e he => by
    obtain ⟨i, hi⟩ := List.mem_iff_getElem?.1 he
    rw [Array.getElem?_toList] at hi
    obtain ⟨k', v, hk', e1, _⟩ := h2 i e hi
    rw [e1]; exact hkey k' hk'
  have hchk : ∀ em, (Instr.checkKey em 10000 kt (kenc k)).run P w = .ok () w := fun em => hK.check w em hl
  rcases hK.find w hl es.toList hall with ⟨a1, a2⟩ | ⟨j, e, a1, a2, a3⟩
  · have hno : ∀ (i : Nat) e, es[i]? = some e → e.key ≠ kenc k := fun i e he => a2 e (List.mem_iff_getElem?.2 ⟨i, by rw [Array.getElem?_toList]; exact he⟩)
    refine ⟨w.putObj b (.map es ck), ?_, ⟨es, ck, World.putObj_heap_same hlt, ?_, ?_, h4⟩, grownBy_putObj' w b _⟩
    · simp [Builtin.delete_, ht, run_underlying hu, MapKept.run_getObj_map h1, hchk, a1, MapKept.run_setObj_map _ h1, Result.andThen]
      rfl
    · intro i e' he'
      obtain ⟨k', v', b1, b2, b3, b4⟩ := h2 i e' he'
      refine ⟨k', v', b1, b2, b3, ?_⟩
      unfold delG
      rw [if_neg (fun hkk => hno i e' he' (by rw [b2, hkk])), b4]
    · intro k' v' hf
      unfold delG at hf
      split at hf
      · cases hf
      · exact h3 k' v' hf
  · rw [Array.getElem?_toList] at a2
    have hjs := (Array.getElem?_eq_some_iff.1 a2).1
    have her : ∀ i : Nat, (es.eraseIdxIfInBounds j)[i]? = if i < j then es[i]? else es[i + 1]? := fun i => by
      rw [← Array.getElem?_toList]
      simp only [Array.eraseIdxIfInBounds, hjs, dif_pos]
      rw [Array.toList_eraseIdx, List.getElem?_eraseIdx]
      simp
    refine ⟨w.putObj b (.map (es.eraseIdxIfInBounds j) ck), ?_, ⟨es.eraseIdxIfInBounds j, ck, World.putObj_heap_same hlt, ?_, ?_, ?_⟩, grownBy_putObj' w b _⟩
    · simp [Builtin.delete_, ht, run_underlying hu, MapKept.run_getObj_map h1, hchk, a1, MapKept.run_setObj_map _ h1, Result.andThen]
      rfl
    · intro i e' he'
      rw [her] at he'
      have key : ∀ m, es[m]? = some e' → m ≠ j → ∃ k0 v, okk k0 ∧ e'.key = kenc k0 ∧ e'.val = venc v ∧ delG f k k0 = some v := fun m hm hne => by
        obtain ⟨k', v', b1, b2, b3, b4⟩ := h2 m e' hm
        refine ⟨k', v', b1, b2, b3, ?_⟩
        unfold delG
        rw [if_neg (fun hkk => hne (h4 m j e' e hm a2 (by rw [b2, hkk, a3]))), b4]
      split at he'
      · exact key i he' (by omega)
      · exact key (i + 1) he' (by omega)
    · intro k' v' hf
      unfold delG at hf
      split at hf
      · cases hf
      · obtain ⟨i, e', he', hek⟩ := h3 k' v' hf
        have hij : i ≠ j := fun hh => by
          subst hh
          rw [a2] at he'
          injection he' with he'
          subst he'
          exact absurd (K.inj _ _ (hek.symm.trans a3)) (by assumption)
        rcases Nat.lt_or_ge i j with hlt2 | hge
        · exact ⟨i, e', by rw [her, if_pos hlt2]; exact he', hek⟩
        · exact ⟨i - 1, e', by rw [her, if_neg (by omega), show i - 1 + 1 = i by omega]; exact he', hek⟩
    · intro i j' e1 e2 he1 he2 hkk
      rw [her] at he1 he2
      split at he1 <;> split at he2
      · exact h4 i j' e1 e2 he1 he2 hkk
      · have := h4 i (j' + 1) e1 e2 he1 he2 hkk; omega
      · have := h4 (i + 1) j' e1 e2 he1 he2 hkk; omega
      · have := h4 (i + 1) (j' + 1) e1 e2 he1 he2 hkk; omega

theorem wpListIn_mgPut [DecidableEq κ] {F : Fence} {nF : Nat} (K : MapK P mt okk kenc venc z) (w : World) {ops : Array Oper} {rest : List Oper} {o : Oper} {a : Act} {Q : Exit → Act → World → Prop}
    (hg : o.guard = none) (m x v : Operand) (hop : o.op = Op.mapUpdate mt m x v) (b : Nat) (f : κ → Option ν) (k : κ) (s : ν)
    (hm : a.eval m = .map (some b)) (hmp : Mg okk kenc venc w b f) (hk : okk k) (hx : a.eval x = kenc k) (hv : a.eval v = venc s)
    (hK : ∀ w', Mg okk kenc venc w' b (updG f k s) → w.grownBy w' (some b) → wpListIn F nF P ops Q rest (a.put o.dst undef) w') :
    wpListIn F nF P ops Q (o :: rest) a w := by
  refine wpListIn_plain hg fun K' hK' => ?_
  obtain ⟨w', hrun, r1, r2⟩ := hmp.put_run K k hk s
  unfold Oper.wpIn
  refine ⟨by simp [Oper.about, hop], ?_⟩
  rw [Oper.semAt_plain F _ _ (by rw [hop]; intro c hc'; cases hc')]
  simp [execOp, hop, hm, hx, hv, hrun, Result.andThen]
  exact hK' _ _ (hK w' r1 r2)
theorem wpList_mgPut [DecidableEq κ] (K : MapK P mt okk kenc venc z) (w : World) {ops : Array Oper} {rest : List Oper} {o : Oper} {a : Act} {Q : Exit → Act → World → Prop}
    (hg : o.guard = none) (m x v : Operand) (hop : o.op = Op.mapUpdate mt m x v) (b : Nat) (f : κ → Option ν) (k : κ) (s : ν)
    (hm : a.eval m = .map (some b)) (hmp : Mg okk kenc venc w b f) (hk : okk k) (hx : a.eval x = kenc k) (hv : a.eval v = venc s)
    (hK : ∀ w', Mg okk kenc venc w' b (updG f k s) → w.grownBy w' (some b) → wpList P ops Q rest (a.put o.dst undef) w') :
    wpList P ops Q (o :: rest) a w := by
  refine wpList_plain hg fun K' hK' => ?_
  obtain ⟨w', hrun, r1, r2⟩ := hmp.put_run K k hk s
  unfold Oper.wp
  simp [execOp, hop, hm, hx, hv, hrun, Result.andThen]
  exact hK' _ _ (hK w' r1 r2)
theorem wpList_mgDel [DecidableEq κ] (K : MapK P mt okk kenc venc z) (w : World) {ops : Array Oper} {rest : List Oper} {o : Oper} {a : Act} {Q : Exit → Act → World → Prop}
    (hg : o.guard = none) (m x : Operand) (ts : Array TypeId) (hop : o.op = .call { callee := .builtin .delete, args := #[m, x], argTypes := ts }) (ht : ts[0]? = some mt) (b : Nat) (f : κ → Option ν) (k : κ)
    (hm : a.eval m = .map (some b)) (hmp : Mg okk kenc venc w b f) (hk : okk k) (hx : a.eval x = kenc k)
    (hK : ∀ w', Mg okk kenc venc w' b (delG f k) → w.grownBy w' (some b) → wpList P ops Q rest (a.put o.dst (.tuple #[])) w') :
    wpList P ops Q (o :: rest) a w := by
  refine wpList_plain hg fun K' hK' => ?_
  obtain ⟨w', hrun, r1, r2⟩ := hmp.del_run K k hk ts o.type ht
  unfold Oper.wp
  simp [execOp, hop, resolve, invoke, builtin, hm, hx, hrun, Result.andThen]
  exact hK' _ _ (hK w' r1 r2)
theorem wpListIn_mgGet {F : Fence} {nF : Nat} (K : MapK P mt okk kenc venc z) (w : World) {ops : Array Oper} {rest : List Oper} {o : Oper} {a : Act} {Q : Exit → Act → World → Prop}
    (hg : o.guard = none) (m x : Operand) (ok : Bool) (hop : o.op = Op.lookup mt m x ok) (b : Nat) (f : κ → Option ν) (k : κ)
    (hm : a.eval m = .map (some b)) (hmp : Mg okk kenc venc w b f) (hk : okk k) (hx : a.eval x = kenc k)
    (hK : wpListIn F nF P ops Q rest (a.put o.dst (if ok then .tuple #[((f k).map venc).getD z, .bool (f k).isSome] else ((f k).map venc).getD z)) w) :
    wpListIn F nF P ops Q (o :: rest) a w := by
  refine wpListIn_plain hg fun K' hK' => ?_
  have hrun := hmp.get_run K k hk ok
  unfold Oper.wpIn
  refine ⟨by simp [Oper.about, hop], ?_⟩
  rw [Oper.semAt_plain F _ _ (by rw [hop]; intro c hc'; cases hc')]
  simp only [execOp, hop, hm, hx, Sem.run_bind, hrun, Result.andThen, Sem.run_pure]
  exact hK' _ _ hK
theorem wpList_mgGet (K : MapK P mt okk kenc venc z) (w : World) {ops : Array Oper} {rest : List Oper} {o : Oper} {a : Act} {Q : Exit → Act → World → Prop}
    (hg : o.guard = none) (m x : Operand) (ok : Bool) (hop : o.op = Op.lookup mt m x ok) (b : Nat) (f : κ → Option ν) (k : κ)
    (hm : a.eval m = .map (some b)) (hmp : Mg okk kenc venc w b f) (hk : okk k) (hx : a.eval x = kenc k)
    (hK : wpList P ops Q rest (a.put o.dst (if ok then .tuple #[((f k).map venc).getD z, .bool (f k).isSome] else ((f k).map venc).getD z)) w) :
    wpList P ops Q (o :: rest) a w := by
  refine wpList_plain hg fun K' hK' => ?_
  have hrun := hmp.get_run K k hk ok
  unfold Oper.wp
  simp only [execOp, hop, hm, hx, Sem.run_bind, hrun, Result.andThen, Sem.run_pure]
  exact hK' _ _ hK
theorem wpList_mgGet1 (K : MapK P mt okk kenc venc z) (w : World) {ops : Array Oper} {rest : List Oper} {o : Oper} {a : Act} {Q : Exit → Act → World → Prop}
    (hg : o.guard = none) (m x : Operand) (hop : o.op = Op.lookup mt m x false) (b : Nat) (f : κ → Option ν) (k : κ) (v : Value)
    (hm : a.eval m = .map (some b)) (hmp : Mg okk kenc venc w b f) (hk : okk k) (hx : a.eval x = kenc k) (hv : ((f k).map venc).getD z = v)
    (hK : wpList P ops Q rest (a.put o.dst v) w) : wpList P ops Q (o :: rest) a w := wpList_mgGet K w hg m x false hop b f k hm hmp hk hx (by subst hv; exact hK)
theorem wpList_mgGet2 (K : MapK P mt okk kenc venc z) (w : World) {ops : Array Oper} {rest : List Oper} {o : Oper} {a : Act} {Q : Exit → Act → World → Prop}
    (hg : o.guard = none) (m x : Operand) (hop : o.op = Op.lookup mt m x true) (b : Nat) (f : κ → Option ν) (k : κ) (v : Value) (is : Bool)
    (hm : a.eval m = .map (some b)) (hmp : Mg okk kenc venc w b f) (hk : okk k) (hx : a.eval x = kenc k) (hv : ((f k).map venc).getD z = v) (hi : (f k).isSome = is)
    (hK : wpList P ops Q rest (a.put o.dst (.tuple #[v, .bool is])) w) : wpList P ops Q (o :: rest) a w := wpList_mgGet K w hg m x true hop b f k hm hmp hk hx (by subst hv hi; exact hK)
end
end Go.Sky

namespace Go.Sky
open Go.RowKit

structure Sta where
  n : ByteArray
  x : Int
  y : Int
  lo : Int
  hi : Int
  a : Int
deriving DecidableEq
def encSt (s : Sta) : List Value := [.string s.n, .int .i64 s.x, .int .i64 s.y, .int .i64 s.lo, .int .i64 s.hi, .int .i64 s.a]
def sizedI (n m : Int) : Bool := inR n (-m) m
def placeOk (x y : Int) : Bool := inR x 0 30 && inR y 0 30
def placeE (x y : Int) : Int := errU (placeOk x y) 2
def reachE (n : Int) : Int := errU (inR n 0 2000) 2
def stE (known : Bool) (s : Sta) : Int := firstE [errU (nameS s.n.data.toList) 4, errU (!known) 5, placeE s.x s.y, errU (sizedI s.lo 10000 && sizedI s.hi 10000) 2, errU (decide (s.lo ≤ s.hi)) 9, errU (inR s.a 0 9) 2]
/-- The first that is wrong. -/
def fb (e : Nat → Int) (n : Nat) : Int × Int := match (List.range n).find? (fun i => e i != 0) with
  | some i => ((i : Int), e i)
  | none => (0, 0)
theorem find_range (p : Nat → Bool) : ∀ (n k : Nat), k < n → (∀ j, j < k → p j = false) → p k = true → (List.range n).find? p = some k
  | 0, k, h, _, _ => absurd h (by omega)
  | n + 1, k, h, hb, hk => by
    rw [List.range_succ, List.find?_append]
    rcases Nat.lt_or_ge k n with h2 | h2
    · rw [find_range p n k h2 hb hk]; rfl
    · obtain rfl : k = n := by omega
      rw [List.find?_eq_none.2 (fun j hj => by rw [hb j (List.mem_range.1 hj)]; decide)]
      simp [hk]
theorem fb_hit {e : Nat → Int} {n k : Nat} (h : k < n) (hb : ∀ j, j < k → e j = 0) (hk : e k ≠ 0) : fb e n = ((k : Int), e k) := by
  unfold fb
  rw [find_range _ n k h (fun j hj => by rw [hb j hj]; rfl) (by simpa using hk)]
theorem fb_none {e : Nat → Int} {n : Nat} (hb : ∀ j, j < n → e j = 0) : fb e n = (0, 0) := by
  unfold fb
  rw [List.find?_eq_none.2 (fun j hj => by rw [hb j (List.mem_range.1 hj)]; decide)]
theorem fb_zero {e : Nat → Int} {n : Nat} (h : (fb e n).2 = 0) : ∀ j, j < n → e j = 0 := by
  intro j hj
  unfold fb at h
  cases hf : (List.range n).find? (fun i => e i != 0) with
  | none =>
    have := List.find?_eq_none.1 hf j (List.mem_range.2 hj)
    simpa using this
  | some i =>
    rw [hf] at h
    have := List.find?_some hf
    rw [show e i = 0 from h] at this
    cases this
def knowsN (l : List Sta) (n : ByteArray) : Bool := l.any fun s => decide (s.n = n)
def ckAt (l : List Sta) (i : Nat) : Int := match l[i]? with
  | some s => stE (knowsN (l.take i) s.n) s
  | none => 0
def ckS (l : List Sta) : Int × Int := if l.length = 0 then (0, 10) else if 5 < l.length then (0, 8) else fb (ckAt l) l.length
theorem ckS_le {l : List Sta} (h : (ckS l).2 = 0) : 1 ≤ l.length ∧ l.length ≤ 5 ∧ ∀ i s, l[i]? = some s → stE (knowsN (l.take i) s.n) s = 0 := by
  unfold ckS at h
  split at h
  · cases h
  · split at h
    · cases h
    · refine ⟨by omega, by omega, fun i s hs => ?_⟩
      have := fb_zero h i (List.getElem?_eq_some_iff.1 hs).1
      unfold ckAt at this
      rw [hs] at this
      exact this
theorem firstE_zero : ∀ {l : List Int}, firstE l = 0 → ∀ x ∈ l, x = 0
  | [], _, x, h => by cases h
  | a :: l, h, x, hx => by
    unfold firstE at h
    split at h
    · rename_i ha
      rcases List.mem_cons.1 hx with rfl | hx
      · exact ha
      · exact firstE_zero h x hx
    · rename_i ha
      exact absurd h ha
theorem errU_nil {b : Bool} {n : Int} (hn : n ≠ 0) (h : errU b n = 0) : b = true := by
  cases b
  · exact absurd h hn
  · rfl
/-- A station that is right. -/
structure StOk (s : Sta) : Prop where
  name : nameS s.n.data.toList = true
  x : 0 ≤ s.x ∧ s.x ≤ 30
  y : 0 ≤ s.y ∧ s.y ≤ 30
  lo : -10000 ≤ s.lo ∧ s.lo ≤ 10000
  hi : -10000 ≤ s.hi ∧ s.hi ≤ 10000
  le : s.lo ≤ s.hi
  a : 0 ≤ s.a ∧ s.a ≤ 9
theorem inR_iff {n lo hi : Int} : inR n lo hi = true ↔ lo ≤ n ∧ n ≤ hi := by unfold inR; exact decide_eq_true_iff
theorem stE_ok {k : Bool} {s : Sta} (h : stE k s = 0) : StOk s ∧ k = false := by
  have hz := firstE_zero h
  have h1 := errU_nil (by decide) (hz (errU (nameS s.n.data.toList) 4) (by simp))
  have h2 := errU_nil (by decide) (hz (errU (!k) 5) (by simp))
  have h3 := errU_nil (by decide) (hz (placeE s.x s.y) (by simp))
  have h4 := errU_nil (by decide) (hz (errU (sizedI s.lo 10000 && sizedI s.hi 10000) 2) (by simp))
  have h5 := errU_nil (by decide) (hz (errU (decide (s.lo ≤ s.hi)) 9) (by simp))
  have h6 := errU_nil (by decide) (hz (errU (inR s.a 0 9) 2) (by simp))
  unfold placeOk at h3
  unfold sizedI at h4
  rw [Bool.and_eq_true] at h3 h4
  refine ⟨⟨h1, inR_iff.1 h3.1, inR_iff.1 h3.2, inR_iff.1 h4.1, inR_iff.1 h4.2, of_decide_eq_true h5, inR_iff.1 h6⟩, by simpa using h2⟩
theorem ckS_ok {l : List Sta} (h : (ckS l).2 = 0) : ∀ s ∈ l, StOk s := by
  intro s hs
  obtain ⟨i, hi⟩ := List.mem_iff_getElem?.1 hs
  exact (stE_ok ((ckS_le h).2.2 i s hi)).1
theorem ckS_names {l : List Sta} (h : (ckS l).2 = 0) : ∀ (i : Nat) s, l[i]? = some s → knowsN (l.take i) s.n = false := fun i s hs => (stE_ok ((ckS_le h).2.2 i s hs)).2
def knownF (l : List Sta) : ByteArray → Option Bool := fun n => if knowsN l n = true then some true else none
theorem known_get (l : List Sta) (n : ByteArray) : ((knownF l n).map fun b : Bool => Value.bool b).getD (.bool false) = .bool (knowsN l n) := by
  unfold knownF
  cases h : knowsN l n <;> simp
theorem known_put (l : List Sta) (s : Sta) : updG (knownF l) s.n true = knownF (l ++ [s]) := by
  funext n
  unfold updG knownF knowsN
  rw [List.any_append]
  by_cases h : n = s.n
  · subst h
    simp
  · rw [if_neg h]
    have : decide (s.n = n) = false := decide_eq_false (fun e => h e.symm)
    simp [this]
end Go.Sky

namespace Go.Sky.Ch
open Go.RowKit Go.Sky

structure Ve where
  x : Int
  y : Int
  z : Int
deriving DecidableEq
def nzV (v : Ve) : Bool := !(v.x == 0 && (v.y == 0 && v.z == 0))
def vecE (v : Ve) : Int := firstE [errU (sizedI v.x 1000 && sizedI v.y 1000 && sizedI v.z 1000) 2, errU (nzV v) 11]
def dotV (a b : Ve) : Int := a.x * b.x + a.y * b.y + a.z * b.z
def litE (a b : Ve) (t : Int) : Int := firstE [vecE a, vecE b, errU (inR t 0 4000000) 2]
def litS (a b : Ve) (t : Int) : Int := if t < dotV a b then 2 else if dotV a b < -t then 0 else 1
def sunE (v : Ve) (q : Int) : Int := firstE [vecE v, errU (inR q 0 1000000000000) 2]
def quarterV (v : Ve) : Ve := ⟨v.y, -v.x, v.z⟩
def sunS (v : Ve) : Nat → Ve
  | 0 => v
  | n + 1 => quarterV (sunS v n)
theorem vecE_zero {v : Ve} (h : vecE v = 0) : (-1000 ≤ v.x ∧ v.x ≤ 1000) ∧ (-1000 ≤ v.y ∧ v.y ≤ 1000) ∧ (-1000 ≤ v.z ∧ v.z ≤ 1000) ∧ nzV v = true := by
  have hz := firstE_zero h
  have a := errU_nil (by decide) (hz (errU (sizedI v.x 1000 && sizedI v.y 1000 && sizedI v.z 1000) 2) (by simp))
  have b := errU_nil (by decide) (hz (errU (nzV v) 11) (by simp))
  simp only [Bool.and_eq_true] at a
  exact ⟨inR_iff.1 a.1.1, inR_iff.1 a.1.2, inR_iff.1 a.2, b⟩
end Go.Sky.Ch

namespace Go.Sky.Ch
open Go.RowKit Go.Sky

def sqS (x y u v : Int) : Int := (x - u) * (x - u) + (y - v) * (y - v)
def ageAt (l : List Sta) (j : Nat) : Int := match l[j]? with
  | some s => s.a
  | none => 0
def younger (l : List Sta) (s : Sta) : Option Nat → Bool
  | none => true
  | some j => decide (s.a < ageAt l j)
def better (l : List Sta) (x y : Int) (b : Option Nat) (s : Sta) : Bool := (s.x == x && s.y == y) && younger l s b
def bestTo (l : List Sta) (x y : Int) : Nat → Option Nat
  | 0 => none
  | k + 1 => match l[k]? with
    | some s => if better l x y (bestTo l x y k) s = true then some k else bestTo l x y k
    | none => bestTo l x y k
def sqAt (l : List Sta) (x y : Int) (j : Nat) : Int := match l[j]? with
  | some s => sqS s.x s.y x y
  | none => 0
def prodTo (l : List Sta) (x y : Int) (i : Nat) : Nat → Int
  | 0 => 10 - ageAt l i
  | m + 1 => if m = i then prodTo l x y i m else prodTo l x y i m * sqAt l x y m
def wAt (l : List Sta) (x y : Int) (i : Nat) : Int := prodTo l x y i l.length
def sumTo (l : List Sta) (x y : Int) : Nat → Int
  | 0 => 0
  | k + 1 => sumTo l x y k + wAt l x y k
def wOf (l : List Sta) (x y : Int) : Option Nat → List Int × Int
  | some b => ((List.replicate l.length 0).set b 1, 1)
  | none => ((List.range l.length).map (wAt l x y), sumTo l x y l.length)
def wS (l : List Sta) (x y : Int) : List Int × Int := wOf l x y (bestTo l x y l.length)
theorem best_step {l : List Sta} {x y : Int} {k : Nat} {s : Sta} (h : l[k]? = some s) : bestTo l x y (k + 1) = if better l x y (bestTo l x y k) s = true then some k else bestTo l x y k := by
  show (match l[k]? with | some s => if better l x y (bestTo l x y k) s = true then some k else bestTo l x y k | none => bestTo l x y k) = _
  rw [h]
theorem best_lt (l : List Sta) (x y : Int) : ∀ k b, bestTo l x y k = some b → b < k
  | 0, b, h => by cases h
  | k + 1, b, h => by
    unfold bestTo at h
    split at h
    · split at h
      · injection h with h; omega
      · have := best_lt l x y k b h; omega
    · have := best_lt l x y k b h; omega

theorem sq_bd (a : Int) (h0 : -200000 ≤ a) (h1 : a ≤ 200000) : 0 ≤ a * a ∧ a * a ≤ 40000000000 := by
  constructor
  · rcases Int.le_total 0 a with h2 | h2
    · exact Int.mul_nonneg h2 h2
    · exact Int.mul_nonneg_of_nonpos_of_nonpos h2 h2
  · rcases Int.le_total 0 a with h2 | h2
    · have := Int.mul_le_mul h1 h1 h2 (by omega)
      omega
    · have := Int.mul_le_mul (show -a ≤ 200000 by omega) (show -a ≤ 200000 by omega) (show 0 ≤ -a by omega) (by omega)
      rw [Int.neg_mul_neg] at this
      omega
theorem sq30 (a : Int) (h0 : -30 ≤ a) (h1 : a ≤ 30) : 0 ≤ a * a ∧ a * a ≤ 900 := by
  refine ⟨(sq_bd a (by omega) (by omega)).1, ?_⟩
  rcases Int.le_total 0 a with h2 | h2
  · have := Int.mul_le_mul h1 h1 h2 (by omega)
    omega
  · have := Int.mul_le_mul (show -a ≤ 30 by omega) (show -a ≤ 30 by omega) (show 0 ≤ -a by omega) (by omega)
    rw [Int.neg_mul_neg] at this
    omega
structure PlOk (x y : Int) : Prop where
  x : 0 ≤ x ∧ x ≤ 30
  y : 0 ≤ y ∧ y ≤ 30
theorem sqS_bd {x y u v : Int} (h : PlOk x y) (k : PlOk u v) : 0 ≤ sqS x y u v ∧ sqS x y u v ≤ 1800 := by
  have h1 := h.x
  have h2 := h.y
  have h3 := k.x
  have h4 := k.y
  have p1 := sq30 (x - u) (by omega) (by omega)
  have p2 := sq30 (y - v) (by omega) (by omega)
  unfold sqS
  omega
theorem sqAt_bd {l : List Sta} {x y : Int} (hl : ∀ s ∈ l, StOk s) (hp : PlOk x y) (j : Nat) : 0 ≤ sqAt l x y j ∧ sqAt l x y j ≤ 1800 := by
  unfold sqAt
  split
  · rename_i s hs
    have := hl s (List.mem_of_getElem? hs)
    exact sqS_bd ⟨this.x, this.y⟩ hp
  · omega
theorem ageAt_bd {l : List Sta} (hl : ∀ s ∈ l, StOk s) (j : Nat) : 0 ≤ ageAt l j ∧ ageAt l j ≤ 9 := by
  unfold ageAt
  split
  · rename_i s hs
    exact (hl s (List.mem_of_getElem? hs)).a
  · omega
def cntTo (i m : Nat) : Nat := if m ≤ i then m else m - 1
theorem prodTo_bd {l : List Sta} {x y : Int} (hl : ∀ s ∈ l, StOk s) (hp : PlOk x y) (i : Nat) : ∀ m, 0 ≤ prodTo l x y i m ∧ prodTo l x y i m ≤ 10 * (1800 : Int) ^ cntTo i m
  | 0 => by
    have := ageAt_bd hl i
    unfold prodTo cntTo
    rw [if_pos (by omega)]
    omega
  | m + 1 => by
    have ih := prodTo_bd hl hp i m
    have hs := sqAt_bd hl hp m
    unfold prodTo
    by_cases h : m = i
    · rw [if_pos h, show cntTo i (m + 1) = cntTo i m by unfold cntTo; rw [if_neg (by omega), if_pos (by omega)]; omega]
      exact ih
    · rw [if_neg h, show cntTo i (m + 1) = cntTo i m + 1 by unfold cntTo; split <;> split <;> omega]
      refine ⟨Int.mul_nonneg ih.1 hs.1, ?_⟩
      have := Int.mul_le_mul ih.2 hs.2 hs.1 (by have : (0 : Int) ≤ 1800 ^ cntTo i m := Int.pow_nonneg (by omega); omega)
      rw [Int.pow_succ]
      rw [Int.mul_assoc] at this
      exact this
theorem pow_bd {k : Nat} (h : k ≤ 4) : (1800 : Int) ^ k ≤ 10497600000000 := by
  match k, h with
  | 0, _ => decide
  | 1, _ => decide
  | 2, _ => decide
  | 3, _ => decide
  | 4, _ => decide
theorem prod_bd {l : List Sta} {x y : Int} (hl : ∀ s ∈ l, StOk s) (hp : PlOk x y) {i m : Nat} (hi : i ≤ 4) (hm : m ≤ 5) : 0 ≤ prodTo l x y i m ∧ prodTo l x y i m ≤ 104976000000000 := by
  have h1 := prodTo_bd hl hp i m
  have h2 := pow_bd (k := cntTo i m) (by unfold cntTo; split <;> omega)
  omega
theorem wAt_bd {l : List Sta} {x y : Int} (hl : ∀ s ∈ l, StOk s) (hp : PlOk x y) (hn : l.length ≤ 5) {i : Nat} (hi : i ≤ 4) : 0 ≤ wAt l x y i ∧ wAt l x y i ≤ 104976000000000 := prod_bd hl hp hi hn
theorem sumTo_bd {l : List Sta} {x y : Int} (hl : ∀ s ∈ l, StOk s) (hp : PlOk x y) (hn : l.length ≤ 5) : ∀ k : Nat, k ≤ 5 → 0 ≤ sumTo l x y k ∧ sumTo l x y k ≤ (k : Int) * 104976000000000
  | 0, _ => by simp [sumTo]
  | k + 1, hk => by
    have h1 := sumTo_bd hl hp hn k (by omega)
    have h2 := wAt_bd hl hp hn (i := k) (by omega)
    unfold sumTo
    rw [show ((k + 1 : Nat) : Int) = (k : Int) + 1 by omega, Int.add_mul]
    omega
theorem list_of {n : Nat} {f : Nat → Int} {xs : List Int} (hl : xs.length = n) (h : ∀ j, j < n → xs[j]? = some (f j)) : xs = (List.range n).map f := by
  apply List.ext_getElem?
  intro j
  by_cases hj : j < n
  · rw [h j hj, List.getElem?_map, List.getElem?_range hj]; rfl
  · rw [List.getElem?_eq_none (by omega), List.getElem?_eq_none (by rw [List.length_map, List.length_range]; omega)]
theorem wS_len (l : List Sta) (x y : Int) : (wS l x y).1.length = l.length := by
  unfold wS wOf
  split <;> simp
end Go.Sky.Ch

namespace Go.Sky.Ch
open Go.RowKit Go.Sky

abbrev Pl := Int × Int
def plBad (p : Pl) : Bool := !placeOk p.1 p.2
def prevP (c : List Pl) (i : Nat) : Pl := (c[if i = 0 then c.length - 1 else i - 1]?).getD (0, 0)
def gapAt (c : List Pl) (i : Nat) : Int := match c[i]? with
  | some p => if sqS (prevP c i).1 (prevP c i).2 p.1 p.2 = 1 then 0 else 14
  | none => 0
def conM (c : List Pl) : Int × Int := match c.findIdx? plBad with
  | some i => ((i : Int), 2)
  | none => fb (gapAt c) c.length
def conS (c : List Pl) : Int × Int := if c.length < 4 then (0, 10) else if 200 < c.length then (0, 8) else conM c
theorem prevP_step {c : List Pl} {k : Nat} {p : Pl} (h : c[k]? = some p) : prevP c (k + 1) = p := by
  unfold prevP
  rw [if_neg (by omega), Nat.add_sub_cancel, h]
  rfl
theorem prevP_mem {c : List Pl} {k : Nat} (h : k < c.length) : prevP c k ∈ c := by
  unfold prevP
  split
  · rw [List.getElem?_eq_getElem (by omega)]; exact List.getElem_mem _
  · rw [List.getElem?_eq_getElem (by omega)]; exact List.getElem_mem _
theorem place_bd {p : Pl} (h : placeOk p.1 p.2 = true) : (0 ≤ p.1 ∧ p.1 ≤ 30) ∧ (0 ≤ p.2 ∧ p.2 ≤ 30) := by
  unfold placeOk at h
  rw [Bool.and_eq_true] at h
  exact ⟨inR_iff.1 h.1, inR_iff.1 h.2⟩
def nextP (c : List Pl) (i : Nat) : Pl := (c[(i + 1) % c.length]?).getD (0, 0)
/-- Twice the area, up to a place. -/
def area2 (c : List Pl) : Nat → Int
  | 0 => 0
  | i + 1 => area2 c i + ((c.getD i (0, 0)).1 * (nextP c i).2 - (nextP c i).1 * (c.getD i (0, 0)).2)
def areaS (c : List Pl) : Int := (area2 c c.length).tdiv 2
end Go.Sky.Ch

namespace Go.Sky.Ch
open Go.RowKit Go.Sky

def loAt (l : List Sta) (j : Nat) : Int := match l[j]? with
  | some s => s.lo
  | none => 0
def hiAt (l : List Sta) (j : Nat) : Int := match l[j]? with
  | some s => s.hi
  | none => 0
def dotTo (ws : List Int) (f : Nat → Int) : Nat → Int
  | 0 => 0
  | k + 1 => dotTo ws f k + ws.getD k 0 * f k
structure Ends where
  lo : Int
  hi : Int
  den : Int
def endsS (l : List Sta) (x y : Int) : Ends := ⟨dotTo (wS l x y).1 (loAt l) l.length, dotTo (wS l x y).1 (hiAt l) l.length, (wS l x y).2⟩
theorem wS_bd {l : List Sta} {x y : Int} (hl : ∀ s ∈ l, StOk s) (hp : PlOk x y) (hn : l.length ≤ 5) (j : Nat) : 0 ≤ (wS l x y).1.getD j 0 ∧ (wS l x y).1.getD j 0 ≤ 104976000000000 := by
  rw [List.getD_eq_getElem?_getD]
  cases h : (wS l x y).1[j]? with
  | none =>
    show (0 : Int) ≤ 0 ∧ (0 : Int) ≤ 104976000000000
    omega
  | some v =>
    show 0 ≤ v ∧ v ≤ 104976000000000
    unfold wS wOf at h
    split at h
    · rw [List.getElem?_set] at h
      split at h
      · split at h
        · injection h with h; omega
        · cases h
      · rw [List.getElem?_replicate] at h
        split at h
        · injection h with h; omega
        · cases h
    · rw [List.getElem?_map] at h
      cases hr : (List.range l.length)[j]? with
      | none => rw [hr] at h; cases h
      | some i =>
        rw [hr] at h
        injection h with h
        have hi : i < l.length := by
          have := List.mem_of_getElem? hr
          exact List.mem_range.1 this
        rw [← h]
        exact wAt_bd hl hp hn (by omega)
theorem dot_bd {ws : List Int} {f : Nat → Int} (hw : ∀ j, 0 ≤ ws.getD j 0 ∧ ws.getD j 0 ≤ 104976000000000) (hf : ∀ j, -10000 ≤ f j ∧ f j ≤ 10000) : ∀ k : Nat, -((k : Int) * 1049760000000000000) ≤ dotTo ws f k ∧ dotTo ws f k ≤ (k : Int) * 1049760000000000000
  | 0 => by simp [dotTo]
  | k + 1 => by
    have ih := dot_bd hw hf k
    have h1 := hw k
    have h2 := hf k
    unfold dotTo
    have p1 := mul_bd h1.1 h1.2 h2.1 h2.2
    rw [show ((k + 1 : Nat) : Int) = (k : Int) + 1 by omega, Int.add_mul]
    omega
where
  mul_bd {a b M V : Int} (h0 : 0 ≤ a) (h1 : a ≤ M) (h2 : -V ≤ b) (h3 : b ≤ V) : -(M * V) ≤ a * b ∧ a * b ≤ M * V := by
    have hV : 0 ≤ V := by omega
    have t1 : a * b ≤ a * V := Int.mul_le_mul_of_nonneg_left h3 h0
    have t2 : a * V ≤ M * V := Int.mul_le_mul_of_nonneg_right h1 hV
    have t3 : a * -V ≤ a * b := Int.mul_le_mul_of_nonneg_left h2 h0
    rw [Int.mul_neg] at t3
    omega
theorem mulBd {a b M V : Int} (h0 : 0 ≤ a) (h1 : a ≤ M) (h2 : -V ≤ b) (h3 : b ≤ V) : -(M * V) ≤ a * b ∧ a * b ≤ M * V := by
  have hV : 0 ≤ V := by omega
  have t1 : a * b ≤ a * V := Int.mul_le_mul_of_nonneg_left h3 h0
  have t2 : a * V ≤ M * V := Int.mul_le_mul_of_nonneg_right h1 hV
  have t3 : a * -V ≤ a * b := Int.mul_le_mul_of_nonneg_left h2 h0
  rw [Int.mul_neg] at t3
  omega
theorem loAt_bd {l : List Sta} (hl : ∀ s ∈ l, StOk s) (j : Nat) : -10000 ≤ loAt l j ∧ loAt l j ≤ 10000 := by
  unfold loAt
  split
  · rename_i s hs; exact (hl s (List.mem_of_getElem? hs)).lo
  · omega
theorem hiAt_bd {l : List Sta} (hl : ∀ s ∈ l, StOk s) (j : Nat) : -10000 ≤ hiAt l j ∧ hiAt l j ≤ 10000 := by
  unfold hiAt
  split
  · rename_i s hs; exact (hl s (List.mem_of_getElem? hs)).hi
  · omega
theorem best_hit (l : List Sta) (x y : Int) : ∀ k, (∃ j s, j < k ∧ l[j]? = some s ∧ s.x = x ∧ s.y = y) → ∃ b, bestTo l x y k = some b
  | 0, ⟨j, _, h, _⟩ => absurd h (by omega)
  | k + 1, ⟨j, s, hj, hs, h1, h2⟩ => by
    rcases Nat.lt_or_ge j k with h | h
    · obtain ⟨b, hb⟩ := best_hit l x y k ⟨j, s, h, hs, h1, h2⟩
      unfold bestTo
      split
      · split
        · exact ⟨_, rfl⟩
        · exact ⟨b, hb⟩
      · exact ⟨b, hb⟩
    · obtain rfl : j = k := by omega
      rw [best_step hs]
      split
      · exact ⟨_, rfl⟩
      · rename_i hne
        cases hb : bestTo l x y j with
        | some b => exact ⟨b, rfl⟩
        | none =>
          rw [hb] at hne
          exact absurd (by unfold better younger; simp [h1, h2]) hne
theorem sq_pos {x y u v : Int} (h : ¬ (x = u ∧ y = v)) : 1 ≤ sqS x y u v := by
  unfold sqS
  have key : ∀ a : Int, 0 ≤ a * a ∧ (a ≠ 0 → 1 ≤ a * a) := fun a => by
    rcases Int.lt_trichotomy a 0 with h | h | h
    · have := Int.mul_pos_of_neg_of_neg h h
      exact ⟨by omega, fun _ => by omega⟩
    · subst h; exact ⟨by simp, fun h => absurd rfl h⟩
    · have := Int.mul_pos h h
      exact ⟨by omega, fun _ => by omega⟩
  have k1 := key (x - u)
  have k2 := key (y - v)
  by_cases hx : x = u
  · have : y - v ≠ 0 := fun e => h ⟨hx, by omega⟩
    have := k2.2 this
    omega
  · have := k1.2 (by omega)
    omega
theorem best_none {l : List Sta} {x y : Int} {k : Nat} (h : bestTo l x y k = none) {j : Nat} {s : Sta} (hj : j < k) (hs : l[j]? = some s) : ¬ (s.x = x ∧ s.y = y) := fun ⟨h1, h2⟩ => by
  obtain ⟨b, hb⟩ := best_hit l x y k ⟨j, s, hj, hs, h1, h2⟩
  rw [h] at hb; cases hb
theorem prodTo_pos {l : List Sta} {x y : Int} (hl : ∀ s ∈ l, StOk s) (hb : bestTo l x y l.length = none) (i : Nat) : ∀ m, m ≤ l.length → 1 ≤ prodTo l x y i m
  | 0, _ => by
    have := ageAt_bd hl i
    unfold prodTo
    omega
  | m + 1, hm => by
    have ih := prodTo_pos hl hb i m (by omega)
    unfold prodTo
    split
    · exact ih
    · have : 1 ≤ sqAt l x y m := by
        unfold sqAt
        rw [List.getElem?_eq_getElem (show m < l.length by omega)]
        exact sq_pos (best_none hb (show m < l.length by omega) (List.getElem?_eq_getElem (by omega)))
      have := Int.mul_le_mul ih this (by omega) (by omega)
      omega
theorem sumTo_pos {l : List Sta} {x y : Int} (hl : ∀ s ∈ l, StOk s) (hb : bestTo l x y l.length = none) : ∀ k : Nat, k ≤ l.length → (k : Int) ≤ sumTo l x y k
  | 0, _ => by simp [sumTo]
  | k + 1, hk => by
    have ih := sumTo_pos hl hb k (by omega)
    have : 1 ≤ wAt l x y k := prodTo_pos hl hb k l.length (Nat.le_refl _)
    unfold sumTo
    omega
theorem den_bd {l : List Sta} {x y : Int} (hl : ∀ s ∈ l, StOk s) (hp : PlOk x y) (h1 : 1 ≤ l.length) (h5 : l.length ≤ 5) : 1 ≤ (wS l x y).2 ∧ (wS l x y).2 ≤ 524880000000000 := by
  unfold wS wOf
  split
  · show (1 : Int) ≤ 1 ∧ (1 : Int) ≤ 524880000000000
    omega
  · rename_i h
    show 1 ≤ sumTo l x y l.length ∧ sumTo l x y l.length ≤ 524880000000000
    have a := sumTo_pos hl h l.length (Nat.le_refl _)
    have b := sumTo_bd hl hp h5 l.length h5
    omega

/-- A ratio as a fraction. -/
def fracS (n d : Int) : (Int × Int) × Int := if sizedI (n.tdiv (Int.gcd n d : Int)) 1000000000 = true ∧ d.tdiv (Int.gcd n d : Int) ≤ 1000000000 then ((n.tdiv (Int.gcd n d : Int), d.tdiv (Int.gcd n d : Int)), 0) else ((0, 0), 8)
def floorS (n d : Int) : Int := if n.tmod d < 0 then n.tdiv d - 1 else n.tdiv d
/-- A span of two ratios. -/
structure SpanV where
  a : Int × Int
  b : Int × Int
  e : Int
def spanS (n d m k : Int) : SpanV := if (fracS n d).2 = 0 ∧ (fracS m k).2 = 0 then ⟨(fracS n d).1, (fracS m k).1, 0⟩ else ⟨(0, 0), (0, 0), 8⟩
theorem frac_e (n d : Int) : (fracS n d).2 = 0 ∨ (fracS n d).2 = 8 := by
  unfold fracS; split
  · exact .inl rfl
  · exact .inr rfl
def valE (l : List Sta) (x y : Int) : Int := firstE [(ckS l).2, placeE x y]
def valueS (l : List Sta) (x y : Int) : SpanV := if valE l x y = 0 then spanS (endsS l x y).lo (endsS l x y).den (endsS l x y).hi (endsS l x y).den else ⟨(0, 0), (0, 0), valE l x y⟩
theorem placeE_ok {x y : Int} (h : placeE x y = 0) : PlOk x y := by
  have h3 := errU_nil (by decide) h
  unfold placeOk at h3
  rw [Bool.and_eq_true] at h3
  exact ⟨inR_iff.1 h3.1, inR_iff.1 h3.2⟩
theorem valE_ok {l : List Sta} {x y : Int} (h : valE l x y = 0) : (ckS l).2 = 0 ∧ PlOk x y := by
  have hz := firstE_zero h
  exact ⟨hz _ (by simp), placeE_ok (hz _ (by simp))⟩
structure EndsOk (e : Ends) : Prop where
  lo : -9000000000000000000 ≤ e.lo ∧ e.lo ≤ 9000000000000000000
  hi : -9000000000000000000 ≤ e.hi ∧ e.hi ≤ 9000000000000000000
  den : 1 ≤ e.den ∧ e.den ≤ 524880000000000
theorem ends_ok {l : List Sta} {x y : Int} (hl : ∀ s ∈ l, StOk s) (hp : PlOk x y) (h1 : 1 ≤ l.length) (h5 : l.length ≤ 5) : EndsOk (endsS l x y) := by
  have hw := fun j => wS_bd (x := x) (y := y) hl hp h5 j
  have a := dot_bd hw (loAt_bd hl) l.length
  have b := dot_bd hw (hiAt_bd hl) l.length
  have hl5 : (l.length : Int) * 1049760000000000000 ≤ 5248800000000000000 := by omega
  exact ⟨by show -9000000000000000000 ≤ dotTo _ _ _ ∧ dotTo _ _ _ ≤ 9000000000000000000; omega, by show -9000000000000000000 ≤ dotTo _ _ _ ∧ dotTo _ _ _ ≤ 9000000000000000000; omega, den_bd hl hp h1 h5⟩
end Go.Sky.Ch

namespace Go.Sky.Ch
open Go.RowKit Go.Sky

structure Sd where
  x : Int
  y : Int
  d : Int
deriving DecidableEq
def encSd (s : Sd) : List Value := [.int .i64 s.x, .int .i64 s.y, .int .i64 s.d]
def okSd (s : Sd) : Prop := (-1000 ≤ s.x ∧ s.x ≤ 1000) ∧ (-1000 ≤ s.y ∧ s.y ≤ 1000) ∧ (-1000 ≤ s.d ∧ s.d ≤ 1000)
/-- The step of a direction. -/
def dxS (d : Int) : Int := if d = 0 then 1 else if d = 2 then -1 else 0
def dyS (d : Int) : Int := if d = 1 then 1 else if d = 3 then -1 else 0
/-- Sides compared. -/
def cmpSd (a b : Sd) : Int := lexC [a.y, a.x, a.d] [b.y, b.x, b.d]
theorem cmpI_cases (a b : Int) : (a < b ∧ cmpI a b = -1) ∨ (a = b ∧ cmpI a b = 0) ∨ (b < a ∧ cmpI a b = 1) := by
  unfold cmpI
  rcases Int.lt_trichotomy a b with h | h | h
  · exact .inl ⟨h, if_pos h⟩
  · exact .inr (.inl ⟨h, by rw [if_neg (by omega), if_neg (by omega)]⟩)
  · exact .inr (.inr ⟨h, by rw [if_neg (by omega), if_pos h]⟩)
theorem cmpSd_neg (a b : Sd) : cmpSd a b < 0 ↔ (a.y < b.y ∨ a.y = b.y ∧ (a.x < b.x ∨ a.x = b.x ∧ a.d < b.d)) := by
  show lexC [a.y, a.x, a.d] [b.y, b.x, b.d] < 0 ↔ _
  rw [lexC]
  rcases cmpI_cases a.y b.y with ⟨h, e⟩ | ⟨h, e⟩ | ⟨h, e⟩
  · rw [e, if_neg (by decide)]; exact ⟨fun _ => .inl h, fun _ => by decide⟩
  · rw [e, if_pos rfl, lexC]
    rcases cmpI_cases a.x b.x with ⟨h2, e2⟩ | ⟨h2, e2⟩ | ⟨h2, e2⟩
    · rw [e2, if_neg (by decide)]; exact ⟨fun _ => .inr ⟨h, .inl h2⟩, fun _ => by decide⟩
    · rw [e2, if_pos rfl, lexC]
      rcases cmpI_cases a.d b.d with ⟨h3, e3⟩ | ⟨h3, e3⟩ | ⟨h3, e3⟩
      · rw [e3, if_neg (by decide)]; exact ⟨fun _ => .inr ⟨h, .inr ⟨h2, h3⟩⟩, fun _ => by decide⟩
      · rw [e3, if_pos rfl, lexC]; exact ⟨fun h => absurd h (by decide), fun h => by omega⟩
      · rw [e3, if_neg (by decide)]; exact ⟨fun h => absurd h (by decide), fun h => by omega⟩
    · rw [e2, if_neg (by decide)]; exact ⟨fun h => absurd h (by decide), fun h => by omega⟩
  · rw [e, if_neg (by decide)]; exact ⟨fun h => absurd h (by decide), fun h => by omega⟩
def LtSd (a b : Sd) : Prop := a.y < b.y ∨ a.y = b.y ∧ (a.x < b.x ∨ a.x = b.x ∧ a.d < b.d)
theorem LtSd.total {a b : Sd} (h : ¬ LtSd a b) (k : ¬ LtSd b a) : a = b := by
  unfold LtSd at h k
  obtain ⟨ax, ay, ad⟩ := a
  obtain ⟨bx, by', bd⟩ := b
  simp only at h k
  obtain rfl : ay = by' := by omega
  obtain rfl : ax = bx := by omega
  obtain rfl : ad = bd := by omega
  rfl
/-! ### Grids -/
def strangeG (n : Int) : Bool := !sizedI n 10000
def rowE (len0 : Nat) (row : List Int) : Int := firstE [errU (decide (0 < row.length) && decide (row.length = len0)) 10, errU (decide (row.length ≤ 8)) 8, errU (!row.any strangeG) 2]
def len0 (rows : List (List Int)) : Nat := match rows with
  | r :: _ => r.length
  | [] => 0
def rowAtE (rows : List (List Int)) (i : Nat) : Int := match rows[i]? with
  | some r => rowE (len0 rows) r
  | none => 0
def gridS (rows : List (List Int)) : Int × Int := if rows.length = 0 then (0, 10) else if 8 < rows.length then (0, 8) else fb (rowAtE rows) rows.length
structure GrOk (rows : List (List Int)) : Prop where
  h : 1 ≤ rows.length ∧ rows.length ≤ 8
  w : 1 ≤ len0 rows ∧ len0 rows ≤ 8
  row : ∀ (i : Nat) r, rows[i]? = some r → r.length = len0 rows ∧ ∀ n ∈ r, -10000 ≤ n ∧ n ≤ 10000
theorem grid_ok {rows : List (List Int)} (h : (gridS rows).2 = 0) : GrOk rows := by
  unfold gridS at h
  split at h
  · cases h
  · split at h
    · cases h
    · have hr : ∀ (i : Nat) r, rows[i]? = some r → (0 < r.length ∧ r.length = len0 rows) ∧ r.length ≤ 8 ∧ ∀ n ∈ r, -10000 ≤ n ∧ n ≤ 10000 := by
        intro i r hi
        have h1 := fb_zero h i (List.getElem?_eq_some_iff.1 hi).1
        unfold rowAtE at h1
        rw [hi] at h1
        have hz := firstE_zero h1
        have a := errU_nil (by decide) (hz (errU (decide (0 < r.length) && decide (r.length = len0 rows)) 10) (by simp))
        have b := errU_nil (by decide) (hz (errU (decide (r.length ≤ 8)) 8) (by simp))
        have c := errU_nil (by decide) (hz (errU (!r.any strangeG) 2) (by simp))
        rw [Bool.and_eq_true] at a
        refine ⟨⟨of_decide_eq_true a.1, of_decide_eq_true a.2⟩, of_decide_eq_true b, fun n hn => ?_⟩
        have c2 : r.any strangeG = false := by simpa using c
        have := List.any_eq_false.1 c2 n hn
        unfold strangeG sizedI at this
        exact inR_iff.1 (by simpa using this)
      have h0 : ∃ r, rows[0]? = some r := ⟨_, List.getElem?_eq_getElem (by omega)⟩
      obtain ⟨r, hr0⟩ := h0
      have := hr 0 r hr0
      exact ⟨by omega, by omega, fun i r hi => ⟨(hr i r hi).1.2, (hr i r hi).2.2⟩⟩
/-- The region of a level. -/
def regR (level : Int) (row : List Int) : List Int := row.map fun n => if level ≤ n then 1 else 0
def regS (rows : List (List Int)) (level : Int) : List (List Int) := rows.map (regR level)
def openE (rows : List (List Int)) (level : Int) : Int := firstE [(gridS rows).2, errU (sizedI level 10000) 2]
/-! ### Sides -/
def atR (rows : List (List Int)) (x y : Nat) : Int := ((rows[y]?).getD []).getD x 0
def isR (rows : List (List Int)) (x y : Int) : Bool := (inR y 0 ((rows.length : Int) - 1) && inR x 0 ((len0 rows : Int) - 1)) && (atR rows x.toNat y.toNat == 1)
/-- A cell's corners, and the neighbour beyond the side that begins there. -/
def cornX (x d : Int) : Int := if d = 1 ∨ d = 2 then x + 1 else x
def cornY (y d : Int) : Int := if d = 2 ∨ d = 3 then y + 1 else y
def beyX (x d : Int) : Int := if d = 1 then x + 1 else if d = 3 then x - 1 else x
def beyY (y d : Int) : Int := if d = 0 then y - 1 else if d = 2 then y + 1 else y
def cellSides (rows : List (List Int)) (x y : Int) : Nat → List Sd
  | 0 => []
  | d + 1 => cellSides rows x y d ++ if isR rows (beyX x d) (beyY y d) = true then [] else [⟨cornX x d, cornY y d, d⟩]
def rowSides (rows : List (List Int)) (y : Int) : Nat → List Sd
  | 0 => []
  | x + 1 => rowSides rows y x ++ if isR rows x y = true then cellSides rows x y 4 else []
def allSides (rows : List (List Int)) : Nat → List Sd
  | 0 => []
  | y + 1 => allSides rows y ++ rowSides rows y (len0 rows)
theorem cellSides_len (rows : List (List Int)) (x y : Int) : ∀ d, (cellSides rows x y d).length ≤ d
  | 0 => Nat.le_refl _
  | d + 1 => by
    have := cellSides_len rows x y d
    unfold cellSides
    rw [List.length_append]
    split <;> simp <;> omega
theorem rowSides_len (rows : List (List Int)) (y : Int) : ∀ x, (rowSides rows y x).length ≤ 4 * x
  | 0 => Nat.le_refl _
  | x + 1 => by
    have h1 := rowSides_len rows y x
    have h2 := cellSides_len rows x y 4
    unfold rowSides
    rw [List.length_append]
    split
    · omega
    · simp; omega
theorem allSides_len (rows : List (List Int)) : ∀ y, (allSides rows y).length ≤ y * (4 * len0 rows)
  | 0 => by simp [allSides]
  | y + 1 => by
    have h1 := allSides_len rows y
    have h2 := rowSides_len rows y (len0 rows)
    unfold allSides
    rw [List.length_append, Nat.add_mul, Nat.one_mul]
    omega
/-- A rectangle. -/
structure Rect (rows : List (List Int)) : Prop where
  h : 1 ≤ rows.length ∧ rows.length ≤ 8
  w : 1 ≤ len0 rows ∧ len0 rows ≤ 8
  row : ∀ (i : Nat) r, rows[i]? = some r → r.length = len0 rows
end Go.Sky.Ch

namespace Go.Sky.Ch
open Go.RowKit Go.Sky

/-- The side after a turn. -/
def nextS (s : Sd) (t : Int) : Sd := ⟨s.x + dxS s.d, s.y + dyS s.d, (s.d + t) % 4⟩
def followS (R : List Sd) (s : Sd) : Sd := if nextS s 1 ∈ R then nextS s 1 else if nextS s 0 ∈ R then nextS s 0 else if nextS s 3 ∈ R then nextS s 3 else s
def restF (R : List Sd) : Sd → Option Bool := fun s => if s ∈ R then some true else none
theorem rest_get (R : List Sd) (s : Sd) : ((restF R s).map fun b : Bool => Value.bool b).getD (.bool false) = .bool (decide (s ∈ R)) := by
  unfold restF
  by_cases h : s ∈ R
  · rw [if_pos h, decide_eq_true h]; rfl
  · rw [if_neg h, decide_eq_false h]; rfl
theorem dxS_le (d : Int) : -1 ≤ dxS d ∧ dxS d ≤ 1 := by unfold dxS; split <;> (try split) <;> omega
theorem dyS_le (d : Int) : -1 ≤ dyS d ∧ dyS d ≤ 1 := by unfold dyS; split <;> (try split) <;> omega
/-- One contour: while a side is left, it is taken away, and the next one follows. -/
def walkS : Nat → List Sd → Sd → List Sd × List (Int × Int)
  | 0, R, _ => (R, [])
  | f + 1, R, s => if s ∈ R then ((walkS f (R.filter (· != s)) (followS (R.filter (· != s)) s)).1, (s.x, s.y) :: (walkS f (R.filter (· != s)) (followS (R.filter (· != s)) s)).2) else (R, [])
/-- All contours, side by side. -/
def contS : List Sd → List Sd → List (List (Int × Int))
  | _, [] => []
  | R, s :: t => (if (walkS (R.length + 1) R s).2 = [] then [] else [(walkS (R.length + 1) R s).2]) ++ contS (walkS (R.length + 1) R s).1 t
/-- Where a side may lie. -/
def BS (s : Sd) : Prop := (-100 ≤ s.x ∧ s.x ≤ 100) ∧ (-100 ≤ s.y ∧ s.y ≤ 100) ∧ (0 ≤ s.d ∧ s.d ≤ 3)
theorem BS.ok {s : Sd} (h : BS s) : okSd s := by obtain ⟨h1, h2, h3⟩ := h; exact ⟨by omega, by omega, by omega⟩
theorem follow_mem (R : List Sd) (s : Sd) : followS R s ∈ R ∨ followS R s = s := by
  unfold followS
  split
  · rename_i h; exact .inl h
  · split
    · rename_i h; exact .inl h
    · split
      · rename_i h; exact .inl h
      · exact .inr rfl
theorem cellSides_bs (rows : List (List Int)) (x y : Int) (hx : 0 ≤ x ∧ x ≤ 20) (hy : 0 ≤ y ∧ y ≤ 20) : ∀ d, d ≤ 4 → ∀ s ∈ cellSides rows x y d, BS s
  | 0, _, s, h => by simp [cellSides] at h
  | d + 1, hd, s, h => by
    unfold cellSides at h
    rcases List.mem_append.1 h with h | h
    · exact cellSides_bs rows x y hx hy d (by omega) s h
    · split at h
      · simp at h
      · simp at h
        subst h
        refine ⟨?_, ?_, ?_⟩
        · show -100 ≤ cornX x d ∧ cornX x d ≤ 100
          unfold cornX; split <;> omega
        · show -100 ≤ cornY y d ∧ cornY y d ≤ 100
          unfold cornY; split <;> omega
        · show (0 : Int) ≤ (d : Int) ∧ (d : Int) ≤ 3
          omega
theorem rowSides_bs (rows : List (List Int)) (y : Int) (hy : 0 ≤ y ∧ y ≤ 20) : ∀ x : Nat, x ≤ 20 → ∀ s ∈ rowSides rows y x, BS s
  | 0, _, s, h => by simp [rowSides] at h
  | x + 1, hx, s, h => by
    unfold rowSides at h
    rcases List.mem_append.1 h with h | h
    · exact rowSides_bs rows y hy x (by omega) s h
    · split at h
      · exact cellSides_bs rows x y (by omega) hy 4 (by omega) s h
      · simp at h
theorem allSides_bs (rows : List (List Int)) (hw : len0 rows ≤ 20) : ∀ y : Nat, y ≤ 20 → ∀ s ∈ allSides rows y, BS s
  | 0, _, s, h => by simp [allSides] at h
  | y + 1, hy, s, h => by
    unfold allSides at h
    rcases List.mem_append.1 h with h | h
    · exact allSides_bs rows hw y (by omega) s h
    · exact rowSides_bs rows y (by omega) _ hw s h
theorem len0_reg (rows : List (List Int)) (level : Int) : len0 (regS rows level) = len0 rows := by
  cases rows with
  | nil => rfl
  | cons a t => show (regR level a).length = a.length; unfold regR; simp
theorem GrOk.rect {rows : List (List Int)} (h : GrOk rows) (level : Int) : Rect (regS rows level) := by
  refine ⟨by unfold regS; rw [List.length_map]; exact h.h, by rw [len0_reg]; exact h.w, fun i r hi => ?_⟩
  rw [len0_reg]
  unfold regS at hi
  rw [List.getElem?_map] at hi
  obtain ⟨a, ha, rfl⟩ := Option.map_eq_some_iff.1 hi
  have := (h.row i a ha).1
  unfold regR
  rw [List.length_map]
  exact this
theorem rest_put [DecidableEq Sd] (l : List Sd) (s : Sd) : updG (restF l) s true = restF (l ++ [s]) := by
  funext j
  unfold updG restF
  by_cases h : j = s
  · subst h; rw [if_pos rfl, if_pos (by simp)]
  · rw [if_neg h]
    by_cases h2 : j ∈ l
    · rw [if_pos h2, if_pos (by simp [h2])]
    · rw [if_neg h2, if_neg (by simp [h, h2])]
theorem rest_del (l : List Sd) (s : Sd) : delG (restF l) s = restF (l.filter (· != s)) := by
  funext j
  unfold delG restF
  by_cases h : j = s
  · subst h; rw [if_pos rfl, if_neg (by simp)]
  · rw [if_neg h]
    by_cases h2 : j ∈ l
    · rw [if_pos h2, if_pos (List.mem_filter.2 ⟨h2, by simp [h]⟩)]
    · rw [if_neg h2, if_neg (fun h3 => h2 (List.mem_filter.1 h3).1)]
theorem walkS_in {f : Nat} {R : List Sd} {s : Sd} (h : s ∈ R) : walkS (f + 1) R s = ((walkS f (R.filter (· != s)) (followS (R.filter (· != s)) s)).1, (s.x, s.y) :: (walkS f (R.filter (· != s)) (followS (R.filter (· != s)) s)).2) := by
  rw [walkS, if_pos h]
theorem walkS_out {f : Nat} {R : List Sd} {s : Sd} (h : s ∉ R) : walkS f R s = (R, []) := by
  cases f with
  | zero => rfl
  | succ f => rw [walkS, if_neg h]
theorem filter_lt {R : List Sd} {s : Sd} (h : s ∈ R) : (R.filter (· != s)).length < R.length := by
  rcases Nat.lt_or_ge (R.filter (· != s)).length R.length with h1 | h1
  · exact h1
  · exfalso
    have h2 : R.filter (· != s) = R := List.Sublist.eq_of_length_le List.filter_sublist h1
    rw [← h2] at h
    simp at h
end Go.Sky.Ch
