/- A law's frame: its arguments opened, and the close: a call that answers true and makes new blocks at most.
   Arguments opened: a struct of one-cell fields by value; integers of a slice. -/
import Derived.Deep.AppendLies
import Derived.Deep.Draws
import Derived.Deep.Fields
import Derived.Deep.Slices
import Derived.Lib.Hide
import Derived.OpenShut
import Derived.ProofKit
import Derived.Test.YtaogolnoiffgiaaRows
import Derived.WalkKit
import Derived.Test.YtaogolnoiffgiaaC22B

namespace Go.Proofs.Ytaogolnoiffgiaa
open Go.ChangeShapes Go.WideShapes Go.ChangeAt Go.RowKit Go.Sky
open Go.Deep (open_slice)

theorem ownKnob_none : ownKnob Try.prog.godebug = none := by kernel_rfl
theorem laid_out : laidOutB Try.prog = true := by kernel_rfl

section
variable {H : Type} {enc : TypeId × Value → H} {P : Program}

theorem trodAll_new {W W' : World} (hl : laidOutB P = true) (hb : New W W') : ∀ {ts : List TypeId} {vs : List Value} {ds : List (DataW H)} {ps : List MemPlace},
    (∀ t ∈ ts, P.readableRec t = true ∧ t < P.types.size) → (∀ x ∈ ps, x.block < W.heap.size) → DataW.TrodAll enc P W 0 (fun _ => true) true ts vs ds ps →
    DataW.TrodAll enc P W' 0 (fun b => decide (b < W.heap.size)) true ts vs ds ps
  | [], _, _, _, _, _, h => by
    obtain ⟨rfl, rfl, rfl⟩ := trodAll_nil h
    exact trodAll_mk0
  | t :: ts, _, _, _, ht, hlt, h => by
    obtain ⟨v, vs1, d, ds1, a, b, rfl, rfl, rfl, h1, h2⟩ := trodAll_cons h
    exact trodAll_cons_mk (Below.trod hl (ht t (List.mem_cons_self ..)).1 (ht t (List.mem_cons_self ..)).2 h1 hb (fun x hx => hlt x (List.mem_append_left _ hx)))
      (trodAll_new hl hb (fun u hu => ht u (List.mem_cons_of_mem _ hu)) (fun x hx => hlt x (List.mem_append_right _ hx)) h2)

theorem post_new {f : Func} {s : ChangeSpec} {W W' : World} {args : Array Value} {ds gs : List (DataW H)} {before : List MemPlace} {T : TypeId}
    (hW : DataW.Whole enc P f.params.toList s.vars false W args.toList ds gs before) (hvars : s.vars = []) (hl : laidOutB P = true)
    (hpar : ∀ t ∈ f.params.toList, P.readableRec t = true ∧ t < P.types.size) (hr : f.resultTypes = #[T]) (hT : P.underlying T = some .bool)
    (hfn : s.fn H ds = { results := [.lit (.bool true)], args := ds }) (hn : New W W') : s.post enc P f false true false false W args (.bool true) W' := by
  have hlt := hW.lt
  have hW0 := hW
  obtain ⟨p, q, hA, hV, rfl, hz, hnd⟩ := hW
  rw [hvars] at hV
  obtain ⟨rfl, rfl⟩ := trodVars_none hV
  refine ⟨ds, [], p ++ [], [], p, [], hW0, ?_, ?_, ?_, ?_, fun h => by cases h⟩
  · rw [List.append_nil, hfn, hr]
    exact trodAll_mk1 (shut_bool hT true)
  · rw [List.append_nil, hfn]
    exact trodAll_new hl hn hpar (fun x hx => hlt x (List.mem_append_left _ hx)) hA
  · rw [List.append_nil, hfn, hvars]
    rfl
  · exact Below.frame hn _

/-! ### Arguments opened -/
variable {w : World} {base : Nat} {spare : Nat → Bool} {held : Bool}

theorem spot_none {a : Addr} {v : Value} (h : w.cell? a = some v) : a = ⟨a.block, a.off, none⟩ := by
  obtain ⟨b, o, s⟩ := a
  cases s with
  | none => rfl
  | some x =>
    unfold World.cell? at h
    dsimp only at h
    split at h
    · simp at h
    · cases h

/-- A slice opened as a list: elements of k cells, each the cells of some x. -/
theorem open_rd {α : Type} {t e : TypeId} {fuel k : Nat} {cs : List Value} {x : DataW H × List MemPlace} (ht : P.underlying t = some (.slice e)) (hk : P.cellsOf e = k) (hk0 : 0 < k) (el : α → List Value) (G : α → Prop)
    (hel : ∀ n l z, l.length = k → DataW.trod enc P w base spare held n e l = some z → ∃ y, l = el y ∧ G y)
    (h : DataW.trod enc P w base spare held fuel t cs = some x) :
    ∃ A n cap xs, cs = [.slice A n cap] ∧ n ≤ cap ∧ cap ≤ maxLen ∧ Rd w k el A n xs ∧ ∀ y ∈ xs, G y := by
  rcases open_slice ht h with ⟨rfl, _⟩ | ⟨a, len, cap, m, n, D, Pl, rfl, hb, hl, hm, hmm, _, hi⟩
  · exact ⟨none, 0, 0, [], rfl, Nat.le_refl _, Nat.zero_le _, Rd.nil _ _ _ _, fun y hy => absurd hy (List.not_mem_nil)⟩
  · have hlm : len ≤ m := by rw [hmm]; split <;> omega
    have hx : ∀ i, i < len → ∃ y, G y ∧ ∀ j u, (el y)[j]? = some u → w.cell? (a.add (i * k + j)) = some u := by
      intro i him
      obtain ⟨cs', hc, ht'⟩ := hi i (by omega)
      rw [hk] at hc
      obtain ⟨_, hcl, hat⟩ := World.cells?_some hc
      obtain ⟨y, rfl, hy⟩ := hel n cs' _ hcl ht'
      refine ⟨y, hy, fun j u hu => ?_⟩
      have hj : j < k := by rw [← hcl]; exact (List.getElem?_eq_some_iff.1 hu).1
      rw [← Go.Deep.add_add, hat j hj, hu]
    have hlist : ∀ l, l ≤ len → ∃ xs : List α, xs.length = l ∧ (∀ y ∈ xs, G y) ∧ ∀ i y, xs[i]? = some y → ∀ j u, (el y)[j]? = some u → w.cell? (a.add (i * k + j)) = some u := by
      intro l
      induction l with
      | zero => intro _; exact ⟨[], rfl, fun y hy => absurd hy (List.not_mem_nil), fun i y hy => by simp at hy⟩
      | succ l ih =>
        intro hll
        obtain ⟨xs, h1, h2, h3⟩ := ih (by omega)
        obtain ⟨y, hy, hc⟩ := hx l (by omega)
        refine ⟨xs ++ [y], by simp [h1], fun z hz => ?_, fun i z hz => ?_⟩
        · rcases List.mem_append.1 hz with hz | hz
          · exact h2 z hz
          · rw [List.mem_singleton] at hz; subst hz; exact hy
        · by_cases hil : i < xs.length
          · rw [List.getElem?_append_left hil] at hz
            exact h3 i z hz
          · rw [List.getElem?_append_right (by omega)] at hz
            have hi0 : i - xs.length = 0 := by
              have := (List.getElem?_eq_some_iff.1 hz).1
              simp at this; omega
            rw [hi0] at hz
            simp at hz
            subst hz
            rw [show i = l by omega]
            exact hc
    obtain ⟨xs, h1, h2, h3⟩ := hlist len (Nat.le_refl _)
    refine ⟨some a, len, cap, xs, rfl, hl, hm, ⟨h1, fun hn => ?_⟩, h2⟩
    obtain ⟨cs', hc, ht'⟩ := hi 0 (by omega)
    rw [hk] at hc
    obtain ⟨_, hcl, hat⟩ := World.cells?_some hc
    have h0 := hat 0 hk0
    rw [Nat.zero_mul, show (a.add 0).add 0 = a by simp [Addr.add]] at h0
    obtain ⟨v, hv⟩ : ∃ v, cs'[0]? = some v := ⟨_, List.getElem?_eq_getElem (by omega)⟩
    rw [hv] at h0
    have hsp := spot_none h0
    refine ⟨a.block, a.off, by rw [← hsp], World.block_lt_of_cell? w _ h0, fun i y hy j u hu => ?_⟩
    have := h3 i y hy j u hu
    rw [hsp] at this
    rw [show a.off + i * k + j = a.off + (i * k + j) by omega]
    unfold Addr.add at this
    split at this
    · rename_i h00
      rw [h00]; exact this
    · exact this
end

/-- Integers of one cell. -/
def i64ok (n : Int) : Prop := -9223372036854775808 ≤ n ∧ n ≤ 9223372036854775807
theorem i64ok_of {n : Int} (h : (Lit.int .i64 n).wf = true) : i64ok n := Go.bounds_i64 h
end Go.Proofs.Ytaogolnoiffgiaa

namespace Go.Proofs.Ytaogolnoiffgiaa
open Go.ChangeShapes Go.WideShapes Go.ChangeAt Go.RowKit Go.Sky Go.Deep

section
variable {H : Type} {enc : TypeId × Value → H} {P : Program} {w : World} {base : Nat} {spare : Nat → Bool} {held : Bool}

/-- A struct by value, each field one cell: its cells, and each one's reading. -/
theorem open_cells {r : Reach} {b0 : Nat} {t : TypeId} {fs : Array Field} {v : Value} {d : DataW H} {p : List MemPlace} (hs : P.underlying t = some (.struct fs)) (hone : oneCellFields P fs = true) (hC : P.cellsOf t = fs.size)
    (hv : Value.okWide P w r b0 t v) (h : DataW.Trod enc P w base spare held t v d p) :
    ∃ cs : List Value, v = .agg cs.toArray ∧ cs.length = fs.size ∧ ∃ n, ∀ (i : Nat) (f : Field), fs[i]? = some f → ∃ c z, cs[i]? = some c ∧ DataW.trod enc P w base spare held n f.type [c] = some z := by
  obtain ⟨cs, rfl, hsz⟩ := okWide_struct hs hv
  obtain ⟨fuel, hf⟩ := h
  obtain ⟨xs, n, _, _, _, hlen, hg⟩ := DataW.trod_struct hs hf
  have hcl : cs.toList.length = fs.size := by rw [← hC, ← hsz]; simp
  refine ⟨cs.toList, by simp, hcl, n, fun i f hi => ?_⟩
  obtain ⟨ho, hk⟩ := Go.Deep.hone_of hone i f hi
  have hif : i < fs.size := (Array.getElem?_eq_some_iff.1 hi).1
  have h1 := hg i f hi
  rw [ho, hk] at h1
  have hc : (Value.agg cs).cells.toList = cs.toList := rfl
  rw [hc, Go.Deep.take1_drop _ i undef (by omega)] at h1
  refine ⟨cs.toList.getD i undef, xs[i]'(by omega), ?_, ?_⟩
  · rw [List.getD_eq_getElem?_getD, List.getElem?_eq_getElem (by omega)]; rfl
  · rw [h1, List.getElem?_eq_getElem (by omega)]

theorem el_int {e : TypeId} (he : P.underlying e = some (.int .i64)) : ∀ n l z, l.length = 1 → DataW.trod enc P w base spare held n e l = some z → ∃ y : Int, l = [Value.int .i64 y] ∧ i64ok y := by
  intro n l z _ h
  obtain ⟨y, hy, _, hw⟩ := DataW.trod_int he h
  exact ⟨y, hy, i64ok_of hw⟩
end
end Go.Proofs.Ytaogolnoiffgiaa
