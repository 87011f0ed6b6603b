/- A range over a method value ('for .. := range s.method'): the receiver is bound ahead of the yield function. The kit's laws take a closure, whose captures come behind it. No program. -/
import Derived.BigQuiet
import Derived.Deep.AppendLies
import Derived.Deep.Draws
import Derived.Deep.Quiet
import Derived.Deep.QuietTactic
import Derived.Lib.Hide
import Derived.OrdersIn
import Derived.OwnWalkIn
import Derived.RangeFuncBound
import Derived.RangeFuncCalls
import Derived.RangeFuncLeaves
import Derived.RangeFuncNested
import Derived.StillTail
import Derived.TacticsIn
import Derived.WalkKit
import Derived.Test.YteabmmibmopnkaaC12I

namespace Go.Sky
open Go.RowKit

/-- Every block of cells lies as it lay. -/
def KC (W W' : World) : Prop := W.heap.size ≤ W'.heap.size ∧ ∀ (b : Nat) (o : Obj), W.heap[b]? = some o → o.isCells = true → W'.heap[b]? = some o
theorem KC.refl (W : World) : KC W W := ⟨Nat.le_refl _, fun _ _ h _ => h⟩
theorem KC.trans {A B C : World} (h : KC A B) (k : KC B C) : KC A C := ⟨Nat.le_trans h.1 k.1, fun b o hb hc => k.2 b o (h.2 b o hb hc) hc⟩
theorem KC.new {W W' : World} (h : New W W') : KC W W' := ⟨h.size, fun _ _ hb _ => h.heap hb⟩
theorem KC.put {W : World} {l : Nat} {o : Obj} (hl : W.heap[l]? = some o) (ho : o.isCells = false) (o' : Obj) : KC W (W.putObj l o') := by
  refine ⟨by simp [World.putObj], fun b o2 hb hc => ?_⟩
  have hne : l ≠ b := by
    intro e
    subst e
    rw [hl] at hb
    injection hb with hb
    subst hb
    rw [ho] at hc
    cases hc
  exact (World.putObj_heap_other (by omega)).trans hb
theorem KC.bx {W W' : World} {b : Nat} {t : TypeId} {cs : Array Value} (h : KC W W') (hb : Bx W b t cs) : Bx W' b t cs := h.2 b _ hb rfl
theorem KC.cell {W W' : World} (h : KC W W') {p : Addr} {v : Value} (hc : W.cell? p = some v) : W'.cell? p = some v := by
  unfold World.cell? at hc ⊢
  cases hb : W.heap[p.block]? with
  | none => rw [hb] at hc; simp at hc
  | some o =>
    rw [hb] at hc
    cases ho : o.isCells with
    | true => rw [h.2 _ o hb ho]; exact hc
    | false => cases o <;> first | (cases ho; done) | simp_all
theorem KC.rd {α : Type} {W W' : World} {k n : Nat} {enc : α → List Value} {A : Option Addr} {xs : List α} (h : KC W W') (hr : Rd W k enc A n xs) : Rd W' k enc A n xs :=
  ⟨hr.1, fun hn => by
    obtain ⟨b, o, e, hb, hc⟩ := hr.2 hn
    exact ⟨b, o, e, Nat.lt_of_lt_of_le hb h.1, fun i x hx j u hu => h.cell (hc i x hx j u hu)⟩⟩

/-- The iterator's contract: it may be left early; between two rounds every block of cells is kept. -/
def BoundStops {α : Type} (F : Fence) (n : Nat) (P : Program) (g : Nat) (rb : Array Value) (encs : α → Array Value) (S Sp : List α → Prop) (N : Nat) (w : World) : Prop :=
  ∀ (l : Nat) (J Jx : List α → World → Prop) (W : World), Below w.heap.size w W → AbidesFrom W.heap.size J →
    (∀ pre x W1, J pre W1 → pre.length < N → YieldAt F (n - 1) P l (encs x) W1 fun e W' =>
      (e = .returned (.bool true) ∧ J (pre ++ [x]) W' ∧ KC W1 W') ∨ (e = .returned (.bool false) ∧ Jx (pre ++ [x]) W')) →
    J [] W →
    CallsIn F n P g (rb ++ #[.func (.yield l) #[] #[]]) W fun e W' => (∃ v, e = .returned v) ∧ ((∃ xs, S xs ∧ J xs W') ∨ (∃ pre, Sp pre ∧ Jx pre W'))

/-- What a round of the body owes: it goes on, or it returns. -/
def boundPost {α : Type} (B : Nat) (I X : List α → World → Prop) (xs : List α) (W : World) : Exit → Act → World → Prop
  | .normal, _, W' => KeepsFrom B W W' ∧ KC W W' ∧ I xs W'
  | .ret, _, W' => KeepsFrom B W W' ∧ X xs W'
  | _, _, _ => False

section
variable {F : Fence} {n : Nat} {P : Program}
theorem wpIn_range_bound {α : Type} {g : Operand} {ps : Array Tmp} {assign body : Code} {Q : Exit → Act → World → Prop} {a : Act} {w : World} (hro : F.round = none) (h1 : 1 ≤ n) {gf : Nat} {rb : Array Value}
    (hg : a.eval g = .func (.func gf) rb #[]) (hF : F.fn gf) (eg : ∀ args w, (callFunc gf args).run P w = .ok (.enter gf args) w) {encs : α → Array Value} (hps : ∀ x, (encs x).size = ps.size)
    {S Sp : List α → Prop} {N : Nat} (hseq : BoundStops F (n - 1) P gf rb encs S Sp N w) (I X : List α → World → Prop) (hI : OwnFrom w.heap.size I) (hX : OwnFrom w.heap.size X) (h0 : I [] w) (a₁ : α → Act)
    (hassign : ∀ (l : Nat) (x : α) (W : World) (K : Act → World → Prop), K (a₁ x) W →
      assign.wpIn (F.inRound l) (n - 1 - 1) P (Exit.then K (fun _ _ _ => False)) { tmps := (ps.zip (encs x)).foldl (fun t (p, v) => t.setIfInBounds p v) a.tmps, defers := [] } W)
    (hbody : ∀ (l : Nat) (pre : List α) (x : α) (W : World), I pre W → pre.length < N → body.wpIn (F.inRound l) (n - 1 - 1) P (boundPost w.heap.size I X (pre ++ [x]) W) (a₁ x) W)
    (hdone : ∀ (D : Nat) (xs : List α) (W : World), w.heap.size ≤ D → S xs → I xs W → W.heap[D]? = some (.deferred (some [])) → Q .normal { a with defers := { target := .collected D, args := #[] } :: a.defers } W)
    (hstop : ∀ (D : Nat) (pre : List α) (W : World), w.heap.size ≤ D → Sp pre → X pre W → W.heap[D]? = some (.deferred (some [])) → Code.ret.wpIn F n P Q { a with defers := { target := .collected D, args := #[] } :: a.defers } W) :
    (Code.rangeFunc g ps assign body).wpIn F n P Q a w := by
  refine wpIn_rangeFunc fun fn hfn => ?_
  rw [hro]
  -- the loop's record, by its state and its pending jump; B: the block of the rounds' deferred calls; B + 1: the record
  obtain ⟨R, hR⟩ : ∃ R : LoopState → Option Code → Loop, ∀ s j, R s j = { state := s, pending := j, fn, tmps := a.tmps, params := ps, assign, body, defers := w.heap.size } := ⟨_, fun _ _ => rfl⟩
  obtain ⟨B, hB⟩ : ∃ B, w.heap.size = B := ⟨_, rfl⟩
  have two : ∀ (s : LoopState) (j : Option Code) (W : World), W.heap[B + 1]? = some (.loop (R s j)) → W.heap[B]? = some (.deferred (some [])) →
      ∀ (s' : LoopState) (j' : Option Code), (W.putObj (B + 1) (.loop (R s' j'))).heap[B + 1]? = some (.loop (R s' j')) ∧ (W.putObj (B + 1) (.loop (R s' j'))).heap[B]? = some (.deferred (some [])) :=
    fun s j W hl hd s' j' => ⟨World.putObj_heap_same (Array.getElem?_eq_some_iff.1 hl).1, (World.putObj_heap_other (by omega)).trans hd⟩
  have kept : ∀ (J : List α → World → Prop), OwnFrom B J → ∀ (s : LoopState) (j : Option Code) (xs : List α) (W : World), W.heap[B + 1]? = some (.loop (R s j)) → J xs W → ∀ o, J xs (W.putObj (B + 1) o) :=
    fun J hJ s j xs W hl h o => hJ.putObj o h (by omega) hl rfl
  have bel : ∀ (s : LoopState) (j : Option Code) (W : World), W.heap[B + 1]? = some (.loop (R s j)) → ∀ o, KC W (W.putObj (B + 1) o) := fun s j W hl o => KC.put hl rfl o
  rw [hB] at hI hX
  obtain ⟨W1, hW1⟩ : ∃ W1, (w.alloc (.deferred (some []))).alloc (.loop (R .ready none)) = W1 := ⟨_, rfl⟩
  have hl1 : W1.heap[B + 1]? = some (.loop (R .ready none)) := by
    have := World.alloc_heap_new (w.alloc (.deferred (some []))) (.loop (R .ready none))
    rw [World.size_alloc, hB, hW1] at this
    exact this
  have hd1 : W1.heap[B]? = some (.deferred (some [])) := by
    rw [← hW1, ← hB]
    exact (Below.heap_alloc _ _ _ (by simp)).trans (World.alloc_heap_new w _)
  have hi1 : I [] W1 := by rw [← hW1]; exact hI.alloc _ (hI.alloc _ h0)
  have hb1 : Below w.heap.size w W1 := by rw [← hW1]; exact ((Below.refl _ w).alloc (Nat.le_refl _) _).alloc (by simp) _
  have hs1 : B + 2 ≤ W1.heap.size := by rw [← hW1, ← hB]; simp
  refine ⟨B + 1, [{ target := .collected B, args := #[] }], W1, { target := .fn (.func gf) #[], args := rb ++ #[.func (.yield (B + 1)) #[] #[]] }, W1, gf, rb ++ #[.func (.yield (B + 1)) #[] #[]], W1, ?_, ?_, ?_, ?_, fun _ => h1, ?_⟩
  · rw [← hW1, hR, ← hB]
    exact run_enterLoop_outer _ _ _ _ _
  · simp only [resolve, hg]
    simp [go_sem]
  · intro f' hf'
    simp [Target.leads] at hf'
    subst hf'
    exact hF
  · simp [invoke, go_sem, eg]
  have walks : ∀ (J : List α → World → Prop), OwnFrom B J → AbidesFrom W1.heap.size J := fun J hJ s A A' row h hgr hr => hJ s A A' row h hgr (fun r e => by
    obtain ⟨h2, o, ho, hw⟩ := hr r e
    exact ⟨by omega, o, ho, Obj.not_cells_of_walk hw⟩)
  refine (hseq (B + 1) (fun pre W => I pre W ∧ W.heap[B + 1]? = some (.loop (R .ready none)) ∧ W.heap[B]? = some (.deferred (some [])))
    (fun pre W => X pre W ∧ W.heap[B + 1]? = some (.loop (R .done (some .ret))) ∧ W.heap[B]? = some (.deferred (some []))) W1 hb1
    (fun s A A' row h hgr hr => ⟨walks I hI s A A' row h.1 hgr hr, (grownBy_keeps hgr (fun r e => (hr r e).2) h.2.1 rfl).trans h.2.1, (grownBy_keeps hgr (fun r e => (hr r e).2) h.2.2 rfl).trans h.2.2⟩)
    ?_ ⟨hi1, hl1, hd1⟩).mono ?_
  · rintro pre x W ⟨hi, hl, hd⟩ hlen
    have hy := run_yield (P := P) (args := encs x) hl (by rw [hR]; exact hps x)
    rw [hR] at hy
    refine ⟨fn, _, assign, body, hy, roundIn_of_wpIn hfn (hassign _ x W _ ?_)⟩
    clear hy
    refine ⟨_, run_beginRound hl (by rw [hR]), ?_⟩
    have hbusy : ({ R .ready none with state := .busy } : Loop) = R .busy none := by rw [hR, hR]
    rw [hbusy]
    obtain ⟨hl2, hd2⟩ := two _ _ W hl hd .busy none
    have hlow := bel _ _ W hl (.loop (R .busy none))
    have hi2 := kept I hI _ _ pre W hl hi (.loop (R .busy none))
    refine wpIn_mono (hbody _ pre x _ hi2 hlen) ?_
    have ends : ∀ (j : Option Code) (W3 : World), KeepsFrom w.heap.size (W.putObj (B + 1) (.loop (R .busy none))) W3 →
        (Instr.endRound (B + 1) j).run P W3 = .ok (.bool j.isNone) (W3.putObj (B + 1) (.loop (R (if j.isNone then .ready else .done) j))) ∧ W3.heap[B + 1]? = some (.loop (R .busy none)) ∧ W3.heap[B]? = some (.deferred (some [])) := fun j W3 hk => by
      have hl3 := hk.same _ _ (by omega) hl2 rfl
      have h := run_endRound (P := P) j hl3
      have he : ({ R .busy none with state := if j.isNone then .ready else .done, pending := j } : Loop) = R (if j.isNone then .ready else .done) j := by rw [hR, hR]
      rw [he] at h
      exact ⟨h, hl3, hk.same _ _ (by omega) hd2 rfl⟩
    rintro e a3 W3 hp
    cases e with
    | normal =>
      obtain ⟨hk, hlo, hi3⟩ := hp
      obtain ⟨hr, hl3, hd3⟩ := ends none W3 hk
      obtain ⟨hl4, hd4⟩ := two _ _ W3 hl3 hd3 .ready none
      refine ⟨_, _, hr, .inl ⟨rfl, ⟨kept I hI _ _ _ W3 hl3 hi3 _, hl4, hd4⟩, ?_⟩⟩
      exact (hlow.trans hlo).trans (bel _ _ W3 hl3 _)
    | ret =>
      obtain ⟨hk, hx3⟩ := hp
      obtain ⟨hr, hl3, hd3⟩ := ends (some .ret) W3 hk
      obtain ⟨hl4, hd4⟩ := two _ _ W3 hl3 hd3 .done (some .ret)
      exact ⟨_, _, hr, .inr ⟨rfl, kept X hX _ _ _ W3 hl3 hx3 _, hl4, hd4⟩⟩
    | exit id => exact hp.elim
    | goto t => exact hp.elim
    | panic c => exact hp.elim
    | outgrown => exact hp.elim
  · rintro e W2 ⟨⟨v, rfl⟩, (⟨xs, hS, hi, hl, hd⟩ | ⟨pre, hsp, hx, hl, hd⟩)⟩
    · have h := run_endLoop (P := P) hl (by rw [hR]; simp)
      rw [hR] at h
      exact ⟨none, _, h, hdone _ xs _ (by omega) hS (kept I hI _ _ _ W2 hl hi _) ((World.putObj_heap_other (by omega)).trans hd)⟩
    · have h := run_endLoop (P := P) hl (by rw [hR]; simp)
      rw [hR] at h
      exact ⟨some .ret, _, h, hstop _ pre _ (by omega) hsp (kept X hX _ _ _ W2 hl hx _) ((World.putObj_heap_other (by omega)).trans hd)⟩
end
end Go.Sky
