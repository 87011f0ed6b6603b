/- Regions that draw their order in the round of a range over a function (the wide fence, in the round of loop l0): the quiet walk as it is, a tail in one order. No program.
   A region that draws its order with allocs and calls beside loads: an operation that yields one value in every world of S, and leaves the world alone, may be taken first; all others keep S. No program.
   Regions that draw their order under the wide fence, outside of a round: the quiet head, a tail in one order. No program.
   A length of a slice in a drawn region, taken first. No program. -/
import Derived.BigQuiet
import Derived.Deep.AppendLies
import Derived.Deep.Draws
import Derived.Deep.Quiet
import Derived.Deep.QuietTactic
import Derived.Lib.Hide
import Derived.OrdersIn
import Derived.RangeFuncCalls
import Derived.StillTail
import Derived.TacticsIn
import Derived.WalkKit
import Derived.Test.YtaogolnoiffgiaaC22C

namespace Go.Sky
open Go.RowKit

section
variable {P : Program} {ops : Array Oper} {md : Region.Mode} {C : World → Prop} {l0 n : Nat}

/-- No operation is a 'defer'. -/
def noDefer (ops : Array Oper) : Bool := ops.all fun o => match o.op with | .defer _ => false | _ => true
theorem noDefer_at {i : Nat} {o : Oper} (h : noDefer ops = true) (hi : ops[i]? = some o) : ∀ c, o.op ≠ .defer c := by
  intro c hc
  unfold noDefer at h
  rw [Array.all_eq_true] at h
  obtain ⟨hlt, rfl⟩ := Array.getElem?_eq_some_iff.1 hi
  have := h i hlt
  rw [hc] at this
  cases this

theorem wpOpIn_of_qOp {i : Nat} {a : Act} {K : Act → Prop} {K' : Act → World → Prop} {Q' : Exit → Act → World → Prop} {w : World} (hnd : noDefer ops = true) (hC : C w) (h : ∀ a w', C w' → K a → K' a w')
    (hh : qOp P ops C i K a) : wpOpIn (Fence.wide.inRound l0) n P ops Q' i K' a w := by
  unfold qOp at hh
  unfold wpOpIn
  split
  · rename_i ho; simp only [ho] at hh; exact h _ _ hC hh
  · rename_i o ho
    simp only [ho] at hh
    split
    · rename_i hw
      simp only [hw, if_true] at hh
      obtain ⟨v, h1, h2⟩ := hh
      have h3 := h1 w hC
      unfold Oper.quietAt at h3
      unfold Oper.wpIn
      refine ⟨fun _ _ => trivial, ?_⟩
      rw [Oper.semAt_eq _ _ _ (noDefer_at hnd ho)]
      generalize (execOp a.eval o).run P w = r at *
      cases r with
      | ok x w' =>
        cases x <;> simp only [Oper.quietUpon] at h3 <;> simp only [Oper.uponIn]
        case value u =>
          obtain ⟨e1, e2⟩ := h3
          rw [e1, e2]
          exact h _ _ hC h2
        case skip =>
          obtain ⟨e1, e2⟩ := h3
          rw [e1, ← e2]
          exact h _ _ hC h2
        case enter f args =>
          obtain ⟨e1, hc⟩ := h3
          rw [e1]
          refine ⟨fun hd => (by cases hd), CallsIn.inRound l0 (callsIn_wide.2 ?_)⟩
          exact hc.mono fun e w'' ⟨he, hw''⟩ => by subst he; exact h _ _ hw'' h2
      | halt x w' => simp only [Oper.quietUpon] at h3
    · rename_i hw; simp only [hw] at hh; exact ⟨fun _ _ => trivial, h _ _ hC hh⟩

theorem wpAnyIn_of_headQ {m g : Nat} {L : Array Bool → Act → Prop} {Q' : Exit → Act → World → Prop} (hnd : noDefer ops = true) (hL : ∀ listed a w, C w → L listed a → wpAnyIn (Fence.wide.inRound l0) n P md ops Q' g listed a w) :
    ∀ (f : Nat) (listed : Array Bool) (a : Act) (w : World), C w → wpAnyLQ P md ops C m L f listed a → wpAnyIn (Fence.wide.inRound l0) n P md ops Q' (f + g) listed a w
  | 0, listed, a, w, hw, h => by rw [Nat.zero_add]; exact hL _ _ _ hw h
  | f + 1, listed, a, w, hw, h => by
    rw [show f + 1 + g = (f + g) + 1 by omega]
    exact ⟨fun h0 => absurd h0 h.1, fun i hi => wpOpIn_of_qOp hnd hw (fun a' w' hw' h' => wpAnyIn_of_headQ hnd hL f _ a' w' hw' h') (h.2 i hi).2⟩

theorem wpAnyIn_of_seq {Q' : Exit → Act → World → Prop} : ∀ (l : List Oper) (k : Nat) (listed : Array Bool) (a : Act) (w : World), (∀ j, l[j]? = ops[k + j]?) →
    Region.seqB md ops l.length k listed = true → wpListIn (Fence.wide.inRound l0) n P ops Q' l a w → wpAnyIn (Fence.wide.inRound l0) n P md ops Q' l.length listed a w
  | [], _, _, _, _, _, hB, h => ⟨by simpa [Region.seqB] using hB, h⟩
  | o :: l, k, listed, a, w, hl, hB, h => by
    have h0 : ops[k]? = some o := by simpa using (hl 0).symm
    simp only [List.length_cons, Region.seqB, Bool.and_eq_true, decide_eq_true_eq] at hB
    refine ⟨fun h1 => (by rw [hB.1] at h1; cases h1), fun i hi => ?_⟩
    rw [hB.1] at hi
    have hik : i = k := by simpa using hi
    subst hik
    have hw : wpOpIn (Fence.wide.inRound l0) n P ops Q' i (wpListIn (Fence.wide.inRound l0) n P ops Q' l) a w := by unfold wpOpIn; simp only [h0]; exact h
    exact wpOpIn_mono (fun a' w' h' => wpAnyIn_of_seq l (i + 1) _ a' w' (fun j => by have := hl (j + 1); simpa [Nat.add_assoc, Nat.add_comm 1 j] using this) hB.2 h') hw

theorem wpIn_region_qtail {id : Nat} {Q : Exit → Act → World → Prop} {a : Act} {w : World} {l : List Oper} (C : World → Prop) (m : Nat) (hnd : noDefer l.toArray = true) (hm : P.follows .mixedOrders = true) (hB : Region.lexTailB .any l.toArray m = true) (hC : C w.drew)
    (h : wpQuiet P l.toArray C (fun a' => ∀ w', C w' → wpListIn (Fence.wide.inRound l0) n P l.toArray Q (l.drop m) a' w') (l.take m) a) : (Code.region id l.toArray true).wpIn (Fence.wide.inRound l0) n P Q a w := by
  simp only [Region.lexTailB, Bool.and_eq_true, decide_eq_true_eq] at hB
  obtain ⟨⟨⟨⟨hsel, hn⟩, hs⟩, hc⟩, hlex⟩ := hB
  have hn' : m < l.length := by simpa using hn
  have htl : (l.take m).length = m := by simp; omega
  have hdl : (l.drop m).length = l.toArray.size - m := by simp
  have inv0 : HeadInv .any l.toArray m (Array.replicate l.toArray.size false) :=
    ⟨by simp, fun j oj _ hl => (by rw [getD_replicate_false] at hl; cases hl), fun t _ ht => getD_in (by simpa using ht) (getD_replicate_false _ _)⟩
  have H := wpAnyLQ_lex (md := .any) (g := l.toArray.size - m) hsel hs hc hn (l.take m) 0 _ a (fun j hj => by
    have hj' : j < m := by rw [htl] at hj; exact hj
    simp [hj']) (by simpa using htl) inv0 (by rw [htl]; exact hlex) h
  refine wpIn_region_any hm ?_
  have := wpAnyIn_of_headQ (l0 := l0) (n := n) (Q' := Q) (C := C) (g := l.toArray.size - m) hnd (fun listed a' w' hw' hL => by
    have hX := wpAnyIn_of_seq (Q' := Q) (l.drop m) m listed a' w' (fun j => by simp) (by rw [hdl]; exact hL.1) (hL.2 w' hw')
    rw [hdl] at hX
    exact hX) _ _ _ _ hC H
  rw [htl] at this
  rw [show m + (l.toArray.size - m) = l.toArray.size by simp; omega] at this
  exact this

/-- In the round: the head quiet in 'new blocks and draws', the tail behind m operations. -/
theorem wpIn_region_tail {id : Nat} {Q : Exit → Act → World → Prop} {a : Act} {w : World} {l : List Oper} (m : Nat) (hnd : noDefer l.toArray = true) (hm : P.follows .mixedOrders = true) (hB : Region.lexTailB .any l.toArray m = true)
    (h : wpQuiet P l.toArray (fun w' => ∃ od, w' = plus w od) (fun a' => ∀ w', New w w' → wpListIn (Fence.wide.inRound l0) n P l.toArray Q (l.drop m) a' w') (l.take m) a) : (Code.region id l.toArray true).wpIn (Fence.wide.inRound l0) n P Q a w :=
  wpIn_region_qtail (fun w' => ∃ od, w' = plus w od) m hnd hm hB (new_plus ((New.refl w).drew))
    (by
      have hh : (fun a' => ∀ w', (∃ od, w' = plus w od) → wpListIn (Fence.wide.inRound l0) n P l.toArray Q (l.drop m) a' w') = (fun a' => ∀ w', New w w' → wpListIn (Fence.wide.inRound l0) n P l.toArray Q (l.drop m) a' w') := by
        funext a'
        apply propext
        exact ⟨fun h w' hn => h w' (new_plus hn), fun h w' ⟨od, e⟩ => h w' (e ▸ plus_new w od)⟩
      rw [hh]
      exact h)
end
end Go.Sky

namespace Go.Sky
open Go.RowKit

section
variable {P : Program} {ops : Array Oper} {md : Region.Mode} {F : Fence} {n : Nat} {Q : Exit → Act → World → Prop} {S : World → Prop}

/-- Whatever order is picked from here on, S holding all the way. -/
def wpAnyS (F : Fence) (n : Nat) (P : Program) (md : Region.Mode) (ops : Array Oper) (Q : Exit → Act → World → Prop) (S : World → Prop) : Nat → Array Bool → Act → World → Prop
  | 0, listed, a, w => S w ∧ Region.ready md ops listed = [] ∧ Q .normal a w
  | f + 1, listed, a, w => S w ∧ (Region.ready md ops listed = [] → Q .normal a w) ∧
    ∀ i ∈ Region.ready md ops listed, wpOpIn F n P ops Q i (wpAnyS F n P md ops Q S f (listed.setIfInBounds i true)) a w

theorem wpAnyS.keeps {f : Nat} {listed : Array Bool} {a : Act} {w : World} (h : wpAnyS F n P md ops Q S f listed a w) : S w := by cases f <;> exact h.1
theorem wpAnyIn_of_S : ∀ (f : Nat) (listed : Array Bool) (a : Act) (w : World), wpAnyS F n P md ops Q S f listed a w → wpAnyIn F n P md ops Q f listed a w
  | 0, _, _, _, h => h.2
  | f + 1, _, _, _, h => ⟨h.2.1, fun i hi => wpOpIn_mono (fun a' w' h' => wpAnyIn_of_S f _ a' w' h') (h.2.2 i hi)⟩

/-- In every world of S the operation, in this frame, yields v and leaves the world alone. -/
def YieldsS (P : Program) (ops : Array Oper) (S : World → Prop) (o : Oper) (v : Value) (a : Act) : Prop :=
  (Region.wanted o (yielded ops a.tmps) = true ∧ ∀ w, S w → (execOp a.eval o).run P w = .ok (.value v) w) ∨ (Region.wanted o (yielded ops a.tmps) = false ∧ v = undef)

theorem wpOpIn_put {j : Nat} {oi oj : Oper} {v : Value} (hj : ops[j]? = some oj) (hap : oi.apart ops oj = true) (hsj : ∀ cs b, oj.op ≠ .select cs b) (hQ : ∀ c a w, ¬ Q (.panic c) a w) (hO : ¬ LetsOut Q) (hnd : noDefer ops = true)
    {K : Act → World → Prop} {a : Act} {w : World} (h : wpOpIn F n P ops Q j K (a.put oi.dst v) w) (hF : ∀ g, F.fn g := by exact fun _ => trivial) :
    wpOpIn F n P ops Q j (fun a' w' => K (a'.put oi.dst v) w' ∧ ∃ (u : Value) (b : Act), a' = b.put oj.dst u ∧ b.tmps = a.tmps ∧ b.eval = a.eval) a w := by
  obtain ⟨h1, h2, h3⟩ := Oper.apart_spec hap
  unfold wpOpIn at *
  simp only [hj] at h ⊢
  rw [wanted_put oj a oi.dst v h1] at h
  split
  · rename_i hw
    simp only [hw, if_true] at h
    unfold Oper.wpIn at *
    refine ⟨fun g _ => hF g, ?_⟩
    have h := h.2
    rw [Oper.semAt_eq _ _ _ (noDefer_at hnd hj)] at h ⊢
    rw [execOp_put oj hsj a oi.dst v h1] at h
    generalize (execOp a.eval oj).run P w = r at *
    have comm : ∀ u, (a.put oi.dst v).put oj.dst u = (a.put oj.dst u).put oi.dst v := fun u => Act.put_comm a v u h2
    cases r with
    | ok x w' =>
      cases x <;> simp only [Oper.uponIn] at h ⊢
      case value u => rw [comm] at h; exact ⟨h, u, a, rfl, rfl, rfl⟩
      case skip => rw [comm] at h; exact ⟨h, _, a, rfl, rfl, rfl⟩
      case defer d =>
        refine ⟨?_, _, { a with defers := d :: a.defers }, rfl, rfl, rfl⟩
        rw [← Act.put_comm _ v undef h2, ← Act.put_defers]
        exact h
      case enter f args =>
        refine ⟨h.1, CallsIn.mono h.2 fun e w'' he => ?_⟩
        cases e with
        | returned u =>
          have he : K ((a.put oi.dst v).put oj.dst u) w'' := he
          rw [comm] at he; exact ⟨he, u, a, rfl, rfl, rfl⟩
        | panicked c => exact absurd he (hQ _ _ _)
        | outgrown => exact absurd he hO
      case row rw_ args =>
        refine ⟨h.1, RowsIn.mono h.2 fun u w'' he => ?_⟩
        rw [comm] at he; exact ⟨he, u, a, rfl, rfl, rfl⟩
      case round l f tmps assign body =>
        refine ⟨h.1, RoundIn.mono h.2 fun e w'' he => ?_⟩
        cases e with
        | returned u =>
          have he : K ((a.put oi.dst v).put oj.dst u) w'' := he
          rw [comm] at he; exact ⟨he, u, a, rfl, rfl, rfl⟩
        | panicked c => exact absurd he (hQ _ _ _)
        | outgrown => exact absurd he hO
      all_goals (first | exact h | (exfalso; exact h))
    | halt x w' =>
      cases x <;> simp only [Oper.uponIn] at h ⊢
      all_goals (first | exact absurd h (hQ _ _ _) | exact h)
  · rename_i hw
    simp only [hw] at h
    have comm : (a.put oi.dst v).put oj.dst undef = (a.put oj.dst undef).put oi.dst v := Act.put_comm a v undef h2
    refine ⟨fun g _ => hF g, ?_⟩
    have h := h.2
    rw [comm] at h
    exact ⟨h, _, a, rfl, rfl, rfl⟩

/-- AN OPERATION MAY BE TAKEN FIRST. -/
theorem take_first {i : Nat} {oi : Oper} {v : Value} (hi : ops[i]? = some oi) (hsel : Region.noSelect ops = true) (hnd : noDefer ops = true) (hQ : ∀ c a w, ¬ Q (.panic c) a w) (hO : ¬ LetsOut Q) (hF : ∀ g, F.fn g := by exact fun _ => trivial) :
    ∀ (f : Nat) (listed : Array Bool) (a : Act) (w : World), Region.free md ops listed i = true → i ∈ Region.ready md ops listed → YieldsS P ops S oi v a →
      wpAnyS F n P md ops Q S f (listed.setIfInBounds i true) (a.put oi.dst v) w → wpAnyS F n P md ops Q S (f + 1) listed a w := by
  have hs := Region.noSelect_spec hsel
  suffices H : ∀ (f : Nat) (listed : Array Bool) (a : Act) (w : World),
      (∀ j oj, ops[j]? = some oj → j ≠ i → listed.getD j true = false → (∀ e ∈ oj.after, Region.binds md e = true → e.on ≠ i) → oi.apart ops oj = true) → i ∈ Region.ready md ops listed → YieldsS P ops S oi v a →
      wpAnyS F n P md ops Q S f (listed.setIfInBounds i true) (a.put oi.dst v) w → wpAnyS F n P md ops Q S (f + 1) listed a w from
    fun f listed a w hf => H f listed a w (Region.free_spec hi hf)
  intro f
  have self : ∀ {f : Nat} {listed : Array Bool} {a : Act} {w : World}, YieldsS P ops S oi v a → wpAnyS F n P md ops Q S f (listed.setIfInBounds i true) (a.put oi.dst v) w →
      wpOpIn F n P ops Q i (wpAnyS F n P md ops Q S f (listed.setIfInBounds i true)) a w := by
    intro f listed a w hy H
    unfold wpOpIn
    rcases hy with ⟨hw, hy⟩ | ⟨hw, rfl⟩
    · simp only [hi, hw, if_true]
      unfold Oper.wpIn
      refine ⟨fun g _ => hF g, ?_⟩
      rw [Oper.semAt_eq _ _ _ (noDefer_at hnd hi), hy w H.keeps]
      exact H
    · simp only [hi, hw]
      exact ⟨fun g _ => hF g, H⟩
  induction f with
  | zero =>
    intro listed a w _ hr hy H
    refine ⟨H.keeps, fun h => (by rw [h] at hr; cases hr), fun j hj => ?_⟩
    by_cases hji : j = i
    · subst hji; exact self hy H
    · have := ready_mono hj hji
      rw [H.2.1] at this
      cases this
  | succ f ih =>
    intro listed a w hfree hr hy H
    refine ⟨H.keeps, fun h => (by rw [h] at hr; cases hr), fun j hj => ?_⟩
    by_cases hji : j = i
    · subst hji; exact self hy H
    · have h1 := H.2.2 j (ready_mono hj hji)
      obtain ⟨hjun, oj, hoj, hall⟩ := mem_ready.1 hj
      have hun := (mem_ready.1 hr).1
      have hnot : ∀ e ∈ oj.after, Region.binds md e = true → e.on ≠ i := fun e he hb heq => by
        have h1 := hall e he hb
        rw [heq, getD_both hun] at h1
        cases h1
      have hap := hfree j oj hoj hji hjun hnot
      obtain ⟨_, _, h3⟩ := Oper.apart_spec hap
      refine wpOpIn_mono ?_ (wpOpIn_put hoj hap (fun cs b => hs j oj cs b hoj) hQ hO hnd h1 hF)
      rintro a' w' ⟨hK, u, b, rfl, hb1, hb2⟩
      refine ih (listed.setIfInBounds j true) _ w' ?_ (ready_mono hr (Ne.symm hji)) ?_ (by rw [Array.setIfInBounds_comm _ _ hji]; exact hK)
      · intro k ok hk hki hun hno
        refine hfree k ok hk hki ?_ hno
        by_cases hjk : j = k
        · subst hjk; exact hjun
        · rw [getD_set_ne true hjk] at hun; exact hun
      · unfold YieldsS at *
        rw [wanted_put oi b oj.dst u h3, hb1, execOp_put oi (fun cs b => hs i oi cs b hi) b oj.dst u h3, hb2]
        exact hy

/-! ### A head of reads, taken first -/
/-- An operation that yields a value, if it ends at all. -/
def yielder (o : Oper) : Bool := match o.op with
  | .load .. | .indexAddr .. | .move .. | .assign .. | .extract .. | .binOp .. | .unOp .. | .fieldAddr .. | .field .. | .slice .. => true
  | _ => false
theorem value_of_bind {s : Sem Value} {w w' : World} {x : Next} (h : (do pure (Next.value (← s)) : Sem Next).run P w = .ok x w') : ∃ v, x = .value v := by
  rw [Sem.run_bind] at h
  cases hs : s.run P w with
  | ok v w1 =>
    rw [hs] at h
    simp only [Result.andThen, Sem.run_pure] at h
    injection h with h1 h2
    exact ⟨v, h1.symm⟩
  | halt c w1 => rw [hs] at h; simp [Result.andThen] at h
theorem yielder_value {o : Oper} {ρ : Operand → Value} {w w' : World} {x : Next} (h : yielder o = true) (hr : (execOp ρ o).run P w = .ok x w') : ∃ v, x = .value v := by
  obtain ⟨dst, op, type, pos, after, guard⟩ := o
  unfold yielder at h
  cases op <;> first | (exfalso; exact Bool.false_ne_true h) | exact value_of_bind hr | (simp only [execOp, Sem.run_pure] at hr; injection hr with h1 h2; exact ⟨_, h1.symm⟩)
theorem yieldsS_of {o : Oper} {v : Value} {a : Act} (ho : yielder o = true) (h : YieldsIn P ops S o v a) : YieldsS P ops S o v a := by
  refine h.imp ?_ id
  rintro ⟨hw, h⟩
  refine ⟨hw, fun w hS => ?_⟩
  have := h w hS
  unfold Oper.quietAt at this
  cases hr : (execOp a.eval o).run P w with
  | ok x w' =>
    obtain ⟨u, rfl⟩ := yielder_value ho hr
    rw [hr] at this
    obtain ⟨rfl, rfl⟩ := this
    rfl
  | halt c w' => rw [hr] at this; exact absurd this (by simp [Oper.quietUpon])

/-- The next n operations, from k on, may each be taken first. -/
def takesB (md : Region.Mode) (ops : Array Oper) : Nat → Nat → Array Bool → Bool
  | 0, _, _ => true
  | n + 1, k, listed => (Region.ready md ops listed).contains k && Region.free md ops listed k && ((ops[k]?).map yielder == some true) && takesB md ops n (k + 1) (listed.setIfInBounds k true)
def tookAll : Nat → Nat → Array Bool → Array Bool
  | 0, _, listed => listed
  | n + 1, k, listed => tookAll n (k + 1) (listed.setIfInBounds k true)

theorem take_all (hsel : Region.noSelect ops = true) (hnd : noDefer ops = true) (hQ : ∀ c a w, ¬ Q (.panic c) a w) (hO : ¬ LetsOut Q) (hF : ∀ g, F.fn g := by exact fun _ => trivial) {f : Nat} {w : World} : ∀ (l : List Oper) (k : Nat) (listed : Array Bool) (a : Act), (∀ j, j < l.length → l[j]? = ops[k + j]?) →
    takesB md ops l.length k listed = true → wpQuiet P ops S (fun a' => wpAnyS F n P md ops Q S f (tookAll l.length k listed) a' w) l a → wpAnyS F n P md ops Q S (f + l.length) listed a w
  | [], k, listed, a, _, _, h => h
  | o :: l, k, listed, a, hl, hB, h => by
    have h0 : ops[k]? = some o := by simpa using (hl 0 (by simp)).symm
    simp only [List.length_cons, takesB, Bool.and_eq_true, h0, Option.map_some] at hB
    obtain ⟨⟨⟨hr, hf⟩, hy⟩, hB'⟩ := hB
    have hst : qOp P ops S k (wpQuiet P ops S (fun a' => wpAnyS F n P md ops Q S f (tookAll (l.length + 1) k listed) a' w) l) a := by unfold qOp; simp only [h0]; exact h
    obtain ⟨v, hv, hK⟩ := yieldsIn_of_qOp h0 hst
    rw [show f + (o :: l).length = (f + l.length) + 1 by simp; omega]
    exact take_first h0 hsel hnd hQ hO hF _ listed a w hf (by simpa using hr) (yieldsS_of (by simpa using hy) hv)
      (take_all hsel hnd hQ hO hF l (k + 1) _ _ (fun j hj => by have := hl (j + 1) (by simp; omega); simpa [Nat.add_assoc, Nat.add_comm 1 j] using this) hB' hK)

/-- Only the plain end, and there R. -/
def endsIn (R : Act → World → Prop) : Exit → Act → World → Prop
  | .normal, a, w => R a w
  | _, _, _ => False

theorem quiet_list_mono {C : World → Prop} {K K' : Act → Prop} (h : ∀ a, K a → K' a) : ∀ (l : List Oper) (a : Act), wpQuiet P ops C K l a → wpQuiet P ops C K' l a
  | [], a, hh => h a hh
  | o :: l, a, hh => by
    unfold wpQuiet at *
    split
    · rename_i hw; rw [if_pos hw] at hh; exact Oper.quiet_mono (quiet_list_mono h l) hh
    · rename_i hw; rw [if_neg hw] at hh; exact quiet_list_mono h l _ hh

/-- A region that draws, in the round: the first m operations are reads and are taken first; the walk of the others is 'wpAnyS'. -/
theorem wpIn_region_takes {id : Nat} {Q : Exit → Act → World → Prop} {a : Act} {w : World} {l : List Oper} (m g : Nat) (listed : Array Bool) (R : Act → World → Prop) (hnd : noDefer l.toArray = true) (hsel : Region.noSelect l.toArray = true) (hm : P.follows .mixedOrders = true)
    (hB : takesB .any l.toArray (l.take m).length 0 (Array.replicate l.toArray.size false) = true) (hml : g + (l.take m).length = l.toArray.size) (hls : tookAll (l.take m).length 0 (Array.replicate l.toArray.size false) = listed) (hR : ∀ a' w', R a' w' → Q .normal a' w')
    (h : wpQuiet P l.toArray (fun w' => ∃ od, w' = plus w od) (fun a' => ∀ w', New w w' → wpAnyS F n P .any l.toArray (endsIn R) (fun w' => ∃ od, w' = plus w od) g listed a' w') (l.take m) a) (hF : ∀ g, F.fn g := by exact fun _ => trivial) :
    (Code.region id l.toArray true).wpIn F n P Q a w := by
  refine Code.wpIn_mono (Q := endsIn R) (fun e a' w' he => ?_) (wpIn_region_any hm ?_)
  · cases e with
    | normal => exact hR _ _ he
    | _ => exact he.elim
  · refine wpAnyIn_of_S (S := fun w' => ∃ od, w' = plus w od) _ _ _ _ ?_
    have := take_all (F := F) (n := n) (P := P) (md := .any) (ops := l.toArray) (Q := endsIn R) (S := fun w' => ∃ od, w' = plus w od) hsel hnd (fun _ _ _ h => h) (by rintro ⟨_, _, h⟩; exact h) hF (f := g) (w := w.drew) (l.take m) 0 (Array.replicate l.toArray.size false) a
      (fun j hj => by have : j < m := by simp at hj; omega
                      simp [this]) hB (by
        rw [hls]; exact quiet_list_mono (fun a' h' => h' _ (New.refl w).drew) _ _ h)
    rw [hml] at this
    exact this

theorem end_any {R : Act → World → Prop} {listed : Array Bool} {a : Act} {w : World} (hS : S w) (hr : Region.ready md ops listed = []) (h : R a w) : wpAnyS F n P md ops (endsIn R) S 0 listed a w := ⟨hS, hr, h⟩

/-- The m operations from k on are reads: taken first. -/
theorem take_next {Q : Exit → Act → World → Prop} {R : Act → World → Prop} {S : World → Prop} {l : List Oper} {f : Nat} {listed : Array Bool} {a : Act} {w : World} (k m : Nat) (listed' : Array Bool) (hQ : Q = endsIn R) (hsel : Region.noSelect l.toArray = true) (hnd : noDefer l.toArray = true)
    (hB : takesB md l.toArray m k listed = true) (hls : tookAll m k listed = listed') (hm : k + m ≤ l.length) (h : wpQuiet P l.toArray S (fun a' => wpAnyS F n P md l.toArray Q S f listed' a' w) ((l.drop k).take m) a) (hF : ∀ g, F.fn g := by exact fun _ => trivial) : wpAnyS F n P md l.toArray Q S (f + m) listed a w := by
  subst hQ
  have hlen : ((l.drop k).take m).length = m := by simp; omega
  have := take_all (F := F) (n := n) (P := P) (md := md) (ops := l.toArray) (Q := endsIn R) (S := S) hsel hnd (fun _ _ _ h => h) (by rintro ⟨_, _, h⟩; exact h) hF (f := f) (w := w) ((l.drop k).take m) k listed a
    (fun j hj => by rw [hlen] at hj; simp [List.getElem?_drop, hj]) (by rw [hlen]; exact hB) (by rw [hlen, hls]; exact h)
  rw [hlen] at this
  exact this

/-- One operation, by the walk of a list of one. -/
theorem wpOpIn_list {i : Nat} {o : Oper} {K : Act → World → Prop} {a : Act} {w : World} (hi : ops[i]? = some o) (h : wpListIn F n P ops (Exit.then K Q) [o] a w) (_hQ : ∀ c a w, Exit.then K Q (.panic c) a w → Q (.panic c) a w := by exact fun _ _ _ h => h) (hF : ∀ g, F.fn g := by exact fun _ => trivial) :
    wpOpIn F n P ops Q i K a w := by
  unfold wpOpIn
  simp only [hi]
  unfold wpListIn at h
  split
  · rename_i hw
    rw [if_pos hw] at h
    unfold Oper.wpIn at *
    refine ⟨fun g _ => hF g, ?_⟩
    have h := h.2
    generalize (o.semAt F.round a.eval).run P w = r at *
    cases r with
    | ok x w' => cases x <;> exact h
    | halt x w' => cases x <;> exact h
  · rename_i hw
    rw [if_neg hw] at h
    exact h
/-- The next operation is the only one that may come up. -/
theorem one_next {f : Nat} {listed : Array Bool} {a : Act} {w : World} (i : Nat) (hr : Region.ready md ops listed = [i]) (hS : S w) (h : wpOpIn F n P ops Q i (wpAnyS F n P md ops Q S f (listed.setIfInBounds i true)) a w) :
    wpAnyS F n P md ops Q S (f + 1) listed a w :=
  ⟨hS, fun h0 => by rw [hr] at h0; (cases h0), fun j hj => by
    rw [hr] at hj
    have : j = i := by simpa using hj
    subst this; exact h⟩
/-- Two may come up. -/
theorem two_next {f : Nat} {listed : Array Bool} {a : Act} {w : World} (i k : Nat) (hr : Region.ready md ops listed = [i, k]) (hS : S w) (h : wpOpIn F n P ops Q i (wpAnyS F n P md ops Q S f (listed.setIfInBounds i true)) a w)
    (h' : wpOpIn F n P ops Q k (wpAnyS F n P md ops Q S f (listed.setIfInBounds k true)) a w) : wpAnyS F n P md ops Q S (f + 1) listed a w :=
  ⟨hS, fun h0 => by rw [hr] at h0; (cases h0), fun j hj => by
    rw [hr] at hj
    have : j = i ∨ j = k := by simpa using hj
    rcases this with rfl | rfl
    · exact h
    · exact h'⟩

/-! ### Operations that may come in every order -/
def subsL : List Nat → List (List Nat)
  | [] => [[]]
  | a :: l => subsL l ++ (subsL l).map (a :: ·)
/-- All of E are marked but those of rem. -/
def markL (E rem : List Nat) (base : Array Bool) : Array Bool := E.foldl (fun ls i => if rem.contains i then ls else ls.setIfInBounds i true) base
def freeOrder (md : Region.Mode) (ops : Array Oper) (E : List Nat) (base : Array Bool) : Bool :=
  (subsL E).all fun rem => rem.isEmpty || (!(Region.ready md ops (markL E rem base)).isEmpty && (Region.ready md ops (markL E rem base)).all fun i => rem.contains i && decide (markL E (rem.erase i) base = (markL E rem base).setIfInBounds i true) && (subsL E).contains (rem.erase i) && E.contains i)

theorem any_order {E : List Nat} {base : Array Bool} {f : Nat} (I : List Nat → Act → World → Prop) (hB : freeOrder md ops E base = true) (hS : ∀ rem a w, I rem a w → S w)
    (hstep : ∀ i ∈ E, ∀ rem a w, i ∈ rem → I rem a w → wpOpIn F n P ops Q i (I (rem.erase i)) a w)
    (hend : ∀ a w, I [] a w → wpAnyS F n P md ops Q S f (markL E [] base) a w) :
    ∀ (k : Nat) (rem : List Nat) (a : Act) (w : World), rem.length = k → (subsL E).contains rem = true → I rem a w → wpAnyS F n P md ops Q S (f + k) (markL E rem base) a w
  | 0, rem, a, w, hk, _, hI => by
    have : rem = [] := List.eq_nil_of_length_eq_zero hk
    subst this
    exact hend a w hI
  | k + 1, rem, a, w, hk, hm, hI => by
    have hB' := hB
    unfold freeOrder at hB'
    rw [List.all_eq_true] at hB'
    have h := hB' rem (List.contains_iff_mem.1 hm)
    have hne : rem.isEmpty = false := by cases rem with | nil => simp at hk | cons _ _ => rfl
    rw [hne, Bool.false_or, Bool.and_eq_true, List.all_eq_true] at h
    obtain ⟨hr, hall⟩ := h
    refine ⟨hS _ _ _ hI, fun h0 => ?_, fun i hi => ?_⟩
    · rw [h0] at hr; cases hr
    · have hi' := hall i hi
      simp only [Bool.and_eq_true, decide_eq_true_eq] at hi'
      obtain ⟨⟨⟨e0, e1⟩, e2⟩, e3⟩ := hi'
      have hi := List.contains_iff_mem.1 e0
      rw [← e1]
      refine wpOpIn_mono (fun a' w' h' => ?_) (hstep i (List.contains_iff_mem.1 e3) rem a w hi hI)
      exact any_order I hB hS hstep hend k (rem.erase i) a' w' (by rw [List.length_erase_of_mem hi]; omega) e2 h'
end
end Go.Sky

namespace Go.Sky.Wd
open Go.RowKit Go.Sky

section
variable {P : Program} {ops : Array Oper} {md : Region.Mode} {C : World → Prop} {n : Nat}

theorem wpOpIn_of_qOp {i : Nat} {a : Act} {K : Act → Prop} {K' : Act → World → Prop} {Q' : Exit → Act → World → Prop} {w : World} (hnd : noDefer ops = true) (hC : C w) (h : ∀ a w', C w' → K a → K' a w')
    (hh : qOp P ops C i K a) : wpOpIn Fence.wide n P ops Q' i K' a w := by
  unfold qOp at hh
  unfold wpOpIn
  split
  · rename_i ho; simp only [ho] at hh; exact h _ _ hC hh
  · rename_i o ho
    simp only [ho] at hh
    split
    · rename_i hw
      simp only [hw, if_true] at hh
      obtain ⟨v, h1, h2⟩ := hh
      have h3 := h1 w hC
      unfold Oper.quietAt at h3
      unfold Oper.wpIn
      refine ⟨fun _ _ => trivial, ?_⟩
      rw [Oper.semAt_eq _ _ _ (noDefer_at hnd ho)]
      generalize (execOp a.eval o).run P w = r at *
      cases r with
      | ok x w' =>
        cases x <;> simp only [Oper.quietUpon] at h3 <;> simp only [Oper.uponIn]
        case value u =>
          obtain ⟨e1, e2⟩ := h3
          rw [e1, e2]
          exact h _ _ hC h2
        case skip =>
          obtain ⟨e1, e2⟩ := h3
          rw [e1, ← e2]
          exact h _ _ hC h2
        case enter f args =>
          obtain ⟨e1, hc⟩ := h3
          rw [e1]
          refine ⟨fun hd => (by cases hd), callsIn_wide.2 ?_⟩
          exact hc.mono fun e w'' ⟨he, hw''⟩ => by subst he; exact h _ _ hw'' h2
      | halt x w' => simp only [Oper.quietUpon] at h3
    · rename_i hw; simp only [hw] at hh; exact ⟨fun _ _ => trivial, h _ _ hC hh⟩

theorem wpAnyIn_of_headQ {m g : Nat} {L : Array Bool → Act → Prop} {Q' : Exit → Act → World → Prop} (hnd : noDefer ops = true) (hL : ∀ listed a w, C w → L listed a → wpAnyIn Fence.wide n P md ops Q' g listed a w) :
    ∀ (f : Nat) (listed : Array Bool) (a : Act) (w : World), C w → wpAnyLQ P md ops C m L f listed a → wpAnyIn Fence.wide n P md ops Q' (f + g) listed a w
  | 0, listed, a, w, hw, h => by rw [Nat.zero_add]; exact hL _ _ _ hw h
  | f + 1, listed, a, w, hw, h => by
    rw [show f + 1 + g = (f + g) + 1 by omega]
    exact ⟨fun h0 => absurd h0 h.1, fun i hi => wpOpIn_of_qOp hnd hw (fun a' w' hw' h' => wpAnyIn_of_headQ hnd hL f _ a' w' hw' h') (h.2 i hi).2⟩

theorem wpAnyIn_of_seq {Q' : Exit → Act → World → Prop} : ∀ (l : List Oper) (k : Nat) (listed : Array Bool) (a : Act) (w : World), (∀ j, l[j]? = ops[k + j]?) →
    Region.seqB md ops l.length k listed = true → wpListIn Fence.wide n P ops Q' l a w → wpAnyIn Fence.wide n P md ops Q' l.length listed a w
  | [], _, _, _, _, _, hB, h => ⟨by simpa [Region.seqB] using hB, h⟩
  | o :: l, k, listed, a, w, hl, hB, h => by
    have h0 : ops[k]? = some o := by simpa using (hl 0).symm
    simp only [List.length_cons, Region.seqB, Bool.and_eq_true, decide_eq_true_eq] at hB
    refine ⟨fun h1 => (by rw [hB.1] at h1; cases h1), fun i hi => ?_⟩
    rw [hB.1] at hi
    have hik : i = k := by simpa using hi
    subst hik
    have hw : wpOpIn Fence.wide n P ops Q' i (wpListIn Fence.wide n P ops Q' l) a w := by unfold wpOpIn; simp only [h0]; exact h
    exact wpOpIn_mono (fun a' w' h' => wpAnyIn_of_seq l (i + 1) _ a' w' (fun j => by have := hl (j + 1); simpa [Nat.add_assoc, Nat.add_comm 1 j] using this) hB.2 h') hw

theorem wpIn_region_qtail {id : Nat} {Q : Exit → Act → World → Prop} {a : Act} {w : World} {l : List Oper} (C : World → Prop) (m : Nat) (hnd : noDefer l.toArray = true) (hm : P.follows .mixedOrders = true) (hB : Region.lexTailB .any l.toArray m = true) (hC : C w.drew)
    (h : wpQuiet P l.toArray C (fun a' => ∀ w', C w' → wpListIn Fence.wide n P l.toArray Q (l.drop m) a' w') (l.take m) a) : (Code.region id l.toArray true).wpIn Fence.wide n P Q a w := by
  simp only [Region.lexTailB, Bool.and_eq_true, decide_eq_true_eq] at hB
  obtain ⟨⟨⟨⟨hsel, hn⟩, hs⟩, hc⟩, hlex⟩ := hB
  have hn' : m < l.length := by simpa using hn
  have htl : (l.take m).length = m := by simp; omega
  have hdl : (l.drop m).length = l.toArray.size - m := by simp
  have inv0 : HeadInv .any l.toArray m (Array.replicate l.toArray.size false) :=
    ⟨by simp, fun j oj _ hl => (by rw [getD_replicate_false] at hl; cases hl), fun t _ ht => getD_in (by simpa using ht) (getD_replicate_false _ _)⟩
  have H := wpAnyLQ_lex (md := .any) (g := l.toArray.size - m) hsel hs hc hn (l.take m) 0 _ a (fun j hj => by
    have hj' : j < m := by rw [htl] at hj; exact hj
    simp [hj']) (by simpa using htl) inv0 (by rw [htl]; exact hlex) h
  refine wpIn_region_any hm ?_
  have := wpAnyIn_of_headQ (n := n) (Q' := Q) (C := C) (g := l.toArray.size - m) hnd (fun listed a' w' hw' hL => by
    have hX := wpAnyIn_of_seq (Q' := Q) (l.drop m) m listed a' w' (fun j => by simp) (by rw [hdl]; exact hL.1) (hL.2 w' hw')
    rw [hdl] at hX
    exact hX) _ _ _ _ hC H
  rw [htl] at this
  rw [show m + (l.toArray.size - m) = l.toArray.size by simp; omega] at this
  exact this

/-- In the round: the head quiet in 'new blocks and draws', the tail behind m operations. -/
theorem wpIn_region_tail {id : Nat} {Q : Exit → Act → World → Prop} {a : Act} {w : World} {l : List Oper} (m : Nat) (hnd : noDefer l.toArray = true) (hm : P.follows .mixedOrders = true) (hB : Region.lexTailB .any l.toArray m = true)
    (h : wpQuiet P l.toArray (fun w' => ∃ od, w' = plus w od) (fun a' => ∀ w', New w w' → wpListIn Fence.wide n P l.toArray Q (l.drop m) a' w') (l.take m) a) : (Code.region id l.toArray true).wpIn Fence.wide n P Q a w :=
  wpIn_region_qtail (fun w' => ∃ od, w' = plus w od) m hnd hm hB (new_plus ((New.refl w).drew))
    (by
      have hh : (fun a' => ∀ w', (∃ od, w' = plus w od) → wpListIn Fence.wide n P l.toArray Q (l.drop m) a' w') = (fun a' => ∀ w', New w w' → wpListIn Fence.wide n P l.toArray Q (l.drop m) a' w') := by
        funext a'
        apply propext
        exact ⟨fun h w' hn => h w' (new_plus hn), fun h w' ⟨od, e⟩ => h w' (e ▸ plus_new w od)⟩
      rw [hh]
      exact h)
end
end Go.Sky.Wd

namespace Go.Sky
open Go.RowKit

section
variable {P : Program} {ops : Array Oper} {md : Region.Mode} {F : Fence} {n : Nat} {Q : Exit → Act → World → Prop} {S : World → Prop}
theorem take_lenS {R : Act → World → Prop} {l : List Oper} {f : Nat} {listed : Array Bool} {a : Act} {w : World} (i : Nat) (oi : Oper) (listed' : Array Bool) (x : Operand) (t : TypeId) (A : Option Addr) (m cap : Nat) (hQ : Q = endsIn R) (hi : l.toArray[i]? = some oi) (hg : oi.guard = none)
    (hop : oi.op = .call { callee := .builtin .len, args := #[x], argTypes := #[t] }) (e : TypeId) (ht : P.underlying t = some (.slice e)) (hx : a.eval x = .slice A m cap) (hsel : Region.noSelect l.toArray = true) (hnd : noDefer l.toArray = true)
    (hr : (Region.ready md l.toArray listed).contains i = true) (hf : Region.free md l.toArray listed i = true) (hls : listed.setIfInBounds i true = listed')
    (h : wpAnyS F n P md l.toArray Q S f listed' (a.put oi.dst (.int .i64 m)) w) (hF : ∀ g, F.fn g := by exact fun _ => trivial) : wpAnyS F n P md l.toArray Q S (f + 1) listed a w := by
  subst hQ hls
  refine take_first hi hsel hnd (fun _ _ _ h => h) (by rintro ⟨_, _, h⟩; exact h) hF f listed a w hf (by simpa using hr) (.inl ⟨by simp [Region.wanted, hg], fun w _ => ?_⟩) h
  simp [execOp, hop, resolve, invoke, builtin, hx, Result.andThen, Builtin.len_]
  simp [run_underlying ht, go_sem]
end
end Go.Sky
