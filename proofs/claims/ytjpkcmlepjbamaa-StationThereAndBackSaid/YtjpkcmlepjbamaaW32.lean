/- Contract: the reference's Unpacked. -/
import Derived.Test.YtjpkcmlepjbamaaW31
import Derived.Test.YtjpkcmlepjbamaaW29
import Derived.Deep.DeepCutAuto
namespace Go.Proofs.Ytjpkcmlepjbamaa
open Go.RowKit Go.Sky

theorem unpE_kind {way : Int} {ns : List Int} (h : inR way 0 2 = false) : unpE way ns = 15 := by unfold unpE; rw [h]; rfl
theorem unpE_large {way : Int} {ns : List Int} (h : inR way 0 2 = true) (h2 : 400 < ns.length) : unpE way ns = 8 := by
  unfold unpE; rw [h, show decide ((ns.length : Int) ≤ 400) = false from decide_eq_false (by omega)]; rfl
theorem unpE_odd {way : Int} {ns : List Int} (h : inR way 0 2 = true) (h2 : ¬ 400 < ns.length) (h3 : ¬ way = 0) (h4 : ¬ ns.length % 2 = 0) : unpE way ns = 10 := by
  unfold unpE; rw [h, show decide ((ns.length : Int) ≤ 400) = true from decide_eq_true (by omega), decide_eq_false h3, decide_eq_false h4]; rfl
theorem unpE_ok {way : Int} {ns : List Int} (h : inR way 0 2 = true) (h2 : ¬ 400 < ns.length) (h3 : way = 0 ∨ ns.length % 2 = 0) : unpE way ns = 0 := by
  unfold unpE; rw [h, show decide ((ns.length : Int) ≤ 400) = true from decide_eq_true (by omega)]
  rcases h3 with h3 | h3
  · rw [decide_eq_true h3]; rfl
  · rw [decide_eq_true h3, Bool.or_true]; rfl
theorem unp_err {way : Int} {ns : List Int} {e : Int} (h : unpE way ns = e) (h0 : e ≠ 0) : unpS way ns = ([], e) := by rw [unp_bad (by rw [h]; exact h0), h]

/-- What the series comes to, out of its numbers before they are summed up. -/
def finS (way : Int) (l : List Int) : List Int × Int := if 200 < l.length then ([], 8) else match runU way l with
  | some r => (r.1, 0)
  | none => ([], 2)
theorem expU_len {ns : List Int} : ∀ {h : Nat}, (∀ i, i < h → 1 ≤ cntU ns i) → ((expU ns h).length : Int) = sumU ns h
  | 0, _ => rfl
  | h + 1, hh => by
    have h1 := expU_len (ns := ns) (h := h) (fun i hi => hh i (by omega))
    have h2 := hh h (by omega)
    simp only [expU, sumU, List.length_append, List.length_replicate]
    omega
theorem runU_strange {way : Int} (hw : way ≠ 1) : ∀ (l out : List Int) (last : Int), l.any strange = true → l.foldl (stepU way) (some (out, last)) = none
  | [], _, _, h => by simp at h
  | x :: l, out, last, h => by
    rw [List.foldl_cons]
    by_cases hx : strange x = true
    · have e : stepU way (some (out, last)) x = none := by
        simp only [stepU, if_neg hw]
        rw [if_neg (fun h => by unfold strange at hx; rw [h.2] at hx; exact absurd hx (by decide))]
      rw [e, stepU_none]
    · have h' : l.any strange = true := by rw [List.any_cons] at h; simpa [hx] using h
      have e : stepU way (some (out, last)) x = some (out ++ [x], x) := by
        simp only [stepU, if_neg hw]
        rw [if_pos ⟨fun h0 => absurd h0 hw, by unfold strange at hx; simpa using hx⟩]
      rw [e]
      exact runU_strange hw l _ _ h'
theorem fin_plain {ns : List Int} (h : unpE 0 ns = 0) : unpS 0 ns = finS 0 ns := by
  rw [unp_plain h]
  unfold finS
  by_cases h2 : 200 < ns.length
  · rw [if_pos h2, ser_large h2, if_pos (by decide)]
  · rw [if_neg h2]
    by_cases hs : ns.any strange = true
    · have h1 : serE ns = 2 := by
        unfold serE
        rw [hs, show decide (((ns.length : Nat) : Int) ≤ 200) = true from decide_eq_true (by omega)]; rfl
      rw [h1, if_pos (by decide)]
      unfold runU
      rw [runU_strange (by decide) ns [] 0 hs]
    · rw [Bool.not_eq_true] at hs
      have h1 : serE ns = 0 := by
        unfold serE
        rw [hs, show decide (((ns.length : Nat) : Int) ≤ 200) = true from decide_eq_true (by omega)]; rfl
      rw [h1, if_neg (by decide)]
      obtain ⟨z, hz⟩ := runU_plain (way := 0) (by decide) ns [] 0 (fun x hx => by
        rw [List.any_eq_false] at hs
        have := hs x hx
        unfold strange inR at this
        simpa using this)
      unfold runU
      rw [hz]
      rfl
theorem fin_pairs {way : Int} {ns : List Int} {h : Nat} (hl : ns.length = 2 * h) (hE : unpE way ns = 0) (hw : ¬ way = 0) (hc : cntsOk ns h = true) : unpS way ns = finS way (expU ns h) := by
  have h1 := expU_len (ns := ns) (h := h) (fun i hi => (cntsOk_at hi hc).1)
  rw [unp_go hl hE hw, if_neg (by rw [hc]; decide)]
  unfold finS
  by_cases h2 : 200 < sumU ns h
  · rw [if_pos h2, if_pos (by omega)]
  · rw [if_neg h2, if_neg (by omega)]
    rfl
theorem fin_large {way : Int} {l : List Int} (h : 200 < l.length) : finS way l = ([], 8) := by unfold finS; rw [if_pos h]
theorem fin_none {way : Int} {l : List Int} (h : ¬ 200 < l.length) (hr : runU way l = none) : finS way l = ([], 2) := by unfold finS; rw [if_neg h, hr]
theorem fin_some {way : Int} {l out : List Int} {z : Int} (h : ¬ 200 < l.length) (hr : runU way l = some (out, z)) : finS way l = (out, 0) := by unfold finS; rw [if_neg h, hr]

theorem drop_at {l0 : List Int} {i : Nat} {v : Int} (h : l0[i]? = some v) : l0.drop i = v :: l0.drop (i + 1) := by
  obtain ⟨hi, rfl⟩ := List.getElem?_eq_some_iff.1 h
  exact List.drop_eq_getElem_cons hi
theorem set_mid {out l0 : List Int} {i : Nat} {v x : Int} (ho : out.length = i) (h : l0[i]? = some v) : (out ++ l0.drop i).set i x = (out ++ [x]) ++ l0.drop (i + 1) := by
  rw [drop_at h, List.set_append_right _ _ (by omega), ho, Nat.sub_self, List.set_cons_zero, List.append_assoc]
  rfl
theorem mid_keep {out l0 : List Int} {i : Nat} {v : Int} (h : l0[i]? = some v) : out ++ l0.drop i = (out ++ [v]) ++ l0.drop (i + 1) := by
  rw [drop_at h, List.append_assoc]; rfl
theorem mid_at {out l0 : List Int} {i : Nat} {v : Int} (ho : out.length = i) (h : l0[i]? = some v) : (out ++ l0.drop i)[i]? = some v := by
  rw [drop_at h, List.getElem?_append_right (by omega), ho, Nat.sub_self]; rfl
theorem mid_before {out l0 : List Int} {i : Nat} {y : Int} (h0 : 0 < i) (ho : out.length = i) (h : out[i - 1]? = some y) : (out ++ l0.drop i)[i - 1]? = some y := by
  rw [List.getElem?_append_left (by omega)]; exact h
theorem run_next {way : Int} {l0 out : List Int} {i : Nat} {v last : Int} (h : l0[i]? = some v) (hr : runU way (l0.take i) = some (out, last)) : runU way (l0.take (i + 1)) = stepU way (some (out, last)) v := by
  rw [take_snoc l0 i v h, runU_snoc, hr]
theorem run_stop {way : Int} {l0 : List Int} {i : Nat} (h : runU way (l0.take i) = none) : runU way l0 = none := runU_prefix (List.take_prefix i l0) h
theorem step_other {way : Int} (hw : ¬ way = 1) (out : List Int) (last v : Int) : stepU way (some (out, last)) v = if inR v (-1000000000) 1000000000 = true then some (out ++ [v], v) else none := by
  simp [stepU, hw]
theorem step_first {out : List Int} (v : Int) : stepU 1 (some (out, 0)) v = if inR v (-1000000000) 1000000000 = true then some (out ++ [v], v) else none := by
  rw [step_one, Int.add_zero]
  by_cases h : inR v (-1000000000) 1000000000 = true
  · rw [if_pos h, if_pos ⟨by unfold inR at *; have := of_decide_eq_true h; exact decide_eq_true (by omega), h⟩]
  · rw [if_neg h, if_neg (fun h' => h h'.2)]

set_option maxRecDepth 100000 in
set_option maxHeartbeats 4000000 in
theorem refUnp_any (way : Int) (A : Option Addr) (n cap : Nat) (ns : List Int) (w : World) (hn : n ≤ 100000) (hr : Rd w 1 encI A n ns) :
    Calls Try.prog 41 #[.agg #[.int .i64 way, .slice A n cap]] w (UnpPost w way ns) := by
  obtain ⟨i0, hi, hz0, hz1, hz2⟩ := info_parts infoInt
  have HL := Lib.hid hr.len
  have HR := Lib.hid hr; clear hr
  have b1 := Bx.mk w 58 #[.int .i64 way, .slice A n cap]
  have c0 : World.cell? _ _ = some _ := b1.cell 0
  have c1 : World.cell? _ _ = some _ := b1.cell 1
  have lb := b1.lt
  have hN := (New.refl w).alloc (.cells #[.int .i64 way, .slice A n cap] 58)
  obtain ⟨q, hq⟩ : ∃ q, inR way 0 2 = q := ⟨_, rfl⟩
  cases q
  · have HV := Lib.hid (unp_err (unpE_kind (ns := ns) hq) (by decide))
    have HQ := Lib.hid hq; clear hq
    go_enter Try.func41, Try.ntmps41
    go_wp2_with fail
    refine (bWithin_is way 0 2 _ _ HQ.out).mono ?_
    rintro e w' ⟨rfl, rfl⟩
    go_wp2_with fail
    go_ret2
    exact ⟨none, 0, 0, by rw [HV.out]; rfl, by rw [HV.out]; exact Rd.nil _ _ _ _, hN⟩
  · by_cases h4 : 400 < n
    · have HV := Lib.hid (unp_err (unpE_large (ns := ns) hq (by rw [HL.out]; exact h4)) (by decide))
      have HQ := Lib.hid hq; clear hq
      go_enter Try.func41, Try.ntmps41
      go_wp2_with fail
      refine (bWithin_is way 0 2 _ _ HQ.out).mono ?_
      rintro e w' ⟨rfl, rfl⟩
      go_wp2_with fail
      go_ret2
      exact ⟨none, 0, 0, by rw [HV.out]; rfl, by rw [HV.out]; exact Rd.nil _ _ _ _, hN⟩
    · have HQ := Lib.hid hq; clear hq
      have hway : 0 ≤ way ∧ way ≤ 2 := by have := HQ.out; unfold inR at this; exact of_decide_eq_true this
      go_enter Try.func41, Try.ntmps41
      go_wp2_with fail
      refine (bWithin_is way 0 2 _ _ HQ.out).mono ?_
      rintro e w' ⟨rfl, rfl⟩
      go_upto_if 19 with (fail)
      obtain ⟨W0, hW0⟩ : ∃ W0, w.alloc (.cells #[.int .i64 way, .slice A n cap] 58) = W0 := ⟨_, rfl⟩
      have hWs : W0.heap.size = w.heap.size + 1 := by rw [← hW0]; simp
      rw [hW0] at b1 c0 c1 lb hN ⊢
      clear hW0
      go_cut [4] (fun s4 wx => ∃ (A4 : Option Addr) (m4 c4 : Nat) (l0 : List Int), s4 = .slice A4 m4 c4 ∧ Sky.Own wx (w.heap.size + 1) 3 1 encI A4 m4 c4 l0 ∧ New w wx ∧ Bx wx w.heap.size 58 #[.int .i64 way, .slice A n cap] ∧ m4 ≤ 40000 ∧ Hid (unpS way ns = finS way l0))
      case first =>
        by_cases hw : way = 0
        · subst hw
          have HV := Lib.hid (fin_plain (unpE_ok (ns := ns) HQ.out (by rw [HL.out]; exact h4) (.inl rfl)))
          go_wp2_with fail
          refine (copyInts_any A n cap ns _ (by omega) (HR.out.keep hN)).mono ?_
          rintro e w2 ⟨A2, c2, rfl, hown2, n2⟩
          have hF := hown2.base_le (base' := w.heap.size + 1) (by omega)
          have bF := b1.keep n2
          have nF := hN.trans n2
          clear hown2 n2
          go_wp2_with fail
          go_meet
          exact ⟨A2, n, c2, ns, rfl, hF, nF, bF, by omega, HV⟩
        · have hwb : (way == 0) = false := by simpa using hw
          rw [hwb]
          by_cases hod : n % 2 = 0
          · have hod2 : ((n : Int) % 2 != 0) = false := by simp; omega
            obtain ⟨h, hh1, hh2⟩ : ∃ h, n ≤ 2 * h ∧ 2 * h ≤ n := ⟨n / 2, by omega, by omega⟩
            have HLH := Lib.hid (show ns.length = 2 * h by rw [HL.out]; omega)
            have HE := Lib.hid (unpE_ok (ns := ns) HQ.out (by rw [HL.out]; exact h4) (.inr (by rw [HL.out]; exact hod)))
            have HW := Lib.hid hw
            clear hw hod
            go_wp2_with fail
            go_loopw [5] (fun i wr => ∃ k : Nat, k ≤ h ∧ i = .int .i64 ((2 * k + 1 : Nat) : Int) ∧ Hid (cntsOk ns k = true) ∧ wr = W0) (fun i _ => 2 * h + 1 - (intOf i).toNat)
            case atStart => exact ⟨0, by omega, rfl, rfl, rfl⟩
            case round =>
              obtain ⟨k, hk, rfl, HC, rfl⟩ := hrel
              by_cases hkh : k < h
              · obtain ⟨b, o, v, rfl, hb, hv, hc⟩ := (HR.out.keep hN).at_ (i := 2 * k + 1) (by omega)
                have g0 := hc 0 _ rfl
                simp only [Nat.add_zero, Nat.mul_one] at g0
                have HVC := Lib.hid (show cntU ns k = v by unfold cntU; rw [List.getD_eq_getElem?_getD, hv]; rfl)
                clear hv hc
                go_wp2_with fail
                refine (bWithin_any _ _ _ _).mono ?_
                rintro e w' ⟨rfl, rfl⟩
                obtain ⟨q, hq⟩ : ∃ q, inR v 1 200 = q := ⟨_, rfl⟩
                rw [hq]
                have HST := Lib.hid (show cntsOk ns (k + 1) = q by rw [cntsOk_step, HC.out, HVC.out, hq]; rfl)
                clear hq
                cases q
                · have HV := Lib.hid (unp_cnt HLH.out HE.out HW.out (cntsOk_mono (by omega) HST.out))
                  go_wp2_with fail
                  go_ret2
                  exact ⟨none, 0, 0, by rw [HV.out]; rfl, by rw [HV.out]; exact Rd.nil _ _ _ _, hN⟩
                · go_wp2_with fail
                  go_roundw
                  case rel => exact ⟨k + 1, by omega, by go_num, HST, trivial⟩
                  case measure => simp [intOf]; omega
              · obtain rfl : k = h := by omega
                go_wp2_with fail
                go_loopw [4, 6] (fun s4 i wr => ∃ (j : Nat) (A' : Option Addr) (m c' : Nat), j ≤ k ∧ s4 = .slice A' m c' ∧ i = .int .i64 ((2 * j : Nat) : Int) ∧ m ≤ 200 * j ∧ Sky.Own wr (w.heap.size + 1) 3 1 encI A' m c' (expU ns j) ∧ New w wr ∧ Bx wr w.heap.size 58 #[.int .i64 way, .slice A n cap]) (fun _ i _ => 2 * k - (intOf i).toNat)
                case atStart => exact ⟨0, none, 0, 0, by omega, rfl, rfl, by omega, Sky.Own.nil _ _ _ _ encI_len, hN, b1⟩
                case round =>
                  rename_i w0' _
                  clear c0 c1 lb b1
                  obtain ⟨j, A', m, c', hj, rfl, rfl, hm, hown, hN2, b2⟩ := hrel
                  have c0 : World.cell? _ _ = some _ := b2.cell 0
                  have c1 : World.cell? _ _ = some _ := b2.cell 1
                  have lb := b2.lt
                  by_cases hjk : j < k
                  · obtain ⟨b, o, v1, rfl, hb, hv, hc⟩ := (HR.out.keep hN2).at_ (i := 2 * j + 1) (by omega)
                    have g1 := hc 0 _ rfl
                    simp only [Nat.add_zero, Nat.mul_one] at g1
                    have HVC := Lib.hid (show cntU ns j = v1 by unfold cntU; rw [List.getD_eq_getElem?_getD, hv]; rfl)
                    have hcb := cntsOk_at hjk HC.out
                    rw [HVC.out] at hcb
                    obtain ⟨d1, d2⟩ := hcb
                    obtain ⟨c, rfl⟩ : ∃ c : Nat, v1 = (c : Int) := ⟨v1.toNat, by omega⟩
                    clear hv hc
                    go_wp2_with fail
                    go_loopw [4, 7] (fun s4 i wx => ∃ (t : Nat) (A' : Option Addr) (m c' : Nat), t ≤ c ∧ s4 = .slice A' m c' ∧ i = .int .i64 (t : Int) ∧ m ≤ 200 * j + t ∧ Sky.Own wx (w.heap.size + 1) 3 1 encI A' m c' (expU ns j ++ List.replicate t (valU ns j)) ∧ New w wx ∧ Bx wx w.heap.size 58 #[.int .i64 way, .slice (some ⟨b, o, none⟩) n cap]) (fun _ i _ => c - (intOf i).toNat)
                    case atStart => exact ⟨0, A', m, c', by omega, rfl, rfl, by omega, by simpa using hown, hN2, b2⟩
                    case round =>
                      clear c0 c1 lb g1 hN2 b2 hown hb hm
                      obtain ⟨t, A', m, c', ht, rfl, rfl, hm, hown, hN3, b3⟩ := hrel
                      have c0 : World.cell? _ _ = some _ := b3.cell 0
                      have c1 : World.cell? _ _ = some _ := b3.cell 1
                      have lb := b3.lt
                      obtain ⟨b', o', e', hb, hc⟩ := (HR.out.keep hN3).some_ (by omega)
                      injection e' with e'
                      injection e' with e1 e2
                      subst e1 e2
                      obtain ⟨v, hv⟩ : ∃ v, ns[2 * j]? = some v := ⟨_, List.getElem?_eq_getElem (by rw [HL.out]; omega)⟩
                      obtain ⟨z, hz⟩ : ∃ z, ns[2 * j + 1]? = some z := ⟨_, List.getElem?_eq_getElem (by rw [HL.out]; omega)⟩
                      have hzc : z = (c : Int) := by rw [← HVC.out]; unfold cntU; rw [List.getD_eq_getElem?_getD, hz]; rfl
                      have g0 := hc (2 * j) v hv 0 _ rfl
                      have g1 := hc (2 * j + 1) z hz 0 _ rfl
                      simp only [Nat.add_zero, Nat.mul_one] at g0 g1
                      rw [hzc] at g1
                      have HVU := Lib.hid (show valU ns j = v by unfold valU; rw [List.getD_eq_getElem?_getD, hv]; rfl)
                      clear hv hz hzc hc
                      by_cases htc : t < c
                      · go_wp2_with (at_builtin; refine wpList_push _ rfl _ _ 30 rfl 3 i0 _ 1 8 Try.underlying30 hi hz0 hz1 hz2 rfl (by omega) (w.heap.size + 1) encI A' m c' _ rfl (by exact hown.alloc _) _ 1 1 [v] rfl rfl (by omega) (by exact cells_new _ _ _ _ (by simp) _ rfl) encI_one (by unfold maxLen; omega) (by omega) (by have := hN3.size; simp; omega) ?_; intro g cap2 w3 hown3 hg3 hat3 hb3 hlt3 hN4)
                        go_roundw
                        case rel => exact ⟨t + 1, by omega, _, m + 1, cap2, ⟨rfl, rfl, rfl⟩, by omega, by omega, by rw [List.replicate_succ', ← List.append_assoc, HVU.out] at *; exact hown3, (hN3.alloc _).grownOwn (hown.alloc _) (by omega) hg3, (b3.alloc _).grown hg3 (fun e => by have := hown.row_ge _ e.symm; omega)⟩
                        case measure => simp [intOf]; omega
                      · obtain rfl : t = c := by omega
                        go_wp2_with fail
                        go_roundw
                        case rel => exact ⟨j + 1, A', m, c', by omega, rfl, by go_num, by omega, by simp only [expU]; rw [HVC.out]; exact hown, hN3, b3⟩
                        case measure => simp [intOf]; omega
                  · obtain rfl : j = k := by omega
                    go_wp2_with fail
                    go_meet
                    exact ⟨A', m, c', _, rfl, hown, hN2, b2, by omega, Lib.hid (fin_pairs HLH.out HE.out HW.out HC.out)⟩
          · have hod2 : ((n : Int) % 2 != 0) = true := by simp; omega
            have HV := Lib.hid (unp_err (unpE_odd (ns := ns) HQ.out (by rw [HL.out]; exact h4) hw (by rw [HL.out]; exact hod)) (by decide))
            clear hw hod
            go_wp2_with fail
            go_ret2
            exact ⟨none, 0, 0, by rw [HV.out]; rfl, by rw [HV.out]; exact Rd.nil _ _ _ _, hN⟩
      case rest =>
        obtain ⟨A4, m4, c4, l0, rfl, hown, hN4, b4, hm4, HV⟩ := hcut
        have HM := Lib.hid hown.len
        have nil_end : ∀ (W : World), New w W → ∀ e : Int, unpS way ns = ([], e) → UnpPost w way ns (.returned (.tuple #[.slice none 0 0, .int .i64 e])) W := fun W hW e he => ⟨none, 0, 0, by rw [he], by rw [he]; exact Rd.nil _ _ _ _, hW⟩
        have NE := Lib.hid nil_end
        clear nil_end c0 c1 lb b1
        by_cases h2 : 200 < m4
        · have HV2 := Lib.hid (show unpS way ns = ([], 8) by rw [HV.out, fin_large (by rw [HM.out]; exact h2)])
          go_wp2_with fail
          go_ret2
          exact NE.out _ hN4 8 HV2.out
        · go_wp2_with fail
          go_loopw [8] (fun i wr => ∃ (k : Nat) (out : List Int) (last : Int), k ≤ m4 ∧ i = .int .i64 (k : Int) ∧ Hid (runU way (l0.take k) = some (out, last)) ∧ Hid (out.length = k) ∧ Hid (0 < k → out[k - 1]? = some last) ∧ Hid (k = 0 → last = 0) ∧ -1000000000 ≤ last ∧ last ≤ 1000000000 ∧ Sky.Own wr (w.heap.size + 1) 3 1 encI A4 m4 c4 (out ++ l0.drop k) ∧ New w wr ∧ Bx wr w.heap.size 58 #[.int .i64 way, .slice A n cap]) (fun i _ => m4 - (intOf i).toNat)
          case atStart => exact ⟨0, [], 0, by omega, rfl, rfl, rfl, (fun h => absurd h (by omega)), (fun _ => rfl), by omega, by omega, hown, hN4, b4⟩
          case round =>
            clear hown hN4 b4
            obtain ⟨k, out, last, hk, rfl, HR2, HO, HLa, HZ, hl1, hl2, hown, hN5, b5⟩ := hrel
            have c0 : World.cell? _ _ = some _ := b5.cell 0
            have lb := b5.lt
            by_cases hkm : k < m4
            · obtain ⟨v, hv⟩ : ∃ v, l0[k]? = some v := ⟨_, List.getElem?_eq_getElem (by rw [HM.out]; exact hkm)⟩
              have HX := Lib.hid hv
              have hat := mid_at HO.out hv
              rcases hown.form with ⟨_, h0, _⟩ | ⟨g, rfl, hg1, hg2, hg3, hg4⟩
              · omega
              have ca := hown.cell1 k v _ hat rfl
              have fa := hown.free k
              clear hv hat
              by_cases hw1 : way = 1
              · subst hw1
                by_cases hk0 : 0 < k
                · have dk : decide (0 < k) = true := by simpa using hk0
                  obtain ⟨j, rfl⟩ : ∃ j, k = j + 1 := ⟨k - 1, by omega⟩
                  have hbf := mid_before (l0 := l0) hk0 HO.out (HLa.out hk0)
                  have cb := hown.cell1 j last _ hbf rfl
                  clear hbf
                  go_wp2_with fail
                  refine (bWithin_any _ _ _ _).mono ?_
                  rintro e w' ⟨rfl, rfl⟩
                  obtain ⟨q1, hq1⟩ : ∃ q, inR v (-2000000000) 2000000000 = q := ⟨_, rfl⟩
                  rw [hq1]
                  cases q1
                  · have HST := Lib.hid (show runU 1 (l0.take (j + 1 + 1)) = none by rw [run_next HX.out HR2.out, step_one, hq1]; rfl)
                    clear hq1
                    have HV3 := Lib.hid (show unpS 1 ns = ([], 2) by rw [HV.out]; exact fin_none (by rw [HM.out]; exact h2) (run_stop (i := j + 1 + 1) HST.out))
                    go_wp2_with fail
                    go_ret2
                    exact NE.out _ hN5 2 HV3.out
                  · have HQ1 := Lib.hid hq1
                    have hvb : -2000000000 ≤ v ∧ v ≤ 2000000000 := by unfold inR at hq1; exact of_decide_eq_true hq1
                    clear hq1
                    obtain ⟨hv1, hv2⟩ := hvb
                    go_wp2_with fail
                    (refine wp_region_tail 13 (by kernel_rfl) (by kernel_rfl) ?_; simp only [List.take_succ_cons, List.take_zero, List.drop_succ_cons, List.drop_zero]; (repeat (go_big_quiet_step ((fail)))); refine wpQuiet_nil ?_)
                    intro W1 n1
                    have hown1 := hown.keep n1
                    have b51 := b5.keep n1
                    have n51 := hN5.trans n1
                    have hset := hown1.set1 (j + 1) (v + last) (.int .i64 (v + last)) (by omega) rfl
                    rw [set_mid HO.out HX.out] at hset
                    have hsum : (out ++ [v + last] ++ l0.drop (j + 1 + 1))[j + 1]? = some (v + last) := by rw [List.append_assoc, List.getElem?_append_right (by rw [HO.out]; exact Nat.le_refl _), HO.out, Nat.sub_self]; rfl
                    have cx := hset.cell1 (j + 1) (v + last) _ hsum rfl
                    have fx := hown1.free (j + 1)
                    have cy : W1.cell? _ = some _ := n1.cell ca
                    have gl : g < W1.heap.size := Nat.lt_of_lt_of_le hg2 n1.size
                    clear hsum ca fa cb c0 lb
                    have c0 : W1.cell? _ = some _ := b51.cell 0
                    have lb := b51.lt
                    go_wp2_with fail
                    refine (bWithin_any _ _ _ _).mono ?_
                    rintro e w' ⟨rfl, rfl⟩
                    have bF := b51.far (p := ⟨g, j + 1, none⟩) (by show _ ≠ g; omega) (.int .i64 (v + last))
                    have nF := n51.setCell (p := ⟨g, j + 1, none⟩) (by show _ ≤ g; omega) (.int .i64 (v + last))
                    obtain ⟨q, hq⟩ : ∃ q, inR (v + last) (-1000000000) 1000000000 = q := ⟨_, rfl⟩
                    rw [hq]
                    cases q
                    · have HST := Lib.hid (show runU 1 (l0.take (j + 1 + 1)) = none by rw [run_next HX.out HR2.out, step_one, hq, HQ1.out]; rfl)
                      clear hq
                      have HV3 := Lib.hid (show unpS 1 ns = ([], 2) by rw [HV.out]; exact fin_none (by rw [HM.out]; exact h2) (run_stop (i := j + 1 + 1) HST.out))
                      go_wp2_with fail
                      go_ret2
                      exact NE.out _ nF 2 HV3.out
                    · have HST := Lib.hid (show runU 1 (l0.take (j + 1 + 1)) = some (out ++ [v + last], v + last) by rw [run_next HX.out HR2.out, step_one, hq, HQ1.out]; rfl)
                      have hvb : -1000000000 ≤ v + last ∧ v + last ≤ 1000000000 := by unfold inR at hq; exact of_decide_eq_true hq
                      clear hq
                      obtain ⟨hz1', hz2'⟩ := hvb
                      go_wp2_with fail
                      go_roundw
                      case rel => exact ⟨j + 1 + 1, out ++ [v + last], v + last, by omega, by go_num, HST, Lib.hid (by rw [List.length_append, HO.out]; rfl), Lib.hid (fun _ => by rw [List.getElem?_append_right (by rw [HO.out]; omega), HO.out]; simp), Lib.hid (fun h => absurd h (by omega)), hz1', hz2', hset, nF, bF⟩
                      case measure => simp [intOf]; omega
                · obtain rfl : k = 0 := by omega
                  obtain rfl : last = 0 := HZ.out rfl
                  have dk : decide (0 < 0) = false := by simp
                  clear hk0
                  go_wp2_with fail
                  refine (bWithin_any _ _ _ _).mono ?_
                  rintro e w' ⟨rfl, rfl⟩
                  obtain ⟨q, hq⟩ : ∃ q, inR v (-1000000000) 1000000000 = q := ⟨_, rfl⟩
                  rw [hq]
                  cases q
                  · have HST := Lib.hid (show runU 1 (l0.take (0 + 1)) = none by rw [run_next HX.out HR2.out, step_first, hq]; rfl)
                    clear hq
                    have HV3 := Lib.hid (show unpS 1 ns = ([], 2) by rw [HV.out]; exact fin_none (by rw [HM.out]; exact h2) (run_stop (i := 0 + 1) HST.out))
                    go_wp2_with fail
                    go_ret2
                    exact NE.out _ hN5 2 HV3.out
                  · have HST := Lib.hid (show runU 1 (l0.take (0 + 1)) = some (out ++ [v], v) by rw [run_next HX.out HR2.out, step_first, hq]; rfl)
                    have hvb : -1000000000 ≤ v ∧ v ≤ 1000000000 := by unfold inR at hq; exact of_decide_eq_true hq
                    clear hq
                    obtain ⟨hv1, hv2⟩ := hvb
                    go_wp2_with fail
                    go_roundw
                    case rel => exact ⟨0 + 1, out ++ [v], v, by omega, by go_num, HST, Lib.hid (by rw [List.length_append, HO.out]; rfl), Lib.hid (fun _ => by rw [List.getElem?_append_right (by rw [HO.out]; omega), HO.out]; simp), Lib.hid (fun h => absurd h (by omega)), hv1, hv2, by rw [← mid_keep HX.out]; exact hown, hN5, b5⟩
                    case measure => simp [intOf]; omega
              · have hwb : (way == 1) = false := by simpa using hw1
                have HW1 := Lib.hid hw1
                clear hw1
                go_wp2_with fail
                refine (bWithin_any _ _ _ _).mono ?_
                rintro e w' ⟨rfl, rfl⟩
                obtain ⟨q, hq⟩ : ∃ q, inR v (-1000000000) 1000000000 = q := ⟨_, rfl⟩
                rw [hq]
                cases q
                · have HST := Lib.hid (show runU way (l0.take (k + 1)) = none by rw [run_next HX.out HR2.out, step_other HW1.out, hq]; rfl)
                  clear hq
                  have HV3 := Lib.hid (show unpS way ns = ([], 2) by rw [HV.out]; exact fin_none (by rw [HM.out]; exact h2) (run_stop (i := k + 1) HST.out))
                  go_wp2_with fail
                  go_ret2
                  exact NE.out _ hN5 2 HV3.out
                · have HST := Lib.hid (show runU way (l0.take (k + 1)) = some (out ++ [v], v) by rw [run_next HX.out HR2.out, step_other HW1.out, hq]; rfl)
                  have hvb : -1000000000 ≤ v ∧ v ≤ 1000000000 := by unfold inR at hq; exact of_decide_eq_true hq
                  clear hq
                  obtain ⟨hv1, hv2⟩ := hvb
                  go_wp2_with fail
                  go_roundw
                  case rel => exact ⟨k + 1, out ++ [v], v, by omega, by go_num, HST, Lib.hid (by rw [List.length_append, HO.out]; rfl), Lib.hid (fun _ => by rw [List.getElem?_append_right (by rw [HO.out]; omega), HO.out]; simp), Lib.hid (fun h => absurd h (by omega)), hv1, hv2, by rw [← mid_keep HX.out]; exact hown, hN5, b5⟩
                  case measure => simp [intOf]; omega
            · obtain rfl : k = m4 := by omega
              have HF := Lib.hid (show unpS way ns = (out, 0) by
                rw [HV.out]
                refine fin_some (z := last) (by rw [HM.out]; exact h2) ?_
                have := HR2.out
                rw [List.take_of_length_le (by rw [HM.out]; exact Nat.le_refl _)] at this
                exact this)
              have hfin := hown
              rw [List.drop_of_length_le (by rw [HM.out]; exact Nat.le_refl _), List.append_nil] at hfin
              go_wp2_with fail
              go_ret2
              exact ⟨A4, k, c4, by rw [HF.out]; rfl, by rw [HF.out]; exact hfin.rd, hN5⟩
end Go.Proofs.Ytjpkcmlepjbamaa
