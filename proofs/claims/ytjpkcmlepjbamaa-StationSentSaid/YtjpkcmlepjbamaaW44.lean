/- Contracts: items: the search for a name, itemErr, CheckQueue, queueErr. -/
import Derived.Test.YtjpkcmlepjbamaaW37
import Derived.Test.YtjpkcmlepjbamaaW43
import Derived.Test.YtjpkcmlepjbamaaSpecN
namespace Go.Proofs.Ytjpkcmlepjbamaa
open Go.RowKit Go.Sky

theorem itemClos (x y : Sky.Item) (B : Nat) (w : World) (hb : Bx w B 102 (encM x).toArray) :
    Calls Try.prog 142 #[.agg (encM y).toArray, .pointer (some ⟨B, 0, none⟩)] w fun e w' => e = .returned (.bool (sameN x y)) ∧ New w w' := by
  have c0 : w.cell? ⟨B, 0, none⟩ = some (.string x.n) := hb.cell 0
  have lB := hb.lt
  have nn := (New.refl w).alloc (.cells (encM y).toArray 102)
  have bn := Bx.mk w 102 (encM y).toArray
  have d0 : World.cell? _ ⟨w.heap.size, 0, none⟩ = some (.string y.n) := bn.cell 0
  have d1 := nn.cell c0
  have l2 := bn.lt
  have k1 : B < w.heap.size + 1 := by omega
  have HS := Lib.hid (show sameN x y = (y.n.toList == x.n.toList) from rfl)
  clear hb
  go_enter Try.func142, Try.ntmps142
  go_wp2
  go_ret
  exact ⟨by rw [HS.out]; rfl, nn⟩
set_option maxRecDepth 100000 in
set_option maxHeartbeats 1000000 in
theorem idxFuncT (g : Nat) (cb : Array Value) (p : Sky.Item → Bool) (A : Option Addr) (n cap : Nat) (xs : List (Sky.Item)) (w : World) (hn : n ≤ 1000000) (hr : Rd w 4 encM A n xs) (eg : ∀ (args : Array Value) (W : World), (callFunc g args).run Try.prog W = .ok (.enter g args) W)
    (hp : ∀ x, x ∈ xs → ∀ W, New w W → Calls Try.prog g (#[.agg #[.string x.n, .int .i64 x.p, .int .i64 x.z, .int .i64 x.t]] ++ cb) W fun e w' => e = .returned (.bool (p x)) ∧ New W w') :
    Calls Try.prog 151 #[.slice A n cap, .func (.func g) #[] cb] w fun e w' => e = .returned (.int .i64 (idxS p xs)) ∧ New w w' := by
  have HR := Lib.hid hr; clear hr
  have HP := Lib.hid hp; clear hp
  go_enter Try.func151, Try.ntmps151
  go_wp2
  go_loopw [5, 8] (fun _ i wr => ∃ k : Nat, k ≤ n ∧ i = .int .i64 k ∧ Hid (∀ j x, j < k → xs[j]? = some x → p x = false) ∧ New w wr) (fun _ i _ => n - (intOf i).toNat)
  case atStart => exact ⟨0, by omega, rfl, (fun j x hj => absurd hj (by omega)), New.refl _⟩
  case round =>
    obtain ⟨k, hk, rfl, HF, hN⟩ := hrel
    by_cases hlt : k < n
    · obtain ⟨b, o, x, rfl, hb, hx, hc⟩ := (HR.out.keep hN).at_ hlt
      have g0 := hc 0 _ rfl
      have g1 := hc 1 _ rfl
      have g2 := hc 2 _ rfl
      have g3 := hc 3 _ rfl
      simp only [Nat.add_zero] at g0
      have HX := Lib.hid hx
      clear hx hc
      obtain ⟨q, hq⟩ : ∃ q, p x = q := ⟨_, rfl⟩
      have HQ := Lib.hid hq
      cases q
      all_goals
        go_wp2_with fail
        refine (HP.out x (List.mem_of_getElem? HX.out) _ hN).mono ?_
        rintro e w1 ⟨he, hn1⟩
        rw [HQ.out] at he
        subst he
        clear hq
      · go_wp2
        go_roundw
        case rel => exact ⟨k + 1, by omega, by go_num, fun j y hj hy => by
          rcases Nat.lt_or_ge j k with h | h
          · exact HF.out j y h hy
          · obtain rfl : j = k := by omega
            have hxy := HX.out
            rw [hy] at hxy
            injection hxy with hxy
            rw [hxy]
            exact HQ.out, hN.trans hn1⟩
        case measure => simp [intOf]; omega
      · go_wp2
        go_ret
        exact ⟨by rw [idxS_hit p xs k x HX.out HQ.out HF.out]; rfl, hN.trans hn1⟩
    · go_wp2
      go_ret
      exact ⟨by rw [idxS_miss p xs n HR.out.len (fun j y hj hy => HF.out j y (by omega) hy)]; rfl, hN⟩

set_option maxRecDepth 100000 in
set_option maxHeartbeats 400000 in
theorem containsFuncT (g : Nat) (cb : Array Value) (p : Sky.Item → Bool) (A : Option Addr) (n cap : Nat) (xs : List Sky.Item) (w : World) (hn : n ≤ 1000000) (hr : Rd w 4 encM A n xs) (eg : ∀ (args : Array Value) (W : World), (callFunc g args).run Try.prog W = .ok (.enter g args) W)
    (hp : ∀ x, x ∈ xs → ∀ W, New w W → Calls Try.prog g (#[.agg #[.string x.n, .int .i64 x.p, .int .i64 x.z, .int .i64 x.t]] ++ cb) W fun e w' => e = .returned (.bool (p x)) ∧ New W w') :
    Calls Try.prog 141 #[.slice A n cap, .func (.func g) #[] cb] w fun e w' => e = .returned (.bool (xs.any p)) ∧ New w w' := by
  have HR := Lib.hid hr; clear hr
  have HP := Lib.hid hp; clear hp
  have HG := Lib.hid eg; clear eg
  have HA := Lib.hid (idxS_any p xs)
  go_enter Try.func141, Try.ntmps141
  go_wp2_with (go_at_call 151; refine (idxFuncT g cb p A n cap xs _ hn HR.out HG.out HP.out).mono ?_; rintro e w1 ⟨rfl, hn1⟩)
  go_ret
  exact ⟨by rw [← HA.out]; rfl, hn1⟩


set_option maxRecDepth 100000 in
set_option maxHeartbeats 2000000 in
theorem itemErr_any (x : Sky.Item) (A : Option Addr) (n cap : Nat) (q : List Sky.Item) (w : World) (hn : n ≤ 1000000) (hx : x.n.size ≤ 1000) (hr : Rd w 4 encM A n q) :
    Calls Try.prog 113 #[.slice A n cap, .agg #[.string x.n, .int .i64 x.p, .int .i64 x.z, .int .i64 x.t]] w fun e w' => e = .returned (.int .i64 (itemE q x)) ∧ New w w' := by
  have HR := Lib.hid hr; clear hr
  have HG := Lib.hid (enters_go (f := 142) Try.func142 (by kernel_rfl) rfl)
  have b1 := Bx.mk w 102 (encM x).toArray
  have hN := (New.refl w).alloc (.cells (encM x).toArray 102)
  have HV := Lib.hid (show itemE q x = firstE [errU (nameI x) 4, errU (!q.any (sameN x)) 5, errU (rangeI x) 2] from rfl)
  go_enter Try.func113, Try.ntmps113
  go_wp2_with fail
  refine (containsFuncT 142 #[.pointer (some ⟨w.heap.size, 0, none⟩)] (sameN x) A n cap q _ hn (HR.out.keep hN) HG.out (fun y _ W hW => itemClos x y w.heap.size W (b1.keep hW))).mono ?_
  rintro e w1 ⟨rfl, n1⟩
  have b2 := b1.keep n1
  have nw1 := hN.trans n1
  obtain ⟨kn, hkn⟩ : ∃ k, q.any (sameN x) = k := ⟨_, rfl⟩
  rw [hkn] at HV ⊢
  have HN := Lib.hid (show nameI x = nameS x.n.data.toList from rfl)
  have HX := Lib.hid hx
  have c0 : w1.cell? ⟨w.heap.size, 0, none⟩ = some (.string x.n) := b2.cell 0
  have c1 : w1.cell? ⟨w.heap.size, 1, none⟩ = some (.int .i64 x.p) := b2.cell 1
  have c2 : w1.cell? ⟨w.heap.size, 2, none⟩ = some (.int .i64 x.z) := b2.cell 2
  have c3 : w1.cell? ⟨w.heap.size, 3, none⟩ = some (.int .i64 x.t) := b2.cell 3
  have lb := b2.lt
  clear b1 hN hkn hx n1 b2
  obtain ⟨c, HC, hcase⟩ : ∃ c, Hid (rangeI x = c) ∧ ((c = false ∧ inR x.p 0 9 = false) ∨ (c = false ∧ inR x.p 0 9 = true ∧ inR x.z 1 10000 = false) ∨ (inR x.p 0 9 = true ∧ inR x.z 1 10000 = true ∧ tick x.t = c)) := by
    refine ⟨_, rfl, ?_⟩
    unfold rangeI
    cases inR x.p 0 9 <;> cases inR x.z 1 10000 <;> cases tick x.t <;> simp
  rcases hcase with ⟨rfl, h1⟩ | ⟨rfl, h1, h2⟩ | ⟨h1, h2, h3⟩
  all_goals
    go_wp2_with (first | (go_at_call 96; refine (within_is _ _ _ true _ (by assumption)).mono ?_; rintro e w' ⟨rfl, rfl⟩) | (go_at_call 96; refine (within_is _ _ _ false _ (by assumption)).mono ?_; rintro e w' ⟨rfl, rfl⟩) | (go_at_call 87; refine (isTick_is _ c _ (by assumption)).mono ?_; rintro e w' ⟨rfl, rfl⟩) | (go_at_call 86; refine (unless_any _ _ _).mono ?_; rintro e w' ⟨rfl, rfl⟩))
    refine (isName_any _ _ HX.out).mono ?_
    rintro e w2 ⟨rfl, n2⟩
    rw [← HN.out]
    go_wp2_with (first | (go_at_call 86; refine (unless_any _ _ _).mono ?_; rintro e w' ⟨rfl, rfl⟩))
    refine (first_any _ 3 3 [_, _, _] _ (by omega) rfl (cells_new _ _ _ _ (by simp) _ rfl)).mono ?_
    rintro e w3 ⟨rfl, hw3⟩
    rw [← HC.out, ← HV.out]
    go_wp2_with fail
    go_ret
    exact ⟨rfl, by rw [← hw3]; exact (nw1.trans n2).alloc _⟩

theorem itemErr_is (x : Sky.Item) (E : Int) (A : Option Addr) (n cap : Nat) (q : List Sky.Item) (w : World) (hn : n ≤ 1000000) (hx : x.n.size ≤ 1000) (hr : Rd w 4 encM A n q) (h : itemE q x = E) :
    Calls Try.prog 113 #[.slice A n cap, .agg #[.string x.n, .int .i64 x.p, .int .i64 x.z, .int .i64 x.t]] w fun e w' => e = .returned (.int .i64 E) ∧ New w w' := h ▸ itemErr_any x A n cap q w hn hx hr

set_option maxRecDepth 100000 in
set_option maxHeartbeats 4000000 in
theorem checkQ_any (A : Option Addr) (n cap : Nat) (q : List Sky.Item) (w : World) (hn : n ≤ 1000000) (hcap : n ≤ cap) (hx : ∀ x ∈ q, x.n.size ≤ 1000) (hr : Rd w 4 encM A n q) :
    Calls Try.prog 56 #[.slice A n cap] w fun e w' => e = .returned (.tuple #[.int .i64 (queueS q).1, .int .i64 (queueS q).2]) ∧ New w w' := by
  have HL := Lib.hid hr.len
  have HR := Lib.hid hr; clear hr
  have HX := Lib.hid hx; clear hx
  by_cases h20 : 20 < n
  · have HV := Lib.hid (show queueS q = (0, 8) by unfold queueS; rw [if_pos (by rw [HL.out]; exact h20)])
    go_enter Try.func56, Try.ntmps56
    go_wp2_with fail
    go_ret2
    exact ⟨by rw [HV.out]; rfl, New.refl _⟩
  have HV := Lib.hid (show queueS q = queueFrom (q.take 0) (q.drop 0) ((0 : Nat) : Int) by unfold queueS; rw [if_neg (by rw [HL.out]; exact h20)]; rfl)
  go_enter Try.func56, Try.ntmps56
  go_wp2_with fail
  go_loopw [4, 5, 6, 12] (fun _ _ _ i wr => ∃ k : Nat, k ≤ n ∧ i = .int .i64 (k : Int) ∧ Hid (queueS q = queueFrom (q.take k) (q.drop k) (k : Int)) ∧ New w wr) (fun _ _ _ i _ => n - (intOf i).toNat)
  case atStart => exact ⟨0, by omega, rfl, HV, New.refl _⟩
  case round =>
    clear HV
    obtain ⟨k, hk, rfl, HF, hN⟩ := hrel
    by_cases hlt : k < n
    · obtain ⟨b, o, x, rfl, hb, hx, hc⟩ := (HR.out.keep hN).at_ hlt
      have g0 := hc 0 _ rfl
      have g1 := hc 1 _ rfl
      have g2 := hc 2 _ rfl
      have g3 := hc 3 _ rfl
      simp only [Nat.add_zero] at g0
      have HST := Lib.hid (HF.out.trans (queueFrom_step hx))
      have HXS := Lib.hid (HX.out x (List.mem_of_getElem? hx))
      have HRT := Lib.hid ((HR.out.keep hN).take (m := k) (by omega))
      clear hx hc HF
      have nn := hN.alloc (.cells (encM x).toArray 102)
      have bx := Bx.mk wr 102 (encM x).toArray
      have nn1 := (New.refl wr).alloc (.cells (encM x).toArray 102)
      have d0 : World.cell? _ ⟨wr.heap.size, 0, none⟩ = some (.string x.n) := bx.cell 0
      have d1 : World.cell? _ ⟨wr.heap.size, 1, none⟩ = some (.int .i64 x.p) := bx.cell 1
      have d2 : World.cell? _ ⟨wr.heap.size, 2, none⟩ = some (.int .i64 x.z) := bx.cell 2
      have d3 : World.cell? _ ⟨wr.heap.size, 3, none⟩ = some (.int .i64 x.t) := bx.cell 3
      have lb := bx.lt
      have i0 : (0 : Int) ≤ (k : Int) := by omega
      have i1 : (k : Int) ≤ (cap : Int) := by omega
      obtain ⟨E, hE⟩ : ∃ E, itemE (q.take k) x = E := ⟨_, rfl⟩
      have HE := Lib.hid hE
      have hz : (E = 0 ∧ (E != 0) = false) ∨ (E ≠ 0 ∧ (E != 0) = true) := by
        by_cases h : E = 0
        · exact .inl ⟨h, by simpa using h⟩
        · exact .inr ⟨h, by simpa using h⟩
      clear hE
      rcases hz with ⟨hz0, b2⟩ | ⟨hz0, b2⟩
      all_goals
        have HZ := Lib.hid hz0
        clear hz0
        go_wp2
        (refine wp_region_new (by kernel_rfl) (by kernel_rfl) ?_; (repeat (go_big_quiet_step (((go_at_call 113; exact quiet_new (itemErr_is x E _ k cap (q.take k) _ (by omega) HXS.out (by exact HRT.out.keep (nn1.trans (plus_new _ _))) HE.out)))))); refine wpQuiet_nil ?_)
        intro w2 n2
        go_wp2
      · go_roundw
        case rel => exact ⟨k + 1, by omega, by go_num, by rw [HST.out, HE.out, if_pos HZ.out]; rfl, nn.trans n2⟩
        case measure => simp [intOf]; omega
      · go_ret2
        exact ⟨by rw [HST.out, HE.out, if_neg HZ.out]; rfl, nn.trans n2⟩
    · obtain rfl : k = n := by omega
      have HV := Lib.hid (show queueS q = (0, 0) by
        rw [HF.out, List.drop_of_length_le (by rw [HL.out]; exact Nat.le_refl _)]; rfl)
      go_wp2_with fail
      go_ret2
      exact ⟨by rw [HV.out]; rfl, hN⟩

theorem queueErr_any (A : Option Addr) (n cap : Nat) (q : List Sky.Item) (w : World) (hn : n ≤ 1000000) (hcap : n ≤ cap) (hx : ∀ x ∈ q, x.n.size ≤ 1000) (hr : Rd w 4 encM A n q) :
    Calls Try.prog 114 #[.slice A n cap] w fun e w' => e = .returned (.int .i64 (queueS q).2) ∧ New w w' := by
  have HR := Lib.hid hr; clear hr
  have HX := Lib.hid hx; clear hx
  go_enter Try.func114, Try.ntmps114
  go_wp2_with fail
  refine (checkQ_any A n cap q _ hn hcap HX.out HR.out).mono ?_
  rintro e w' ⟨rfl, n1⟩
  go_wp2
  go_ret
  exact ⟨rfl, n1⟩
end Go.Proofs.Ytjpkcmlepjbamaa
