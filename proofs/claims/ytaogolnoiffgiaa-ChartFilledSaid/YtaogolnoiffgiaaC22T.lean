/- Contracts: the ends of the value at a place.
   Contracts: divisor, floor, frac, span, ValueAt.
   Contracts: span, ValueAt.
   Contracts: ratios compared, the distance of a span from 0. -/
import Derived.BigQuiet
import Derived.Deep.AppendLies
import Derived.Deep.Draws
import Derived.Deep.Quiet
import Derived.Deep.QuietTactic
import Derived.Laws.BitsAllLaws
import Derived.Laws.Rows
import Derived.Lib.Hide
import Derived.MapKept
import Derived.Maps.Keyed
import Derived.OrdersIn
import Derived.OwnWalkIn
import Derived.RangeFuncCalls
import Derived.Shelf.RegionOpen
import Derived.StillTail
import Derived.TacticsIn
import Derived.Test.YtaogolnoiffgiaaProg
import Derived.WalkKit
import Derived.WalkLawsBesides
import Derived.WalkSpells
import Derived.Test.YtaogolnoiffgiaaC22F
import Derived.Test.YtaogolnoiffgiaaC22H
import Derived.Test.YtaogolnoiffgiaaC22K
import Derived.Test.YtaogolnoiffgiaaC22L
import Derived.Test.YtaogolnoiffgiaaC22S

namespace Go.Proofs.Ytaogolnoiffgiaa
open Go.RowKit Go.Sky Go.Sky.Ch

set_option maxRecDepth 100000 in
set_option maxHeartbeats 8000000 in
theorem cEnds_any (A : Option Addr) (n cap : Nat) (l : List Sta) (x y : Int) (w : World) (h1 : 1 ≤ n) (hn : n ≤ 5) (hr : Rd w 6 encSt A n l) (hs : ∀ s ∈ l, StOk s) (hp : PlOk x y) :
    Calls Try.prog 127 #[.slice A n cap, .agg #[.int .i64 x, .int .i64 y]] w fun e w' => e = .returned (.tuple #[.agg #[.int .i64 (endsS l x y).lo, .int .i64 (endsS l x y).den], .agg #[.int .i64 (endsS l x y).hi, .int .i64 (endsS l x y).den]]) ∧ New w w' := by
  have HL := Lib.hid hr.len
  have HR := Lib.hid hr
  have HS := Lib.hid hs
  have HP := Lib.hid hp
  clear hr hs hp
  have N2 := (((New.refl w).alloc (.cells #[.int .i64 x, .int .i64 y] 73)).alloc (.cells #[.int .i64 0, .int .i64 0] 197)).alloc (.cells #[.int .i64 0, .int .i64 0] 197)
  have b0 := ((Bx.mk w 73 #[.int .i64 x, .int .i64 y]).alloc (.cells #[.int .i64 0, .int .i64 0] 197)).alloc (.cells #[.int .i64 0, .int .i64 0] 197)
  have b1 := (Bx.mk_at (w.alloc (.cells #[.int .i64 x, .int .i64 y] 73)) 197 #[.int .i64 0, .int .i64 0] (w.heap.size + 1) (by simp)).alloc (.cells #[.int .i64 0, .int .i64 0] 197)
  have b2 := Bx.mk_at ((w.alloc (.cells #[.int .i64 x, .int .i64 y] 73)).alloc (.cells #[.int .i64 0, .int .i64 0] 197)) 197 #[.int .i64 0, .int .i64 0] (w.heap.size + 2) (by simp)
  have hsz : w.heap.size + 3 ≤ (((w.alloc (.cells #[.int .i64 x, .int .i64 y] 73)).alloc (.cells #[.int .i64 0, .int .i64 0] 197)).alloc (.cells #[.int .i64 0, .int .i64 0] 197)).heap.size := by simp
  go_enter Try.func127, Try.ntmps127
  go_wp2_with fail
  refine (cWeights_any A n cap l x y _ hn (HR.out.keep N2) HS.out HP.out).mono ?_
  rintro e w2 ⟨n2, g, rfl, hg, hrw⟩
  have N3 := N2.trans n2
  have c1 := b1.keep n2
  have c2 := b2.keep n2
  have hgs : w.heap.size + 3 ≤ g := Nat.le_trans hsz hg
  clear b0 b1 b2 N2 n2 hg hsz
  have HWB := Lib.hid (fun j => wS_bd (l := l) HS.out HP.out (by rw [HL.out]; exact hn) j)
  have HDB := Lib.hid (den_bd (l := l) (x := x) (y := y) HS.out HP.out (by rw [HL.out]; exact h1) (by rw [HL.out]; exact hn))
  have HE := Lib.hid (show endsS l x y = ⟨dotTo (wS l x y).1 (loAt l) n, dotTo (wS l x y).1 (hiAt l) n, (wS l x y).2⟩ by unfold endsS; rw [HL.out])
  obtain ⟨⟨ws, den⟩, hws⟩ : ∃ v, wS l x y = v := ⟨_, rfl⟩
  rw [hws] at hrw HWB HDB HE ⊢
  dsimp only at hrw HWB HDB HE ⊢
  clear hws
  obtain ⟨Lb, hLb⟩ : ∃ b, w.heap.size + 1 = b := ⟨_, rfl⟩
  obtain ⟨Hb, hHb⟩ : ∃ b, w.heap.size + 2 = b := ⟨_, rfl⟩
  rw [hLb] at c1
  rw [hHb] at c2
  try rw [show w.heap.size + 1 + 1 = Hb by omega]
  try rw [hLb]
  try rw [hHb]
  have hne1 : Lb ≠ Hb := by omega
  have hne2 : Hb ≠ Lb := by omega
  have hge1 : w.heap.size ≤ Lb := by omega
  have hge2 : w.heap.size ≤ Hb := by omega
  have hgl : g ≠ Lb := by omega
  have hgh : g ≠ Hb := by omega
  clear hLb hHb hgs
  have l0 : w2.cell? ⟨Lb, 1, none⟩ = some (.int .i64 0) := c1.cell 1
  have lf := c1.free 1
  have m0 : w2.cell? ⟨Hb, 1, none⟩ = some (.int .i64 0) := c2.cell 1
  have mf := c2.free 1
  have HN3 := Lib.hid ((N3.setCell (p := ⟨Lb, 1, none⟩) hge1 (.int .i64 den)).setCell (p := ⟨Hb, 1, none⟩) hge2 (.int .i64 den))
  have HC1 := Lib.hid ((c1.set 1 (.int .i64 den)).far (p := ⟨Hb, 1, none⟩) hne1 (.int .i64 den))
  have HC2 := Lib.hid ((c2.far (p := ⟨Lb, 1, none⟩) hne2 (.int .i64 den)).set 1 (.int .i64 den))
  have HRW := Lib.hid ((Rd.far hrw (p := ⟨Lb, 1, none⟩) hgl (.int .i64 den)).far (p := ⟨Hb, 1, none⟩) hgh (.int .i64 den))
  clear N3 c1 c2 hrw
  go_wp2_with fail
  go_loopw [22] (fun i wr => ∃ k : Nat, k ≤ n ∧ i = .int .i64 (k : Int) ∧ Hid (Bx wr Lb 197 #[.int .i64 (dotTo ws (loAt l) k), .int .i64 den] ∧ Bx wr Hb 197 #[.int .i64 (dotTo ws (hiAt l) k), .int .i64 den] ∧ Rd wr 1 encI (some ⟨g, 0, none⟩) n ws) ∧ New w wr) (fun i _ => n - (intOf i).toNat)
  case atStart => exact ⟨0, by omega, rfl, ⟨HC1.out, HC2.out, HRW.out⟩, HN3.out⟩
  case round =>
    clear HN3 HC1 HC2 HRW l0 lf m0 mf
    obtain ⟨k, hk, rfl, HI, hN⟩ := hrel
    obtain ⟨c1, c2, hrw⟩ := HI.out
    clear HI
    by_cases hlt : k < n
    · obtain ⟨b, o, s, rfl, hb, hx, hc⟩ := (HR.out.keep hN).at_ hlt
      obtain ⟨b', o', wv, he, hb', hwx, hcw⟩ := hrw.at_ hlt
      injection he with he
      injection he with e1 e2
      subst e1 e2
      have q0 := hcw 0 _ rfl
      simp only [Nat.add_zero, Nat.mul_one, Nat.zero_add] at q0
      have g0 := hc 0 _ rfl
      have g1 := hc 1 _ rfl
      have g2 := hc 2 _ rfl
      have g3 := hc 3 _ rfl
      have g4 := hc 4 _ rfl
      have g5 := hc 5 _ rfl
      simp only [Nat.add_zero] at g0
      have i0' : (0 : Int) ≤ (k : Int) := by omega
      have i1 : (k : Int) < (n : Int) := by omega
      have HLV := Lib.hid (show dotTo ws (loAt l) (k + 1) = dotTo ws (loAt l) k + wv * s.lo by
        show dotTo ws (loAt l) k + ws.getD k 0 * loAt l k = _
        rw [List.getD_eq_getElem?_getD, hwx]
        unfold loAt
        rw [hx]; rfl)
      have HHV := Lib.hid (show dotTo ws (hiAt l) (k + 1) = dotTo ws (hiAt l) k + wv * s.hi by
        show dotTo ws (hiAt l) k + ws.getD k 0 * hiAt l k = _
        rw [List.getD_eq_getElem?_getD, hwx]
        unfold hiAt
        rw [hx]; rfl)
      have hso := HS.out s (List.mem_of_getElem? hx)
      have hwb := HWB.out k
      rw [List.getD_eq_getElem?_getD, hwx] at hwb
      have hwb1 : 0 ≤ wv := hwb.1
      have hwb2 : wv ≤ 104976000000000 := hwb.2
      have p1 := mulBd hwb1 hwb2 hso.lo.1 hso.lo.2
      have p2 := mulBd hwb1 hwb2 hso.hi.1 hso.hi.2
      have r1 := dot_bd (ws := ws) HWB.out (loAt_bd (l := l) HS.out) k
      have r2 := dot_bd (ws := ws) HWB.out (hiAt_bd (l := l) HS.out) k
      have t1 := dot_bd (ws := ws) HWB.out (loAt_bd (l := l) HS.out) (k + 1)
      have t2 := dot_bd (ws := ws) HWB.out (hiAt_bd (l := l) HS.out) (k + 1)
      rw [HLV.out] at t1
      rw [HHV.out] at t2
      obtain ⟨dl, hdl⟩ : ∃ v, dotTo ws (loAt l) k = v := ⟨_, rfl⟩
      obtain ⟨dh, hdh⟩ : ∃ v, dotTo ws (hiAt l) k = v := ⟨_, rfl⟩
      rw [hdl] at HLV c1 r1 t1
      rw [hdh] at HHV c2 r2 t2
      obtain ⟨pl, hpl⟩ : ∃ v, wv * s.lo = v := ⟨_, rfl⟩
      obtain ⟨ph, hph⟩ : ∃ v, wv * s.hi = v := ⟨_, rfl⟩
      rw [hpl] at HLV p1 t1
      rw [hph] at HHV p2 t2
      have x1 : -9223372036854775808 ≤ dl + pl ∧ dl + pl ≤ 9223372036854775807 := by omega
      have x2 : -9223372036854775808 ≤ dh + ph ∧ dh + ph ≤ 9223372036854775807 := by omega
      have x3 : -9223372036854775808 ≤ pl ∧ pl ≤ 9223372036854775807 := by omega
      have x4 : -9223372036854775808 ≤ ph ∧ ph ≤ 9223372036854775807 := by omega
      clear hx hc hcw hwx hdl hdh hso hwb r1 r2 t1 t2 p1 p2 hwb1 hwb2
      have b1 := Bx.mk wr 99 (encSt s).toArray
      have d1 := c1.alloc (.cells (encSt s).toArray 99)
      have d2 := c2.alloc (.cells (encSt s).toArray 99)
      have hrw1 := hrw.keep ((New.refl wr).alloc (.cells (encSt s).toArray 99))
      have N1 := hN.alloc (.cells (encSt s).toArray 99)
      have q1 := ((New.refl wr).alloc (.cells (encSt s).toArray 99)).cell q0
      obtain ⟨W1, hW1⟩ : ∃ W1, wr.alloc (.cells (encSt s).toArray 99) = W1 := ⟨_, rfl⟩
      have hW1' : wr.alloc (.cells #[.string s.n, .int .i64 s.x, .int .i64 s.y, .int .i64 s.lo, .int .i64 s.hi, .int .i64 s.a] 99) = W1 := hW1
      have hgw : g < W1.heap.size := by rw [← hW1]; simp; omega
      have hlw : Lb < W1.heap.size := by rw [← hW1]; have := c1.lt; simp; omega
      have hhw : Hb < W1.heap.size := by rw [← hW1]; have := c2.lt; simp; omega
      rw [hW1] at b1 d1 d2 hrw1 N1 q1
      have k0 : W1.cell? ⟨Lb, 0, none⟩ = some (.int .i64 dl) := d1.cell 0
      have k1 : W1.cell? ⟨Hb, 0, none⟩ = some (.int .i64 dh) := d2.cell 0
      have s3 : W1.cell? ⟨wr.heap.size, 3, none⟩ = some (.int .i64 s.lo) := b1.cell 3
      have s4 : W1.cell? ⟨wr.heap.size, 4, none⟩ = some (.int .i64 s.hi) := b1.cell 4
      have ls := b1.lt
      have hsl : wr.heap.size ≠ Lb := by have := c1.lt; omega
      have hslh : wr.heap.size ≠ Hb := by have := c2.lt; omega
      clear c1 c2 hrw hW1
      go_wp2_with fail
      try rw [hW1']
      (refine wp_region_tail 11 (by kernel_rfl) (by kernel_rfl) ?_; simp only [List.take_succ_cons, List.take_zero, List.drop_succ_cons, List.drop_zero]; (repeat (go_big_quiet_step ((fail)))); refine wpQuiet_nil ?_)
      intro w3 n3
      have D1 := d1.keep n3
      have D2 := d2.keep n3
      have b3 := b1.keep n3
      have q3 := n3.cell q1
      have N3 := N1.trans n3
      have R3 := hrw1.keep n3
      have hs3 := n3.size
      have e0 : w3.cell? ⟨Lb, 0, none⟩ = some (.int .i64 dl) := D1.cell 0
      have f0 := D1.free 0
      have E1 := D1.set 0 (.int .i64 (dl + pl))
      have E2 := D2.far (p := ⟨Lb, 0, none⟩) hne2 (.int .i64 (dl + pl))
      have E3 := b3.far (p := ⟨Lb, 0, none⟩) hsl (.int .i64 (dl + pl))
      have E4 := Rd.far R3 (p := ⟨Lb, 0, none⟩) hgl (.int .i64 (dl + pl))
      have E5 := N3.setCell (p := ⟨Lb, 0, none⟩) hge1 (.int .i64 (dl + pl))
      have E6 : (w3.setCell ⟨Lb, 0, none⟩ (.int .i64 (dl + pl))).cell? ⟨g, k, none⟩ = some (.int .i64 wv) := by
        rw [← q3]
        exact World.cell?_setCell_other (w := w3) (v := .int .i64 (dl + pl)) (h := fun hh => hgl (by injection hh with h; exact h.symm))
      obtain ⟨W4, hW4⟩ : ∃ W4, w3.setCell ⟨Lb, 0, none⟩ (.int .i64 (dl + pl)) = W4 := ⟨_, rfl⟩
      rw [hW4] at E1 E2 E3 E4 E5 E6
      have hgw4 : g < W4.heap.size := by rw [← hW4]; simp; omega
      have hlw4 : Lb < W4.heap.size := by rw [← hW4]; simp; omega
      have hhw4 : Hb < W4.heap.size := by rw [← hW4]; simp; omega
      have m0 : W4.cell? ⟨Hb, 0, none⟩ = some (.int .i64 dh) := E2.cell 0
      have m4 : W4.cell? ⟨wr.heap.size, 4, none⟩ = some (.int .i64 s.hi) := E3.cell 4
      have ls4 := E3.lt
      clear d1 d2 b1 b3 N1 hrw1 k0 k1 s3 s4 q1 D1 D2 R3 N3 hgw hlw hhw ls
      go_wp2_with fail
      try rw [hW4]
      (refine wp_region_tail 11 (by kernel_rfl) (by kernel_rfl) ?_; simp only [List.take_succ_cons, List.take_zero, List.drop_succ_cons, List.drop_zero]; (repeat (go_big_quiet_step ((fail)))); refine wpQuiet_nil ?_)
      intro w5 n5
      have F1 := E1.keep n5
      have F2 := E2.keep n5
      have F4 := E4.keep n5
      have F5 := E5.trans n5
      have v0 : w5.cell? ⟨Hb, 0, none⟩ = some (.int .i64 dh) := F2.cell 0
      have vf := F2.free 0
      have HG1 := Lib.hid (F1.far (p := ⟨Hb, 0, none⟩) hne1 (.int .i64 (dh + ph)))
      have HG2 := Lib.hid (F2.set 0 (.int .i64 (dh + ph)))
      have HG4 := Lib.hid (Rd.far F4 (p := ⟨Hb, 0, none⟩) hgh (.int .i64 (dh + ph)))
      have HG5 := Lib.hid (F5.setCell (p := ⟨Hb, 0, none⟩) hge2 (.int .i64 (dh + ph)))
      clear E1 E2 E3 E4 E5 F1 F2 F4 F5
      go_wp2_with fail
      go_roundw
      case rel => exact ⟨k + 1, by omega, by go_num, by rw [HLV.out, HHV.out]; exact ⟨HG1.out, HG2.out, HG4.out⟩, HG5.out⟩
      case measure => simp [intOf]; omega
    · obtain rfl : k = n := by omega
      obtain ⟨dl, hdl⟩ : ∃ v, dotTo ws (loAt l) k = v := ⟨_, rfl⟩
      obtain ⟨dh, hdh⟩ : ∃ v, dotTo ws (hiAt l) k = v := ⟨_, rfl⟩
      rw [hdl] at HE c1
      rw [hdh] at HE c2
      have k0 : wr.cell? ⟨Lb, 0, none⟩ = some (.int .i64 dl) := c1.cell 0
      have k1 : wr.cell? ⟨Lb, 1, none⟩ = some (.int .i64 den) := c1.cell 1
      have k2 : wr.cell? ⟨Hb, 0, none⟩ = some (.int .i64 dh) := c2.cell 0
      have k3 : wr.cell? ⟨Hb, 1, none⟩ = some (.int .i64 den) := c2.cell 1
      have f0 := c1.free 0
      have f1 := c1.free 1
      have f2 := c2.free 0
      have f3 := c2.free 1
      have hlw := c1.lt
      have hhw := c2.lt
      clear hdl hdh hrw
      go_wp2_with fail
      have HX1 := Lib.hid (((((c1.set 0 (.int .i64 dl)).set 1 (.int .i64 den)).far (p := ⟨Hb, 0, none⟩) hne1 (.int .i64 dh)).far (p := ⟨Hb, 1, none⟩) hne1 (.int .i64 den)).drew)
      have HX2 := Lib.hid (((((c2.far (p := ⟨Lb, 0, none⟩) hne2 (.int .i64 dl)).far (p := ⟨Lb, 1, none⟩) hne2 (.int .i64 den)).set 0 (.int .i64 dh)).set 1 (.int .i64 den)).drew)
      have HX3 := Lib.hid (((((hN.setCell (p := ⟨Lb, 0, none⟩) hge1 (.int .i64 dl)).setCell (p := ⟨Lb, 1, none⟩) hge1 (.int .i64 den)).setCell (p := ⟨Hb, 0, none⟩) hge2 (.int .i64 dh)).setCell (p := ⟨Hb, 1, none⟩) hge2 (.int .i64 den)).drew)
      go_region
      clear c1 c2
      go_wp2_with fail
      (try simp only [Exit.inBlock, Exit.then])
      refine bodyPost_ret (results_cc rfl _ _ Lb Hb 197 197 #[.int .i64 dl, .int .i64 den] #[.int .i64 dh, .int .i64 den] (0, 0) (0, 0) _ _ rfl HX1.out Try.underlying197 rfl (by kernel_rfl) rfl HX2.out Try.underlying197 rfl (by kernel_rfl)) rfl ?_
      exact ⟨by rw [HE.out], HX3.out⟩
end Go.Proofs.Ytaogolnoiffgiaa

namespace Go.Proofs.Ytaogolnoiffgiaa
open Go.RowKit Go.Sky Go.Sky.Ch

theorem gcd_step (a b : Int) : Int.gcd b (a.tmod b) = Int.gcd a b := by
  unfold Int.gcd
  rw [Int.natAbs_tmod, Nat.gcd_comm, ← Nat.gcd_rec, Nat.gcd_comm]

set_option maxRecDepth 100000 in
theorem cDivisor_any (a b : Int) (w : World) (ha : -9223372036854775807 ≤ a ∧ a ≤ 9223372036854775807) (hb : -9223372036854775807 ≤ b ∧ b ≤ 9223372036854775807) :
    Calls Try.prog 164 #[.int .i64 a, .int .i64 b] w fun e w' => e = .returned (.int .i64 (Int.gcd a b : Int)) ∧ New w w' := by
  have HG := Lib.hid (rfl : Int.gcd a b = Int.gcd a b)
  obtain ⟨G, hG⟩ : ∃ G, Int.gcd a b = G := ⟨_, rfl⟩
  rw [hG]
  have HGG := Lib.hid hG
  clear hG HG
  go_enter Try.func164, Try.ntmps164
  go_wp2_with fail
  go_loopw [0, 1] (fun u v wr => ∃ (p q : Int), u = .int .i64 p ∧ v = .int .i64 q ∧ (-9223372036854775807 ≤ p ∧ p ≤ 9223372036854775807) ∧ (-9223372036854775807 ≤ q ∧ q ≤ 9223372036854775807) ∧ Hid (Int.gcd p q = G) ∧ New w wr) (fun _ v _ => (intOf v).natAbs)
  case atStart => exact ⟨a, b, rfl, rfl, ha, hb, HGG, New.refl _⟩
  case round =>
    obtain ⟨p, q, rfl, rfl, hp, hq, HG, hN⟩ := hrel
    by_cases h0 : q = 0
    · subst h0
      have HV := Lib.hid (show max p (-p) = (G : Int) by
        have := HG.out
        rw [Int.gcd_zero_right] at this
        omega)
      by_cases hp0 : 0 ≤ p
      · have HW := Lib.hid (show p = (G : Int) by rw [← HV.out]; omega)
        have h2 : -p ≤ p := by omega
        go_wp2_with fail
        go_ret
        exact ⟨by rw [← HW.out]; rfl, hN⟩
      · have HW := Lib.hid (show -p = (G : Int) by rw [← HV.out]; omega)
        have h2 : ¬ -p ≤ p := by omega
        go_wp2_with fail
        go_ret
        exact ⟨by rw [← HW.out]; rfl, hN⟩
    · have z1 : (q != 0) = true := by simpa using h0
      have z2 : (q == 0) = false := by simpa using h0
      have hab := Int.natAbs_tmod p q
      have hlt : (p.tmod q).natAbs < q.natAbs := by rw [hab]; exact Nat.mod_lt _ (by omega)
      have HG2 := Lib.hid (show Int.gcd q (p.tmod q) = G by rw [gcd_step]; exact HG.out)
      have hr : -9223372036854775807 ≤ p.tmod q ∧ p.tmod q ≤ 9223372036854775807 := by omega
      have HM := Lib.hid hlt
      obtain ⟨r, hrr⟩ : ∃ r, p.tmod q = r := ⟨_, rfl⟩
      rw [hrr] at HG2 hr HM
      clear hab hlt
      go_wp2_with fail
      (refine wp_region_new (by kernel_rfl) (by kernel_rfl) ?_; (repeat (go_big_quiet_step ((fail)))); refine wpQuiet_nil ?_)
      intro w3 n3
      try rw [hrr]
      go_wp2_with fail
      go_roundw
      case rel => exact ⟨q, r, rfl, rfl, hq, hr, HG2, hN.trans n3⟩
      case measure => simp [intOf]; exact HM.out

theorem cDivisor_is {a b : Int} {G : Nat} (h : Int.gcd a b = G) (w : World) (ha : -9223372036854775807 ≤ a ∧ a ≤ 9223372036854775807) (hb : -9223372036854775807 ≤ b ∧ b ≤ 9223372036854775807) :
    Calls Try.prog 164 #[.int .i64 a, .int .i64 b] w fun e w' => e = .returned (.int .i64 (G : Int)) ∧ New w w' := h ▸ cDivisor_any a b w ha hb

theorem cFloor_any (n d : Int) (w : World) (hn : -9000000000000000000 ≤ n ∧ n ≤ 9000000000000000000) (hd : 1 ≤ d ∧ d ≤ 9000000000000000000) :
    Calls Try.prog 154 #[.agg #[.int .i64 n, .int .i64 d]] w fun e w' => e = .returned (.int .i64 (floorS n d)) ∧ New w w' := by
  have N0 := (New.refl w).alloc (.cells #[.int .i64 n, .int .i64 d] 197)
  have hd0 : (d == 0) = false := by simp; omega
  obtain ⟨t1, t2⟩ := tmod_bd n (b := d) (by omega)
  have hqb : (n.tdiv d).natAbs ≤ n.natAbs := by rw [Int.natAbs_tdiv]; exact Nat.div_le_self _ _
  have q1 : -9000000000000000000 ≤ n.tdiv d ∧ n.tdiv d ≤ 9000000000000000000 := by omega
  have HV := Lib.hid (show floorS n d = if n.tmod d < 0 then n.tdiv d - 1 else n.tdiv d from rfl)
  clear hqb
  by_cases h : n.tmod d < 0
  · have HW := Lib.hid (HV.out.trans (if_pos h))
    have dd : decide (n.tmod d < 0) = true := decide_eq_true h
    clear HV
    go_enter Try.func154, Try.ntmps154
    go_wp2_with fail
    go_ret
    exact ⟨by rw [HW.out]; rfl, N0⟩
  · have HW := Lib.hid (HV.out.trans (if_neg h))
    have dd : decide (n.tmod d < 0) = false := decide_eq_false h
    clear HV
    go_enter Try.func154, Try.ntmps154
    go_wp2_with fail
    go_ret
    exact ⟨by rw [HW.out]; rfl, N0⟩

set_option maxRecDepth 100000 in
set_option maxHeartbeats 4000000 in
theorem cFrac_any (n d : Int) (w : World) (hn : -9000000000000000000 ≤ n ∧ n ≤ 9000000000000000000) (hd : 1 ≤ d ∧ d ≤ 9000000000000000000) :
    Calls Try.prog 151 #[.agg #[.int .i64 n, .int .i64 d]] w fun e w' => e = .returned (.tuple #[.agg #[.int .i64 (fracS n d).1.1, .int .i64 (fracS n d).1.2], .int .i64 (fracS n d).2]) ∧ New w w' := by
  have hG1 : 1 ≤ Int.gcd n d := by
    rcases Nat.eq_zero_or_pos (Int.gcd n d) with h | h
    · have := (Int.gcd_eq_zero_iff.1 h).2; omega
    · exact h
  have HV := Lib.hid (show fracS n d = if sizedI (n.tdiv (Int.gcd n d : Int)) 1000000000 = true ∧ d.tdiv (Int.gcd n d : Int) ≤ 1000000000 then ((n.tdiv (Int.gcd n d : Int), d.tdiv (Int.gcd n d : Int)), 0) else ((0, 0), 8) from rfl)
  obtain ⟨G, hG⟩ : ∃ G, Int.gcd n d = G := ⟨_, rfl⟩
  rw [hG] at HV hG1
  have HG := Lib.hid hG
  clear hG
  have hg0 : ((G : Int) == 0) = false := by simp; omega
  have hqn : (n.tdiv (G : Int)).natAbs ≤ n.natAbs := by rw [Int.natAbs_tdiv]; exact Nat.div_le_self _ _
  have hqd : (d.tdiv (G : Int)).natAbs ≤ d.natAbs := by rw [Int.natAbs_tdiv]; exact Nat.div_le_self _ _
  have x1 : -9223372036854775808 ≤ n.tdiv (G : Int) ∧ n.tdiv (G : Int) ≤ 9223372036854775807 := by omega
  have x2 : -9223372036854775808 ≤ d.tdiv (G : Int) ∧ d.tdiv (G : Int) ≤ 9223372036854775807 := by omega
  obtain ⟨a, ha⟩ : ∃ a, n.tdiv (G : Int) = a := ⟨_, rfl⟩
  obtain ⟨b, hb⟩ : ∃ b, d.tdiv (G : Int) = b := ⟨_, rfl⟩
  rw [ha] at HV x1
  rw [hb] at HV x2
  clear hqn hqd
  have N0 := ((New.refl w).alloc (.cells #[.int .i64 n, .int .i64 d] 197)).alloc (.cells #[.int .i64 0, .int .i64 0] 135)
  have b0 := (Bx.mk w 197 #[.int .i64 n, .int .i64 d]).alloc (.cells #[.int .i64 0, .int .i64 0] 135)
  have b1 := Bx.mk_at (w.alloc (.cells #[.int .i64 n, .int .i64 d] 197)) 135 #[.int .i64 0, .int .i64 0] (w.heap.size + 1) (by simp)
  have hsz : w.heap.size + 2 ≤ ((w.alloc (.cells #[.int .i64 n, .int .i64 d] 197)).alloc (.cells #[.int .i64 0, .int .i64 0] 135)).heap.size := by simp
  go_enter Try.func151, Try.ntmps151
  go_wp2_with fail
  refine (cDivisor_is HG.out _ (by omega) (by omega)).mono ?_
  rintro e w2 ⟨rfl, n2⟩
  have c0 := b0.keep n2
  have c1 := b1.keep n2
  have N2 := N0.trans n2
  have hs2 := Nat.le_trans hsz n2.size
  have k0 : w2.cell? ⟨w.heap.size, 0, none⟩ = some (.int .i64 n) := c0.cell 0
  have k1 : w2.cell? ⟨w.heap.size, 1, none⟩ = some (.int .i64 d) := c0.cell 1
  have l0 := c0.lt
  clear b0 b1 N0 n2 hsz
  go_wp2_with fail
  go_region
  have d1 := (c1.alloc (.cells #[.int .i64 a, .int .i64 b] 135)).drew
  have d2 := (Bx.mk w2 135 #[.int .i64 a, .int .i64 b]).drew
  have N3 := (N2.alloc (.cells #[.int .i64 a, .int .i64 b] 135)).drew
  obtain ⟨W3, hW3⟩ : ∃ W3, (w2.alloc (.cells #[.int .i64 a, .int .i64 b] 135)).drew = W3 := ⟨_, rfl⟩
  rw [hW3] at d1 d2 N3 ⊢
  obtain ⟨Fb, hFb⟩ : ∃ b, w2.heap.size = b := ⟨_, rfl⟩
  rw [hFb] at d2
  try rw [hFb]
  obtain ⟨Rb, hRb⟩ : ∃ b, w.heap.size + 1 = b := ⟨_, rfl⟩
  rw [hRb] at d1
  try rw [hRb]
  have hge : w.heap.size ≤ Rb := by omega
  have e0 : W3.cell? ⟨Fb, 0, none⟩ = some (.int .i64 a) := d2.cell 0
  have e1 : W3.cell? ⟨Fb, 1, none⟩ = some (.int .i64 b) := d2.cell 1
  have r0 : W3.cell? ⟨Rb, 0, none⟩ = some (.int .i64 0) := d1.cell 0
  have r1 : W3.cell? ⟨Rb, 1, none⟩ = some (.int .i64 0) := d1.cell 1
  have f0 := d1.free 0
  have f1 := d1.free 1
  have lF := d2.lt
  have lR := d1.lt
  have HX0 := Lib.hid ((d1.set 0 (.int .i64 0)).set 1 (.int .i64 0))
  have HX1 := Lib.hid ((d1.set 0 (.int .i64 a)).set 1 (.int .i64 b))
  have HN0 := Lib.hid ((N3.setCell (p := ⟨Rb, 0, none⟩) hge (.int .i64 0)).setCell (p := ⟨Rb, 1, none⟩) hge (.int .i64 0))
  have HN1 := Lib.hid ((N3.setCell (p := ⟨Rb, 0, none⟩) hge (.int .i64 a)).setCell (p := ⟨Rb, 1, none⟩) hge (.int .i64 b))
  clear hW3 hFb hRb c0 c1 k0 k1 l0 N2 hs2 d1 d2 N3
  obtain ⟨sv, hsv⟩ : ∃ v, sizedI a 1000000000 = v := ⟨_, rfl⟩
  rw [hsv] at HV
  have HSV := Lib.hid hsv
  clear hsv
  cases sv
  · have HW := Lib.hid (HV.out.trans (if_neg (by simp)))
    go_wp2_with fail
    refine (cIsSized_is HSV.out _ (by omega) (by omega)).mono ?_
    rintro e w' ⟨rfl, rfl⟩
    go_wp2_with fail
    refine bodyPost_ret (results_ct rfl _ _ Rb 135 #[.int .i64 0, .int .i64 0] (0, 0) _ (.int .i64 8) rfl HX0.out Try.underlying135 rfl (by kernel_rfl) rfl) rfl ?_
    exact ⟨by rw [HW.out], HN0.out⟩
  · by_cases hb1 : b ≤ 1000000000
    · have HW := Lib.hid (HV.out.trans (if_pos ⟨rfl, hb1⟩))
      have dd : decide ((1000000000 : Int) < b) = false := decide_eq_false (by omega)
      go_wp2_with fail
      refine (cIsSized_is HSV.out _ (by omega) (by omega)).mono ?_
      rintro e w' ⟨rfl, rfl⟩
      go_wp2_with fail
      refine bodyPost_ret (results_ct rfl _ _ Rb 135 #[.int .i64 a, .int .i64 b] (0, 0) _ (.int .i64 0) rfl HX1.out Try.underlying135 rfl (by kernel_rfl) rfl) rfl ?_
      exact ⟨by rw [HW.out], HN1.out⟩
    · have HW := Lib.hid (HV.out.trans (if_neg (by simp; omega)))
      have dd : decide ((1000000000 : Int) < b) = true := decide_eq_true (by omega)
      go_wp2_with fail
      refine (cIsSized_is HSV.out _ (by omega) (by omega)).mono ?_
      rintro e w' ⟨rfl, rfl⟩
      go_wp2_with fail
      refine bodyPost_ret (results_ct rfl _ _ Rb 135 #[.int .i64 0, .int .i64 0] (0, 0) _ (.int .i64 8) rfl HX0.out Try.underlying135 rfl (by kernel_rfl) rfl) rfl ?_
      exact ⟨by rw [HW.out], HN0.out⟩
end Go.Proofs.Ytaogolnoiffgiaa

namespace Go.Proofs.Ytaogolnoiffgiaa
open Go.RowKit Go.Sky Go.Sky.Ch

set_option maxRecDepth 100000 in
set_option maxHeartbeats 4000000 in
theorem cSpan_any (n d m k : Int) (w : World) (hn : -9000000000000000000 ≤ n ∧ n ≤ 9000000000000000000) (hd : 1 ≤ d ∧ d ≤ 9000000000000000000) (hm : -9000000000000000000 ≤ m ∧ m ≤ 9000000000000000000) (hk : 1 ≤ k ∧ k ≤ 9000000000000000000) :
    Calls Try.prog 126 #[.agg #[.int .i64 n, .int .i64 d], .agg #[.int .i64 m, .int .i64 k]] w fun e w' => e = .returned (.tuple #[.agg #[.int .i64 (spanS n d m k).a.1, .int .i64 (spanS n d m k).a.2, .int .i64 (spanS n d m k).b.1, .int .i64 (spanS n d m k).b.2], .int .i64 (spanS n d m k).e]) ∧ New w w' := by
  have HV := Lib.hid (show spanS n d m k = if (fracS n d).2 = 0 ∧ (fracS m k).2 = 0 then ⟨(fracS n d).1, (fracS m k).1, 0⟩ else ⟨(0, 0), (0, 0), 8⟩ from rfl)
  have hv1 := frac_e n d
  have hv2 := frac_e m k
  have HA := Lib.hid (fun w => cFrac_any n d w hn hd)
  have HB := Lib.hid (fun w => cFrac_any m k w hm hk)
  obtain ⟨⟨⟨a1, a2⟩, ea⟩, hfa⟩ : ∃ v, fracS n d = v := ⟨_, rfl⟩
  obtain ⟨⟨⟨b1, b2⟩, eb⟩, hfb⟩ : ∃ v, fracS m k = v := ⟨_, rfl⟩
  rw [hfa] at HA HV hv1
  rw [hfb] at HB HV hv2
  dsimp only at hv1 hv2 HV
  clear hfa hfb
  have N0 := (((New.refl w).alloc (.cells #[.int .i64 n, .int .i64 d] 197)).alloc (.cells #[.int .i64 m, .int .i64 k] 197)).alloc (.cells #[.int .i64 0, .int .i64 0, .int .i64 0, .int .i64 0] 137)
  have b0 := ((Bx.mk w 197 #[.int .i64 n, .int .i64 d]).alloc (.cells #[.int .i64 m, .int .i64 k] 197)).alloc (.cells #[.int .i64 0, .int .i64 0, .int .i64 0, .int .i64 0] 137)
  have c0 := (Bx.mk_at (w.alloc (.cells #[.int .i64 n, .int .i64 d] 197)) 197 #[.int .i64 m, .int .i64 k] (w.heap.size + 1) (by simp)).alloc (.cells #[.int .i64 0, .int .i64 0, .int .i64 0, .int .i64 0] 137)
  have d0 := Bx.mk_at ((w.alloc (.cells #[.int .i64 n, .int .i64 d] 197)).alloc (.cells #[.int .i64 m, .int .i64 k] 197)) 137 #[.int .i64 0, .int .i64 0, .int .i64 0, .int .i64 0] (w.heap.size + 1 + 1) (by simp)
  go_enter Try.func126, Try.ntmps126
  go_wp2_with fail
  refine (HA.out _).mono ?_
  rintro e w2 ⟨rfl, n2⟩
  have N2 := (N0.trans n2).alloc (.cells #[.int .i64 a1, .int .i64 a2] 135)
  have c2 := (c0.keep n2).alloc (.cells #[.int .i64 a1, .int .i64 a2] 135)
  have d2 := (d0.keep n2).alloc (.cells #[.int .i64 a1, .int .i64 a2] 135)
  have f2 := Bx.mk w2 135 #[.int .i64 a1, .int .i64 a2]
  have k0 : (w2.alloc (.cells #[.int .i64 a1, .int .i64 a2] 135)).cell? ⟨w.heap.size + 1, 0, none⟩ = some (.int .i64 m) := c2.cell 0
  have k1 : (w2.alloc (.cells #[.int .i64 a1, .int .i64 a2] 135)).cell? ⟨w.heap.size + 1, 1, none⟩ = some (.int .i64 k) := c2.cell 1
  have k0' : w2.cell? ⟨w.heap.size + 1, 0, none⟩ = some (.int .i64 m) := (c0.keep n2).cell 0
  have k1' : w2.cell? ⟨w.heap.size + 1, 1, none⟩ = some (.int .i64 k) := (c0.keep n2).cell 1
  have l1 := (c0.keep n2).lt
  clear b0 c0 d0 N0 n2
  go_wp2_with fail
  refine (HB.out _).mono ?_
  rintro e w3 ⟨rfl, n3⟩
  have N3 := (N2.trans n3).alloc (.cells #[.int .i64 b1, .int .i64 b2] 135)
  have d3 := (d2.keep n3).alloc (.cells #[.int .i64 b1, .int .i64 b2] 135)
  have f3 := (f2.keep n3).alloc (.cells #[.int .i64 b1, .int .i64 b2] 135)
  have g3 := Bx.mk w3 135 #[.int .i64 b1, .int .i64 b2]
  clear N2 c2 d2 f2 n3 k0 k1 k0' k1' l1
  rcases hv1 with rfl | rfl <;> rcases hv2 with rfl | rfl
  · have HW := Lib.hid (HV.out.trans (if_pos ⟨rfl, rfl⟩))
    go_wp2_with (go_at_call 80; refine (cFirst_any _ 2 2 [_, _] _ (by omega) rfl (cells_new _ _ _ _ (by simp) _ rfl)).mono ?_; rintro e W4 ⟨rfl, hW4⟩; rw [show firstE [0, 0] = 0 from rfl]; have n4 : New (w3.alloc (.cells #[.int .i64 b1, .int .i64 b2] 135)) W4 := hW4 ▸ (New.refl _).alloc _; clear hW4; have d4 := d3.keep n4; have f4 := f3.keep n4; have g4 := g3.keep n4; have N4 := N3.trans n4; have e0 := d4.cell 0; have e1 := d4.cell 1; have e2 := d4.cell 2; have e3 := d4.cell 3; have x0 := d4.free 0; have x1 := d4.free 1; have x2 := d4.free 2; have x3 := d4.free 3; have h0 := f4.cell 0; have h1 := f4.cell 1; have j0 := g4.cell 0; have j1 := g4.cell 1; have lf := f4.lt; have lg := g4.lt; have ld := d4.lt; simp only [List.getElem?_toArray, List.getElem?_cons_zero, List.getElem?_cons_succ] at e0 e1 e2 e3 h0 h1 j0 j1)
    refine bodyPost_ret (results_ct rfl _ _ (w.heap.size + 1 + 1) 137 #[.int .i64 a1, .int .i64 a2, .int .i64 b1, .int .i64 b2] (0, 0) _ (.int .i64 0) rfl ((((d4.set 0 (.int .i64 a1)).set 1 (.int .i64 a2)).set 2 (.int .i64 b1)).set 3 (.int .i64 b2)) Try.underlying137 rfl (by kernel_rfl) rfl) rfl ?_
    exact ⟨by rw [HW.out], ((((N4.setCell (p := ⟨w.heap.size + 1 + 1, 0, none⟩) (by show w.heap.size ≤ w.heap.size + 1 + 1; omega) (.int .i64 a1)).setCell (p := ⟨w.heap.size + 1 + 1, 1, none⟩) (by show w.heap.size ≤ w.heap.size + 1 + 1; omega) (.int .i64 a2)).setCell (p := ⟨w.heap.size + 1 + 1, 2, none⟩) (by show w.heap.size ≤ w.heap.size + 1 + 1; omega) (.int .i64 b1)).setCell (p := ⟨w.heap.size + 1 + 1, 3, none⟩) (by show w.heap.size ≤ w.heap.size + 1 + 1; omega) (.int .i64 b2))⟩
  · have HW := Lib.hid (HV.out.trans (if_neg (by simp)))
    go_wp2_with (go_at_call 80; refine (cFirst_any _ 2 2 [_, _] _ (by omega) rfl (cells_new _ _ _ _ (by simp) _ rfl)).mono ?_; rintro e W4 ⟨rfl, hW4⟩; rw [show firstE [0, 8] = 8 from rfl]; have n4 : New (w3.alloc (.cells #[.int .i64 b1, .int .i64 b2] 135)) W4 := hW4 ▸ (New.refl _).alloc _; clear hW4; have d4 := d3.keep n4; have f4 := f3.keep n4; have g4 := g3.keep n4; have N4 := N3.trans n4; have e0 := d4.cell 0; have e1 := d4.cell 1; have e2 := d4.cell 2; have e3 := d4.cell 3; have x0 := d4.free 0; have x1 := d4.free 1; have x2 := d4.free 2; have x3 := d4.free 3; have h0 := f4.cell 0; have h1 := f4.cell 1; have j0 := g4.cell 0; have j1 := g4.cell 1; have lf := f4.lt; have lg := g4.lt; have ld := d4.lt; simp only [List.getElem?_toArray, List.getElem?_cons_zero, List.getElem?_cons_succ] at e0 e1 e2 e3 h0 h1 j0 j1)
    refine bodyPost_ret (results_ct rfl _ _ (w.heap.size + 1 + 1) 137 #[.int .i64 0, .int .i64 0, .int .i64 0, .int .i64 0] (0, 0) _ (.int .i64 8) rfl ((((d4.set 0 (.int .i64 0)).set 1 (.int .i64 0)).set 2 (.int .i64 0)).set 3 (.int .i64 0)) Try.underlying137 rfl (by kernel_rfl) rfl) rfl ?_
    exact ⟨by rw [HW.out], ((((N4.setCell (p := ⟨w.heap.size + 1 + 1, 0, none⟩) (by show w.heap.size ≤ w.heap.size + 1 + 1; omega) (.int .i64 0)).setCell (p := ⟨w.heap.size + 1 + 1, 1, none⟩) (by show w.heap.size ≤ w.heap.size + 1 + 1; omega) (.int .i64 0)).setCell (p := ⟨w.heap.size + 1 + 1, 2, none⟩) (by show w.heap.size ≤ w.heap.size + 1 + 1; omega) (.int .i64 0)).setCell (p := ⟨w.heap.size + 1 + 1, 3, none⟩) (by show w.heap.size ≤ w.heap.size + 1 + 1; omega) (.int .i64 0))⟩
  · have HW := Lib.hid (HV.out.trans (if_neg (by simp)))
    go_wp2_with (go_at_call 80; refine (cFirst_any _ 2 2 [_, _] _ (by omega) rfl (cells_new _ _ _ _ (by simp) _ rfl)).mono ?_; rintro e W4 ⟨rfl, hW4⟩; rw [show firstE [8, 0] = 8 from rfl]; have n4 : New (w3.alloc (.cells #[.int .i64 b1, .int .i64 b2] 135)) W4 := hW4 ▸ (New.refl _).alloc _; clear hW4; have d4 := d3.keep n4; have f4 := f3.keep n4; have g4 := g3.keep n4; have N4 := N3.trans n4; have e0 := d4.cell 0; have e1 := d4.cell 1; have e2 := d4.cell 2; have e3 := d4.cell 3; have x0 := d4.free 0; have x1 := d4.free 1; have x2 := d4.free 2; have x3 := d4.free 3; have h0 := f4.cell 0; have h1 := f4.cell 1; have j0 := g4.cell 0; have j1 := g4.cell 1; have lf := f4.lt; have lg := g4.lt; have ld := d4.lt; simp only [List.getElem?_toArray, List.getElem?_cons_zero, List.getElem?_cons_succ] at e0 e1 e2 e3 h0 h1 j0 j1)
    refine bodyPost_ret (results_ct rfl _ _ (w.heap.size + 1 + 1) 137 #[.int .i64 0, .int .i64 0, .int .i64 0, .int .i64 0] (0, 0) _ (.int .i64 8) rfl ((((d4.set 0 (.int .i64 0)).set 1 (.int .i64 0)).set 2 (.int .i64 0)).set 3 (.int .i64 0)) Try.underlying137 rfl (by kernel_rfl) rfl) rfl ?_
    exact ⟨by rw [HW.out], ((((N4.setCell (p := ⟨w.heap.size + 1 + 1, 0, none⟩) (by show w.heap.size ≤ w.heap.size + 1 + 1; omega) (.int .i64 0)).setCell (p := ⟨w.heap.size + 1 + 1, 1, none⟩) (by show w.heap.size ≤ w.heap.size + 1 + 1; omega) (.int .i64 0)).setCell (p := ⟨w.heap.size + 1 + 1, 2, none⟩) (by show w.heap.size ≤ w.heap.size + 1 + 1; omega) (.int .i64 0)).setCell (p := ⟨w.heap.size + 1 + 1, 3, none⟩) (by show w.heap.size ≤ w.heap.size + 1 + 1; omega) (.int .i64 0))⟩
  · have HW := Lib.hid (HV.out.trans (if_neg (by simp)))
    go_wp2_with (go_at_call 80; refine (cFirst_any _ 2 2 [_, _] _ (by omega) rfl (cells_new _ _ _ _ (by simp) _ rfl)).mono ?_; rintro e W4 ⟨rfl, hW4⟩; rw [show firstE [8, 8] = 8 from rfl]; have n4 : New (w3.alloc (.cells #[.int .i64 b1, .int .i64 b2] 135)) W4 := hW4 ▸ (New.refl _).alloc _; clear hW4; have d4 := d3.keep n4; have f4 := f3.keep n4; have g4 := g3.keep n4; have N4 := N3.trans n4; have e0 := d4.cell 0; have e1 := d4.cell 1; have e2 := d4.cell 2; have e3 := d4.cell 3; have x0 := d4.free 0; have x1 := d4.free 1; have x2 := d4.free 2; have x3 := d4.free 3; have h0 := f4.cell 0; have h1 := f4.cell 1; have j0 := g4.cell 0; have j1 := g4.cell 1; have lf := f4.lt; have lg := g4.lt; have ld := d4.lt; simp only [List.getElem?_toArray, List.getElem?_cons_zero, List.getElem?_cons_succ] at e0 e1 e2 e3 h0 h1 j0 j1)
    refine bodyPost_ret (results_ct rfl _ _ (w.heap.size + 1 + 1) 137 #[.int .i64 0, .int .i64 0, .int .i64 0, .int .i64 0] (0, 0) _ (.int .i64 8) rfl ((((d4.set 0 (.int .i64 0)).set 1 (.int .i64 0)).set 2 (.int .i64 0)).set 3 (.int .i64 0)) Try.underlying137 rfl (by kernel_rfl) rfl) rfl ?_
    exact ⟨by rw [HW.out], ((((N4.setCell (p := ⟨w.heap.size + 1 + 1, 0, none⟩) (by show w.heap.size ≤ w.heap.size + 1 + 1; omega) (.int .i64 0)).setCell (p := ⟨w.heap.size + 1 + 1, 1, none⟩) (by show w.heap.size ≤ w.heap.size + 1 + 1; omega) (.int .i64 0)).setCell (p := ⟨w.heap.size + 1 + 1, 2, none⟩) (by show w.heap.size ≤ w.heap.size + 1 + 1; omega) (.int .i64 0)).setCell (p := ⟨w.heap.size + 1 + 1, 3, none⟩) (by show w.heap.size ≤ w.heap.size + 1 + 1; omega) (.int .i64 0))⟩

theorem cSpan_is {n d m k : Int} {v : SpanV} (h : spanS n d m k = v) (w : World) (hn : -9000000000000000000 ≤ n ∧ n ≤ 9000000000000000000) (hd : 1 ≤ d ∧ d ≤ 9000000000000000000) (hm : -9000000000000000000 ≤ m ∧ m ≤ 9000000000000000000) (hk : 1 ≤ k ∧ k ≤ 9000000000000000000) :
    Calls Try.prog 126 #[.agg #[.int .i64 n, .int .i64 d], .agg #[.int .i64 m, .int .i64 k]] w fun e w' => e = .returned (.tuple #[.agg #[.int .i64 v.a.1, .int .i64 v.a.2, .int .i64 v.b.1, .int .i64 v.b.2], .int .i64 v.e]) ∧ New w w' := h ▸ cSpan_any n d m k w hn hd hm hk

set_option maxRecDepth 100000 in
set_option maxHeartbeats 4000000 in
theorem cValueAt_any (A : Option Addr) (n cap : Nat) (l : List Sta) (x y : Int) (w : World) (hn : n ≤ 1000000) (hr : Rd w 6 encSt A n l) (hs : ∀ s ∈ l, s.n.size ≤ 1000) :
    Calls Try.prog 76 #[.slice A n cap, .agg #[.int .i64 x, .int .i64 y]] w fun e w' => e = .returned (.tuple #[.agg #[.int .i64 (valueS l x y).a.1, .int .i64 (valueS l x y).a.2, .int .i64 (valueS l x y).b.1, .int .i64 (valueS l x y).b.2], .int .i64 (valueS l x y).e]) ∧ New w w' := by
  have HL := Lib.hid hr.len
  have HR := Lib.hid hr
  have HS := Lib.hid hs
  clear hr hs
  have HV := Lib.hid (show valueS l x y = if valE l x y = 0 then spanS (endsS l x y).lo (endsS l x y).den (endsS l x y).hi (endsS l x y).den else ⟨(0, 0), (0, 0), valE l x y⟩ from rfl)
  have HE := Lib.hid (show firstE [(ckS l).2, placeE x y] = valE l x y from rfl)
  obtain ⟨q1, h1⟩ : ∃ v, (ckS l).2 = v := ⟨_, rfl⟩
  obtain ⟨q2, h2⟩ : ∃ v, placeE x y = v := ⟨_, rfl⟩
  have H1 := Lib.hid h1
  have H2 := Lib.hid h2
  rw [h1, h2] at HE
  clear h1 h2
  obtain ⟨E, hE⟩ : ∃ v, valE l x y = v := ⟨_, rfl⟩
  have HEE := Lib.hid hE
  rw [hE] at HV HE
  clear hE
  have N0 := ((New.refl w).alloc (.cells #[.int .i64 x, .int .i64 y] 73)).alloc (.cells #[.int .i64 0, .int .i64 0, .int .i64 0, .int .i64 0] 137)
  have b0 := (Bx.mk w 73 #[.int .i64 x, .int .i64 y]).alloc (.cells #[.int .i64 0, .int .i64 0, .int .i64 0, .int .i64 0] 137)
  have c0 := Bx.mk_at (w.alloc (.cells #[.int .i64 x, .int .i64 y] 73)) 137 #[.int .i64 0, .int .i64 0, .int .i64 0, .int .i64 0] (w.heap.size + 1) (by simp)
  obtain ⟨W2, hW2⟩ : ∃ W2, (w.alloc (.cells #[.int .i64 x, .int .i64 y] 73)).alloc (.cells #[.int .i64 0, .int .i64 0, .int .i64 0, .int .i64 0] 137) = W2 := ⟨_, rfl⟩
  rw [hW2] at N0 b0 c0
  have k0 : W2.cell? ⟨w.heap.size, 0, none⟩ = some (.int .i64 x) := b0.cell 0
  have k1 : W2.cell? ⟨w.heap.size, 1, none⟩ = some (.int .i64 y) := b0.cell 1
  have l0 := b0.lt
  go_enter Try.func76, Try.ntmps76
  go_wp2_with fail
  try rw [hW2]
  clear hW2
  (refine wp_region_tail 4 (by kernel_rfl) (by kernel_rfl) ?_; simp only [List.take_succ_cons, List.take_zero, List.drop_succ_cons, List.drop_zero]; (repeat (go_big_quiet_step ((first | (go_at_call 97; with_reducible exact quiet_new (cStationsErr_is H1.out _ _ _ _ hn (HR.out.keep (N0.trans (plus_new _ _))) HS.out)) | (go_at_call 98; with_reducible exact quiet_new (cPlaceErr_is H2.out _)))))); refine wpQuiet_nil ?_)
  intro w3 n3
  by_cases hE0 : E = 0
  · subst hE0
    have HW := Lib.hid (HV.out.trans (if_pos rfl))
    obtain ⟨hck, hpl⟩ := valE_ok HEE.out
    have hlen := ckS_le hck
    have HST := Lib.hid (ckS_ok hck)
    have HPL := Lib.hid hpl
    have HEO := Lib.hid (ends_ok (ckS_ok hck) hpl hlen.1 hlen.2.1)
    obtain ⟨ll1, ll2, _⟩ := hlen
    rw [HL.out] at ll1 ll2
    clear hck hpl HV
    go_wp2_with (go_at_call 80; refine (cFirst_any _ 2 2 [_, _] _ (by omega) rfl (cells_new _ _ _ _ (by simp) _ rfl)).mono ?_; rintro e W4 ⟨rfl, hW4⟩; rw [HE.out]; have n4 : New w3 W4 := hW4 ▸ (New.refl w3).alloc _; clear hW4; have N4 := (N0.trans n3).trans n4; have b4 := (b0.keep n3).keep n4; have c4 := (c0.keep n3).keep n4; have x0 := b4.cell 0; have x1 := b4.cell 1; have lb := b4.lt; simp only [List.getElem?_toArray, List.getElem?_cons_zero, List.getElem?_cons_succ] at x0 x1)
    refine (cEnds_any A n cap l x y _ ll1 ll2 (HR.out.keep N4) HST.out HPL.out).mono ?_
    rintro e w5 ⟨rfl, n5⟩
    obtain ⟨⟨el, eh, ed⟩, hel⟩ : ∃ v, endsS l x y = v := ⟨_, rfl⟩
    rw [hel] at HEO HW ⊢
    dsimp only at HW ⊢
    clear hel
    obtain ⟨sv, hsv⟩ : ∃ v, spanS el ed eh ed = v := ⟨_, rfl⟩
    rw [hsv] at HW
    have HSV := Lib.hid hsv
    have c5 := c4.keep n5
    have N5 := N4.trans n5
    clear hsv n5 c4 N4
    go_wp2_with fail
    refine (cSpan_is HSV.out _ HEO.out.lo ⟨HEO.out.den.1, Int.le_trans HEO.out.den.2 (by omega)⟩ HEO.out.hi ⟨HEO.out.den.1, Int.le_trans HEO.out.den.2 (by omega)⟩).mono ?_
    rintro e w6 ⟨rfl, n6⟩
    have c6 := c5.keep n6
    have N6 := N5.trans n6
    have z0 : w6.cell? ⟨w.heap.size + 1, 0, none⟩ = some (.int .i64 0) := c6.cell 0
    have z1 : w6.cell? ⟨w.heap.size + 1, 1, none⟩ = some (.int .i64 0) := c6.cell 1
    have z2 : w6.cell? ⟨w.heap.size + 1, 2, none⟩ = some (.int .i64 0) := c6.cell 2
    have z3 : w6.cell? ⟨w.heap.size + 1, 3, none⟩ = some (.int .i64 0) := c6.cell 3
    have f0 := c6.free 0
    have f1 := c6.free 1
    have f2 := c6.free 2
    have f3 := c6.free 3
    obtain ⟨⟨a1, a2⟩, ⟨b1, b2⟩, ev⟩ := sv
    dsimp only
    have HX := Lib.hid ((((c6.set 0 (.int .i64 a1)).set 1 (.int .i64 a2)).set 2 (.int .i64 b1)).set 3 (.int .i64 b2))
    have HN := Lib.hid ((((N6.setCell (p := ⟨w.heap.size + 1, 0, none⟩) (Nat.le_succ _) (.int .i64 a1)).setCell (p := ⟨w.heap.size + 1, 1, none⟩) (Nat.le_succ _) (.int .i64 a2)).setCell (p := ⟨w.heap.size + 1, 2, none⟩) (Nat.le_succ _) (.int .i64 b1)).setCell (p := ⟨w.heap.size + 1, 3, none⟩) (Nat.le_succ _) (.int .i64 b2))
    clear c5 c6 N5 N6 n6
    go_wp2_with fail
    refine bodyPost_ret (results_ct rfl _ _ (w.heap.size + 1) 137 #[.int .i64 a1, .int .i64 a2, .int .i64 b1, .int .i64 b2] (0, 0) _ (.int .i64 ev) rfl HX.out Try.underlying137 rfl (by kernel_rfl) rfl) rfl ?_
    exact ⟨by rw [HW.out], HN.out⟩
  · have HW := Lib.hid (HV.out.trans (if_neg hE0))
    have bE : (E != 0) = true := by simpa using hE0
    clear hE0
    go_wp2_with (go_at_call 80; refine (cFirst_any _ 2 2 [_, _] _ (by omega) rfl (cells_new _ _ _ _ (by simp) _ rfl)).mono ?_; rintro e W4 ⟨rfl, hW4⟩; rw [HE.out]; have n4 : New w3 W4 := hW4 ▸ (New.refl w3).alloc _; clear hW4; have N4 := (N0.trans n3).trans n4; have c4 := (c0.keep n3).keep n4; have e0 := c4.cell 0; have e1 := c4.cell 1; have e2 := c4.cell 2; have e3 := c4.cell 3; have x0 := c4.free 0; have x1 := c4.free 1; have x2 := c4.free 2; have x3 := c4.free 3; have lc := c4.lt; simp only [List.getElem?_toArray, List.getElem?_cons_zero, List.getElem?_cons_succ] at e0 e1 e2 e3)
    refine bodyPost_ret (results_ct rfl _ _ (w.heap.size + 1) 137 #[.int .i64 0, .int .i64 0, .int .i64 0, .int .i64 0] (0, 0) _ (.int .i64 E) rfl ((((c4.set 0 (.int .i64 0)).set 1 (.int .i64 0)).set 2 (.int .i64 0)).set 3 (.int .i64 0)) Try.underlying137 rfl (by kernel_rfl) rfl) rfl ?_
    exact ⟨by rw [HW.out], ((((N4.setCell (p := ⟨w.heap.size + 1, 0, none⟩) (Nat.le_succ _) (.int .i64 0)).setCell (p := ⟨w.heap.size + 1, 1, none⟩) (Nat.le_succ _) (.int .i64 0)).setCell (p := ⟨w.heap.size + 1, 2, none⟩) (Nat.le_succ _) (.int .i64 0)).setCell (p := ⟨w.heap.size + 1, 3, none⟩) (Nat.le_succ _) (.int .i64 0))⟩
end Go.Proofs.Ytaogolnoiffgiaa

namespace Go.Proofs.Ytaogolnoiffgiaa
open Go.RowKit Go.Sky Go.Sky.Ch

theorem cFloor_is {n d v : Int} (h : floorS n d = v) (w : World) (hn : -9000000000000000000 ≤ n ∧ n ≤ 9000000000000000000) (hd : 1 ≤ d ∧ d ≤ 9000000000000000000) :
    Calls Try.prog 154 #[.agg #[.int .i64 n, .int .i64 d]] w fun e w' => e = .returned (.int .i64 v) ∧ New w w' := h ▸ cFloor_any n d w hn hd

/-- The second part of a ratio in memory. -/
def cellN (w : World) (b : Nat) : Nat := (intOf ((w.cell? ⟨b, 1, none⟩).getD undef)).toNat
theorem cellN_of {w : World} {b : Nat} {t : TypeId} {n d : Int} (h : Bx w b t #[.int .i64 n, .int .i64 d]) : cellN w b = d.toNat := by
  unfold cellN
  rw [show w.cell? ⟨b, 1, none⟩ = some (.int .i64 d) from h.cell 1]
  rfl

set_option maxRecDepth 100000 in
set_option maxHeartbeats 4000000 in
theorem cIsLess_any (n d m k : Int) (w : World) (hn : -9000000000000000 ≤ n ∧ n ≤ 9000000000000000) (hd : 1 ≤ d ∧ d ≤ 9000000000000000) (hm : -9000000000000000 ≤ m ∧ m ≤ 9000000000000000) (hk : 1 ≤ k ∧ k ≤ 9000000000000000) :
    Calls Try.prog 131 #[.agg #[.int .i64 n, .int .i64 d], .agg #[.int .i64 m, .int .i64 k]] w fun e w' => e = .returned (.bool (lessS n d m k)) ∧ New w w' := by
  obtain ⟨v, hv⟩ : ∃ v, lessS n d m k = v := ⟨_, rfl⟩
  rw [hv]
  have HV := Lib.hid hv
  clear hv
  have N0 := ((New.refl w).alloc (.cells #[.int .i64 n, .int .i64 d] 197)).alloc (.cells #[.int .i64 m, .int .i64 k] 197)
  have b0 := (Bx.mk w 197 #[.int .i64 n, .int .i64 d]).alloc (.cells #[.int .i64 m, .int .i64 k] 197)
  have c0 := Bx.mk_at (w.alloc (.cells #[.int .i64 n, .int .i64 d] 197)) 197 #[.int .i64 m, .int .i64 k] (w.heap.size + 1) (by simp)
  have HI := Lib.hid (And.intro N0 (And.intro b0 c0))
  go_enter Try.func131, Try.ntmps131
  go_wp2_with fail
  obtain ⟨Rb, hRb⟩ : ∃ b, w.heap.size = b := ⟨_, rfl⟩
  obtain ⟨Sb, hSb⟩ : ∃ b, w.heap.size + 1 = b := ⟨_, rfl⟩
  rw [hSb] at HI ⊢
  rw [hRb] at HI ⊢
  have hne1 : Rb ≠ Sb := by omega
  have hne2 : Sb ≠ Rb := by omega
  have hge1 : w.heap.size ≤ Rb := by omega
  have hge2 : w.heap.size ≤ Sb := by omega
  clear hRb hSb N0 b0 c0
  go_loopw [5] (fun _ wr => ∃ (n d m k : Int), (-9000000000000000 ≤ n ∧ n ≤ 9000000000000000) ∧ (1 ≤ d ∧ d ≤ 9000000000000000) ∧ (-9000000000000000 ≤ m ∧ m ≤ 9000000000000000) ∧ (1 ≤ k ∧ k ≤ 9000000000000000) ∧ Hid (lessS n d m k = v) ∧ Hid (New w wr ∧ Bx wr Rb 197 #[.int .i64 n, .int .i64 d] ∧ Bx wr Sb 197 #[.int .i64 m, .int .i64 k])) (fun _ wr => cellN wr Rb + cellN wr Sb)
  case atStart => exact ⟨n, d, m, k, hn, hd, hm, hk, HV, HI⟩
  case round =>
    clear HI HV hn hd hm hk
    obtain ⟨n, d, m, k, hn, hd, hm, hk, HV, HI⟩ := hrel
    obtain ⟨hN, c1, c2⟩ := HI.out
    have HM0 := Lib.hid (show cellN wr Rb + cellN wr Sb = d.toNat + k.toNat by rw [cellN_of c1, cellN_of c2])
    clear HI
    have fb1 := floor_bd n (d := d) (by omega)
    have fb2 := floor_bd m (d := k) (by omega)
    have HNE := Lib.hid (fun h => less_ne (n := n) (d := d) (m := m) (k := k) (by omega) (by omega) h)
    have HSM := Lib.hid (less_same (n := n) (d := d) (m := m) (k := k) (floorS n d))
    obtain ⟨a, ha⟩ : ∃ a, floorS n d = a := ⟨_, rfl⟩
    obtain ⟨b, hb⟩ : ∃ b, floorS m k = b := ⟨_, rfl⟩
    rw [ha] at fb1 HNE HSM
    rw [hb] at fb2 HNE
    have HA := Lib.hid ha
    have HB := Lib.hid hb
    clear ha hb
    have k0 : wr.cell? ⟨Rb, 0, none⟩ = some (.int .i64 n) := c1.cell 0
    have k1 : wr.cell? ⟨Rb, 1, none⟩ = some (.int .i64 d) := c1.cell 1
    have k2 : wr.cell? ⟨Sb, 0, none⟩ = some (.int .i64 m) := c2.cell 0
    have k3 : wr.cell? ⟨Sb, 1, none⟩ = some (.int .i64 k) := c2.cell 1
    have l1 := c1.lt
    have l2 := c2.lt
    go_wp2_with fail
    (refine wp_region_new (by kernel_rfl) (by kernel_rfl) ?_; (repeat (go_big_quiet_step ((first | (go_at_call 154; with_reducible exact quiet_new (cFloor_is HA.out _ ⟨by omega, by omega⟩ ⟨by omega, by omega⟩)) | (go_at_call 154; with_reducible exact quiet_new (cFloor_is HB.out _ ⟨by omega, by omega⟩ ⟨by omega, by omega⟩)))))); refine wpQuiet_nil ?_)
    intro w3 n3
    have d1 := c1.keep n3
    have d2 := c2.keep n3
    have N3 := hN.trans n3
    clear c1 c2 k0 k1 k2 k3 l1 l2 hN n3
    by_cases hab : a = b
    · subst hab
      have db : (a != a) = false := by simp
      obtain ⟨p, hp⟩ : ∃ p, a * d = p := ⟨_, rfl⟩
      obtain ⟨q, hq⟩ : ∃ q, a * k = q := ⟨_, rfl⟩
      rw [hp] at fb1 HSM
      rw [hq] at fb2 HSM
      have x1 : -9223372036854775808 ≤ p ∧ p ≤ 9223372036854775807 := by omega
      have x2 : -9223372036854775808 ≤ q ∧ q ≤ 9223372036854775807 := by omega
      obtain ⟨n', hn'⟩ : ∃ n', n - p = n' := ⟨_, rfl⟩
      obtain ⟨m', hm'⟩ : ∃ m', m - q = m' := ⟨_, rfl⟩
      have y1 : 0 ≤ n' ∧ n' < d := by omega
      have y2 : 0 ≤ m' ∧ m' < k := by omega
      rw [hn', hm'] at HSM
      have k0 : w3.cell? ⟨Rb, 0, none⟩ = some (.int .i64 n) := d1.cell 0
      have k1 : w3.cell? ⟨Rb, 1, none⟩ = some (.int .i64 d) := d1.cell 1
      have k2 : w3.cell? ⟨Sb, 0, none⟩ = some (.int .i64 m) := d2.cell 0
      have k3 : w3.cell? ⟨Sb, 1, none⟩ = some (.int .i64 k) := d2.cell 1
      have f0 := d1.free 0
      have f2 := d2.free 0
      have l1 := d1.lt
      have l2 := d2.lt
      have D1 := ((d1.set 0 (.int .i64 n')).far (p := ⟨Sb, 0, none⟩) hne1 (.int .i64 m')).drew
      have D2 := ((d2.far (p := ⟨Rb, 0, none⟩) hne2 (.int .i64 n')).set 0 (.int .i64 m')).drew
      have N4 := ((N3.setCell (p := ⟨Rb, 0, none⟩) hge1 (.int .i64 n')).setCell (p := ⟨Sb, 0, none⟩) hge2 (.int .i64 m')).drew
      obtain ⟨W4, hW4⟩ : ∃ W4, ((w3.setCell ⟨Rb, 0, none⟩ (.int .i64 n')).setCell ⟨Sb, 0, none⟩ (.int .i64 m')).drew = W4 := ⟨_, rfl⟩
      rw [hW4] at D1 D2 N4
      clear d1 d2 N3
      go_wp2_with fail
      go_region
      have e0 : W4.cell? ⟨Rb, 0, none⟩ = some (.int .i64 n') := D1.cell 0
      have e1 : W4.cell? ⟨Rb, 1, none⟩ = some (.int .i64 d) := D1.cell 1
      have e2 : W4.cell? ⟨Sb, 0, none⟩ = some (.int .i64 m') := D2.cell 0
      have e3 : W4.cell? ⟨Sb, 1, none⟩ = some (.int .i64 k) := D2.cell 1
      have q0 := D1.free 0
      have q1 := D1.free 1
      have q2 := D2.free 0
      have q3 := D2.free 1
      have j1 := D1.lt
      have j2 := D2.lt
      clear hW4 k0 k1 k2 k3 f0 f2 l1 l2 hp hq hn' hm' fb1 fb2 x1 x2
      by_cases hz1 : n' = 0
      · subst hz1
        have HW := Lib.hid (show decide (0 < m') = v by rw [← less_zero (d := d) (m := m') (k := k) (by omega), ← HSM.out]; exact HV.out)
        obtain ⟨lt, hlt⟩ : ∃ t, decide (0 < m') = t := ⟨_, rfl⟩
        rw [hlt] at HW
        go_wp2_with fail
        go_ret
        exact ⟨by rw [← HW.out]; rfl, N4⟩
      · have dz1 : (n' == 0) = false := by simpa using hz1
        by_cases hz2 : m' = 0
        · subst hz2
          have HW := Lib.hid (show false = v by rw [← less_pos (n := n') (d := d) (k := k) (by omega) (by omega), ← HSM.out]; exact HV.out)
          go_wp2_with fail
          go_ret
          exact ⟨by rw [← HW.out]; rfl, N4⟩
        · have dz2 : (m' == 0) = false := by simpa using hz2
          have HW := Lib.hid (show lessS k m' d n' = v by rw [← less_flip, ← HSM.out]; exact HV.out)
          have G1 := Lib.hid ((((D1.set 0 (.int .i64 k)).set 1 (.int .i64 m')).far (p := ⟨Sb, 0, none⟩) hne1 (.int .i64 d)).far (p := ⟨Sb, 1, none⟩) hne1 (.int .i64 n'))
          have G2 := Lib.hid ((((D2.far (p := ⟨Rb, 0, none⟩) hne2 (.int .i64 k)).far (p := ⟨Rb, 1, none⟩) hne2 (.int .i64 m')).set 0 (.int .i64 d)).set 1 (.int .i64 n'))
          have G3 := Lib.hid ((((N4.setCell (p := ⟨Rb, 0, none⟩) hge1 (.int .i64 k)).setCell (p := ⟨Rb, 1, none⟩) hge1 (.int .i64 m')).setCell (p := ⟨Sb, 0, none⟩) hge2 (.int .i64 d)).setCell (p := ⟨Sb, 1, none⟩) hge2 (.int .i64 n'))
          have hms : m'.toNat + n'.toNat < d.toNat + k.toNat := by omega
          have HMS := Lib.hid hms
          clear D1 D2 N4 hms
          go_wp2_with fail
          go_roundw
          case rel => exact ⟨k, m', d, n', by omega, by omega, by omega, by omega, HW, ⟨G3.out, G1.out, G2.out⟩⟩
          case measure =>
            rw [HM0.out, cellN_of G1.out, cellN_of G2.out]
            exact HMS.out
    · have db : (a != b) = true := by simpa using hab
      have HW := Lib.hid (show decide (a < b) = v by rw [← HNE.out hab]; exact HV.out)
      clear hab
      obtain ⟨lt, hlt⟩ : ∃ t, decide (a < b) = t := ⟨_, rfl⟩
      rw [hlt] at HW
      go_wp2_with fail
      go_ret
      exact ⟨by rw [← HW.out]; rfl, N3⟩

theorem cIsLess_is {n d m k : Int} {v : Bool} (h : lessS n d m k = v) (w : World) (hn : -9000000000000000 ≤ n ∧ n ≤ 9000000000000000) (hd : 1 ≤ d ∧ d ≤ 9000000000000000) (hm : -9000000000000000 ≤ m ∧ m ≤ 9000000000000000) (hk : 1 ≤ k ∧ k ≤ 9000000000000000) :
    Calls Try.prog 131 #[.agg #[.int .i64 n, .int .i64 d], .agg #[.int .i64 m, .int .i64 k]] w fun e w' => e = .returned (.bool v) ∧ New w w' := h ▸ cIsLess_any n d m k w hn hd hm hk

set_option maxRecDepth 100000 in
set_option maxHeartbeats 4000000 in
theorem cFar_any (e : Ch.Ends) (w : World) (h : LeftOk e) :
    Calls Try.prog 130 #[.agg #[.int .i64 e.lo, .int .i64 e.den, .int .i64 e.hi, .int .i64 e.den]] w fun r w' => r = .returned (.agg #[.int .i64 (farS e).1, .int .i64 (farS e).2]) ∧ New w w' := by
  obtain ⟨lo, hi, den⟩ := e
  have hlo : -6000000000000000 ≤ lo ∧ lo ≤ 6000000000000000 := h.lo
  have hhi : -6000000000000000 ≤ hi ∧ hi ≤ 6000000000000000 := h.hi
  have HV := Lib.hid (show farS ⟨lo, hi, den⟩ = if 0 < lo then (lo, den) else if hi < 0 then (-hi, den) else (0, 1) from rfl)
  dsimp only
  clear h
  have N0 := ((New.refl w).alloc (.cells #[.int .i64 lo, .int .i64 den, .int .i64 hi, .int .i64 den] 202)).alloc (.cells #[.int .i64 0, .int .i64 0] 197)
  have b0 := (Bx.mk w 202 #[.int .i64 lo, .int .i64 den, .int .i64 hi, .int .i64 den]).alloc (.cells #[.int .i64 0, .int .i64 0] 197)
  have c0 := Bx.mk_at (w.alloc (.cells #[.int .i64 lo, .int .i64 den, .int .i64 hi, .int .i64 den] 202)) 197 #[.int .i64 0, .int .i64 0] (w.heap.size + 1) (by simp)
  obtain ⟨W2, hW2⟩ : ∃ W2, (w.alloc (.cells #[.int .i64 lo, .int .i64 den, .int .i64 hi, .int .i64 den] 202)).alloc (.cells #[.int .i64 0, .int .i64 0] 197) = W2 := ⟨_, rfl⟩
  rw [hW2] at N0 b0 c0
  have k0 : W2.cell? ⟨w.heap.size, 0, none⟩ = some (.int .i64 lo) := b0.cell 0
  have k1 : W2.cell? ⟨w.heap.size, 1, none⟩ = some (.int .i64 den) := b0.cell 1
  have k2 : W2.cell? ⟨w.heap.size, 2, none⟩ = some (.int .i64 hi) := b0.cell 2
  have k3 : W2.cell? ⟨w.heap.size, 3, none⟩ = some (.int .i64 den) := b0.cell 3
  have r0 : W2.cell? ⟨w.heap.size + 1, 0, none⟩ = some (.int .i64 0) := c0.cell 0
  have r1 : W2.cell? ⟨w.heap.size + 1, 1, none⟩ = some (.int .i64 0) := c0.cell 1
  have f0 := c0.free 0
  have f1 := c0.free 1
  have l0 := b0.lt
  have l1 := c0.lt
  by_cases h1 : 0 < lo
  · have HW := Lib.hid (HV.out.trans (if_pos h1))
    have d1 : decide (0 < lo) = true := decide_eq_true h1
    go_enter Try.func130, Try.ntmps130
    go_wp2_with fail
    refine bodyPost_ret (results_cell_row rfl _ _ (w.heap.size + 1) 197 #[.int .i64 lo, .int .i64 den] (0, 0) _ rfl ((c0.set 0 (.int .i64 lo)).set 1 (.int .i64 den)) Try.underlying197 rfl (by kernel_rfl)) rfl ?_
    exact ⟨by rw [HW.out], (N0.setCell (p := ⟨w.heap.size + 1, 0, none⟩) (Nat.le_succ _) (.int .i64 lo)).setCell (p := ⟨w.heap.size + 1, 1, none⟩) (Nat.le_succ _) (.int .i64 den)⟩
  · have d1 : decide (0 < lo) = false := decide_eq_false h1
    by_cases h2 : hi < 0
    · have HW := Lib.hid (HV.out.trans ((if_neg h1).trans (if_pos h2)))
      have d2 : decide (hi < 0) = true := decide_eq_true h2
      go_enter Try.func130, Try.ntmps130
      go_wp2_with fail
      refine bodyPost_ret (results_cell_row rfl _ _ (w.heap.size + 1) 197 #[.int .i64 (-hi), .int .i64 den] (0, 0) _ rfl ((c0.set 0 (.int .i64 (-hi))).set 1 (.int .i64 den)) Try.underlying197 rfl (by kernel_rfl)) rfl ?_
      exact ⟨by rw [HW.out], (N0.setCell (p := ⟨w.heap.size + 1, 0, none⟩) (Nat.le_succ _) (.int .i64 (-hi))).setCell (p := ⟨w.heap.size + 1, 1, none⟩) (Nat.le_succ _) (.int .i64 den)⟩
    · have HW := Lib.hid (HV.out.trans ((if_neg h1).trans (if_neg h2)))
      have d2 : decide (hi < 0) = false := decide_eq_false h2
      go_enter Try.func130, Try.ntmps130
      go_wp2_with fail
      refine bodyPost_ret (results_cell_row rfl _ _ (w.heap.size + 1) 197 #[.int .i64 0, .int .i64 1] (0, 0) _ rfl ((c0.set 0 (.int .i64 0)).set 1 (.int .i64 1)) Try.underlying197 rfl (by kernel_rfl)) rfl ?_
      exact ⟨by rw [HW.out], (N0.setCell (p := ⟨w.heap.size + 1, 0, none⟩) (Nat.le_succ _) (.int .i64 0)).setCell (p := ⟨w.heap.size + 1, 1, none⟩) (Nat.le_succ _) (.int .i64 1)⟩
theorem cFar_is {e : Ch.Ends} {v : Int × Int} (hv : farS e = v) (w : World) (h : LeftOk e) :
    Calls Try.prog 130 #[.agg #[.int .i64 e.lo, .int .i64 e.den, .int .i64 e.hi, .int .i64 e.den]] w fun r w' => r = .returned (.agg #[.int .i64 v.1, .int .i64 v.2]) ∧ New w w' := hv ▸ cFar_any e w h
end Go.Proofs.Ytaogolnoiffgiaa
