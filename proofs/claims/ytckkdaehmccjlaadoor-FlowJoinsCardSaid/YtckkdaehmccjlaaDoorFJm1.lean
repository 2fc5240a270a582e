/- Texts of this session put together by a program, part 1: Px58, Px59, Px60, Px7, Px8, Px9, Px6, Px3, Px4, Utf, Px50, Width, Px51, Px52, Px53, Px54, Back, May. -/
import Derived.Test.YtckkdaehmccjlaaDoorFJm0
import Derived.Lib.SliceRun
import Derived.RangeFuncNested
import Derived.RangeFuncBound
import Derived.RangeFuncCalls
import Derived.RangeFuncLeaves
import Derived.Shelf.Abstract
import Derived.Shelf.RegionOpen
import Derived.WalkKit
import Derived.OwnWalkIn
import Derived.TacticsInMore
import Derived.LoopNIn
import Derived.LoopIn
namespace Go.Proofs.YtckkdaehmccjlaaDoor.P
open Go.RowKit Go.Proofs.YtckkdaehmccjlaaDoorW.PrintWords Go.Proofs.YtckkdaehmccjlaaDoorW.PrintLast Go.Proofs.YtckkdaehmccjlaaDoorW.PrintMore
attribute [local go_sem] max2_int min2_int max_two min_two max_three min_three max_four min_four   -- for this text's walks alone
set_option linter.unusedVariables false
set_option linter.unusedSimpArgs false
mutual
def backseatref04_Right.j0 : Nat → Bool → ByteArray → Int → Int → Int → Int → Option (Bool)
 | 0, _, _, _, _, _, _ => none
 | k + 1, x20, x221000, x221001, x221002, x221003, x221004 => if x20 = true then (some false) else (if x221000.toList = ([] : List UInt8) then (some (decide (x221001 < 2))) else ((backseatref01_First.f k x221000).bind fun bt222 => (if bt222.2.2 = 0 then (if x221001 = 0 then (backseatref04_Right.j1 k true x221000 x221001 x221002 x221003 x221004 bt222.1 bt222.2.1 bt222.2.2) else ((backseatref01_Width.f k bt222.1).bind fun t226 => (backseatref04_Right.j1 k (t226 != x221001) x221000 x221001 x221002 x221003 x221004 bt222.1 bt222.2.1 bt222.2.2))) else (backseatref04_Right.j1 k true x221000 x221001 x221002 x221003 x221004 bt222.1 bt222.2.1 bt222.2.2))))
def backseatref04_Right.j1 : Nat → Bool → ByteArray → Int → Int → Int → Int → Int → Int → Int → Option (Bool)
 | 0, _, _, _, _, _, _, _, _, _ => none
 | k + 1, x45, x221000, x221001, x221002, x221003, x221004, x226000, x226001, x226002 => if x45 = true then (some false) else (if 0 ≤ x226001 then (if x226001 ≤ (x221000.size : Int) then (backseatref04_Right.l0 k (x221000.extract (x226001 : Int).toNat x221000.size) 0) else (none)) else (none))
def backseatref04_Right.l0 : Nat → ByteArray → Int → Option (Bool)
 | 0, _, _ => none
 | k + 1, x4, x5 => if (x4.size : Int) > 0 then ((backseatref01_First.f k x4).bind fun bt227 => (if bt227.2.2 = 0 then ((backseatref01_Width.f k bt227.1).bind fun t231 => (if t231 = 0 then (if 0 ≤ bt227.2.1 then (if bt227.2.1 ≤ (x4.size : Int) then (backseatref04_Right.l0 k (x4.extract (bt227.2.1 : Int).toNat x4.size) (wrap64 (x5 + 1))) else (none)) else (none)) else (some false))) else (some false))) else (some (decide (x5 ≤ 2)))
end
def backseatref04_Right.f (k : Nat) (a0_0 : ByteArray) (a0_1 : Int) (a0_2 : Int) (a0_3 : Int) (a0_4 : Int) : Option (Bool) := (backseatref04_Look.f a0_2 a0_3 a0_4).bind fun t221 => (if t221 = true then (if a0_1 < 0 then (backseatref04_Right.j0 k true a0_0 a0_1 a0_2 a0_3 a0_4) else (backseatref04_Right.j0 k (decide (a0_1 > 2)) a0_0 a0_1 a0_2 a0_3 a0_4)) else (backseatref04_Right.j0 k true a0_0 a0_1 a0_2 a0_3 a0_4))
set_option maxHeartbeats 8000000 in
set_option maxRecDepth 100000 in
theorem backseatref04_Right.calls (k : Nat) (a0_0 : ByteArray) (a0_1 : Int) (a0_2 : Int) (a0_3 : Int) (a0_4 : Int) (r : Bool) (w : World) (h : backseatref04_Right.f k a0_0 a0_1 a0_2 a0_3 a0_4 = some r) :
  Calls Tryd.prog 53 #[.agg #[.string a0_0, .int .i64 a0_1, .int .i64 a0_2, .int .i64 a0_3, .int .i64 a0_4]] w fun e w' => e = .returned (.bool r) ∧ Below w.heap.size w w' := by
 have hu60 := Tryd.underlying60
 have hu58 := Tryd.underlying58
 have hu106 := Tryd.underlying106
 have HB := Aside0.mk (Below.refl w.heap.size w)
 have H : ((backseatref04_Look.f a0_2 a0_3 a0_4).bind fun t221 => (if t221 = true then (if a0_1 < 0 then (backseatref04_Right.j0 k true a0_0 a0_1 a0_2 a0_3 a0_4) else (backseatref04_Right.j0 k (decide (a0_1 > 2)) a0_0 a0_1 a0_2 a0_3 a0_4)) else (backseatref04_Right.j0 k true a0_0 a0_1 a0_2 a0_3 a0_4))) = some r := h
 clear h
 have HC2 := Aside0.mk H
 clear H
 go_enter Tryd.func53, Tryd.ntmps53
 go_upto_region 1 with (first | ((with_reducible refine gate_dst (N := 1) rfl ?_); refine box_event ?hg (N := 1) ?hd (cs := #[.string a0_0, .int .i64 a0_1, .int .i64 a0_2, .int .i64 a0_3, .int .i64 a0_4]) (t := 60) ?hr ?_; (case hd => rfl); (case hg => rfl); (case hr => exact zo); intro gb220 hg w3 hbox hb; have BK220 := Aside0.mk (hbox); have GW220 := Aside0.mk ((zg hg : w.heap.size ≤ gb220)); have GE220 := Aside0.mk ((zg hg : w.heap.size ≤ gb220)); replace HB := (zs HB hb); clear hb hbox hg))
 repeat (go_quiet (first | ((with_reducible refine gate_dst (N := 1) rfl ?_); refine box_event ?hg (N := 1) ?hd (cs := #[.string a0_0, .int .i64 a0_1, .int .i64 a0_2, .int .i64 a0_3, .int .i64 a0_4]) (t := 60) ?hr ?_; (case hd => rfl); (case hg => rfl); (case hr => exact zo); intro gb220 hg w3 hbox hb; have BK220 := Aside0.mk (hbox); have GW220 := Aside0.mk ((zg hg : w.heap.size ≤ gb220)); have GE220 := Aside0.mk ((zg hg : w.heap.size ≤ gb220)); replace HB := (zs HB hb); clear hb hbox hg)); go_upto_region 1 with (first | ((with_reducible refine gate_dst (N := 1) rfl ?_); refine box_event ?hg (N := 1) ?hd (cs := #[.string a0_0, .int .i64 a0_1, .int .i64 a0_2, .int .i64 a0_3, .int .i64 a0_4]) (t := 60) ?hr ?_; (case hd => rfl); (case hg => rfl); (case hr => exact zo); intro gb220 hg w3 hbox hb; have BK220 := Aside0.mk (hbox); have GW220 := Aside0.mk ((zg hg : w.heap.size ≤ gb220)); have GE220 := Aside0.mk ((zg hg : w.heap.size ≤ gb220)); replace HB := (zs HB hb); clear hb hbox hg)))
 (try simp only [Act.put, List.setIfInBounds_toArray, List.set_cons_zero, List.set_cons_succ])
 go_cut [20] (fun v20 wc => ∃ (kq : Nat) (x20_1 : Bool), v20 = .bool x20_1 ∧ Aside0 (backseatref04_Right.j0 kq x20_1 a0_0 a0_1 a0_2 a0_3 a0_4 = some r) ∧ Aside0 (kq ≤ k) ∧ Aside0 (wc.heap[gb220]? = some (.cells #[.string a0_0, .int .i64 a0_1, .int .i64 a0_2, .int .i64 a0_3, .int .i64 a0_4] 60 (0, 0))) ∧ Aside0 (Below w.heap.size w wc))
 case first =>
  have H := HC2.out
  clear HC2
  replace H := Option.bind_eq_some_iff.mp H
  obtain ⟨t221, A40, H⟩ := H
  replace H : (if t221 = true then (if a0_1 < 0 then (backseatref04_Right.j0 k true a0_0 a0_1 a0_2 a0_3 a0_4) else (backseatref04_Right.j0 k (decide (a0_1 > 2)) a0_0 a0_1 a0_2 a0_3 a0_4)) else (backseatref04_Right.j0 k true a0_0 a0_1 a0_2 a0_3 a0_4)) = some r := H
  have A4 := Aside0.mk A40
  clear A40
  by_cases c5 : t221 = true
  ·subst c5
   have H1 : (if a0_1 < 0 then (backseatref04_Right.j0 k true a0_0 a0_1 a0_2 a0_3 a0_4) else (backseatref04_Right.j0 k (decide (a0_1 > 2)) a0_0 a0_1 a0_2 a0_3 a0_4)) = some r := by rw [if_pos rfl] at H; exact H
   clear H
   have H := H1
   clear H1
   by_cases c6 : a0_1 < 0
   ·rw [if_pos c6] at H
    have c6b0 : decide (a0_1 < 0) = true := decide_eq_true c6
    clear c6
    (first | rw [c6b0] | (simp only [i64_w, i32_w]; rw [c6b0]) | skip)
    have H' := Aside0.mk H
    clear H
    obtain ⟨hcz7_0, hcz7_1, hcz7_2, hcz7_3, hcz7_4, hfz7_0, hfz7_1, hfz7_2, hfz7_3, hfz7_4⟩ := zq5 (w := w3) BK220
    go_wp2_with (first | (go_at_call 73; (with_reducible refine (backseatref04_Look.calls a0_2 a0_3 a0_4 true _ A4.out).mono ?_); rintro e w8 ⟨rfl, hb⟩; replace BK220 := (zk BK220 hb); replace HB := (zs HB hb); (try clear hb); obtain ⟨hcz9_0, hcz9_1, hcz9_2, hcz9_3, hcz9_4, hfz9_0, hfz9_1, hfz9_2, hfz9_3, hfz9_4⟩ := zq5 (w := w8) BK220))
    repeat (go_quiet (first | (go_at_call 73; (with_reducible refine (backseatref04_Look.calls a0_2 a0_3 a0_4 true _ A4.out).mono ?_); rintro e w8 ⟨rfl, hb⟩; replace BK220 := (zk BK220 hb); replace HB := (zs HB hb); (try clear hb); obtain ⟨hcz9_0, hcz9_1, hcz9_2, hcz9_3, hcz9_4, hfz9_0, hfz9_1, hfz9_2, hfz9_3, hfz9_4⟩ := zq5 (w := w8) BK220)); try go_wp2_with (first | (go_at_call 73; (with_reducible refine (backseatref04_Look.calls a0_2 a0_3 a0_4 true _ A4.out).mono ?_); rintro e w8 ⟨rfl, hb⟩; replace BK220 := (zk BK220 hb); replace HB := (zs HB hb); (try clear hb); obtain ⟨hcz9_0, hcz9_1, hcz9_2, hcz9_3, hcz9_4, hfz9_0, hfz9_1, hfz9_2, hfz9_3, hfz9_4⟩ := zq5 (w := w8) BK220)))
    go_meet
    case rel => exact ⟨_, (true), zf, H', ⟨by first | omega | exact Nat.le_refl _⟩, ⟨by exact BK220.out⟩, ⟨zb⟩⟩
   ·rw [if_neg c6] at H
    have c6b0 : decide (a0_1 < 0) = false := decide_eq_false c6
    clear c6
    (first | rw [c6b0] | (simp only [i64_w, i32_w]; rw [c6b0]) | skip)
    have H' := Aside0.mk H
    clear H
    obtain ⟨hcz10_0, hcz10_1, hcz10_2, hcz10_3, hcz10_4, hfz10_0, hfz10_1, hfz10_2, hfz10_3, hfz10_4⟩ := zq5 (w := w3) BK220
    go_wp2_with (first | (go_at_call 73; (with_reducible refine (backseatref04_Look.calls a0_2 a0_3 a0_4 true _ A4.out).mono ?_); rintro e w11 ⟨rfl, hb⟩; replace BK220 := (zk BK220 hb); replace HB := (zs HB hb); (try clear hb); obtain ⟨hcz12_0, hcz12_1, hcz12_2, hcz12_3, hcz12_4, hfz12_0, hfz12_1, hfz12_2, hfz12_3, hfz12_4⟩ := zq5 (w := w11) BK220))
    repeat (go_quiet (first | (go_at_call 73; (with_reducible refine (backseatref04_Look.calls a0_2 a0_3 a0_4 true _ A4.out).mono ?_); rintro e w11 ⟨rfl, hb⟩; replace BK220 := (zk BK220 hb); replace HB := (zs HB hb); (try clear hb); obtain ⟨hcz12_0, hcz12_1, hcz12_2, hcz12_3, hcz12_4, hfz12_0, hfz12_1, hfz12_2, hfz12_3, hfz12_4⟩ := zq5 (w := w11) BK220)); try go_wp2_with (first | (go_at_call 73; (with_reducible refine (backseatref04_Look.calls a0_2 a0_3 a0_4 true _ A4.out).mono ?_); rintro e w11 ⟨rfl, hb⟩; replace BK220 := (zk BK220 hb); replace HB := (zs HB hb); (try clear hb); obtain ⟨hcz12_0, hcz12_1, hcz12_2, hcz12_3, hcz12_4, hfz12_0, hfz12_1, hfz12_2, hfz12_3, hfz12_4⟩ := zq5 (w := w11) BK220)))
    go_meet
    case rel => exact ⟨_, (decide (a0_1 > 2)), zf, H', ⟨by first | omega | exact Nat.le_refl _⟩, ⟨by exact BK220.out⟩, ⟨zb⟩⟩
  ·replace c5 := Bool.eq_false_iff.mpr c5
   subst c5
   have H1 : (backseatref04_Right.j0 k true a0_0 a0_1 a0_2 a0_3 a0_4) = some r := by rw [if_neg (show ¬ (false = true) by decide)] at H; exact H
   clear H
   have H := H1
   clear H1
   have H' := Aside0.mk H
   clear H
   obtain ⟨hcz13_0, hcz13_1, hcz13_2, hcz13_3, hcz13_4, hfz13_0, hfz13_1, hfz13_2, hfz13_3, hfz13_4⟩ := zq5 (w := w3) BK220
   go_wp2_with (first | (go_at_call 73; (with_reducible refine (backseatref04_Look.calls a0_2 a0_3 a0_4 false _ A4.out).mono ?_); rintro e w14 ⟨rfl, hb⟩; replace BK220 := (zk BK220 hb); replace HB := (zs HB hb); (try clear hb)))
   repeat (go_quiet (first | (go_at_call 73; (with_reducible refine (backseatref04_Look.calls a0_2 a0_3 a0_4 false _ A4.out).mono ?_); rintro e w14 ⟨rfl, hb⟩; replace BK220 := (zk BK220 hb); replace HB := (zs HB hb); (try clear hb))); try go_wp2_with (first | (go_at_call 73; (with_reducible refine (backseatref04_Look.calls a0_2 a0_3 a0_4 false _ A4.out).mono ?_); rintro e w14 ⟨rfl, hb⟩; replace BK220 := (zk BK220 hb); replace HB := (zs HB hb); (try clear hb))))
   go_meet
   case rel => exact ⟨_, (true), zf, H', ⟨by first | omega | exact Nat.le_refl _⟩, ⟨by exact BK220.out⟩, ⟨zb⟩⟩
 case rest =>
  clear HC2
  obtain ⟨kq, x20_1, rfl, HA, HJ1, BK220, HB⟩ := hcut
  cases kq with
  | zero => exact absurd HA.out (by simp [backseatref04_Right.j0])
  | succ kj1 =>
   have H := HA.out
   clear HA
   simp only [backseatref04_Right.j0] at H
   by_cases c15 : x20_1 = true
   ·subst c15
    have H1 : (some false) = some r := by rw [if_pos rfl] at H; exact H
    clear H
    have H := H1
    clear H1
    obtain rfl := Option.some.inj H
    go_wp2
    repeat (go_quiet (fail); try go_wp2)
    go_ret
    exact ⟨ze, zb⟩
   ·replace c15 := Bool.eq_false_iff.mpr c15
    subst c15
    have H1 : (if a0_0.toList = ([] : List UInt8) then (some (decide (a0_1 < 2))) else ((backseatref01_First.f kj1 a0_0).bind fun bt222 => (if bt222.2.2 = 0 then (if a0_1 = 0 then (backseatref04_Right.j1 kj1 true a0_0 a0_1 a0_2 a0_3 a0_4 bt222.1 bt222.2.1 bt222.2.2) else ((backseatref01_Width.f kj1 bt222.1).bind fun t226 => (backseatref04_Right.j1 kj1 (t226 != a0_1) a0_0 a0_1 a0_2 a0_3 a0_4 bt222.1 bt222.2.1 bt222.2.2))) else (backseatref04_Right.j1 kj1 true a0_0 a0_1 a0_2 a0_3 a0_4 bt222.1 bt222.2.1 bt222.2.2)))) = some r := by rw [if_neg (show ¬ (false = true) by decide)] at H; exact H
    clear H
    have H := H1
    clear H1
    by_cases c16 : a0_0.toList = ([] : List UInt8)
    ·rw [if_pos c16] at H
     have c16b0 : (a0_0.toList == ([] : List UInt8)) = true := beq_iff_eq.mpr c16
     have c16b1 : (a0_0.toList != ([] : List UInt8)) = false := bne_eq_false_iff_eq.mpr c16
     clear c16
     obtain rfl := Option.some.inj H
     obtain ⟨hcz17_0, hcz17_1, hcz17_2, hcz17_3, hcz17_4, hfz17_0, hfz17_1, hfz17_2, hfz17_3, hfz17_4⟩ := zq5 (w := wc) BK220
     go_wp2
     repeat (go_quiet (fail); try go_wp2)
     go_ret
     exact ⟨ze, zb⟩
    ·rw [if_neg c16] at H
     have c16b0 : (a0_0.toList == ([] : List UInt8)) = false := beq_eq_false_iff_ne.mpr c16
     have c16b1 : (a0_0.toList != ([] : List UInt8)) = true := bne_iff_ne.mpr c16
     replace H := Option.bind_eq_some_iff.mp H
     obtain ⟨⟨t222, t223, t224⟩, A180, H⟩ := H
     replace H : (if t224 = 0 then (if a0_1 = 0 then (backseatref04_Right.j1 kj1 true a0_0 a0_1 a0_2 a0_3 a0_4 t222 t223 t224) else ((backseatref01_Width.f kj1 t222).bind fun t226 => (backseatref04_Right.j1 kj1 (t226 != a0_1) a0_0 a0_1 a0_2 a0_3 a0_4 t222 t223 t224))) else (backseatref04_Right.j1 kj1 true a0_0 a0_1 a0_2 a0_3 a0_4 t222 t223 t224)) = some r := H
     have A18 := Aside0.mk A180
     clear A180
     have HC19 := Aside0.mk H
     clear H
     obtain ⟨hcz20_0, hcz20_1, hcz20_2, hcz20_3, hcz20_4, hfz20_0, hfz20_1, hfz20_2, hfz20_3, hfz20_4⟩ := zq5 (w := wc) BK220
     go_upto_region 6 with (first | (go_at_call 74; (with_reducible refine (backseatref01_First.calls kj1 a0_0 t222 t223 t224 _ A18.out).mono ?_); rintro e w21 ⟨rfl, hb⟩; replace BK220 := (zk BK220 hb); replace HB := (zs HB hb); (try clear hb)) | ((with_reducible refine gate_dst (N := 3) rfl ?_); refine box_event ?hg (N := 3) ?hd (cs := #[.int .i32 0, .int .i64 0, .int .i64 0]) (t := 106) ?hr ?_; (case hd => rfl); (case hg => rfl); (case hr => exact zo); intro gb225 hg w22 hbox hb; have n0_ := (zk BK220 hb); have n1_ := (zs HB hb); have n2_ := Aside0.mk (hbox); have n3_ := Aside0.mk ((zg hg : w.heap.size ≤ gb225)); have n4_ := Aside0.mk ((zg hg : w.heap.size ≤ gb225)); have n5_ := Aside0.mk ((by rw [hg]; exact Nat.ne_of_lt (blk_lt (g := gb220) (o := .cells #[.string a0_0, .int .i64 a0_1, .int .i64 a0_2, .int .i64 a0_3, .int .i64 a0_4] 60 (0, 0)) (by exact BK220.out)) : gb220 ≠ gb225)); have n6_ := Aside0.mk ((by rw [hg]; exact Nat.ne_of_gt (blk_lt (g := gb220) (o := .cells #[.string a0_0, .int .i64 a0_1, .int .i64 a0_2, .int .i64 a0_3, .int .i64 a0_4] 60 (0, 0)) (by exact BK220.out)) : gb225 ≠ gb220)); clear BK220; clear HB; have BK220 := n0_; have HB := n1_; have BK225 := n2_; have GW225 := n3_; have GE225 := n4_; have NB220_225 := n5_; have NB225_220 := n6_; clear n0_ n1_ n2_ n3_ n4_ n5_ n6_; clear hb hbox hg; have hnb23 := NB225_220.out; have hnc23 := NB220_225.out; obtain ⟨hcz24_0, hcz24_1, hcz24_2, hfz24_0, hfz24_1, hfz24_2⟩ := zq3 (w := w22) BK225))
     repeat (go_quiet (first | (go_at_call 74; (with_reducible refine (backseatref01_First.calls kj1 a0_0 t222 t223 t224 _ A18.out).mono ?_); rintro e w21 ⟨rfl, hb⟩; replace BK220 := (zk BK220 hb); replace HB := (zs HB hb); (try clear hb)) | ((with_reducible refine gate_dst (N := 3) rfl ?_); refine box_event ?hg (N := 3) ?hd (cs := #[.int .i32 0, .int .i64 0, .int .i64 0]) (t := 106) ?hr ?_; (case hd => rfl); (case hg => rfl); (case hr => exact zo); intro gb225 hg w22 hbox hb; have n0_ := (zk BK220 hb); have n1_ := (zs HB hb); have n2_ := Aside0.mk (hbox); have n3_ := Aside0.mk ((zg hg : w.heap.size ≤ gb225)); have n4_ := Aside0.mk ((zg hg : w.heap.size ≤ gb225)); have n5_ := Aside0.mk ((by rw [hg]; exact Nat.ne_of_lt (blk_lt (g := gb220) (o := .cells #[.string a0_0, .int .i64 a0_1, .int .i64 a0_2, .int .i64 a0_3, .int .i64 a0_4] 60 (0, 0)) (by exact BK220.out)) : gb220 ≠ gb225)); have n6_ := Aside0.mk ((by rw [hg]; exact Nat.ne_of_gt (blk_lt (g := gb220) (o := .cells #[.string a0_0, .int .i64 a0_1, .int .i64 a0_2, .int .i64 a0_3, .int .i64 a0_4] 60 (0, 0)) (by exact BK220.out)) : gb225 ≠ gb220)); clear BK220; clear HB; have BK220 := n0_; have HB := n1_; have BK225 := n2_; have GW225 := n3_; have GE225 := n4_; have NB220_225 := n5_; have NB225_220 := n6_; clear n0_ n1_ n2_ n3_ n4_ n5_ n6_; clear hb hbox hg; have hnb23 := NB225_220.out; have hnc23 := NB220_225.out; obtain ⟨hcz24_0, hcz24_1, hcz24_2, hfz24_0, hfz24_1, hfz24_2⟩ := zq3 (w := w22) BK225)); go_upto_region 6 with (first | (go_at_call 74; (with_reducible refine (backseatref01_First.calls kj1 a0_0 t222 t223 t224 _ A18.out).mono ?_); rintro e w21 ⟨rfl, hb⟩; replace BK220 := (zk BK220 hb); replace HB := (zs HB hb); (try clear hb)) | ((with_reducible refine gate_dst (N := 3) rfl ?_); refine box_event ?hg (N := 3) ?hd (cs := #[.int .i32 0, .int .i64 0, .int .i64 0]) (t := 106) ?hr ?_; (case hd => rfl); (case hg => rfl); (case hr => exact zo); intro gb225 hg w22 hbox hb; have n0_ := (zk BK220 hb); have n1_ := (zs HB hb); have n2_ := Aside0.mk (hbox); have n3_ := Aside0.mk ((zg hg : w.heap.size ≤ gb225)); have n4_ := Aside0.mk ((zg hg : w.heap.size ≤ gb225)); have n5_ := Aside0.mk ((by rw [hg]; exact Nat.ne_of_lt (blk_lt (g := gb220) (o := .cells #[.string a0_0, .int .i64 a0_1, .int .i64 a0_2, .int .i64 a0_3, .int .i64 a0_4] 60 (0, 0)) (by exact BK220.out)) : gb220 ≠ gb225)); have n6_ := Aside0.mk ((by rw [hg]; exact Nat.ne_of_gt (blk_lt (g := gb220) (o := .cells #[.string a0_0, .int .i64 a0_1, .int .i64 a0_2, .int .i64 a0_3, .int .i64 a0_4] 60 (0, 0)) (by exact BK220.out)) : gb225 ≠ gb220)); clear BK220; clear HB; have BK220 := n0_; have HB := n1_; have BK225 := n2_; have GW225 := n3_; have GE225 := n4_; have NB220_225 := n5_; have NB225_220 := n6_; clear n0_ n1_ n2_ n3_ n4_ n5_ n6_; clear hb hbox hg; have hnb23 := NB225_220.out; have hnc23 := NB220_225.out; obtain ⟨hcz24_0, hcz24_1, hcz24_2, hfz24_0, hfz24_1, hfz24_2⟩ := zq3 (w := w22) BK225)))
     (try simp only [Act.put, List.setIfInBounds_toArray, List.set_cons_zero, List.set_cons_succ])
     go_cut [45] (fun v45 wc => ∃ (kq : Nat) (x45_18 : Bool), v45 = .bool x45_18 ∧ Aside0 (backseatref04_Right.j1 kq x45_18 a0_0 a0_1 a0_2 a0_3 a0_4 t222 t223 t224 = some r) ∧ Aside0 (kq ≤ kj1) ∧ Aside0 (wc.heap[gb220]? = some (.cells #[.string a0_0, .int .i64 a0_1, .int .i64 a0_2, .int .i64 a0_3, .int .i64 a0_4] 60 (0, 0))) ∧ Aside0 (wc.heap[gb225]? = some (.cells #[.int .i32 t222, .int .i64 t223, .int .i64 t224] 106 (0, 0))) ∧ Aside0 (Below w.heap.size w wc))
     case first =>
      have H := HC19.out
      clear HC19
      by_cases c25 : t224 = 0
      ·rw [if_pos c25] at H
       have c25b0 : (t224 == 0) = true := beq_iff_eq.mpr c25
       have c25b1 : (t224 != 0) = false := bne_eq_false_iff_eq.mpr c25
       clear c25
       (first | rw [c25b0] | (simp only [i64_w, i32_w]; rw [c25b0]) | skip)
       by_cases c26 : a0_1 = 0
       ·rw [if_pos c26] at H
        have c26b0 : (a0_1 == 0) = true := beq_iff_eq.mpr c26
        have c26b1 : (a0_1 != 0) = false := bne_eq_false_iff_eq.mpr c26
        clear c26
        have H' := Aside0.mk H
        clear H
        have hnb27 := NB225_220.out
        have hnc27 := NB220_225.out
        obtain ⟨hcz28_0, hcz28_1, hcz28_2, hfz28_0, hfz28_1, hfz28_2⟩ := zq3 (w := w22) BK225
        obtain ⟨hcz29_0, hcz29_1, hcz29_2, hcz29_3, hcz29_4, hfz29_0, hfz29_1, hfz29_2, hfz29_3, hfz29_4⟩ := zq5 (w := w22) BK220
        go_wp2
        repeat (go_quiet (fail); try go_wp2)
        go_meet
        case rel => exact ⟨_, (true), zf, H', ⟨by have := HJ1.out; first | omega | exact Nat.le_refl _⟩, ⟨by refine blk_far ?_ NB220_225.out _; refine blk_far ?_ NB220_225.out _; refine blk_far ?_ NB220_225.out _; exact BK220.out⟩, ⟨by refine blk_put (cs := #[.int .i32 t222, .int .i64 t223, .int .i64 0]) ?_ 2 _ rfl; refine blk_put (cs := #[.int .i32 t222, .int .i64 0, .int .i64 0]) ?_ 1 _ rfl; refine blk_put (cs := #[.int .i32 0, .int .i64 0, .int .i64 0]) ?_ 0 _ rfl; exact BK225.out⟩, ⟨zb⟩⟩
       ·rw [if_neg c26] at H
        have c26b0 : (a0_1 == 0) = false := beq_eq_false_iff_ne.mpr c26
        have c26b1 : (a0_1 != 0) = true := bne_iff_ne.mpr c26
        replace H := Option.bind_eq_some_iff.mp H
        obtain ⟨t226, A300, H⟩ := H
        replace H : (backseatref04_Right.j1 kj1 (t226 != a0_1) a0_0 a0_1 a0_2 a0_3 a0_4 t222 t223 t224) = some r := H
        have A30 := Aside0.mk A300
        clear A300
        have H' := Aside0.mk H
        clear H
        have hnb31 := NB225_220.out
        have hnc31 := NB220_225.out
        obtain ⟨hcz32_0, hcz32_1, hcz32_2, hfz32_0, hfz32_1, hfz32_2⟩ := zq3 (w := w22) BK225
        obtain ⟨hcz33_0, hcz33_1, hcz33_2, hcz33_3, hcz33_4, hfz33_0, hfz33_1, hfz33_2, hfz33_3, hfz33_4⟩ := zq5 (w := w22) BK220
        go_wp2_with (first | (go_at_call 75; (with_reducible refine (backseatref01_Width.calls kj1 t222 t226 _ A30.out).mono ?_); rintro e w' ⟨rfl, ⟨nd, rfl⟩⟩; (try first | exact ⟨rfl, _, World.drewN_drewN _ _ _⟩ | exact ⟨rfl, _, Eq.trans (World.drewN_drewN _ _ _) (congrArg (World.drewN _) (Nat.add_assoc _ _ _))⟩)))
        repeat (go_quiet (first | (go_at_call 75; (with_reducible refine (backseatref01_Width.calls kj1 t222 t226 _ A30.out).mono ?_); rintro e w' ⟨rfl, ⟨nd, rfl⟩⟩; (try first | exact ⟨rfl, _, World.drewN_drewN _ _ _⟩ | exact ⟨rfl, _, Eq.trans (World.drewN_drewN _ _ _) (congrArg (World.drewN _) (Nat.add_assoc _ _ _))⟩))); try go_wp2_with (first | (go_at_call 75; (with_reducible refine (backseatref01_Width.calls kj1 t222 t226 _ A30.out).mono ?_); rintro e w' ⟨rfl, ⟨nd, rfl⟩⟩; (try first | exact ⟨rfl, _, World.drewN_drewN _ _ _⟩ | exact ⟨rfl, _, Eq.trans (World.drewN_drewN _ _ _) (congrArg (World.drewN _) (Nat.add_assoc _ _ _))⟩))))
        go_meet
        case rel => exact ⟨_, ((t226 != a0_1)), zf, H', ⟨by have := HJ1.out; first | omega | exact Nat.le_refl _⟩, ⟨by refine blk_far ?_ NB220_225.out _; refine blk_far ?_ NB220_225.out _; refine blk_far ?_ NB220_225.out _; exact BK220.out⟩, ⟨by refine blk_put (cs := #[.int .i32 t222, .int .i64 t223, .int .i64 0]) ?_ 2 _ rfl; refine blk_put (cs := #[.int .i32 t222, .int .i64 0, .int .i64 0]) ?_ 1 _ rfl; refine blk_put (cs := #[.int .i32 0, .int .i64 0, .int .i64 0]) ?_ 0 _ rfl; exact BK225.out⟩, ⟨zb⟩⟩
      ·rw [if_neg c25] at H
       have c25b0 : (t224 == 0) = false := beq_eq_false_iff_ne.mpr c25
       have c25b1 : (t224 != 0) = true := bne_iff_ne.mpr c25
       (first | rw [c25b0] | (simp only [i64_w, i32_w]; rw [c25b0]) | skip)
       have H' := Aside0.mk H
       clear H
       have hnb34 := NB225_220.out
       have hnc34 := NB220_225.out
       obtain ⟨hcz35_0, hcz35_1, hcz35_2, hfz35_0, hfz35_1, hfz35_2⟩ := zq3 (w := w22) BK225
       go_wp2
       repeat (go_quiet (fail); try go_wp2)
       go_meet
       case rel => exact ⟨_, (true), zf, H', ⟨by have := HJ1.out; first | omega | exact Nat.le_refl _⟩, ⟨by refine blk_far ?_ NB220_225.out _; refine blk_far ?_ NB220_225.out _; refine blk_far ?_ NB220_225.out _; exact BK220.out⟩, ⟨by refine blk_put (cs := #[.int .i32 t222, .int .i64 t223, .int .i64 0]) ?_ 2 _ rfl; refine blk_put (cs := #[.int .i32 t222, .int .i64 0, .int .i64 0]) ?_ 1 _ rfl; refine blk_put (cs := #[.int .i32 0, .int .i64 0, .int .i64 0]) ?_ 0 _ rfl; exact BK225.out⟩, ⟨zb⟩⟩
     case rest =>
      clear HC19
      try clear c15
      try clear c16
      try clear c16b0
      try clear c16b1
      try clear hcz20_0
      try clear hcz20_1
      try clear hcz20_2
      try clear hcz20_3
      try clear hcz20_4
      try clear hcz24_0
      try clear hcz24_1
      try clear hcz24_2
      try clear hfz20_0
      try clear hfz20_1
      try clear hfz20_2
      try clear hfz20_3
      try clear hfz20_4
      try clear hfz24_0
      try clear hfz24_1
      try clear hfz24_2
      obtain ⟨kq, x45_18, rfl, HA, HJ18, BK220, BK225, HB⟩ := hcut
      cases kq with
      | zero => exact absurd HA.out (by simp [backseatref04_Right.j1])
      | succ kj18 =>
       have H := HA.out
       clear HA
       simp only [backseatref04_Right.j1] at H
       by_cases c36 : x45_18 = true
       ·subst c36
        have H1 : (some false) = some r := by rw [if_pos rfl] at H; exact H
        clear H
        have H := H1
        clear H1
        obtain rfl := Option.some.inj H
        go_wp2
        repeat (go_quiet (fail); try go_wp2)
        go_ret
        exact ⟨ze, zb⟩
       ·replace c36 := Bool.eq_false_iff.mpr c36
        subst c36
        have H1 : (if 0 ≤ t223 then (if t223 ≤ (a0_0.size : Int) then (backseatref04_Right.l0 kj18 (a0_0.extract (t223 : Int).toNat a0_0.size) 0) else (none)) else (none)) = some r := by rw [if_neg (show ¬ (false = true) by decide)] at H; exact H
        clear H
        have H := H1
        clear H1
        by_cases c37 : 0 ≤ t223
        ·rw [if_pos c37] at H
         have c37b0 := eq_true c37
         have c37b1 : decide (0 ≤ t223) = true := decide_eq_true c37
         clear c37
         by_cases c38 : t223 ≤ (a0_0.size : Int)
         ·rw [if_pos c38] at H
          have c38b0 := eq_true c38
          have c38b1 : decide (t223 ≤ (a0_0.size : Int)) = true := decide_eq_true c38
          clear c38
          have H' := Aside0.mk H
          clear H
          have hnb39 := NB220_225.out
          have hnc39 := NB225_220.out
          obtain ⟨hcz40_0, hcz40_1, hcz40_2, hcz40_3, hcz40_4, hfz40_0, hfz40_1, hfz40_2, hfz40_3, hfz40_4⟩ := zq5 (w := wc) BK220
          obtain ⟨hcz41_0, hcz41_1, hcz41_2, hfz41_0, hfz41_1, hfz41_2⟩ := zq3 (w := wc) BK225
          go_wp2
          repeat (go_quiet (fail); try go_wp2)
          go_loopg [4, 5] kj18 (fun kq v4 v5 w' => ∃ (x4_3 : ByteArray) (x5_3 : Int), v4 = .string x4_3 ∧ v5 = .int .i64 x5_3 ∧ Aside0 (backseatref04_Right.l0 kq x4_3 x5_3 = some r) ∧ Aside0 (kq ≤ kj18) ∧ Aside0 (w'.heap[gb220]? = some (.cells #[.string a0_0, .int .i64 a0_1, .int .i64 a0_2, .int .i64 a0_3, .int .i64 a0_4] 60 (0, 0))) ∧ Aside0 (w'.heap[gb225]? = some (.cells #[.int .i32 t222, .int .i64 t223, .int .i64 t224] 106 (0, 0))) ∧ Aside0 (Below w.heap.size w w'))
          case atStart => exact ⟨(a0_0.extract (t223 : Int).toNat a0_0.size), (0), zf, zf, H', ⟨Nat.le_refl _⟩, ⟨by exact BK220.out⟩, ⟨by exact BK225.out⟩, ⟨zb⟩⟩
          case round =>
           clear H'
           try clear c15
           try clear c16
           try clear c16b0
           try clear c16b1
           try clear c36
           try clear c37
           try clear c37b0
           try clear c37b1
           try clear c38
           try clear c38b0
           try clear c38b1
           try clear hcz20_0
           try clear hcz20_1
           try clear hcz20_2
           try clear hcz20_3
           try clear hcz20_4
           try clear hcz24_0
           try clear hcz24_1
           try clear hcz24_2
           try clear hcz40_0
           try clear hcz40_1
           try clear hcz40_2
           try clear hcz40_3
           try clear hcz40_4
           try clear hcz41_0
           try clear hcz41_1
           try clear hcz41_2
           try clear hfz20_0
           try clear hfz20_1
           try clear hfz20_2
           try clear hfz20_3
           try clear hfz20_4
           try clear hfz24_0
           try clear hfz24_1
           try clear hfz24_2
           try clear hfz40_0
           try clear hfz40_1
           try clear hfz40_2
           try clear hfz40_3
           try clear hfz40_4
           try clear hfz41_0
           try clear hfz41_1
           try clear hfz41_2
           obtain ⟨x4_3, x5_3, rfl, rfl, HA, HK3, BK220, BK225, HB⟩ := hrel
           cases gk with
           | zero => exact absurd HA.out (by simp [backseatref04_Right.l0])
           | succ k3 =>
            have H := HA.out
            clear HA
            simp only [backseatref04_Right.l0] at H
            by_cases c42 : (x4_3.size : Int) > 0
            ·rw [if_pos c42] at H
             have c42b0 : decide (0 < (x4_3.size : Int)) = true := decide_eq_true c42
             have c42b1 : decide (0 < x4_3.size) = true := decide_eq_true (by omega)
             clear c42
             replace H := Option.bind_eq_some_iff.mp H
             obtain ⟨⟨t227, t228, t229⟩, A430, H⟩ := H
             replace H : (if t229 = 0 then ((backseatref01_Width.f k3 t227).bind fun t231 => (if t231 = 0 then (if 0 ≤ t228 then (if t228 ≤ (x4_3.size : Int) then (backseatref04_Right.l0 k3 (x4_3.extract (t228 : Int).toNat x4_3.size) (wrap64 (x5_3 + 1))) else (none)) else (none)) else (some false))) else (some false)) = some r := H
             have A43 := Aside0.mk A430
             clear A430
             by_cases c44 : t229 = 0
             ·rw [if_pos c44] at H
              have c44b0 : (t229 == 0) = true := beq_iff_eq.mpr c44
              have c44b1 : (t229 != 0) = false := bne_eq_false_iff_eq.mpr c44
              clear c44
              replace H := Option.bind_eq_some_iff.mp H
              obtain ⟨t231, A450, H⟩ := H
              replace H : (if t231 = 0 then (if 0 ≤ t228 then (if t228 ≤ (x4_3.size : Int) then (backseatref04_Right.l0 k3 (x4_3.extract (t228 : Int).toNat x4_3.size) (wrap64 (x5_3 + 1))) else (none)) else (none)) else (some false)) = some r := H
              have A45 := Aside0.mk A450
              clear A450
              by_cases c46 : t231 = 0
              ·rw [if_pos c46] at H
               have c46b0 : (t231 == 0) = true := beq_iff_eq.mpr c46
               have c46b1 : (t231 != 0) = false := bne_eq_false_iff_eq.mpr c46
               clear c46
               by_cases c47 : 0 ≤ t228
               ·rw [if_pos c47] at H
                have c47b0 := eq_true c47
                have c47b1 : decide (0 ≤ t228) = true := decide_eq_true c47
                clear c47
                by_cases c48 : t228 ≤ (x4_3.size : Int)
                ·rw [if_pos c48] at H
                 have c48b0 := eq_true c48
                 have c48b1 : decide (t228 ≤ (x4_3.size : Int)) = true := decide_eq_true c48
                 clear c48
                 have H' := Aside0.mk H
                 clear H
                 go_wp2_with (first | (go_at_call 74; (with_reducible refine (backseatref01_First.calls k3 x4_3 t227 t228 t229 _ A43.out).mono ?_); rintro e w49 ⟨rfl, hb⟩; replace BK220 := (zk BK220 hb); replace BK225 := (zk BK225 hb); replace HB := (zs HB hb); (try clear hb)) | ((with_reducible refine gate_dst (N := 6) rfl ?_); refine box_event ?hg (N := 6) ?hd (cs := #[.int .i32 0, .int .i64 0, .int .i64 0]) (t := 106) ?hr ?_; (case hd => rfl); (case hg => rfl); (case hr => exact zo); intro gb230 hg w50 hbox hb; have n0_ := (zk BK220 hb); have n1_ := (zk BK225 hb); have n2_ := (zs HB hb); have n3_ := Aside0.mk (hbox); have n4_ := Aside0.mk ((zg hg : w.heap.size ≤ gb230)); have n5_ := Aside0.mk ((zg hg : w.heap.size ≤ gb230)); have n6_ := Aside0.mk ((by rw [hg]; exact Nat.ne_of_lt (blk_lt (g := gb220) (o := .cells #[.string a0_0, .int .i64 a0_1, .int .i64 a0_2, .int .i64 a0_3, .int .i64 a0_4] 60 (0, 0)) (by exact BK220.out)) : gb220 ≠ gb230)); have n7_ := Aside0.mk ((by rw [hg]; exact Nat.ne_of_gt (blk_lt (g := gb220) (o := .cells #[.string a0_0, .int .i64 a0_1, .int .i64 a0_2, .int .i64 a0_3, .int .i64 a0_4] 60 (0, 0)) (by exact BK220.out)) : gb230 ≠ gb220)); have n8_ := Aside0.mk ((by rw [hg]; exact Nat.ne_of_lt (blk_lt (g := gb225) (o := .cells #[.int .i32 t222, .int .i64 t223, .int .i64 t224] 106 (0, 0)) (by exact BK225.out)) : gb225 ≠ gb230)); have n9_ := Aside0.mk ((by rw [hg]; exact Nat.ne_of_gt (blk_lt (g := gb225) (o := .cells #[.int .i32 t222, .int .i64 t223, .int .i64 t224] 106 (0, 0)) (by exact BK225.out)) : gb230 ≠ gb225)); clear BK220; clear BK225; clear HB; have BK220 := n0_; have BK225 := n1_; have HB := n2_; have BK230 := n3_; have GW230 := n4_; have GE230 := n5_; have NB220_230 := n6_; have NB230_220 := n7_; have NB225_230 := n8_; have NB230_225 := n9_; clear n0_ n1_ n2_ n3_ n4_ n5_ n6_ n7_ n8_ n9_; clear hb hbox hg; have hnb51 := NB230_220.out; have hnc51 := NB220_230.out; have hnb52 := NB230_225.out; have hnc52 := NB225_230.out; obtain ⟨hcz53_0, hcz53_1, hcz53_2, hfz53_0, hfz53_1, hfz53_2⟩ := zq3 (w := w50) BK230) | (go_at_call 75; (with_reducible refine (backseatref01_Width.calls k3 t227 t231 _ A45.out).mono ?_); rintro e w' ⟨rfl, ⟨nd, rfl⟩⟩; (try first | exact ⟨rfl, _, World.drewN_drewN _ _ _⟩ | exact ⟨rfl, _, Eq.trans (World.drewN_drewN _ _ _) (congrArg (World.drewN _) (Nat.add_assoc _ _ _))⟩)))
                 repeat (go_quiet (first | (go_at_call 74; (with_reducible refine (backseatref01_First.calls k3 x4_3 t227 t228 t229 _ A43.out).mono ?_); rintro e w49 ⟨rfl, hb⟩; replace BK220 := (zk BK220 hb); replace BK225 := (zk BK225 hb); replace HB := (zs HB hb); (try clear hb)) | ((with_reducible refine gate_dst (N := 6) rfl ?_); refine box_event ?hg (N := 6) ?hd (cs := #[.int .i32 0, .int .i64 0, .int .i64 0]) (t := 106) ?hr ?_; (case hd => rfl); (case hg => rfl); (case hr => exact zo); intro gb230 hg w50 hbox hb; have n0_ := (zk BK220 hb); have n1_ := (zk BK225 hb); have n2_ := (zs HB hb); have n3_ := Aside0.mk (hbox); have n4_ := Aside0.mk ((zg hg : w.heap.size ≤ gb230)); have n5_ := Aside0.mk ((zg hg : w.heap.size ≤ gb230)); have n6_ := Aside0.mk ((by rw [hg]; exact Nat.ne_of_lt (blk_lt (g := gb220) (o := .cells #[.string a0_0, .int .i64 a0_1, .int .i64 a0_2, .int .i64 a0_3, .int .i64 a0_4] 60 (0, 0)) (by exact BK220.out)) : gb220 ≠ gb230)); have n7_ := Aside0.mk ((by rw [hg]; exact Nat.ne_of_gt (blk_lt (g := gb220) (o := .cells #[.string a0_0, .int .i64 a0_1, .int .i64 a0_2, .int .i64 a0_3, .int .i64 a0_4] 60 (0, 0)) (by exact BK220.out)) : gb230 ≠ gb220)); have n8_ := Aside0.mk ((by rw [hg]; exact Nat.ne_of_lt (blk_lt (g := gb225) (o := .cells #[.int .i32 t222, .int .i64 t223, .int .i64 t224] 106 (0, 0)) (by exact BK225.out)) : gb225 ≠ gb230)); have n9_ := Aside0.mk ((by rw [hg]; exact Nat.ne_of_gt (blk_lt (g := gb225) (o := .cells #[.int .i32 t222, .int .i64 t223, .int .i64 t224] 106 (0, 0)) (by exact BK225.out)) : gb230 ≠ gb225)); clear BK220; clear BK225; clear HB; have BK220 := n0_; have BK225 := n1_; have HB := n2_; have BK230 := n3_; have GW230 := n4_; have GE230 := n5_; have NB220_230 := n6_; have NB230_220 := n7_; have NB225_230 := n8_; have NB230_225 := n9_; clear n0_ n1_ n2_ n3_ n4_ n5_ n6_ n7_ n8_ n9_; clear hb hbox hg; have hnb51 := NB230_220.out; have hnc51 := NB220_230.out; have hnb52 := NB230_225.out; have hnc52 := NB225_230.out; obtain ⟨hcz53_0, hcz53_1, hcz53_2, hfz53_0, hfz53_1, hfz53_2⟩ := zq3 (w := w50) BK230) | (go_at_call 75; (with_reducible refine (backseatref01_Width.calls k3 t227 t231 _ A45.out).mono ?_); rintro e w' ⟨rfl, ⟨nd, rfl⟩⟩; (try first | exact ⟨rfl, _, World.drewN_drewN _ _ _⟩ | exact ⟨rfl, _, Eq.trans (World.drewN_drewN _ _ _) (congrArg (World.drewN _) (Nat.add_assoc _ _ _))⟩))); try go_wp2_with (first | (go_at_call 74; (with_reducible refine (backseatref01_First.calls k3 x4_3 t227 t228 t229 _ A43.out).mono ?_); rintro e w49 ⟨rfl, hb⟩; replace BK220 := (zk BK220 hb); replace BK225 := (zk BK225 hb); replace HB := (zs HB hb); (try clear hb)) | ((with_reducible refine gate_dst (N := 6) rfl ?_); refine box_event ?hg (N := 6) ?hd (cs := #[.int .i32 0, .int .i64 0, .int .i64 0]) (t := 106) ?hr ?_; (case hd => rfl); (case hg => rfl); (case hr => exact zo); intro gb230 hg w50 hbox hb; have n0_ := (zk BK220 hb); have n1_ := (zk BK225 hb); have n2_ := (zs HB hb); have n3_ := Aside0.mk (hbox); have n4_ := Aside0.mk ((zg hg : w.heap.size ≤ gb230)); have n5_ := Aside0.mk ((zg hg : w.heap.size ≤ gb230)); have n6_ := Aside0.mk ((by rw [hg]; exact Nat.ne_of_lt (blk_lt (g := gb220) (o := .cells #[.string a0_0, .int .i64 a0_1, .int .i64 a0_2, .int .i64 a0_3, .int .i64 a0_4] 60 (0, 0)) (by exact BK220.out)) : gb220 ≠ gb230)); have n7_ := Aside0.mk ((by rw [hg]; exact Nat.ne_of_gt (blk_lt (g := gb220) (o := .cells #[.string a0_0, .int .i64 a0_1, .int .i64 a0_2, .int .i64 a0_3, .int .i64 a0_4] 60 (0, 0)) (by exact BK220.out)) : gb230 ≠ gb220)); have n8_ := Aside0.mk ((by rw [hg]; exact Nat.ne_of_lt (blk_lt (g := gb225) (o := .cells #[.int .i32 t222, .int .i64 t223, .int .i64 t224] 106 (0, 0)) (by exact BK225.out)) : gb225 ≠ gb230)); have n9_ := Aside0.mk ((by rw [hg]; exact Nat.ne_of_gt (blk_lt (g := gb225) (o := .cells #[.int .i32 t222, .int .i64 t223, .int .i64 t224] 106 (0, 0)) (by exact BK225.out)) : gb230 ≠ gb225)); clear BK220; clear BK225; clear HB; have BK220 := n0_; have BK225 := n1_; have HB := n2_; have BK230 := n3_; have GW230 := n4_; have GE230 := n5_; have NB220_230 := n6_; have NB230_220 := n7_; have NB225_230 := n8_; have NB230_225 := n9_; clear n0_ n1_ n2_ n3_ n4_ n5_ n6_ n7_ n8_ n9_; clear hb hbox hg; have hnb51 := NB230_220.out; have hnc51 := NB220_230.out; have hnb52 := NB230_225.out; have hnc52 := NB225_230.out; obtain ⟨hcz53_0, hcz53_1, hcz53_2, hfz53_0, hfz53_1, hfz53_2⟩ := zq3 (w := w50) BK230) | (go_at_call 75; (with_reducible refine (backseatref01_Width.calls k3 t227 t231 _ A45.out).mono ?_); rintro e w' ⟨rfl, ⟨nd, rfl⟩⟩; (try first | exact ⟨rfl, _, World.drewN_drewN _ _ _⟩ | exact ⟨rfl, _, Eq.trans (World.drewN_drewN _ _ _) (congrArg (World.drewN _) (Nat.add_assoc _ _ _))⟩))))
                 go_roundg k3
                 case measure => have := HJ1.out; have := HJ18.out; have := HK3.out; omega
                 case rel => exact ⟨(x4_3.extract (t228 : Int).toNat x4_3.size), (wrap64 (x5_3 + 1)), zf, zf, H', ⟨by have := HJ1.out; have := HJ18.out; have := HK3.out; omega⟩, ⟨by refine blk_far ?_ NB220_230.out _; refine blk_far ?_ NB220_230.out _; refine blk_far ?_ NB220_230.out _; exact BK220.out⟩, ⟨by refine blk_far ?_ NB225_230.out _; refine blk_far ?_ NB225_230.out _; refine blk_far ?_ NB225_230.out _; exact BK225.out⟩, ⟨zb⟩⟩
                ·rw [if_neg c48] at H
                 exact absurd H (by simp)
               ·rw [if_neg c47] at H
                exact absurd H (by simp)
              ·rw [if_neg c46] at H
               have c46b0 : (t231 == 0) = false := beq_eq_false_iff_ne.mpr c46
               have c46b1 : (t231 != 0) = true := bne_iff_ne.mpr c46
               obtain rfl := Option.some.inj H
               go_wp2_with (first | (go_at_call 74; (with_reducible refine (backseatref01_First.calls k3 x4_3 t227 t228 t229 _ A43.out).mono ?_); rintro e w54 ⟨rfl, hb⟩; replace BK220 := (zk BK220 hb); replace BK225 := (zk BK225 hb); replace HB := (zs HB hb); (try clear hb)) | ((with_reducible refine gate_dst (N := 6) rfl ?_); refine box_event ?hg (N := 6) ?hd (cs := #[.int .i32 0, .int .i64 0, .int .i64 0]) (t := 106) ?hr ?_; (case hd => rfl); (case hg => rfl); (case hr => exact zo); intro gb230 hg w55 hbox hb; have n0_ := (zk BK220 hb); have n1_ := (zk BK225 hb); have n2_ := (zs HB hb); have n3_ := Aside0.mk (hbox); have n4_ := Aside0.mk ((zg hg : w.heap.size ≤ gb230)); have n5_ := Aside0.mk ((zg hg : w.heap.size ≤ gb230)); have n6_ := Aside0.mk ((by rw [hg]; exact Nat.ne_of_lt (blk_lt (g := gb220) (o := .cells #[.string a0_0, .int .i64 a0_1, .int .i64 a0_2, .int .i64 a0_3, .int .i64 a0_4] 60 (0, 0)) (by exact BK220.out)) : gb220 ≠ gb230)); have n7_ := Aside0.mk ((by rw [hg]; exact Nat.ne_of_gt (blk_lt (g := gb220) (o := .cells #[.string a0_0, .int .i64 a0_1, .int .i64 a0_2, .int .i64 a0_3, .int .i64 a0_4] 60 (0, 0)) (by exact BK220.out)) : gb230 ≠ gb220)); have n8_ := Aside0.mk ((by rw [hg]; exact Nat.ne_of_lt (blk_lt (g := gb225) (o := .cells #[.int .i32 t222, .int .i64 t223, .int .i64 t224] 106 (0, 0)) (by exact BK225.out)) : gb225 ≠ gb230)); have n9_ := Aside0.mk ((by rw [hg]; exact Nat.ne_of_gt (blk_lt (g := gb225) (o := .cells #[.int .i32 t222, .int .i64 t223, .int .i64 t224] 106 (0, 0)) (by exact BK225.out)) : gb230 ≠ gb225)); clear BK220; clear BK225; clear HB; have BK220 := n0_; have BK225 := n1_; have HB := n2_; have BK230 := n3_; have GW230 := n4_; have GE230 := n5_; have NB220_230 := n6_; have NB230_220 := n7_; have NB225_230 := n8_; have NB230_225 := n9_; clear n0_ n1_ n2_ n3_ n4_ n5_ n6_ n7_ n8_ n9_; clear hb hbox hg; have hnb56 := NB230_220.out; have hnc56 := NB220_230.out; have hnb57 := NB230_225.out; have hnc57 := NB225_230.out; obtain ⟨hcz58_0, hcz58_1, hcz58_2, hfz58_0, hfz58_1, hfz58_2⟩ := zq3 (w := w55) BK230) | (go_at_call 75; (with_reducible refine (backseatref01_Width.calls k3 t227 t231 _ A45.out).mono ?_); rintro e w' ⟨rfl, ⟨nd, rfl⟩⟩; (try first | exact ⟨rfl, _, World.drewN_drewN _ _ _⟩ | exact ⟨rfl, _, Eq.trans (World.drewN_drewN _ _ _) (congrArg (World.drewN _) (Nat.add_assoc _ _ _))⟩)))
               repeat (go_quiet (first | (go_at_call 74; (with_reducible refine (backseatref01_First.calls k3 x4_3 t227 t228 t229 _ A43.out).mono ?_); rintro e w54 ⟨rfl, hb⟩; replace BK220 := (zk BK220 hb); replace BK225 := (zk BK225 hb); replace HB := (zs HB hb); (try clear hb)) | ((with_reducible refine gate_dst (N := 6) rfl ?_); refine box_event ?hg (N := 6) ?hd (cs := #[.int .i32 0, .int .i64 0, .int .i64 0]) (t := 106) ?hr ?_; (case hd => rfl); (case hg => rfl); (case hr => exact zo); intro gb230 hg w55 hbox hb; have n0_ := (zk BK220 hb); have n1_ := (zk BK225 hb); have n2_ := (zs HB hb); have n3_ := Aside0.mk (hbox); have n4_ := Aside0.mk ((zg hg : w.heap.size ≤ gb230)); have n5_ := Aside0.mk ((zg hg : w.heap.size ≤ gb230)); have n6_ := Aside0.mk ((by rw [hg]; exact Nat.ne_of_lt (blk_lt (g := gb220) (o := .cells #[.string a0_0, .int .i64 a0_1, .int .i64 a0_2, .int .i64 a0_3, .int .i64 a0_4] 60 (0, 0)) (by exact BK220.out)) : gb220 ≠ gb230)); have n7_ := Aside0.mk ((by rw [hg]; exact Nat.ne_of_gt (blk_lt (g := gb220) (o := .cells #[.string a0_0, .int .i64 a0_1, .int .i64 a0_2, .int .i64 a0_3, .int .i64 a0_4] 60 (0, 0)) (by exact BK220.out)) : gb230 ≠ gb220)); have n8_ := Aside0.mk ((by rw [hg]; exact Nat.ne_of_lt (blk_lt (g := gb225) (o := .cells #[.int .i32 t222, .int .i64 t223, .int .i64 t224] 106 (0, 0)) (by exact BK225.out)) : gb225 ≠ gb230)); have n9_ := Aside0.mk ((by rw [hg]; exact Nat.ne_of_gt (blk_lt (g := gb225) (o := .cells #[.int .i32 t222, .int .i64 t223, .int .i64 t224] 106 (0, 0)) (by exact BK225.out)) : gb230 ≠ gb225)); clear BK220; clear BK225; clear HB; have BK220 := n0_; have BK225 := n1_; have HB := n2_; have BK230 := n3_; have GW230 := n4_; have GE230 := n5_; have NB220_230 := n6_; have NB230_220 := n7_; have NB225_230 := n8_; have NB230_225 := n9_; clear n0_ n1_ n2_ n3_ n4_ n5_ n6_ n7_ n8_ n9_; clear hb hbox hg; have hnb56 := NB230_220.out; have hnc56 := NB220_230.out; have hnb57 := NB230_225.out; have hnc57 := NB225_230.out; obtain ⟨hcz58_0, hcz58_1, hcz58_2, hfz58_0, hfz58_1, hfz58_2⟩ := zq3 (w := w55) BK230) | (go_at_call 75; (with_reducible refine (backseatref01_Width.calls k3 t227 t231 _ A45.out).mono ?_); rintro e w' ⟨rfl, ⟨nd, rfl⟩⟩; (try first | exact ⟨rfl, _, World.drewN_drewN _ _ _⟩ | exact ⟨rfl, _, Eq.trans (World.drewN_drewN _ _ _) (congrArg (World.drewN _) (Nat.add_assoc _ _ _))⟩))); try go_wp2_with (first | (go_at_call 74; (with_reducible refine (backseatref01_First.calls k3 x4_3 t227 t228 t229 _ A43.out).mono ?_); rintro e w54 ⟨rfl, hb⟩; replace BK220 := (zk BK220 hb); replace BK225 := (zk BK225 hb); replace HB := (zs HB hb); (try clear hb)) | ((with_reducible refine gate_dst (N := 6) rfl ?_); refine box_event ?hg (N := 6) ?hd (cs := #[.int .i32 0, .int .i64 0, .int .i64 0]) (t := 106) ?hr ?_; (case hd => rfl); (case hg => rfl); (case hr => exact zo); intro gb230 hg w55 hbox hb; have n0_ := (zk BK220 hb); have n1_ := (zk BK225 hb); have n2_ := (zs HB hb); have n3_ := Aside0.mk (hbox); have n4_ := Aside0.mk ((zg hg : w.heap.size ≤ gb230)); have n5_ := Aside0.mk ((zg hg : w.heap.size ≤ gb230)); have n6_ := Aside0.mk ((by rw [hg]; exact Nat.ne_of_lt (blk_lt (g := gb220) (o := .cells #[.string a0_0, .int .i64 a0_1, .int .i64 a0_2, .int .i64 a0_3, .int .i64 a0_4] 60 (0, 0)) (by exact BK220.out)) : gb220 ≠ gb230)); have n7_ := Aside0.mk ((by rw [hg]; exact Nat.ne_of_gt (blk_lt (g := gb220) (o := .cells #[.string a0_0, .int .i64 a0_1, .int .i64 a0_2, .int .i64 a0_3, .int .i64 a0_4] 60 (0, 0)) (by exact BK220.out)) : gb230 ≠ gb220)); have n8_ := Aside0.mk ((by rw [hg]; exact Nat.ne_of_lt (blk_lt (g := gb225) (o := .cells #[.int .i32 t222, .int .i64 t223, .int .i64 t224] 106 (0, 0)) (by exact BK225.out)) : gb225 ≠ gb230)); have n9_ := Aside0.mk ((by rw [hg]; exact Nat.ne_of_gt (blk_lt (g := gb225) (o := .cells #[.int .i32 t222, .int .i64 t223, .int .i64 t224] 106 (0, 0)) (by exact BK225.out)) : gb230 ≠ gb225)); clear BK220; clear BK225; clear HB; have BK220 := n0_; have BK225 := n1_; have HB := n2_; have BK230 := n3_; have GW230 := n4_; have GE230 := n5_; have NB220_230 := n6_; have NB230_220 := n7_; have NB225_230 := n8_; have NB230_225 := n9_; clear n0_ n1_ n2_ n3_ n4_ n5_ n6_ n7_ n8_ n9_; clear hb hbox hg; have hnb56 := NB230_220.out; have hnc56 := NB220_230.out; have hnb57 := NB230_225.out; have hnc57 := NB225_230.out; obtain ⟨hcz58_0, hcz58_1, hcz58_2, hfz58_0, hfz58_1, hfz58_2⟩ := zq3 (w := w55) BK230) | (go_at_call 75; (with_reducible refine (backseatref01_Width.calls k3 t227 t231 _ A45.out).mono ?_); rintro e w' ⟨rfl, ⟨nd, rfl⟩⟩; (try first | exact ⟨rfl, _, World.drewN_drewN _ _ _⟩ | exact ⟨rfl, _, Eq.trans (World.drewN_drewN _ _ _) (congrArg (World.drewN _) (Nat.add_assoc _ _ _))⟩))))
               go_ret
               exact ⟨ze, zb⟩
             ·rw [if_neg c44] at H
              have c44b0 : (t229 == 0) = false := beq_eq_false_iff_ne.mpr c44
              have c44b1 : (t229 != 0) = true := bne_iff_ne.mpr c44
              obtain rfl := Option.some.inj H
              go_wp2_with (first | (go_at_call 74; (with_reducible refine (backseatref01_First.calls k3 x4_3 t227 t228 t229 _ A43.out).mono ?_); rintro e w59 ⟨rfl, hb⟩; replace BK220 := (zk BK220 hb); replace BK225 := (zk BK225 hb); replace HB := (zs HB hb); (try clear hb)) | ((with_reducible refine gate_dst (N := 6) rfl ?_); refine box_event ?hg (N := 6) ?hd (cs := #[.int .i32 0, .int .i64 0, .int .i64 0]) (t := 106) ?hr ?_; (case hd => rfl); (case hg => rfl); (case hr => exact zo); intro gb230 hg w60 hbox hb; have n0_ := (zk BK220 hb); have n1_ := (zk BK225 hb); have n2_ := (zs HB hb); have n3_ := Aside0.mk (hbox); have n4_ := Aside0.mk ((zg hg : w.heap.size ≤ gb230)); have n5_ := Aside0.mk ((zg hg : w.heap.size ≤ gb230)); have n6_ := Aside0.mk ((by rw [hg]; exact Nat.ne_of_lt (blk_lt (g := gb220) (o := .cells #[.string a0_0, .int .i64 a0_1, .int .i64 a0_2, .int .i64 a0_3, .int .i64 a0_4] 60 (0, 0)) (by exact BK220.out)) : gb220 ≠ gb230)); have n7_ := Aside0.mk ((by rw [hg]; exact Nat.ne_of_gt (blk_lt (g := gb220) (o := .cells #[.string a0_0, .int .i64 a0_1, .int .i64 a0_2, .int .i64 a0_3, .int .i64 a0_4] 60 (0, 0)) (by exact BK220.out)) : gb230 ≠ gb220)); have n8_ := Aside0.mk ((by rw [hg]; exact Nat.ne_of_lt (blk_lt (g := gb225) (o := .cells #[.int .i32 t222, .int .i64 t223, .int .i64 t224] 106 (0, 0)) (by exact BK225.out)) : gb225 ≠ gb230)); have n9_ := Aside0.mk ((by rw [hg]; exact Nat.ne_of_gt (blk_lt (g := gb225) (o := .cells #[.int .i32 t222, .int .i64 t223, .int .i64 t224] 106 (0, 0)) (by exact BK225.out)) : gb230 ≠ gb225)); clear BK220; clear BK225; clear HB; have BK220 := n0_; have BK225 := n1_; have HB := n2_; have BK230 := n3_; have GW230 := n4_; have GE230 := n5_; have NB220_230 := n6_; have NB230_220 := n7_; have NB225_230 := n8_; have NB230_225 := n9_; clear n0_ n1_ n2_ n3_ n4_ n5_ n6_ n7_ n8_ n9_; clear hb hbox hg; have hnb61 := NB230_220.out; have hnc61 := NB220_230.out; have hnb62 := NB230_225.out; have hnc62 := NB225_230.out; obtain ⟨hcz63_0, hcz63_1, hcz63_2, hfz63_0, hfz63_1, hfz63_2⟩ := zq3 (w := w60) BK230))
              repeat (go_quiet (first | (go_at_call 74; (with_reducible refine (backseatref01_First.calls k3 x4_3 t227 t228 t229 _ A43.out).mono ?_); rintro e w59 ⟨rfl, hb⟩; replace BK220 := (zk BK220 hb); replace BK225 := (zk BK225 hb); replace HB := (zs HB hb); (try clear hb)) | ((with_reducible refine gate_dst (N := 6) rfl ?_); refine box_event ?hg (N := 6) ?hd (cs := #[.int .i32 0, .int .i64 0, .int .i64 0]) (t := 106) ?hr ?_; (case hd => rfl); (case hg => rfl); (case hr => exact zo); intro gb230 hg w60 hbox hb; have n0_ := (zk BK220 hb); have n1_ := (zk BK225 hb); have n2_ := (zs HB hb); have n3_ := Aside0.mk (hbox); have n4_ := Aside0.mk ((zg hg : w.heap.size ≤ gb230)); have n5_ := Aside0.mk ((zg hg : w.heap.size ≤ gb230)); have n6_ := Aside0.mk ((by rw [hg]; exact Nat.ne_of_lt (blk_lt (g := gb220) (o := .cells #[.string a0_0, .int .i64 a0_1, .int .i64 a0_2, .int .i64 a0_3, .int .i64 a0_4] 60 (0, 0)) (by exact BK220.out)) : gb220 ≠ gb230)); have n7_ := Aside0.mk ((by rw [hg]; exact Nat.ne_of_gt (blk_lt (g := gb220) (o := .cells #[.string a0_0, .int .i64 a0_1, .int .i64 a0_2, .int .i64 a0_3, .int .i64 a0_4] 60 (0, 0)) (by exact BK220.out)) : gb230 ≠ gb220)); have n8_ := Aside0.mk ((by rw [hg]; exact Nat.ne_of_lt (blk_lt (g := gb225) (o := .cells #[.int .i32 t222, .int .i64 t223, .int .i64 t224] 106 (0, 0)) (by exact BK225.out)) : gb225 ≠ gb230)); have n9_ := Aside0.mk ((by rw [hg]; exact Nat.ne_of_gt (blk_lt (g := gb225) (o := .cells #[.int .i32 t222, .int .i64 t223, .int .i64 t224] 106 (0, 0)) (by exact BK225.out)) : gb230 ≠ gb225)); clear BK220; clear BK225; clear HB; have BK220 := n0_; have BK225 := n1_; have HB := n2_; have BK230 := n3_; have GW230 := n4_; have GE230 := n5_; have NB220_230 := n6_; have NB230_220 := n7_; have NB225_230 := n8_; have NB230_225 := n9_; clear n0_ n1_ n2_ n3_ n4_ n5_ n6_ n7_ n8_ n9_; clear hb hbox hg; have hnb61 := NB230_220.out; have hnc61 := NB220_230.out; have hnb62 := NB230_225.out; have hnc62 := NB225_230.out; obtain ⟨hcz63_0, hcz63_1, hcz63_2, hfz63_0, hfz63_1, hfz63_2⟩ := zq3 (w := w60) BK230)); try go_wp2_with (first | (go_at_call 74; (with_reducible refine (backseatref01_First.calls k3 x4_3 t227 t228 t229 _ A43.out).mono ?_); rintro e w59 ⟨rfl, hb⟩; replace BK220 := (zk BK220 hb); replace BK225 := (zk BK225 hb); replace HB := (zs HB hb); (try clear hb)) | ((with_reducible refine gate_dst (N := 6) rfl ?_); refine box_event ?hg (N := 6) ?hd (cs := #[.int .i32 0, .int .i64 0, .int .i64 0]) (t := 106) ?hr ?_; (case hd => rfl); (case hg => rfl); (case hr => exact zo); intro gb230 hg w60 hbox hb; have n0_ := (zk BK220 hb); have n1_ := (zk BK225 hb); have n2_ := (zs HB hb); have n3_ := Aside0.mk (hbox); have n4_ := Aside0.mk ((zg hg : w.heap.size ≤ gb230)); have n5_ := Aside0.mk ((zg hg : w.heap.size ≤ gb230)); have n6_ := Aside0.mk ((by rw [hg]; exact Nat.ne_of_lt (blk_lt (g := gb220) (o := .cells #[.string a0_0, .int .i64 a0_1, .int .i64 a0_2, .int .i64 a0_3, .int .i64 a0_4] 60 (0, 0)) (by exact BK220.out)) : gb220 ≠ gb230)); have n7_ := Aside0.mk ((by rw [hg]; exact Nat.ne_of_gt (blk_lt (g := gb220) (o := .cells #[.string a0_0, .int .i64 a0_1, .int .i64 a0_2, .int .i64 a0_3, .int .i64 a0_4] 60 (0, 0)) (by exact BK220.out)) : gb230 ≠ gb220)); have n8_ := Aside0.mk ((by rw [hg]; exact Nat.ne_of_lt (blk_lt (g := gb225) (o := .cells #[.int .i32 t222, .int .i64 t223, .int .i64 t224] 106 (0, 0)) (by exact BK225.out)) : gb225 ≠ gb230)); have n9_ := Aside0.mk ((by rw [hg]; exact Nat.ne_of_gt (blk_lt (g := gb225) (o := .cells #[.int .i32 t222, .int .i64 t223, .int .i64 t224] 106 (0, 0)) (by exact BK225.out)) : gb230 ≠ gb225)); clear BK220; clear BK225; clear HB; have BK220 := n0_; have BK225 := n1_; have HB := n2_; have BK230 := n3_; have GW230 := n4_; have GE230 := n5_; have NB220_230 := n6_; have NB230_220 := n7_; have NB225_230 := n8_; have NB230_225 := n9_; clear n0_ n1_ n2_ n3_ n4_ n5_ n6_ n7_ n8_ n9_; clear hb hbox hg; have hnb61 := NB230_220.out; have hnc61 := NB220_230.out; have hnb62 := NB230_225.out; have hnc62 := NB225_230.out; obtain ⟨hcz63_0, hcz63_1, hcz63_2, hfz63_0, hfz63_1, hfz63_2⟩ := zq3 (w := w60) BK230)))
              go_ret
              exact ⟨ze, zb⟩
            ·rw [if_neg c42] at H
             have c42b0 : decide (0 < (x4_3.size : Int)) = false := decide_eq_false c42
             have c42b1 : decide (0 < x4_3.size) = false := decide_eq_false (by omega)
             clear c42
             obtain rfl := Option.some.inj H
             go_wp2
             repeat (go_quiet (fail); try go_wp2)
             go_ret
             exact ⟨ze, zb⟩
         ·rw [if_neg c38] at H
          exact absurd H (by simp)
        ·rw [if_neg c37] at H
         exact absurd H (by simp)
def backseatref06_Fits.l0 : Nat → Int → List (S60) → Int → Int → List (S60) → Bool → Option (Bool)
 | 0, _, _, _, _, _, _ => none
 | k + 1, x1, x8, x9, x10, x237000, x237001 => if x10 < x9 then (if 0 ≤ x10 then (if x10 < (x8.length : Int) then ((backseatref04_Right.f k ((rd_T60 x8 x10).f0) ((rd_T60 x8 x10).f1) ((rd_T60 x8 x10).f2.f0) ((rd_T60 x8 x10).f2.f1) ((rd_T60 x8 x10).f2.f2)).bind fun t239 => (if t239 = true then ((backseatref06_half.f x237000 x10).bind fun t240 => (if t240 = true then (some false) else (backseatref06_Fits.l0 k x1 x8 x9 (wrap64 (x10 + 1)) x237000 x237001))) else (some false))) else (none)) else (none)) else (some ((x237000.length : Int) == x1))
def backseatref06_Fits.f (k : Nat) (l0_0 : List (S60)) (a0_1 : Bool) (a1 : Int) : Option (Bool) := backseatref06_Fits.l0 k a1 l0_0 (l0_0.length : Int) 0 l0_0 a0_1
set_option maxHeartbeats 8000000 in
set_option maxRecDepth 100000 in
theorem backseatref06_Fits.calls (k : Nat) (A0_0 : Option Addr) (c0_0 : Nat) (l0_0 : List (S60)) (a0_1 : Bool) (a1 : Int) (r : Bool) (w : World) (hr0_0 : Kd.C k60 w A0_0 l0_0.length l0_0) (hc0_0 : l0_0.length ≤ c0_0) (h : backseatref06_Fits.f k l0_0 a0_1 a1 = some r) :
  Calls Tryd.prog 27 #[.agg #[.slice A0_0 l0_0.length c0_0, .bool a0_1], .int .i64 a1] w fun e w' => e = .returned (.bool r) ∧ Below w.heap.size w w' := by
 have hu38 := Tryd.underlying38
 have hu60 := Tryd.underlying60
 have HR0_0 := Aside0.mk hr0_0
 have HC0_0 := Aside0.mk hc0_0
 clear hr0_0 hc0_0
 have HB := Aside0.mk (Below.refl w.heap.size w)
 have H : (backseatref06_Fits.l0 k a1 l0_0 (l0_0.length : Int) 0 l0_0 a0_1) = some r := h
 clear h
 have H' := Aside0.mk H
 clear H
 go_enter Tryd.func27, Tryd.ntmps27
 go_wp2_with (first | ((with_reducible refine gate_dst (N := 2) rfl ?_); refine box_event ?hg (N := 2) ?hd (cs := #[.slice A0_0 l0_0.length c0_0, .bool a0_1]) (t := 38) ?hr ?_; (case hd => rfl); (case hg => rfl); (case hr => exact zo); intro gb236 hg w3 hbox hb; have BK236 := Aside0.mk (hbox); have GW236 := Aside0.mk ((zg hg : w.heap.size ≤ gb236)); have GE236 := Aside0.mk ((zg hg : w.heap.size ≤ gb236)); replace HB := (zs HB hb); clear hb hbox hg; obtain ⟨hcz4_0, hcz4_1, hfz4_0, hfz4_1⟩ := zq2 (w := w3) BK236))
 go_loopg [10] k (fun kq v10 w' => ∃ (x10_1 : Int), v10 = .int .i64 x10_1 ∧ Aside0 (backseatref06_Fits.l0 kq a1 l0_0 (l0_0.length : Int) x10_1 l0_0 a0_1 = some r) ∧ Aside0 (kq ≤ k) ∧ Aside0 (w'.heap[gb236]? = some (.cells #[(.slice A0_0 l0_0.length c0_0), .bool a0_1] 38 (0, 0))) ∧ Aside0 (Below w.heap.size w w'))
 case atStart => exact ⟨(0), zf, H', ⟨Nat.le_refl _⟩, ⟨by exact BK236.out⟩, ⟨zb⟩⟩
 case round =>
  clear H'
  try clear hcz4_0
  try clear hcz4_1
  try clear hfz4_0
  try clear hfz4_1
  obtain ⟨x10_1, rfl, HA, HK1, BK236, HB⟩ := hrel
  cases gk with
  | zero => exact absurd HA.out (by simp [backseatref06_Fits.l0])
  | succ k1 =>
   have H := HA.out
   clear HA
   simp only [backseatref06_Fits.l0] at H
   by_cases c5 : x10_1 < (l0_0.length : Int)
   ·rw [if_pos c5] at H
    have c5b0 : decide (x10_1 < (l0_0.length : Int)) = true := decide_eq_true c5
    clear c5
    by_cases c6 : 0 ≤ x10_1
    ·rw [if_pos c6] at H
     have c6b0 : decide (0 ≤ x10_1) = true := decide_eq_true c6
     clear c6
     by_cases c7 : x10_1 < (l0_0.length : Int)
     ·rw [if_pos c7] at H
      have c7b0 : decide (x10_1 < (l0_0.length : Int)) = true := decide_eq_true c7
      clear c7
      replace H := Option.bind_eq_some_iff.mp H
      obtain ⟨t239, A80, H⟩ := H
      replace H : (if t239 = true then ((backseatref06_half.f l0_0 x10_1).bind fun t240 => (if t240 = true then (some false) else (backseatref06_Fits.l0 k1 a1 l0_0 (l0_0.length : Int) (wrap64 (x10_1 + 1)) l0_0 a0_1))) else (some false)) = some r := H
      have A8 := Aside0.mk A80
      clear A80
      by_cases c9 : t239 = true
      ·subst c9
       have H1 : ((backseatref06_half.f l0_0 x10_1).bind fun t240 => (if t240 = true then (some false) else (backseatref06_Fits.l0 k1 a1 l0_0 (l0_0.length : Int) (wrap64 (x10_1 + 1)) l0_0 a0_1))) = some r := by rw [if_pos rfl] at H; exact H
       clear H
       have H := H1
       clear H1
       replace H := Option.bind_eq_some_iff.mp H
       obtain ⟨t240, A100, H⟩ := H
       replace H : (if t240 = true then (some false) else (backseatref06_Fits.l0 k1 a1 l0_0 (l0_0.length : Int) (wrap64 (x10_1 + 1)) l0_0 a0_1)) = some r := H
       have A10 := Aside0.mk A100
       clear A100
       by_cases c11 : t240 = true
       ·subst c11
        have H1 : (some false) = some r := by rw [if_pos rfl] at H; exact H
        clear H
        have H := H1
        clear H1
        obtain rfl := Option.some.inj H
        have p237 : 0 ≤ (x10_1 : Int) := of_decide_eq_true za
        have q237 : x10_1 < (l0_0.length : Int) := of_decide_eq_true za
        obtain ⟨ad237, e237, hx237_0, hx237_1, hx237_2, hx237_3, hx237_4⟩ := at_T60 HR0_0.out x10_1 p237 q237
        cases e237
        replace hx237_0 := zc HB hx237_0
        replace hx237_1 := zc HB hx237_1
        replace hx237_2 := zc HB hx237_2
        replace hx237_3 := zc HB hx237_3
        replace hx237_4 := zc HB hx237_4
        replace p237 := eq_true p237
        replace q237 := eq_true q237
        go_wp2_with (first | ((with_reducible refine gate_dst (N := 6) rfl ?_); refine box_event ?hg (N := 6) ?hd (cs := #[.string (⟨#[]⟩ : ByteArray), .int .i64 0, .int .i64 0, .int .i64 0, .int .i64 0]) (t := 60) ?hr ?_; (case hd => rfl); (case hg => rfl); (case hr => exact zo); intro gb238 hg w12 hbox hb; have n0_ := (zk BK236 hb); have n1_ := (zs HB hb); have n2_ := Aside0.mk (hbox); have n3_ := Aside0.mk ((zg hg : w.heap.size ≤ gb238)); have n4_ := Aside0.mk ((zg hg : w.heap.size ≤ gb238)); have n5_ := Aside0.mk ((by rw [hg]; exact Nat.ne_of_lt (blk_lt (g := gb236) (o := .cells #[.slice (some ad237) l0_0.length c0_0, .bool a0_1] 38 (0, 0)) (by exact BK236.out)) : gb236 ≠ gb238)); have n6_ := Aside0.mk ((by rw [hg]; exact Nat.ne_of_gt (blk_lt (g := gb236) (o := .cells #[.slice (some ad237) l0_0.length c0_0, .bool a0_1] 38 (0, 0)) (by exact BK236.out)) : gb238 ≠ gb236)); clear BK236; clear HB; have BK236 := n0_; have HB := n1_; have BK238 := n2_; have GW238 := n3_; have GE238 := n4_; have NB236_238 := n5_; have NB238_236 := n6_; clear n0_ n1_ n2_ n3_ n4_ n5_ n6_; clear hb hbox hg; have hnb13 := NB238_236.out; have hnc13 := NB236_238.out; obtain ⟨hcz14_0, hcz14_1, hcz14_2, hcz14_3, hcz14_4, hfz14_0, hfz14_1, hfz14_2, hfz14_3, hfz14_4⟩ := zq5 (w := w12) BK238) | ((with_reducible refine gate_callee (f := 53) rfl ?_); refine goesL_ (some 16) rfl rfl Tryd.func53 (by kernel_rfl) rfl #[.agg #[.string ((rd_T60 l0_0 x10_1).f0), .int .i64 ((rd_T60 l0_0 x10_1).f1), .int .i64 ((rd_T60 l0_0 x10_1).f2.f0), .int .i64 ((rd_T60 l0_0 x10_1).f2.f1), .int .i64 ((rd_T60 l0_0 x10_1).f2.f2)]] rfl zl ?_; (with_reducible refine (backseatref04_Right.calls k1 ((rd_T60 l0_0 x10_1).f0) ((rd_T60 l0_0 x10_1).f1) ((rd_T60 l0_0 x10_1).f2.f0) ((rd_T60 l0_0 x10_1).f2.f1) ((rd_T60 l0_0 x10_1).f2.f2) true _ A8.out).mono ?_); rintro e w15 ⟨rfl, hb⟩; refine ⟨_, rfl, ?_⟩; replace BK236 := Aside0.mk (blk_below (g := gb236) (o := .cells #[.slice (some ad237) l0_0.length c0_0, .bool a0_1] 38 (0, 0)) (by refine blk_far ?_ NB236_238.out _; refine blk_far ?_ NB236_238.out _; refine blk_far ?_ NB236_238.out _; refine blk_far ?_ NB236_238.out _; refine blk_far ?_ NB236_238.out _; exact BK236.out) hb); replace BK238 := Aside0.mk (blk_below (g := gb238) (o := .cells #[.string ((rd_T60 l0_0 x10_1).f0), .int .i64 ((rd_T60 l0_0 x10_1).f1), .int .i64 ((rd_T60 l0_0 x10_1).f2.f0), .int .i64 ((rd_T60 l0_0 x10_1).f2.f1), .int .i64 ((rd_T60 l0_0 x10_1).f2.f2)] 60 (0, 0)) (by refine blk_put (cs := #[.string ((rd_T60 l0_0 x10_1).f0), .int .i64 ((rd_T60 l0_0 x10_1).f1), .int .i64 ((rd_T60 l0_0 x10_1).f2.f0), .int .i64 ((rd_T60 l0_0 x10_1).f2.f1), .int .i64 0]) ?_ 4 _ rfl; refine blk_put (cs := #[.string ((rd_T60 l0_0 x10_1).f0), .int .i64 ((rd_T60 l0_0 x10_1).f1), .int .i64 ((rd_T60 l0_0 x10_1).f2.f0), .int .i64 0, .int .i64 0]) ?_ 3 _ rfl; refine blk_put (cs := #[.string ((rd_T60 l0_0 x10_1).f0), .int .i64 ((rd_T60 l0_0 x10_1).f1), .int .i64 0, .int .i64 0, .int .i64 0]) ?_ 2 _ rfl; refine blk_put (cs := #[.string ((rd_T60 l0_0 x10_1).f0), .int .i64 0, .int .i64 0, .int .i64 0, .int .i64 0]) ?_ 1 _ rfl; refine blk_put (cs := #[.string (⟨#[]⟩ : ByteArray), .int .i64 0, .int .i64 0, .int .i64 0, .int .i64 0]) ?_ 0 _ rfl; exact BK238.out) hb); replace HB := (zs HB hb); (try clear hb); obtain ⟨hcz16_0, hcz16_1, hfz16_0, hfz16_1⟩ := zq2 (w := w15) BK236) | (go_at_call 54; (with_reducible refine (backseatref06_half.calls _ _ l0_0 x10_1 true _ ?side1 ?side2 A10.out).mono ?_); (case side1 => repeat (first | exact (Kd.C_below HR0_0.out HB.out) | (with_reducible refine Kd.C_alloc ?_ _) | (with_reducible refine Kd.C_drewN ?_ _) | (with_reducible refine Kd.C_drew ?_))); (case side2 => exact HC0_0.out); rintro e w' ⟨rfl, ⟨nd, rfl⟩⟩))
        go_ret
        exact ⟨ze, zb⟩
       ·replace c11 := Bool.eq_false_iff.mpr c11
        subst c11
        have H1 : (backseatref06_Fits.l0 k1 a1 l0_0 (l0_0.length : Int) (wrap64 (x10_1 + 1)) l0_0 a0_1) = some r := by rw [if_neg (show ¬ (false = true) by decide)] at H; exact H
        clear H
        have H := H1
        clear H1
        have H' := Aside0.mk H
        clear H
        have p237 : 0 ≤ (x10_1 : Int) := of_decide_eq_true za
        have q237 : x10_1 < (l0_0.length : Int) := of_decide_eq_true za
        obtain ⟨ad237, e237, hx237_0, hx237_1, hx237_2, hx237_3, hx237_4⟩ := at_T60 HR0_0.out x10_1 p237 q237
        cases e237
        replace hx237_0 := zc HB hx237_0
        replace hx237_1 := zc HB hx237_1
        replace hx237_2 := zc HB hx237_2
        replace hx237_3 := zc HB hx237_3
        replace hx237_4 := zc HB hx237_4
        replace p237 := eq_true p237
        replace q237 := eq_true q237
        go_wp2_with (first | ((with_reducible refine gate_dst (N := 6) rfl ?_); refine box_event ?hg (N := 6) ?hd (cs := #[.string (⟨#[]⟩ : ByteArray), .int .i64 0, .int .i64 0, .int .i64 0, .int .i64 0]) (t := 60) ?hr ?_; (case hd => rfl); (case hg => rfl); (case hr => exact zo); intro gb238 hg w17 hbox hb; have n0_ := (zk BK236 hb); have n1_ := (zs HB hb); have n2_ := Aside0.mk (hbox); have n3_ := Aside0.mk ((zg hg : w.heap.size ≤ gb238)); have n4_ := Aside0.mk ((zg hg : w.heap.size ≤ gb238)); have n5_ := Aside0.mk ((by rw [hg]; exact Nat.ne_of_lt (blk_lt (g := gb236) (o := .cells #[.slice (some ad237) l0_0.length c0_0, .bool a0_1] 38 (0, 0)) (by exact BK236.out)) : gb236 ≠ gb238)); have n6_ := Aside0.mk ((by rw [hg]; exact Nat.ne_of_gt (blk_lt (g := gb236) (o := .cells #[.slice (some ad237) l0_0.length c0_0, .bool a0_1] 38 (0, 0)) (by exact BK236.out)) : gb238 ≠ gb236)); clear BK236; clear HB; have BK236 := n0_; have HB := n1_; have BK238 := n2_; have GW238 := n3_; have GE238 := n4_; have NB236_238 := n5_; have NB238_236 := n6_; clear n0_ n1_ n2_ n3_ n4_ n5_ n6_; clear hb hbox hg; have hnb18 := NB238_236.out; have hnc18 := NB236_238.out; obtain ⟨hcz19_0, hcz19_1, hcz19_2, hcz19_3, hcz19_4, hfz19_0, hfz19_1, hfz19_2, hfz19_3, hfz19_4⟩ := zq5 (w := w17) BK238) | ((with_reducible refine gate_callee (f := 53) rfl ?_); refine goesL_ (some 16) rfl rfl Tryd.func53 (by kernel_rfl) rfl #[.agg #[.string ((rd_T60 l0_0 x10_1).f0), .int .i64 ((rd_T60 l0_0 x10_1).f1), .int .i64 ((rd_T60 l0_0 x10_1).f2.f0), .int .i64 ((rd_T60 l0_0 x10_1).f2.f1), .int .i64 ((rd_T60 l0_0 x10_1).f2.f2)]] rfl zl ?_; (with_reducible refine (backseatref04_Right.calls k1 ((rd_T60 l0_0 x10_1).f0) ((rd_T60 l0_0 x10_1).f1) ((rd_T60 l0_0 x10_1).f2.f0) ((rd_T60 l0_0 x10_1).f2.f1) ((rd_T60 l0_0 x10_1).f2.f2) true _ A8.out).mono ?_); rintro e w20 ⟨rfl, hb⟩; refine ⟨_, rfl, ?_⟩; replace BK236 := Aside0.mk (blk_below (g := gb236) (o := .cells #[.slice (some ad237) l0_0.length c0_0, .bool a0_1] 38 (0, 0)) (by refine blk_far ?_ NB236_238.out _; refine blk_far ?_ NB236_238.out _; refine blk_far ?_ NB236_238.out _; refine blk_far ?_ NB236_238.out _; refine blk_far ?_ NB236_238.out _; exact BK236.out) hb); replace BK238 := Aside0.mk (blk_below (g := gb238) (o := .cells #[.string ((rd_T60 l0_0 x10_1).f0), .int .i64 ((rd_T60 l0_0 x10_1).f1), .int .i64 ((rd_T60 l0_0 x10_1).f2.f0), .int .i64 ((rd_T60 l0_0 x10_1).f2.f1), .int .i64 ((rd_T60 l0_0 x10_1).f2.f2)] 60 (0, 0)) (by refine blk_put (cs := #[.string ((rd_T60 l0_0 x10_1).f0), .int .i64 ((rd_T60 l0_0 x10_1).f1), .int .i64 ((rd_T60 l0_0 x10_1).f2.f0), .int .i64 ((rd_T60 l0_0 x10_1).f2.f1), .int .i64 0]) ?_ 4 _ rfl; refine blk_put (cs := #[.string ((rd_T60 l0_0 x10_1).f0), .int .i64 ((rd_T60 l0_0 x10_1).f1), .int .i64 ((rd_T60 l0_0 x10_1).f2.f0), .int .i64 0, .int .i64 0]) ?_ 3 _ rfl; refine blk_put (cs := #[.string ((rd_T60 l0_0 x10_1).f0), .int .i64 ((rd_T60 l0_0 x10_1).f1), .int .i64 0, .int .i64 0, .int .i64 0]) ?_ 2 _ rfl; refine blk_put (cs := #[.string ((rd_T60 l0_0 x10_1).f0), .int .i64 0, .int .i64 0, .int .i64 0, .int .i64 0]) ?_ 1 _ rfl; refine blk_put (cs := #[.string (⟨#[]⟩ : ByteArray), .int .i64 0, .int .i64 0, .int .i64 0, .int .i64 0]) ?_ 0 _ rfl; exact BK238.out) hb); replace HB := (zs HB hb); (try clear hb); obtain ⟨hcz21_0, hcz21_1, hfz21_0, hfz21_1⟩ := zq2 (w := w20) BK236) | (go_at_call 54; (with_reducible refine (backseatref06_half.calls _ _ l0_0 x10_1 false _ ?side1 ?side2 A10.out).mono ?_); (case side1 => repeat (first | exact (Kd.C_below HR0_0.out HB.out) | (with_reducible refine Kd.C_alloc ?_ _) | (with_reducible refine Kd.C_drewN ?_ _) | (with_reducible refine Kd.C_drew ?_))); (case side2 => exact HC0_0.out); rintro e w' ⟨rfl, ⟨nd, rfl⟩⟩))
        go_roundg k1
        case measure => have := HK1.out; omega
        case rel => exact ⟨(wrap64 (x10_1 + 1)), zf, H', ⟨by have := HK1.out; omega⟩, ⟨by exact BK236.out⟩, ⟨zb⟩⟩
      ·replace c9 := Bool.eq_false_iff.mpr c9
       subst c9
       have H1 : (some false) = some r := by rw [if_neg (show ¬ (false = true) by decide)] at H; exact H
       clear H
       have H := H1
       clear H1
       obtain rfl := Option.some.inj H
       have p237 : 0 ≤ (x10_1 : Int) := of_decide_eq_true za
       have q237 : x10_1 < (l0_0.length : Int) := of_decide_eq_true za
       obtain ⟨ad237, e237, hx237_0, hx237_1, hx237_2, hx237_3, hx237_4⟩ := at_T60 HR0_0.out x10_1 p237 q237
       cases e237
       replace hx237_0 := zc HB hx237_0
       replace hx237_1 := zc HB hx237_1
       replace hx237_2 := zc HB hx237_2
       replace hx237_3 := zc HB hx237_3
       replace hx237_4 := zc HB hx237_4
       replace p237 := eq_true p237
       replace q237 := eq_true q237
       go_wp2_with (first | ((with_reducible refine gate_dst (N := 6) rfl ?_); refine box_event ?hg (N := 6) ?hd (cs := #[.string (⟨#[]⟩ : ByteArray), .int .i64 0, .int .i64 0, .int .i64 0, .int .i64 0]) (t := 60) ?hr ?_; (case hd => rfl); (case hg => rfl); (case hr => exact zo); intro gb238 hg w22 hbox hb; have n0_ := (zk BK236 hb); have n1_ := (zs HB hb); have n2_ := Aside0.mk (hbox); have n3_ := Aside0.mk ((zg hg : w.heap.size ≤ gb238)); have n4_ := Aside0.mk ((zg hg : w.heap.size ≤ gb238)); have n5_ := Aside0.mk ((by rw [hg]; exact Nat.ne_of_lt (blk_lt (g := gb236) (o := .cells #[.slice (some ad237) l0_0.length c0_0, .bool a0_1] 38 (0, 0)) (by exact BK236.out)) : gb236 ≠ gb238)); have n6_ := Aside0.mk ((by rw [hg]; exact Nat.ne_of_gt (blk_lt (g := gb236) (o := .cells #[.slice (some ad237) l0_0.length c0_0, .bool a0_1] 38 (0, 0)) (by exact BK236.out)) : gb238 ≠ gb236)); clear BK236; clear HB; have BK236 := n0_; have HB := n1_; have BK238 := n2_; have GW238 := n3_; have GE238 := n4_; have NB236_238 := n5_; have NB238_236 := n6_; clear n0_ n1_ n2_ n3_ n4_ n5_ n6_; clear hb hbox hg; have hnb23 := NB238_236.out; have hnc23 := NB236_238.out; obtain ⟨hcz24_0, hcz24_1, hcz24_2, hcz24_3, hcz24_4, hfz24_0, hfz24_1, hfz24_2, hfz24_3, hfz24_4⟩ := zq5 (w := w22) BK238) | ((with_reducible refine gate_callee (f := 53) rfl ?_); refine goesL_ (some 16) rfl rfl Tryd.func53 (by kernel_rfl) rfl #[.agg #[.string ((rd_T60 l0_0 x10_1).f0), .int .i64 ((rd_T60 l0_0 x10_1).f1), .int .i64 ((rd_T60 l0_0 x10_1).f2.f0), .int .i64 ((rd_T60 l0_0 x10_1).f2.f1), .int .i64 ((rd_T60 l0_0 x10_1).f2.f2)]] rfl zl ?_; (with_reducible refine (backseatref04_Right.calls k1 ((rd_T60 l0_0 x10_1).f0) ((rd_T60 l0_0 x10_1).f1) ((rd_T60 l0_0 x10_1).f2.f0) ((rd_T60 l0_0 x10_1).f2.f1) ((rd_T60 l0_0 x10_1).f2.f2) false _ A8.out).mono ?_); rintro e w25 ⟨rfl, hb⟩; refine ⟨_, rfl, ?_⟩; replace BK236 := Aside0.mk (blk_below (g := gb236) (o := .cells #[.slice (some ad237) l0_0.length c0_0, .bool a0_1] 38 (0, 0)) (by refine blk_far ?_ NB236_238.out _; refine blk_far ?_ NB236_238.out _; refine blk_far ?_ NB236_238.out _; refine blk_far ?_ NB236_238.out _; refine blk_far ?_ NB236_238.out _; exact BK236.out) hb); replace BK238 := Aside0.mk (blk_below (g := gb238) (o := .cells #[.string ((rd_T60 l0_0 x10_1).f0), .int .i64 ((rd_T60 l0_0 x10_1).f1), .int .i64 ((rd_T60 l0_0 x10_1).f2.f0), .int .i64 ((rd_T60 l0_0 x10_1).f2.f1), .int .i64 ((rd_T60 l0_0 x10_1).f2.f2)] 60 (0, 0)) (by refine blk_put (cs := #[.string ((rd_T60 l0_0 x10_1).f0), .int .i64 ((rd_T60 l0_0 x10_1).f1), .int .i64 ((rd_T60 l0_0 x10_1).f2.f0), .int .i64 ((rd_T60 l0_0 x10_1).f2.f1), .int .i64 0]) ?_ 4 _ rfl; refine blk_put (cs := #[.string ((rd_T60 l0_0 x10_1).f0), .int .i64 ((rd_T60 l0_0 x10_1).f1), .int .i64 ((rd_T60 l0_0 x10_1).f2.f0), .int .i64 0, .int .i64 0]) ?_ 3 _ rfl; refine blk_put (cs := #[.string ((rd_T60 l0_0 x10_1).f0), .int .i64 ((rd_T60 l0_0 x10_1).f1), .int .i64 0, .int .i64 0, .int .i64 0]) ?_ 2 _ rfl; refine blk_put (cs := #[.string ((rd_T60 l0_0 x10_1).f0), .int .i64 0, .int .i64 0, .int .i64 0, .int .i64 0]) ?_ 1 _ rfl; refine blk_put (cs := #[.string (⟨#[]⟩ : ByteArray), .int .i64 0, .int .i64 0, .int .i64 0, .int .i64 0]) ?_ 0 _ rfl; exact BK238.out) hb); replace HB := (zs HB hb); (try clear hb)))
       go_ret
       exact ⟨ze, zb⟩
     ·rw [if_neg c7] at H
      exact absurd H (by simp)
    ·rw [if_neg c6] at H
     exact absurd H (by simp)
   ·rw [if_neg c5] at H
    have c5b0 : decide (x10_1 < (l0_0.length : Int)) = false := decide_eq_false c5
    clear c5
    obtain rfl := Option.some.inj H
    obtain ⟨hcz26_0, hcz26_1, hfz26_0, hfz26_1⟩ := zq2 (w := wr) BK236
    go_wp2
    go_ret
    exact ⟨ze, zb⟩
def backseatref08_May.l0 : Nat → List (S38) → List (S38) → Int → Int → Option (Bool)
 | 0, _, _, _, _ => none
 | k + 1, x0, x5, x6, x7 => if x7 < x6 then (if 0 ≤ x7 then (if x7 < (x5.length : Int) then (if (((rd_T38 x5 x7).f0).length : Int) < 1 then (some false) else (if (((rd_T38 x5 x7).f0).length : Int) > 80 then (some false) else ((backseatref06_Fits.f k ((rd_T38 x5 x7).f0) ((rd_T38 x5 x7).f1) (((rd_T38 x5 x7).f0).length : Int)).bind fun t243 => (if t243 = true then (backseatref08_May.l0 k x0 x5 x6 (wrap64 (x7 + 1))) else (some false))))) else (none)) else (none)) else (some (decide ((x0.length : Int) ≤ 200)))
def backseatref08_May.f (k : Nat) (l0 : List (S38)) : Option (Bool) := backseatref08_May.l0 k l0 l0 (l0.length : Int) 0
set_option maxHeartbeats 8000000 in
set_option maxRecDepth 100000 in
theorem backseatref08_May.calls (k : Nat) (A0 : Option Addr) (c0 : Nat) (l0 : List (S38)) (r : Bool) (w : World) (hr0 : Kd.C k38 w A0 l0.length l0) (hc0 : l0.length ≤ c0) (h : backseatref08_May.f k l0 = some r) :
  Calls Tryd.prog 11 #[.slice A0 l0.length c0] w fun e w' => e = .returned (.bool r) ∧ Below w.heap.size w w' := by
 have hu38 := Tryd.underlying38
 have HR0 := Aside0.mk hr0
 have HC0 := Aside0.mk hc0
 clear hr0 hc0
 have HB := Aside0.mk (Below.refl w.heap.size w)
 have H : (backseatref08_May.l0 k l0 l0 (l0.length : Int) 0) = some r := h
 clear h
 have H' := Aside0.mk H
 clear H
 go_enter Tryd.func11, Tryd.ntmps11
 go_wp2
 go_loopg [7] k (fun kq v7 w' => ∃ (x7_1 : Int), v7 = .int .i64 x7_1 ∧ Aside0 (backseatref08_May.l0 kq l0 l0 (l0.length : Int) x7_1 = some r) ∧ Aside0 (kq ≤ k) ∧ Aside0 (Below w.heap.size w w'))
 case atStart => exact ⟨(0), zf, H', ⟨Nat.le_refl _⟩, ⟨zb⟩⟩
 case round =>
  clear H'
  obtain ⟨x7_1, rfl, HA, HK1, HB⟩ := hrel
  cases gk with
  | zero => exact absurd HA.out (by simp [backseatref08_May.l0])
  | succ k1 =>
   have H := HA.out
   clear HA
   simp only [backseatref08_May.l0] at H
   by_cases c2 : x7_1 < (l0.length : Int)
   ·rw [if_pos c2] at H
    have c2b0 : decide (x7_1 < (l0.length : Int)) = true := decide_eq_true c2
    clear c2
    by_cases c3 : 0 ≤ x7_1
    ·rw [if_pos c3] at H
     have c3b0 : decide (0 ≤ x7_1) = true := decide_eq_true c3
     clear c3
     by_cases c4 : x7_1 < (l0.length : Int)
     ·rw [if_pos c4] at H
      have c4b0 : decide (x7_1 < (l0.length : Int)) = true := decide_eq_true c4
      clear c4
      by_cases c5 : (((rd_T38 l0 x7_1).f0).length : Int) < 1
      ·rw [if_pos c5] at H
       have c5b0 : decide ((((rd_T38 l0 x7_1).f0).length : Int) < 1) = true := decide_eq_true c5
       have c5b1 : decide (((rd_T38 l0 x7_1).f0).length < 1) = true := decide_eq_true (by omega)
       clear c5
       obtain rfl := Option.some.inj H
       have p241 : 0 ≤ (x7_1 : Int) := of_decide_eq_true za
       have q241 : x7_1 < (l0.length : Int) := of_decide_eq_true za
       obtain ⟨ad241, A241_0, c241_0, e241, hx241_0, hx241_1, hl241_0, hi241_0⟩ := at_T38 HR0.out x7_1 p241 q241
       cases e241
       replace hx241_0 := zc HB hx241_0
       replace hx241_1 := zc HB hx241_1
       have HR241_0 := Aside0.mk hi241_0
       have HC241_0 := Aside0.mk hl241_0
       clear hi241_0 hl241_0
       replace p241 := eq_true p241
       replace q241 := eq_true q241
       go_wp2_with (first | ((with_reducible refine gate_dst (N := 4) rfl ?_); (try (refine gate_guard (by rfl) ?_; dsimp only)); refine box_event ?hg (N := 4) ?hd (cs := #[.slice none 0 0, .bool false]) (t := 38) ?hr ?_; (case hd => rfl); (case hg => rfl); (case hr => exact zo); intro gb242 hg w6 hbox hb; have BK242 := Aside0.mk (hbox); have GW242 := Aside0.mk ((zg hg : w.heap.size ≤ gb242)); have GE242 := Aside0.mk ((zg hg : w.heap.size ≤ gb242)); replace HB := (zs HB hb); clear hb hbox hg; obtain ⟨hcz7_0, hcz7_1, hfz7_0, hfz7_1⟩ := zq2 (w := w6) BK242))
       go_ret
       exact ⟨ze, zb⟩
      ·rw [if_neg c5] at H
       have c5b0 : decide ((((rd_T38 l0 x7_1).f0).length : Int) < 1) = false := decide_eq_false c5
       have c5b1 : decide (((rd_T38 l0 x7_1).f0).length < 1) = false := decide_eq_false (by omega)
       clear c5
       by_cases c8 : (((rd_T38 l0 x7_1).f0).length : Int) > 80
       ·rw [if_pos c8] at H
        have c8b0 : decide (80 < (((rd_T38 l0 x7_1).f0).length : Int)) = true := decide_eq_true c8
        have c8b1 : decide (80 < ((rd_T38 l0 x7_1).f0).length) = true := decide_eq_true (by omega)
        clear c8
        obtain rfl := Option.some.inj H
        have p241 : 0 ≤ (x7_1 : Int) := of_decide_eq_true za
        have q241 : x7_1 < (l0.length : Int) := of_decide_eq_true za
        obtain ⟨ad241, A241_0, c241_0, e241, hx241_0, hx241_1, hl241_0, hi241_0⟩ := at_T38 HR0.out x7_1 p241 q241
        cases e241
        replace hx241_0 := zc HB hx241_0
        replace hx241_1 := zc HB hx241_1
        have HR241_0 := Aside0.mk hi241_0
        have HC241_0 := Aside0.mk hl241_0
        clear hi241_0 hl241_0
        replace p241 := eq_true p241
        replace q241 := eq_true q241
        go_wp2_with (first | ((with_reducible refine gate_dst (N := 4) rfl ?_); (try (refine gate_guard (by rfl) ?_; dsimp only)); refine box_event ?hg (N := 4) ?hd (cs := #[.slice none 0 0, .bool false]) (t := 38) ?hr ?_; (case hd => rfl); (case hg => rfl); (case hr => exact zo); intro gb242 hg w9 hbox hb; have BK242 := Aside0.mk (hbox); have GW242 := Aside0.mk ((zg hg : w.heap.size ≤ gb242)); have GE242 := Aside0.mk ((zg hg : w.heap.size ≤ gb242)); replace HB := (zs HB hb); clear hb hbox hg; obtain ⟨hcz10_0, hcz10_1, hfz10_0, hfz10_1⟩ := zq2 (w := w9) BK242))
        go_ret
        exact ⟨ze, zb⟩
       ·rw [if_neg c8] at H
        have c8b0 : decide (80 < (((rd_T38 l0 x7_1).f0).length : Int)) = false := decide_eq_false c8
        have c8b1 : decide (80 < ((rd_T38 l0 x7_1).f0).length) = false := decide_eq_false (by omega)
        clear c8
        replace H := Option.bind_eq_some_iff.mp H
        obtain ⟨t243, A110, H⟩ := H
        replace H : (if t243 = true then (backseatref08_May.l0 k1 l0 l0 (l0.length : Int) (wrap64 (x7_1 + 1))) else (some false)) = some r := H
        have A11 := Aside0.mk A110
        clear A110
        by_cases c12 : t243 = true
        ·subst c12
         have H1 : (backseatref08_May.l0 k1 l0 l0 (l0.length : Int) (wrap64 (x7_1 + 1))) = some r := by rw [if_pos rfl] at H; exact H
         clear H
         have H := H1
         clear H1
         have H' := Aside0.mk H
         clear H
         have p241 : 0 ≤ (x7_1 : Int) := of_decide_eq_true za
         have q241 : x7_1 < (l0.length : Int) := of_decide_eq_true za
         obtain ⟨ad241, A241_0, c241_0, e241, hx241_0, hx241_1, hl241_0, hi241_0⟩ := at_T38 HR0.out x7_1 p241 q241
         cases e241
         replace hx241_0 := zc HB hx241_0
         replace hx241_1 := zc HB hx241_1
         have HR241_0 := Aside0.mk hi241_0
         have HC241_0 := Aside0.mk hl241_0
         clear hi241_0 hl241_0
         replace p241 := eq_true p241
         replace q241 := eq_true q241
         go_wp2_with (first | ((with_reducible refine gate_dst (N := 4) rfl ?_); (try (refine gate_guard (by rfl) ?_; dsimp only)); refine box_event ?hg (N := 4) ?hd (cs := #[.slice none 0 0, .bool false]) (t := 38) ?hr ?_; (case hd => rfl); (case hg => rfl); (case hr => exact zo); intro gb242 hg w13 hbox hb; have BK242 := Aside0.mk (hbox); have GW242 := Aside0.mk ((zg hg : w.heap.size ≤ gb242)); have GE242 := Aside0.mk ((zg hg : w.heap.size ≤ gb242)); replace HB := (zs HB hb); clear hb hbox hg; obtain ⟨hcz14_0, hcz14_1, hfz14_0, hfz14_1⟩ := zq2 (w := w13) BK242) | (go_at_call 27; (with_reducible refine (backseatref06_Fits.calls k1 _ _ ((rd_T38 l0 x7_1).f0) ((rd_T38 l0 x7_1).f1) (((rd_T38 l0 x7_1).f0).length : Int) true _ ?side1 ?side2 A11.out).mono ?_); (case side1 => exact Kd.C_below HR241_0.out zb); (case side2 => exact HC241_0.out); rintro e w15 ⟨rfl, hb⟩; replace BK242 := Aside0.mk (blk_below (g := gb242) (o := .cells #[.slice A241_0 ((rd_T38 l0 x7_1).f0).length c241_0, .bool ((rd_T38 l0 x7_1).f1)] 38 (0, 0)) (by refine blk_put (cs := #[.slice A241_0 ((rd_T38 l0 x7_1).f0).length c241_0, .bool false]) ?_ 1 _ rfl; refine blk_put (cs := #[.slice none 0 0, .bool false]) ?_ 0 _ rfl; exact BK242.out) hb); replace HB := (zs HB hb); (try clear hb)))
         go_roundg k1
         case measure => have := HK1.out; omega
         case rel => exact ⟨(wrap64 (x7_1 + 1)), zf, H', ⟨by have := HK1.out; omega⟩, ⟨zb⟩⟩
        ·replace c12 := Bool.eq_false_iff.mpr c12
         subst c12
         have H1 : (some false) = some r := by rw [if_neg (show ¬ (false = true) by decide)] at H; exact H
         clear H
         have H := H1
         clear H1
         obtain rfl := Option.some.inj H
         have p241 : 0 ≤ (x7_1 : Int) := of_decide_eq_true za
         have q241 : x7_1 < (l0.length : Int) := of_decide_eq_true za
         obtain ⟨ad241, A241_0, c241_0, e241, hx241_0, hx241_1, hl241_0, hi241_0⟩ := at_T38 HR0.out x7_1 p241 q241
         cases e241
         replace hx241_0 := zc HB hx241_0
         replace hx241_1 := zc HB hx241_1
         have HR241_0 := Aside0.mk hi241_0
         have HC241_0 := Aside0.mk hl241_0
         clear hi241_0 hl241_0
         replace p241 := eq_true p241
         replace q241 := eq_true q241
         go_wp2_with (first | ((with_reducible refine gate_dst (N := 4) rfl ?_); (try (refine gate_guard (by rfl) ?_; dsimp only)); refine box_event ?hg (N := 4) ?hd (cs := #[.slice none 0 0, .bool false]) (t := 38) ?hr ?_; (case hd => rfl); (case hg => rfl); (case hr => exact zo); intro gb242 hg w16 hbox hb; have BK242 := Aside0.mk (hbox); have GW242 := Aside0.mk ((zg hg : w.heap.size ≤ gb242)); have GE242 := Aside0.mk ((zg hg : w.heap.size ≤ gb242)); replace HB := (zs HB hb); clear hb hbox hg; obtain ⟨hcz17_0, hcz17_1, hfz17_0, hfz17_1⟩ := zq2 (w := w16) BK242) | (go_at_call 27; (with_reducible refine (backseatref06_Fits.calls k1 _ _ ((rd_T38 l0 x7_1).f0) ((rd_T38 l0 x7_1).f1) (((rd_T38 l0 x7_1).f0).length : Int) false _ ?side1 ?side2 A11.out).mono ?_); (case side1 => exact Kd.C_below HR241_0.out zb); (case side2 => exact HC241_0.out); rintro e w18 ⟨rfl, hb⟩; replace BK242 := Aside0.mk (blk_below (g := gb242) (o := .cells #[.slice A241_0 ((rd_T38 l0 x7_1).f0).length c241_0, .bool ((rd_T38 l0 x7_1).f1)] 38 (0, 0)) (by refine blk_put (cs := #[.slice A241_0 ((rd_T38 l0 x7_1).f0).length c241_0, .bool false]) ?_ 1 _ rfl; refine blk_put (cs := #[.slice none 0 0, .bool false]) ?_ 0 _ rfl; exact BK242.out) hb); replace HB := (zs HB hb); (try clear hb)))
         go_ret
         exact ⟨ze, zb⟩
     ·rw [if_neg c4] at H
      exact absurd H (by simp)
    ·rw [if_neg c3] at H
     exact absurd H (by simp)
   ·rw [if_neg c2] at H
    have c2b0 : decide (x7_1 < (l0.length : Int)) = false := decide_eq_false c2
    clear c2
    obtain rfl := Option.some.inj H
    go_wp2
    go_ret
    exact ⟨ze, zb⟩
def cell_Blank.f (a0_0 : Int) (a0_1 : Int) (a0_2 : Int) : Option (ByteArray × Int × Int × Int × Int) := some ((⟨#[]⟩ : ByteArray), 1, 0, a0_1, 0)
set_option maxHeartbeats 8000000 in
set_option maxRecDepth 100000 in
theorem cell_Blank.calls (a0_0 : Int) (a0_1 : Int) (a0_2 : Int) (r1 : ByteArray) (r2 : Int) (r3 : Int) (r4 : Int) (r5 : Int) (w : World) (h : cell_Blank.f a0_0 a0_1 a0_2 = some (r1, r2, r3, r4, r5)) :
  Calls Tryd.prog 81 #[.agg #[.int .i64 a0_0, .int .i64 a0_1, .int .i64 a0_2]] w fun e w' => e = .returned (.agg #[.string r1, .int .i64 r2, .int .i64 r3, .int .i64 r4, .int .i64 r5]) ∧ Below w.heap.size w w' := by
 have hu58 := Tryd.underlying58
 have hu60 := Tryd.underlying60
 have HB := Aside0.mk (Below.refl w.heap.size w)
 have H : (some ((⟨#[]⟩ : ByteArray), 1, 0, a0_1, 0)) = some (r1, r2, r3, r4, r5) := h
 clear h
 simp only [Option.some.injEq, Prod.mk.injEq] at H
 obtain ⟨rfl, rfl, rfl, rfl, rfl⟩ := H
 go_enter Tryd.func81, Tryd.ntmps81
 go_wp2_with (first | ((with_reducible refine gate_dst (N := 1) rfl ?_); refine box_event ?hg (N := 1) ?hd (cs := #[.int .i64 a0_0, .int .i64 a0_1, .int .i64 a0_2]) (t := 58) ?hr ?_; (case hd => rfl); (case hg => rfl); (case hr => exact zo); intro gb153 hg w2 hbox hb; have BK153 := Aside0.mk (hbox); have GW153 := Aside0.mk ((zg hg : w.heap.size ≤ gb153)); have GE153 := Aside0.mk ((zg hg : w.heap.size ≤ gb153)); replace HB := (zs HB hb); clear hb hbox hg) | ((with_reducible refine gate_dst (N := 2) rfl ?_); refine box_event ?hg (N := 2) ?hd (cs := #[.string (⟨#[]⟩ : ByteArray), .int .i64 0, .int .i64 0, .int .i64 0, .int .i64 0]) (t := 60) ?hr ?_; (case hd => rfl); (case hg => rfl); (case hr => exact zo); intro gb154 hg w3 hbox hb; have n0_ := (zk BK153 hb); have n1_ := (zs HB hb); have n2_ := Aside0.mk (hbox); have n3_ := Aside0.mk ((zg hg : w.heap.size ≤ gb154)); have n4_ := Aside0.mk ((zg hg : w.heap.size ≤ gb154)); have n5_ := Aside0.mk ((by rw [hg]; exact Nat.ne_of_lt (blk_lt (g := gb153) (o := .cells #[.int .i64 a0_0, .int .i64 a0_1, .int .i64 a0_2] 58 (0, 0)) (by exact BK153.out)) : gb153 ≠ gb154)); have n6_ := Aside0.mk ((by rw [hg]; exact Nat.ne_of_gt (blk_lt (g := gb153) (o := .cells #[.int .i64 a0_0, .int .i64 a0_1, .int .i64 a0_2] 58 (0, 0)) (by exact BK153.out)) : gb154 ≠ gb153)); clear BK153; clear HB; have BK153 := n0_; have HB := n1_; have BK154 := n2_; have GW154 := n3_; have GE154 := n4_; have NB153_154 := n5_; have NB154_153 := n6_; clear n0_ n1_ n2_ n3_ n4_ n5_ n6_; clear hb hbox hg; have hnb4 := NB153_154.out; have hnc4 := NB154_153.out; obtain ⟨hcz5_0, hcz5_1, hcz5_2, hfz5_0, hfz5_1, hfz5_2⟩ := zq3 (w := w3) BK153; obtain ⟨hcz6_0, hcz6_1, hcz6_2, hcz6_3, hcz6_4, hfz6_0, hfz6_1, hfz6_2, hfz6_3, hfz6_4⟩ := zq5 (w := w3) BK154))
 refine bodyPost_ret (results_cell_row rfl _ _ gb154 60 #[.string (⟨#[]⟩ : ByteArray), .int .i64 1, .int .i64 0, .int .i64 a0_1, .int .i64 0] (0, 0) _ rfl (by refine blk_put (cs := #[.string (⟨#[]⟩ : ByteArray), .int .i64 1, .int .i64 0, .int .i64 a0_1, .int .i64 0]) ?_ 4 _ rfl; refine blk_put (cs := #[.string (⟨#[]⟩ : ByteArray), .int .i64 1, .int .i64 0, .int .i64 0, .int .i64 0]) ?_ 3 _ rfl; refine blk_put (cs := #[.string (⟨#[]⟩ : ByteArray), .int .i64 1, .int .i64 0, .int .i64 0, .int .i64 0]) ?_ 2 _ rfl; refine blk_put (cs := #[.string (⟨#[]⟩ : ByteArray), .int .i64 0, .int .i64 0, .int .i64 0, .int .i64 0]) ?_ 1 _ rfl; refine blk_put (cs := #[.string (⟨#[]⟩ : ByteArray), .int .i64 0, .int .i64 0, .int .i64 0, .int .i64 0]) ?_ 0 _ rfl; exact BK154.out) Tryd.underlying60 rfl (by kernel_rfl)) rfl ?_
 exact ⟨ze, zb⟩
def flow_none.f  : Option (ByteArray × Int × Int × Int × Int) := (cell_Blank.f 0 0 0).bind fun bt156 => (some (bt156.1, bt156.2.1, bt156.2.2.1, bt156.2.2.2.1, bt156.2.2.2.2))
set_option maxHeartbeats 8000000 in
set_option maxRecDepth 100000 in
theorem flow_none.calls  (r1 : ByteArray) (r2 : Int) (r3 : Int) (r4 : Int) (r5 : Int) (w : World) (h : flow_none.f  = some (r1, r2, r3, r4, r5)) :
  Calls Tryd.prog 67 #[] w fun e w' => e = .returned (.agg #[.string r1, .int .i64 r2, .int .i64 r3, .int .i64 r4, .int .i64 r5]) ∧ Below w.heap.size w w' := by
 have hu60 := Tryd.underlying60
 have hu58 := Tryd.underlying58
 have HB := Aside0.mk (Below.refl w.heap.size w)
 have H : ((cell_Blank.f 0 0 0).bind fun bt156 => (some (bt156.1, bt156.2.1, bt156.2.2.1, bt156.2.2.2.1, bt156.2.2.2.2))) = some (r1, r2, r3, r4, r5) := h
 clear h
 replace H := Option.bind_eq_some_iff.mp H
 obtain ⟨⟨t156, t157, t158, t159, t160⟩, A10, H⟩ := H
 replace H : (some (t156, t157, t158, t159, t160)) = some (r1, r2, r3, r4, r5) := H
 have A1 := Aside0.mk A10
 clear A10
 simp only [Option.some.injEq, Prod.mk.injEq] at H
 obtain ⟨rfl, rfl, rfl, rfl, rfl⟩ := H
 go_enter Tryd.func67, Tryd.ntmps67
 go_wp2_with (first | ((with_reducible refine gate_dst (N := 0) rfl ?_); refine box_event ?hg (N := 0) ?hd (cs := #[.string (⟨#[]⟩ : ByteArray), .int .i64 0, .int .i64 0, .int .i64 0, .int .i64 0]) (t := 60) ?hr ?_; (case hd => rfl); (case hg => rfl); (case hr => exact zo); intro gb155 hg w2 hbox hb; have BK155 := Aside0.mk (hbox); have GW155 := Aside0.mk ((zg hg : w.heap.size ≤ gb155)); have GE155 := Aside0.mk ((zg hg : w.heap.size ≤ gb155)); replace HB := (zs HB hb); clear hb hbox hg) | ((with_reducible refine gate_callee (f := 81) rfl ?_); refine goesL_ (some 2) rfl rfl Tryd.func81 (by kernel_rfl) rfl #[.agg #[.int .i64 0, .int .i64 0, .int .i64 0]] rfl zl ?_; (with_reducible refine (cell_Blank.calls 0 0 0 t156 t157 t158 t159 t160 _ A1.out).mono ?_); rintro e w3 ⟨rfl, hb⟩; refine ⟨_, rfl, ?_⟩; replace BK155 := (zk BK155 hb); replace HB := (zs HB hb); (try clear hb); obtain ⟨hcz4_0, hcz4_1, hcz4_2, hcz4_3, hcz4_4, hfz4_0, hfz4_1, hfz4_2, hfz4_3, hfz4_4⟩ := zq5 (w := w3) BK155))
 refine bodyPost_ret (results_cell_row rfl _ _ gb155 60 #[.string t156, .int .i64 t157, .int .i64 t158, .int .i64 t159, .int .i64 t160] (0, 0) _ rfl (by refine blk_put (cs := #[.string t156, .int .i64 t157, .int .i64 t158, .int .i64 t159, .int .i64 0]) ?_ 4 _ rfl; refine blk_put (cs := #[.string t156, .int .i64 t157, .int .i64 t158, .int .i64 0, .int .i64 0]) ?_ 3 _ rfl; refine blk_put (cs := #[.string t156, .int .i64 t157, .int .i64 0, .int .i64 0, .int .i64 0]) ?_ 2 _ rfl; refine blk_put (cs := #[.string t156, .int .i64 0, .int .i64 0, .int .i64 0, .int .i64 0]) ?_ 1 _ rfl; refine blk_put (cs := #[.string (⟨#[]⟩ : ByteArray), .int .i64 0, .int .i64 0, .int .i64 0, .int .i64 0]) ?_ 0 _ rfl; exact BK155.out) Tryd.underlying60 rfl (by kernel_rfl)) rfl ?_
 exact ⟨ze, zb⟩
end Go.Proofs.YtckkdaehmccjlaaDoor.P
namespace Go.Proofs.YtckkdaehmccjlaaDoor.P
open Go.RowKit Go.Proofs.YtckkdaehmccjlaaDoorW.PrintWords Go.Proofs.YtckkdaehmccjlaaDoorW.PrintLast Go.Proofs.YtckkdaehmccjlaaDoorW.PrintMore
attribute [local go_sem] max2_int min2_int max_two min_two max_three min_three max_four min_four   -- for this text's walks alone
set_option linter.unusedVariables false
set_option linter.unusedSimpArgs false
attribute [local go_sem high] eqA60
def flow_trimmed.l0 : Nat → List (S60) → Option ((List (S60)))
 | 0, _ => none
 | k + 1, x0 => if (x0.length : Int) > 0 then (if 0 ≤ (wrap64 ((x0.length : Int) - 1)) then (if (wrap64 ((x0.length : Int) - 1)) < (x0.length : Int) then ((flow_none.f).bind fun bt162 => (if ((((rd_T60 x0 (wrap64 ((x0.length : Int) - 1))).f0).toList) == bt162.1.toList && (((rd_T60 x0 (wrap64 ((x0.length : Int) - 1))).f1) == bt162.2.1 && ((((rd_T60 x0 (wrap64 ((x0.length : Int) - 1))).f2.f0) == bt162.2.2.1 && (((rd_T60 x0 (wrap64 ((x0.length : Int) - 1))).f2.f1) == bt162.2.2.2.1 && (((rd_T60 x0 (wrap64 ((x0.length : Int) - 1))).f2.f2) == bt162.2.2.2.2)))))) = true then (if (wrap64 ((x0.length : Int) - 1)) ≤ (x0.length : Int) then (flow_trimmed.l0 k (x0.take ((wrap64 ((x0.length : Int) - 1)) : Int).toNat)) else (none)) else (some x0))) else (none)) else (none)) else (some x0)
def flow_trimmed.f (k : Nat) (l0 : List (S60)) : Option ((List (S60))) := flow_trimmed.l0 k l0
def flow_trimmed.T1 : Bool × List (List Nat × List Nat) := (true, [([], []), ([0], [0]), ([1], [1]), ([2], [2]), ([3], [3]), ([3], [3]), ([5, 3], [3, 5]), ([6, 3], [3, 6]), ([4, 7, 3], [3, 4, 7]), ([8, 3], [3, 8]), ([3, 3], [3]), ([9, 10, 3], [3, 9, 10]), ([3, 11], [3, 11])])
def flow_trimmed.B1 : List Nat := [0, 1, 3, 7, 15, 15, 47, 111, 255, 511, 15, 2047, 4095]
theorem flow_trimmed.tab1 : rtab .any (opsOf Tryd.f44 1) = flow_trimmed.T1 := by kernel_rfl
theorem flow_trimmed.bits1 : waitsOk flow_trimmed.T1.2 flow_trimmed.B1 = true := by kernel_rfl
set_option maxHeartbeats 8000000 in
set_option maxRecDepth 100000 in
theorem flow_trimmed.calls (k : Nat) (P0_ : Nat → Prop) (A0 : Option Addr) (c0 : Nat) (l0 : List (S60)) (r : List (S60)) (w : World) (hs0 : Kd.V k60 60 w w.heap.size (fun k_ => P0_ k_) (.slice A0 l0.length c0) l0) (h : flow_trimmed.f k l0 = some r) :
  Calls Tryd.prog 44 #[.slice A0 l0.length c0] w fun e w' => ∃ v0_ : Value, e = .returned (v0_) ∧ Kd.V k60 60 w' w.heap.size (fun k_ => (P0_ k_ ∨ w.heap.size ≤ k_)) v0_ r ∧ Below w.heap.size w w' := by
 have hu60 := Tryd.underlying60
 have HO0 := Aside0.mk (show Kd.V k60 60 w w.heap.size (fun k_ => (P0_ k_ ∨ w.heap.size ≤ k_)) (.slice A0 l0.length c0) l0 from Kd.V_mono hs0 (fun k_ hk => .inl hk))
 have HB := Aside0.mk (Below.refl w.heap.size w)
 have H : (flow_trimmed.l0 k l0) = some r := h
 clear h
 have H' := Aside0.mk H
 clear H
 go_enter Tryd.func44, Tryd.ntmps44
 go_wp2
 go_loopg [0] k (fun kq v0 w' => ∃ (x0_1 : List (S60)), Aside0 (flow_trimmed.l0 kq x0_1 = some r) ∧ Aside0 (kq ≤ k) ∧ Aside0 (Kd.V k60 60 w' w.heap.size (fun k_ => (P0_ k_ ∨ w.heap.size ≤ k_)) v0 x0_1) ∧ Aside0 (Below w.heap.size w w'))
 case atStart => exact ⟨(l0), H', ⟨Nat.le_refl _⟩, ⟨by (with_reducible repeat (first | apply Kd.V_alloc | apply Kd.V_drewN | apply Kd.V_drew)); exact HO0.out⟩, ⟨zb⟩⟩
 case round =>
  clear H'
  obtain ⟨x0_1, HA, HK1, HO_0, HB⟩ := hrel
  cases gk with
  | zero => exact absurd HA.out (by simp [flow_trimmed.l0])
  | succ k1 =>
   have H := HA.out
   clear HA
   simp only [flow_trimmed.l0] at H
   by_cases c2 : (x0_1.length : Int) > 0
   ·rw [if_pos c2] at H
    have c2b0 : decide (0 < (x0_1.length : Int)) = true := decide_eq_true c2
    have c2b1 : decide (0 < x0_1.length) = true := decide_eq_true (by omega)
    clear c2
    obtain ⟨ji3, hji3⟩ : ∃ j_ : Int, (wrap64 ((x0_1.length : Int) - 1)) = j_ := ⟨_, rfl⟩
    replace H : (if 0 ≤ (ji3) then (if (ji3) < (x0_1.length : Int) then ((flow_none.f).bind fun bt162 => (if ((((rd_T60 x0_1 (ji3)).f0).toList) == bt162.1.toList && (((rd_T60 x0_1 (ji3)).f1) == bt162.2.1 && ((((rd_T60 x0_1 (ji3)).f2.f0) == bt162.2.2.1 && (((rd_T60 x0_1 (ji3)).f2.f1) == bt162.2.2.2.1 && (((rd_T60 x0_1 (ji3)).f2.f2) == bt162.2.2.2.2)))))) = true then (if (ji3) ≤ (x0_1.length : Int) then (flow_trimmed.l0 k1 (x0_1.take ((ji3) : Int).toNat)) else (none)) else (some x0_1))) else (none)) else (none)) = some r := by first | (rw [hji3] at H; exact H) | (simp only [hji3] at H ⊢; exact H)
    have hji3w : (IntKind.i64.wrap ((x0_1.length : Int) - 1)) = ji3 := (i64_w _).trans hji3
    by_cases c4 : 0 ≤ (ji3)
    ·rw [if_pos c4] at H
     have c4b0 : decide (0 ≤ (ji3)) = true := decide_eq_true c4
     clear c4
     by_cases c5 : (ji3) < (x0_1.length : Int)
     ·rw [if_pos c5] at H
      have c5b0 : decide ((ji3) < (x0_1.length : Int)) = true := decide_eq_true c5
      clear c5
      replace H := Option.bind_eq_some_iff.mp H
      obtain ⟨⟨t162, t163, t164, t165, t166⟩, A60, H⟩ := H
      replace H : (if ((((rd_T60 x0_1 (ji3)).f0).toList) == t162.toList && (((rd_T60 x0_1 (ji3)).f1) == t163 && ((((rd_T60 x0_1 (ji3)).f2.f0) == t164 && (((rd_T60 x0_1 (ji3)).f2.f1) == t165 && (((rd_T60 x0_1 (ji3)).f2.f2) == t166)))))) = true then (if (ji3) ≤ (x0_1.length : Int) then (flow_trimmed.l0 k1 (x0_1.take ((ji3) : Int).toNat)) else (none)) else (some x0_1)) = some r := H
      have A6 := Aside0.mk A60
      clear A60
      by_cases c7 : ((((rd_T60 x0_1 (ji3)).f0).toList) == t162.toList && (((rd_T60 x0_1 (ji3)).f1) == t163 && ((((rd_T60 x0_1 (ji3)).f2.f0) == t164 && (((rd_T60 x0_1 (ji3)).f2.f1) == t165 && (((rd_T60 x0_1 (ji3)).f2.f2) == t166)))))) = true
      ·rw [if_pos c7] at H
       have c7b0 : ((((rd_T60 x0_1 (ji3)).f0).toList) == t162.toList && (((rd_T60 x0_1 (ji3)).f1) == t163 && ((((rd_T60 x0_1 (ji3)).f2.f0) == t164 && (((rd_T60 x0_1 (ji3)).f2.f1) == t165 && (((rd_T60 x0_1 (ji3)).f2.f2) == t166)))))) = true := c7
       (try (have c7b1 : decide ((((rd_T60 x0_1 (ji3)).f0).toList) = t162.toList && (((rd_T60 x0_1 (ji3)).f1) == t163 && ((((rd_T60 x0_1 (ji3)).f2.f0) == t164 && (((rd_T60 x0_1 (ji3)).f2.f1) == t165 && (((rd_T60 x0_1 (ji3)).f2.f2) == t166)))))) = true := by simpa using c7))
       (try (have c7b2 : ((((rd_T60 x0_1 (ji3)).f0).toList) == t162.toList && (((rd_T60 x0_1 (ji3)).f1) == t163 && ((((rd_T60 x0_1 (ji3)).f2.f0) == t164 && (((rd_T60 x0_1 (ji3)).f2.f1) == t165 && (((rd_T60 x0_1 (ji3)).f2.f2) == t166)))))) = true := by simpa using c7))
       clear c7
       have c8b0 := eq_true (of_decide_eq_true za : 0 ≤ (ji3))
       by_cases c9 : (ji3) ≤ (x0_1.length : Int)
       ·rw [if_pos c9] at H
        have c9b0 := eq_true c9
        have c9b1 : decide ((ji3) ≤ (x0_1.length : Int)) = true := decide_eq_true c9
        clear c9
        obtain ⟨y167, hy167⟩ : ∃ y_ : List (S60), y_ = (x0_1.take ((ji3) : Int).toNat) := ⟨_, rfl⟩
        replace H : (flow_trimmed.l0 k1 y167) = some r := by first | (rw [hy167]; with_reducible exact H) | (have H2_ := (Option.bind_some _ _).symm.trans H; rw [hy167]; with_reducible exact H2_) | (have H2_ := (Option.bind_some _ _).symm.trans H; with_reducible exact H2_) | with_reducible exact H | (rw [hy167]; exact H) | exact H
        have Ny167 := Aside0.mk hy167
        clear hy167
        have H' := Aside0.mk H
        clear H
        try go_wp2
        have n0_ := Aside0.mk (Kd.V_drew HO_0.out)
        have n1_ := Aside0.mk (below_drew1 HB.out)
        clear HO_0
        clear HB
        have HO_0 := n0_
        have HB := n1_
        clear n0_ n1_
        obtain ⟨Ao11, co11, eo11⟩ := Kd.V_slice HO_0.out
        (first | subst eo11 | (injection eo11 with f1_ f2_ f3_; have f4_ := f1_.symm; have f5_ := f3_.symm; clear f1_ f2_ f3_; subst f4_; subst f5_))
        have p161 : 0 ≤ ((ji3) : Int) := of_decide_eq_true za
        have q161 : (ji3) < (x0_1.length : Int) := of_decide_eq_true za
        obtain ⟨ad161, e161, hx161_0, hx161_1, hx161_2, hx161_3, hx161_4⟩ := at_T60 (Kd.V_reads' HO_0.out).2.2 (ji3) p161 q161
        cases e161
        replace p161 := eq_true p161
        replace q161 := eq_true q161
        refine start_ (n := 13) (S := fun w' => w'.cell? (ad161.add (((ji3)).toNat * 5)) = some (.string ((rd_T60 x0_1 (ji3)).f0)) ∧ w'.cell? ⟨(ad161.add (((ji3)).toNat * 5)).block, (ad161.add (((ji3)).toNat * 5)).off + 1, none⟩ = some (.int .i64 ((rd_T60 x0_1 (ji3)).f1)) ∧ w'.cell? ⟨(ad161.add (((ji3)).toNat * 5)).block, (ad161.add (((ji3)).toNat * 5)).off + 2, none⟩ = some (.int .i64 ((rd_T60 x0_1 (ji3)).f2.f0)) ∧ w'.cell? ⟨(ad161.add (((ji3)).toNat * 5)).block, (ad161.add (((ji3)).toNat * 5)).off + 3, none⟩ = some (.int .i64 ((rd_T60 x0_1 (ji3)).f2.f1)) ∧ w'.cell? ⟨(ad161.add (((ji3)).toNat * 5)).block, (ad161.add (((ji3)).toNat * 5)).off + 4, none⟩ = some (.int .i64 ((rd_T60 x0_1 (ji3)).f2.f2))) (ds := []) #[false, false, false, false, false, false, false, false, false, false, false, false, false] (by kernel_rfl) rfl rfl ⟨hx161_0, hx161_1, hx161_2, hx161_3, hx161_4⟩ (fun hHeld => ?_); refine with_tabW flow_trimmed.tab1 flow_trimmed.bits1 (fun HT_ HW_ => ?_)
        generalize wr.drew = w10 at HO_0 HB hx161_0 hx161_1 hx161_2 hx161_3 hx161_4 hHeld ⊢
        refine pure_ (i := 0) (N := some 3) (v := ?_) (a' := ?_) #[true, false, false, false, false, false, false, false, false, false, false, false, false] rfl rfl (any_of HT_.out (by kernel_rfl)) (fun _ _ _ h => h) (Or.inl ⟨by rfl, ?_⟩) ?_ ?_
        rotate_left
        ·intro w'
         go_simp
         with_reducible rfl
        rotate_left
        ·exact zr
        refine pure_ (i := 1) (N := some 4) (v := ?_) (a' := ?_) #[true, true, false, false, false, false, false, false, false, false, false, false, false] rfl rfl (any_of HT_.out (by kernel_rfl)) (fun _ _ _ h => h) (Or.inl ⟨by rfl, ?_⟩) ?_ ?_
        rotate_left
        ·intro w'
         go_simp
         with_reducible rfl
        rotate_left
        ·exact zr
        refine pure_ (i := 2) (N := some 5) (v := ?_) (a' := ?_) #[true, true, true, false, false, false, false, false, false, false, false, false, false] rfl rfl (any_of HT_.out (by kernel_rfl)) (fun _ _ _ h => h) (Or.inl ⟨by rfl, ?_⟩) ?_ ?_
        rotate_left
        ·intro w'
         go_simp
         with_reducible rfl
        rotate_left
        ·exact zr
        refine pure_ (i := 3) (N := some 6) (v := ?_) (a' := ?_) #[true, true, true, true, false, false, false, false, false, false, false, false, false] rfl rfl (any_of HT_.out (by kernel_rfl)) (fun _ _ _ h => h) (Or.inl ⟨by rfl, ?_⟩) ?_ ?_
        rotate_left
        ·intro w'
         go_simp
         with_reducible rfl
        rotate_left
        ·exact zr
        refine pure_ (i := 4) (N := some 7) (v := ?_) (a' := ?_) #[true, true, true, true, true, false, false, false, false, false, false, false, false] rfl rfl (any_of HT_.out (by kernel_rfl)) (fun _ _ _ h => h) (Or.inl ⟨by rfl, ?_⟩) ?_ ?_
        rotate_left
        ·intro w'
         go_simp
         with_reducible rfl
        rotate_left
        ·exact zr
        refine pure_ (i := 5) (N := some 8) (v := ?_) (a' := ?_) #[true, true, true, true, true, true, false, false, false, false, false, false, false] rfl rfl (any_of HT_.out (by kernel_rfl)) (fun _ _ _ h => h) (Or.inl ⟨by rfl, ?_⟩) ?_ ?_
        rotate_left
        ·intro w'
         go_simp
         with_reducible rfl
        rotate_left
        ·exact zr
        refine pure_ (i := 6) (N := some 9) (v := ?_) (a' := ?_) #[true, true, true, true, true, true, true, false, false, false, false, false, false] rfl rfl (any_of HT_.out (by kernel_rfl)) (fun _ _ _ h => h) (Or.inl ⟨by rfl, ?_⟩) ?_ ?_
        rotate_left
        ·intro w'
         go_simp
         with_reducible rfl
        rotate_left
        ·exact zr
        refine pure_ (i := 7) (N := some 10) (v := ?_) (a' := ?_) #[true, true, true, true, true, true, true, true, false, false, false, false, false] rfl rfl (any_of HT_.out (by kernel_rfl)) (fun _ _ _ h => h) (Or.inl ⟨by rfl, ?_⟩) ?_ ?_
        rotate_left
        ·intro w'
         go_simp
         with_reducible rfl
        rotate_left
        ·exact zr
        refine pure_ (i := 8) (N := some 11) (v := ?_) (a' := ?_) #[true, true, true, true, true, true, true, true, true, false, false, false, false] rfl rfl (any_of HT_.out (by kernel_rfl)) (fun _ _ _ h => h) (Or.inl ⟨by rfl, ?_⟩) ?_ ?_
        rotate_left
        ·intro w'
         go_simp
         with_reducible rfl
        rotate_left
        ·exact zr
        refine take_ (i := 9) (N := some 12) (v := ?_) (a' := ?_) #[true, true, true, true, true, true, true, true, true, true, false, false, false] rfl rfl (take_ofW HT_.out HW_.out (by kernel_rfl)) (fun _ _ _ h => h) (Or.inl ⟨by rfl, ?_⟩) hHeld ?_ ?_
        rotate_left
        ·rintro w' ⟨s0, s1, s2, s3, s4⟩
         go_simp
         with_reducible rfl
        rotate_left
        ·exact zr
        refine one_ (i := 10) (N := some 13) #[true, true, true, true, true, true, true, true, true, true, true, false, false] rfl rfl (one_of HT_.out (by kernel_rfl)) (by decide) (fun K hK => ?_)
        refine goes_ Tryd.func67 (by kernel_rfl) rfl #[] (by rfl) rfl rfl zl ?_
        with_reducible refine (flow_none.calls  t162 t163 t164 t165 t166 _ A6.out).mono ?_
        rintro e w12 ⟨rfl, hb⟩
        have HS0_ := (hb.cell (World.block_lt_of_cell? _ _ (hHeld.1))).trans (hHeld.1)
        have HS1_ := (hb.cell (World.block_lt_of_cell? _ _ (hHeld.2.1))).trans (hHeld.2.1)
        have HS2_ := (hb.cell (World.block_lt_of_cell? _ _ (hHeld.2.2.1))).trans (hHeld.2.2.1)
        have HS3_ := (hb.cell (World.block_lt_of_cell? _ _ (hHeld.2.2.2.1))).trans (hHeld.2.2.2.1)
        have HS4_ := (hb.cell (World.block_lt_of_cell? _ _ (hHeld.2.2.2.2))).trans (hHeld.2.2.2.2)
        refine ⟨_, rfl, ?_⟩
        have n0_ := Aside0.mk (Kd.V_below (by (with_reducible repeat (first | apply Kd.V_alloc | apply Kd.V_drewN | apply Kd.V_drew)); exact HO_0.out) hb)
        have n1_ := (zs HB hb)
        clear HO_0
        clear HB
        have HO_0 := n0_
        have HB := n1_
        clear n0_ n1_
        (try clear hb)
        (try clear hb2)
        (try clear hk)
        (try clear hi)
        refine hK.out _ _ ⟨HS0_, HS1_, HS2_, HS3_, HS4_⟩ (fun hHeld => ?_)
        clear hK K
        refine norm_ (a' := ?_) ?_ ?_
        rotate_left
        ·show Act.put _ (some 13) _ = _
         simp only [Act.put, List.setIfInBounds_toArray, List.set_cons_zero, List.set_cons_succ, i64_w, i32_w]
         rfl
        refine pure_ (i := 11) (N := some 14) (v := ?_) (a' := ?_) #[true, true, true, true, true, true, true, true, true, true, true, true, false] rfl rfl (any_of HT_.out (by kernel_rfl)) (fun _ _ _ h => h) (Or.inl ⟨by rfl, ?_⟩) ?_ ?_
        rotate_left
        ·intro w'
         go_simp
         with_reducible rfl
        rotate_left
        ·exact zr
        refine pure_ (i := 12) (N := some 15) (v := ?_) (a' := ?_) #[true, true, true, true, true, true, true, true, true, true, true, true, true] rfl rfl (any_of HT_.out (by kernel_rfl)) (fun _ _ _ h => h) (Or.inl ⟨by rfl, ?_⟩) ?_ ?_
        rotate_left
        ·intro w'
         go_simp
         with_reducible rfl
        rotate_left
        ·exact zr
        refine done_ (done_of HT_.out (by kernel_rfl)) ?_
        have q13 : ((ji3) : Int) ≤ ((x0_1.length : Int) : Int) := of_decide_eq_true za
        obtain ⟨i013, hi013, _, hsz13, _⟩ := info_parts info60
        have hroom13 : x0_1.length ≤ co11 := (Kd.V_reads' HO_0.out).2.1
        have hC13 : Kd.F k60 _ _ (some ad161) x0_1.length x0_1 := (Kd.V_at (base := w.heap.size) HO_0.out).2.2
        have hcut13 := cut_to (P := Tryd.prog) 36 60 .i64 Tryd.underlying36 hi013 (some ad161) x0_1.length co11 (ji3) (of_decide_eq_true za) q13 hroom13
        have hr13 := Kd.F_take (m := ((ji3) : Int).toNat) hC13 (by omega)
        have hy13 : y167.length = ((ji3) : Int).toNat := (by rw [Ny167.out, List.length_take]; omega)
        rw [← Ny167.out] at hr13
        rw [← hy13] at hcut13
        have HO171 := Aside0.mk (show Kd.V k60 60 _ w.heap.size _ (.slice (some ad161) y167.length co11) y167 from Kd.V_mk (by omega) hr13)
        have HC171 := Aside0.mk (show y167.length ≤ co11 from by omega)
        clear hr13 hC13 hroom13 hi013 hsz13
        have KY13 := Aside0.mk hy13
        clear hy13
        replace q13 := eq_true q13
        try go_wp2
        go_roundg k1
        case measure => have := HK1.out; omega
        case rel => exact ⟨(y167), H', ⟨by have := HK1.out; omega⟩, ⟨by (with_reducible repeat (first | apply Kd.V_alloc | apply Kd.V_drewN | apply Kd.V_drew)); exact HO171.out⟩, ⟨zb⟩⟩
       ·rw [if_neg c9] at H
        exact absurd H (by simp)
      ·rw [if_neg c7] at H
       have c7b0 : ((((rd_T60 x0_1 (ji3)).f0).toList) == t162.toList && (((rd_T60 x0_1 (ji3)).f1) == t163 && ((((rd_T60 x0_1 (ji3)).f2.f0) == t164 && (((rd_T60 x0_1 (ji3)).f2.f1) == t165 && (((rd_T60 x0_1 (ji3)).f2.f2) == t166)))))) = false := by simpa using c7
       (try (have c7b1 : decide ((((rd_T60 x0_1 (ji3)).f0).toList) = t162.toList && (((rd_T60 x0_1 (ji3)).f1) == t163 && ((((rd_T60 x0_1 (ji3)).f2.f0) == t164 && (((rd_T60 x0_1 (ji3)).f2.f1) == t165 && (((rd_T60 x0_1 (ji3)).f2.f2) == t166)))))) = false := by simpa using c7))
       (try (have c7b2 : ((((rd_T60 x0_1 (ji3)).f0).toList) == t162.toList && (((rd_T60 x0_1 (ji3)).f1) == t163 && ((((rd_T60 x0_1 (ji3)).f2.f0) == t164 && (((rd_T60 x0_1 (ji3)).f2.f1) == t165 && (((rd_T60 x0_1 (ji3)).f2.f2) == t166)))))) = false := by simpa using c7))
       (try (have c7b3 : ¬ ((((rd_T60 x0_1 (ji3)).f0).toList) = t162.toList && (((rd_T60 x0_1 (ji3)).f1) == t163 && ((((rd_T60 x0_1 (ji3)).f2.f0) == t164 && (((rd_T60 x0_1 (ji3)).f2.f1) == t165 && (((rd_T60 x0_1 (ji3)).f2.f2) == t166)))))) := by simpa using c7))
       clear c7
       obtain rfl := Option.some.inj H
       try go_wp2
       have n0_ := Aside0.mk (Kd.V_drew HO_0.out)
       have n1_ := Aside0.mk (below_drew1 HB.out)
       clear HO_0
       clear HB
       have HO_0 := n0_
       have HB := n1_
       clear n0_ n1_
       obtain ⟨Ao15, co15, eo15⟩ := Kd.V_slice HO_0.out
       (first | subst eo15 | (injection eo15 with f1_ f2_ f3_; have f4_ := f1_.symm; have f5_ := f3_.symm; clear f1_ f2_ f3_; subst f4_; subst f5_))
       have p161 : 0 ≤ ((ji3) : Int) := of_decide_eq_true za
       have q161 : (ji3) < (x0_1.length : Int) := of_decide_eq_true za
       obtain ⟨ad161, e161, hx161_0, hx161_1, hx161_2, hx161_3, hx161_4⟩ := at_T60 (Kd.V_reads' HO_0.out).2.2 (ji3) p161 q161
       cases e161
       replace p161 := eq_true p161
       replace q161 := eq_true q161
       refine start_ (n := 13) (S := fun w' => w'.cell? (ad161.add (((ji3)).toNat * 5)) = some (.string ((rd_T60 x0_1 (ji3)).f0)) ∧ w'.cell? ⟨(ad161.add (((ji3)).toNat * 5)).block, (ad161.add (((ji3)).toNat * 5)).off + 1, none⟩ = some (.int .i64 ((rd_T60 x0_1 (ji3)).f1)) ∧ w'.cell? ⟨(ad161.add (((ji3)).toNat * 5)).block, (ad161.add (((ji3)).toNat * 5)).off + 2, none⟩ = some (.int .i64 ((rd_T60 x0_1 (ji3)).f2.f0)) ∧ w'.cell? ⟨(ad161.add (((ji3)).toNat * 5)).block, (ad161.add (((ji3)).toNat * 5)).off + 3, none⟩ = some (.int .i64 ((rd_T60 x0_1 (ji3)).f2.f1)) ∧ w'.cell? ⟨(ad161.add (((ji3)).toNat * 5)).block, (ad161.add (((ji3)).toNat * 5)).off + 4, none⟩ = some (.int .i64 ((rd_T60 x0_1 (ji3)).f2.f2))) (ds := []) #[false, false, false, false, false, false, false, false, false, false, false, false, false] (by kernel_rfl) rfl rfl ⟨hx161_0, hx161_1, hx161_2, hx161_3, hx161_4⟩ (fun hHeld => ?_); refine with_tabW flow_trimmed.tab1 flow_trimmed.bits1 (fun HT_ HW_ => ?_)
       generalize wr.drew = w14 at HO_0 HB hx161_0 hx161_1 hx161_2 hx161_3 hx161_4 hHeld ⊢
       refine pure_ (i := 0) (N := some 3) (v := ?_) (a' := ?_) #[true, false, false, false, false, false, false, false, false, false, false, false, false] rfl rfl (any_of HT_.out (by kernel_rfl)) (fun _ _ _ h => h) (Or.inl ⟨by rfl, ?_⟩) ?_ ?_
       rotate_left
       ·intro w'
        go_simp
        with_reducible rfl
       rotate_left
       ·exact zr
       refine pure_ (i := 1) (N := some 4) (v := ?_) (a' := ?_) #[true, true, false, false, false, false, false, false, false, false, false, false, false] rfl rfl (any_of HT_.out (by kernel_rfl)) (fun _ _ _ h => h) (Or.inl ⟨by rfl, ?_⟩) ?_ ?_
       rotate_left
       ·intro w'
        go_simp
        with_reducible rfl
       rotate_left
       ·exact zr
       refine pure_ (i := 2) (N := some 5) (v := ?_) (a' := ?_) #[true, true, true, false, false, false, false, false, false, false, false, false, false] rfl rfl (any_of HT_.out (by kernel_rfl)) (fun _ _ _ h => h) (Or.inl ⟨by rfl, ?_⟩) ?_ ?_
       rotate_left
       ·intro w'
        go_simp
        with_reducible rfl
       rotate_left
       ·exact zr
       refine pure_ (i := 3) (N := some 6) (v := ?_) (a' := ?_) #[true, true, true, true, false, false, false, false, false, false, false, false, false] rfl rfl (any_of HT_.out (by kernel_rfl)) (fun _ _ _ h => h) (Or.inl ⟨by rfl, ?_⟩) ?_ ?_
       rotate_left
       ·intro w'
        go_simp
        with_reducible rfl
       rotate_left
       ·exact zr
       refine pure_ (i := 4) (N := some 7) (v := ?_) (a' := ?_) #[true, true, true, true, true, false, false, false, false, false, false, false, false] rfl rfl (any_of HT_.out (by kernel_rfl)) (fun _ _ _ h => h) (Or.inl ⟨by rfl, ?_⟩) ?_ ?_
       rotate_left
       ·intro w'
        go_simp
        with_reducible rfl
       rotate_left
       ·exact zr
       refine pure_ (i := 5) (N := some 8) (v := ?_) (a' := ?_) #[true, true, true, true, true, true, false, false, false, false, false, false, false] rfl rfl (any_of HT_.out (by kernel_rfl)) (fun _ _ _ h => h) (Or.inl ⟨by rfl, ?_⟩) ?_ ?_
       rotate_left
       ·intro w'
        go_simp
        with_reducible rfl
       rotate_left
       ·exact zr
       refine pure_ (i := 6) (N := some 9) (v := ?_) (a' := ?_) #[true, true, true, true, true, true, true, false, false, false, false, false, false] rfl rfl (any_of HT_.out (by kernel_rfl)) (fun _ _ _ h => h) (Or.inl ⟨by rfl, ?_⟩) ?_ ?_
       rotate_left
       ·intro w'
        go_simp
        with_reducible rfl
       rotate_left
       ·exact zr
       refine pure_ (i := 7) (N := some 10) (v := ?_) (a' := ?_) #[true, true, true, true, true, true, true, true, false, false, false, false, false] rfl rfl (any_of HT_.out (by kernel_rfl)) (fun _ _ _ h => h) (Or.inl ⟨by rfl, ?_⟩) ?_ ?_
       rotate_left
       ·intro w'
        go_simp
        with_reducible rfl
       rotate_left
       ·exact zr
       refine pure_ (i := 8) (N := some 11) (v := ?_) (a' := ?_) #[true, true, true, true, true, true, true, true, true, false, false, false, false] rfl rfl (any_of HT_.out (by kernel_rfl)) (fun _ _ _ h => h) (Or.inl ⟨by rfl, ?_⟩) ?_ ?_
       rotate_left
       ·intro w'
        go_simp
        with_reducible rfl
       rotate_left
       ·exact zr
       refine take_ (i := 9) (N := some 12) (v := ?_) (a' := ?_) #[true, true, true, true, true, true, true, true, true, true, false, false, false] rfl rfl (take_ofW HT_.out HW_.out (by kernel_rfl)) (fun _ _ _ h => h) (Or.inl ⟨by rfl, ?_⟩) hHeld ?_ ?_
       rotate_left
       ·rintro w' ⟨s0, s1, s2, s3, s4⟩
        go_simp
        with_reducible rfl
       rotate_left
       ·exact zr
       refine one_ (i := 10) (N := some 13) #[true, true, true, true, true, true, true, true, true, true, true, false, false] rfl rfl (one_of HT_.out (by kernel_rfl)) (by decide) (fun K hK => ?_)
       refine goes_ Tryd.func67 (by kernel_rfl) rfl #[] (by rfl) rfl rfl zl ?_
       with_reducible refine (flow_none.calls  t162 t163 t164 t165 t166 _ A6.out).mono ?_
       rintro e w16 ⟨rfl, hb⟩
       have HS0_ := (hb.cell (World.block_lt_of_cell? _ _ (hHeld.1))).trans (hHeld.1)
       have HS1_ := (hb.cell (World.block_lt_of_cell? _ _ (hHeld.2.1))).trans (hHeld.2.1)
       have HS2_ := (hb.cell (World.block_lt_of_cell? _ _ (hHeld.2.2.1))).trans (hHeld.2.2.1)
       have HS3_ := (hb.cell (World.block_lt_of_cell? _ _ (hHeld.2.2.2.1))).trans (hHeld.2.2.2.1)
       have HS4_ := (hb.cell (World.block_lt_of_cell? _ _ (hHeld.2.2.2.2))).trans (hHeld.2.2.2.2)
       refine ⟨_, rfl, ?_⟩
       have n0_ := Aside0.mk (Kd.V_below (by (with_reducible repeat (first | apply Kd.V_alloc | apply Kd.V_drewN | apply Kd.V_drew)); exact HO_0.out) hb)
       have n1_ := (zs HB hb)
       clear HO_0
       clear HB
       have HO_0 := n0_
       have HB := n1_
       clear n0_ n1_
       (try clear hb)
       (try clear hb2)
       (try clear hk)
       (try clear hi)
       refine hK.out _ _ ⟨HS0_, HS1_, HS2_, HS3_, HS4_⟩ (fun hHeld => ?_)
       clear hK K
       refine norm_ (a' := ?_) ?_ ?_
       rotate_left
       ·show Act.put _ (some 13) _ = _
        simp only [Act.put, List.setIfInBounds_toArray, List.set_cons_zero, List.set_cons_succ, i64_w, i32_w]
        rfl
       refine pure_ (i := 11) (N := some 14) (v := ?_) (a' := ?_) #[true, true, true, true, true, true, true, true, true, true, true, true, false] rfl rfl (any_of HT_.out (by kernel_rfl)) (fun _ _ _ h => h) (Or.inl ⟨by rfl, ?_⟩) ?_ ?_
       rotate_left
       ·intro w'
        go_simp
        with_reducible rfl
       rotate_left
       ·exact zr
       refine pure_ (i := 12) (N := some 15) (v := ?_) (a' := ?_) #[true, true, true, true, true, true, true, true, true, true, true, true, true] rfl rfl (any_of HT_.out (by kernel_rfl)) (fun _ _ _ h => h) (Or.inl ⟨by rfl, ?_⟩) ?_ ?_
       rotate_left
       ·intro w'
        go_simp
        with_reducible rfl
       rotate_left
       ·exact zr
       refine done_ (done_of HT_.out (by kernel_rfl)) ?_
       try go_wp2
       go_ret
       exact ⟨_, by first | rfl | (simp [errW_none, errW_some] <;> rfl) | (simp only [← hji3]; first | rfl | (simp [errW_none, errW_some] <;> rfl)) | (simp [*, errW_none, errW_some] <;> rfl), by (with_reducible repeat (first | apply Kd.V_alloc | apply Kd.V_drewN | apply Kd.V_drew)); exact HO_0.out, zb⟩
     ·rw [if_neg c5] at H
      exact absurd H (by simp)
    ·rw [if_neg c4] at H
     exact absurd H (by simp)
   ·rw [if_neg c2] at H
    have c2b0 : decide (0 < (x0_1.length : Int)) = false := decide_eq_false c2
    have c2b1 : decide (0 < x0_1.length) = false := decide_eq_false (by omega)
    clear c2
    obtain rfl := Option.some.inj H
    try go_wp2
    have n0_ := Aside0.mk (Kd.V_drew HO_0.out)
    have n1_ := Aside0.mk (below_drew1 HB.out)
    clear HO_0
    clear HB
    have HO_0 := n0_
    have HB := n1_
    clear n0_ n1_
    obtain ⟨Ao18, co18, eo18⟩ := Kd.V_slice HO_0.out
    (first | subst eo18 | (injection eo18 with f1_ f2_ f3_; have f4_ := f1_.symm; have f5_ := f3_.symm; clear f1_ f2_ f3_; subst f4_; subst f5_))
    refine start_ (n := 13) (S := fun w' => True) (ds := []) #[false, false, false, false, false, false, false, false, false, false, false, false, false] (by kernel_rfl) rfl rfl trivial (fun hHeld => ?_); refine with_tabW flow_trimmed.tab1 flow_trimmed.bits1 (fun HT_ HW_ => ?_)
    generalize wr.drew = w17 at HO_0 HB hHeld ⊢
    refine pure_ (i := 0) (N := some 3) (v := ?_) (a' := ?_) #[true, false, false, false, false, false, false, false, false, false, false, false, false] rfl rfl (any_of HT_.out (by kernel_rfl)) (fun _ _ _ h => h) (Or.inl ⟨by rfl, ?_⟩) ?_ ?_
    rotate_left
    ·intro w'
     go_simp
     with_reducible rfl
    rotate_left
    ·exact zr
    refine pure_ (i := 1) (N := some 4) (v := ?_) (a' := ?_) #[true, true, false, false, false, false, false, false, false, false, false, false, false] rfl rfl (any_of HT_.out (by kernel_rfl)) (fun _ _ _ h => h) (Or.inl ⟨by rfl, ?_⟩) ?_ ?_
    rotate_left
    ·intro w'
     go_simp
     with_reducible rfl
    rotate_left
    ·exact zr
    refine pure_ (i := 2) (N := some 5) (v := ?_) (a' := ?_) #[true, true, true, false, false, false, false, false, false, false, false, false, false] rfl rfl (any_of HT_.out (by kernel_rfl)) (fun _ _ _ h => h) (Or.inl ⟨by rfl, ?_⟩) ?_ ?_
    rotate_left
    ·intro w'
     go_simp
     with_reducible rfl
    rotate_left
    ·exact zr
    refine pure_ (i := 3) (N := some 6) (v := ?_) (a' := ?_) #[true, true, true, true, false, false, false, false, false, false, false, false, false] rfl rfl (any_of HT_.out (by kernel_rfl)) (fun _ _ _ h => h) (Or.inl ⟨by rfl, ?_⟩) ?_ ?_
    rotate_left
    ·intro w'
     go_simp
     with_reducible rfl
    rotate_left
    ·exact zr
    refine pure_ (i := 4) (N := some 7) (v := undef) (a' := ?_) #[true, true, true, true, true, false, false, false, false, false, false, false, false] rfl rfl (any_of HT_.out (by kernel_rfl)) (fun _ _ _ h => h) (Or.inr ⟨by rfl, rfl⟩) ?_ ?_
    rotate_left
    ·exact zr
    refine pure_ (i := 5) (N := some 8) (v := undef) (a' := ?_) #[true, true, true, true, true, true, false, false, false, false, false, false, false] rfl rfl (any_of HT_.out (by kernel_rfl)) (fun _ _ _ h => h) (Or.inr ⟨by rfl, rfl⟩) ?_ ?_
    rotate_left
    ·exact zr
    refine pure_ (i := 6) (N := some 9) (v := undef) (a' := ?_) #[true, true, true, true, true, true, true, false, false, false, false, false, false] rfl rfl (any_of HT_.out (by kernel_rfl)) (fun _ _ _ h => h) (Or.inr ⟨by rfl, rfl⟩) ?_ ?_
    rotate_left
    ·exact zr
    refine pure_ (i := 7) (N := some 10) (v := undef) (a' := ?_) #[true, true, true, true, true, true, true, true, false, false, false, false, false] rfl rfl (any_of HT_.out (by kernel_rfl)) (fun _ _ _ h => h) (Or.inr ⟨by rfl, rfl⟩) ?_ ?_
    rotate_left
    ·exact zr
    refine pure_ (i := 8) (N := some 11) (v := undef) (a' := ?_) #[true, true, true, true, true, true, true, true, true, false, false, false, false] rfl rfl (any_of HT_.out (by kernel_rfl)) (fun _ _ _ h => h) (Or.inr ⟨by rfl, rfl⟩) ?_ ?_
    rotate_left
    ·exact zr
    refine pure_ (i := 9) (N := some 12) (v := undef) (a' := ?_) #[true, true, true, true, true, true, true, true, true, true, false, false, false] rfl rfl (any_of HT_.out (by kernel_rfl)) (fun _ _ _ h => h) (Or.inr ⟨by rfl, rfl⟩) ?_ ?_
    rotate_left
    ·exact zr
    refine pure_ (i := 10) (N := some 13) (v := undef) (a' := ?_) #[true, true, true, true, true, true, true, true, true, true, true, false, false] rfl rfl (any_of HT_.out (by kernel_rfl)) (fun _ _ _ h => h) (Or.inr ⟨by rfl, rfl⟩) ?_ ?_
    rotate_left
    ·exact zr
    refine pure_ (i := 11) (N := some 14) (v := undef) (a' := ?_) #[true, true, true, true, true, true, true, true, true, true, true, true, false] rfl rfl (any_of HT_.out (by kernel_rfl)) (fun _ _ _ h => h) (Or.inr ⟨by rfl, rfl⟩) ?_ ?_
    rotate_left
    ·exact zr
    refine pure_ (i := 12) (N := some 15) (v := ?_) (a' := ?_) #[true, true, true, true, true, true, true, true, true, true, true, true, true] rfl rfl (any_of HT_.out (by kernel_rfl)) (fun _ _ _ h => h) (Or.inl ⟨by rfl, ?_⟩) ?_ ?_
    rotate_left
    ·intro w'
     go_simp
     with_reducible rfl
    rotate_left
    ·exact zr
    refine done_ (done_of HT_.out (by kernel_rfl)) ?_
    try go_wp2
    go_ret
    exact ⟨_, ze, by (with_reducible repeat (first | apply Kd.V_alloc | apply Kd.V_drewN | apply Kd.V_drew)); exact HO_0.out, zb⟩
end Go.Proofs.YtckkdaehmccjlaaDoor.P
namespace Go.Proofs.YtckkdaehmccjlaaDoor.P
open Go.RowKit Go.Proofs.YtckkdaehmccjlaaDoorW.PrintWords Go.Proofs.YtckkdaehmccjlaaDoorW.PrintLast Go.Proofs.YtckkdaehmccjlaaDoorW.PrintMore
attribute [local go_sem] max2_int min2_int max_two min_two max_three min_three max_four min_four   -- for this text's walks alone
set_option linter.unusedVariables false
set_option linter.unusedSimpArgs false
def grid_whole.f (l0 : List (S60)) (a1 : Int) : Option (Bool) := if 0 ≤ a1 then (if a1 < (l0.length : Int) then (if ((rd_T60 l0 a1).f1) = 2 then (if (wrap64 (a1 + 1)) < (l0.length : Int) then (if 0 ≤ (wrap64 (a1 + 1)) then (some (((rd_T60 l0 (wrap64 (a1 + 1))).f1) == 0)) else (none)) else (some false)) else (if ((rd_T60 l0 a1).f1) = 0 then (if a1 > 0 then (if 0 ≤ (wrap64 (a1 - 1)) then (if (wrap64 (a1 - 1)) < (l0.length : Int) then (some (((rd_T60 l0 (wrap64 (a1 - 1))).f1) == 2)) else (none)) else (none)) else (some false)) else (some true))) else (none)) else (none)
set_option maxHeartbeats 8000000 in
set_option maxRecDepth 100000 in
theorem grid_whole.calls (A0 : Option Addr) (c0 : Nat) (l0 : List (S60)) (a1 : Int) (r : Bool) (w : World) (hr0 : Kd.C k60 w A0 l0.length l0) (hc0 : l0.length ≤ c0) (h : grid_whole.f l0 a1 = some r) :
  Calls Tryd.prog 71 #[.slice A0 l0.length c0, .int .i64 a1] w fun e w' => e = .returned (.bool r) ∧ Drawn0 w w' := by
 have HR0 := Aside0.mk hr0
 have HC0 := Aside0.mk hc0
 clear hr0 hc0
 have H : (if 0 ≤ a1 then (if a1 < (l0.length : Int) then (if ((rd_T60 l0 a1).f1) = 2 then (if (wrap64 (a1 + 1)) < (l0.length : Int) then (if 0 ≤ (wrap64 (a1 + 1)) then (some (((rd_T60 l0 (wrap64 (a1 + 1))).f1) == 0)) else (none)) else (some false)) else (if ((rd_T60 l0 a1).f1) = 0 then (if a1 > 0 then (if 0 ≤ (wrap64 (a1 - 1)) then (if (wrap64 (a1 - 1)) < (l0.length : Int) then (some (((rd_T60 l0 (wrap64 (a1 - 1))).f1) == 2)) else (none)) else (none)) else (some false)) else (some true))) else (none)) else (none)) = some r := h
 clear h
 by_cases c3 : 0 ≤ a1
 ·rw [if_pos c3] at H
  have c3b0 : decide (0 ≤ a1) = true := decide_eq_true c3
  clear c3
  by_cases c4 : a1 < (l0.length : Int)
  ·rw [if_pos c4] at H
   have c4b0 : decide (a1 < (l0.length : Int)) = true := decide_eq_true c4
   clear c4
   by_cases c5 : ((rd_T60 l0 a1).f1) = 2
   ·rw [if_pos c5] at H
    have c5b0 : (((rd_T60 l0 a1).f1) == 2) = true := beq_iff_eq.mpr c5
    have c5b1 : (((rd_T60 l0 a1).f1) != 2) = false := bne_eq_false_iff_eq.mpr c5
    clear c5
    by_cases c6 : (wrap64 (a1 + 1)) < (l0.length : Int)
    ·rw [if_pos c6] at H
     have c6b0 : decide ((wrap64 (a1 + 1)) < (l0.length : Int)) = true := decide_eq_true c6
     clear c6
     obtain ⟨ji7, hji7⟩ : ∃ j_ : Int, (wrap64 (a1 + 1)) = j_ := ⟨_, rfl⟩
     replace H : (if 0 ≤ (ji7) then (some (((rd_T60 l0 (ji7)).f1) == 0)) else (none)) = some r := by first | (rw [hji7] at H; exact H) | (simp only [hji7] at H ⊢; exact H)
     (try rw [hji7] at c6b0)
     have hji7w : (IntKind.i64.wrap (a1 + 1)) = ji7 := (i64_w _).trans hji7
     by_cases c8 : 0 ≤ (ji7)
     ·rw [if_pos c8] at H
      have c8b0 : decide (0 ≤ (ji7)) = true := decide_eq_true c8
      clear c8
      obtain rfl := Option.some.inj H
      have p143 : 0 ≤ (a1 : Int) := of_decide_eq_true za
      have q143 : a1 < (l0.length : Int) := of_decide_eq_true za
      obtain ⟨ad143, e143, hx143_0, hx143_1, hx143_2, hx143_3, hx143_4⟩ := at_T60 HR0.out a1 p143 q143
      cases e143
      replace p143 := eq_true p143
      replace q143 := eq_true q143
      have p144 : 0 ≤ ((ji7) : Int) := of_decide_eq_true za
      have q144 : (ji7) < (l0.length : Int) := of_decide_eq_true za
      obtain ⟨ad144, e144, hx144_0, hx144_1, hx144_2, hx144_3, hx144_4⟩ := at_T60 HR0.out (ji7) p144 q144
      obtain rfl : ad143 = ad144 := (by injection e144)
      replace p144 := eq_true p144
      replace q144 := eq_true q144
      go_enter Tryd.func71, Tryd.ntmps71
      go_wp2
      go_ret
      exact ⟨by first | rfl | (simp; done) | (simp only [← hji7] <;> (first | rfl | (simp; done))) | (simp [*]; done) | (simp; simp only [decide_eq_true_eq, eq_iff_iff, iff_true] at *; omega), by repeat (first | exact Drawn0.refl _ | apply Drawn0.step)⟩
     ·rw [if_neg c8] at H
      exact absurd H (by simp)
    ·rw [if_neg c6] at H
     have c6b0 : decide ((wrap64 (a1 + 1)) < (l0.length : Int)) = false := decide_eq_false c6
     clear c6
     obtain rfl := Option.some.inj H
     have p143 : 0 ≤ (a1 : Int) := of_decide_eq_true za
     have q143 : a1 < (l0.length : Int) := of_decide_eq_true za
     obtain ⟨ad143, e143, hx143_0, hx143_1, hx143_2, hx143_3, hx143_4⟩ := at_T60 HR0.out a1 p143 q143
     cases e143
     replace p143 := eq_true p143
     replace q143 := eq_true q143
     go_enter Tryd.func71, Tryd.ntmps71
     go_wp2
     go_ret
     exact ⟨by first | rfl | (simp; done) | (simp [*]; done), by repeat (first | exact Drawn0.refl _ | apply Drawn0.step)⟩
   ·rw [if_neg c5] at H
    have c5b0 : (((rd_T60 l0 a1).f1) == 2) = false := beq_eq_false_iff_ne.mpr c5
    have c5b1 : (((rd_T60 l0 a1).f1) != 2) = true := bne_iff_ne.mpr c5
    by_cases c9 : ((rd_T60 l0 a1).f1) = 0
    ·rw [if_pos c9] at H
     have c9b0 : (((rd_T60 l0 a1).f1) == 0) = true := beq_iff_eq.mpr c9
     have c9b1 : (((rd_T60 l0 a1).f1) != 0) = false := bne_eq_false_iff_eq.mpr c9
     clear c9
     by_cases c10 : a1 > 0
     ·rw [if_pos c10] at H
      have c10b0 : decide (0 < a1) = true := decide_eq_true c10
      clear c10
      obtain ⟨ji11, hji11⟩ : ∃ j_ : Int, (wrap64 (a1 - 1)) = j_ := ⟨_, rfl⟩
      replace H : (if 0 ≤ (ji11) then (if (ji11) < (l0.length : Int) then (some (((rd_T60 l0 (ji11)).f1) == 2)) else (none)) else (none)) = some r := by first | (rw [hji11] at H; exact H) | (simp only [hji11] at H ⊢; exact H)
      have hji11w : (IntKind.i64.wrap (a1 - 1)) = ji11 := (i64_w _).trans hji11
      by_cases c12 : 0 ≤ (ji11)
      ·rw [if_pos c12] at H
       have c12b0 : decide (0 ≤ (ji11)) = true := decide_eq_true c12
       clear c12
       by_cases c13 : (ji11) < (l0.length : Int)
       ·rw [if_pos c13] at H
        have c13b0 : decide ((ji11) < (l0.length : Int)) = true := decide_eq_true c13
        clear c13
        obtain rfl := Option.some.inj H
        have p143 : 0 ≤ (a1 : Int) := of_decide_eq_true za
        have q143 : a1 < (l0.length : Int) := of_decide_eq_true za
        obtain ⟨ad143, e143, hx143_0, hx143_1, hx143_2, hx143_3, hx143_4⟩ := at_T60 HR0.out a1 p143 q143
        cases e143
        replace p143 := eq_true p143
        replace q143 := eq_true q143
        have p145 : 0 ≤ ((ji11) : Int) := of_decide_eq_true za
        have q145 : (ji11) < (l0.length : Int) := of_decide_eq_true za
        obtain ⟨ad145, e145, hx145_0, hx145_1, hx145_2, hx145_3, hx145_4⟩ := at_T60 HR0.out (ji11) p145 q145
        obtain rfl : ad143 = ad145 := (by injection e145)
        replace p145 := eq_true p145
        replace q145 := eq_true q145
        go_enter Tryd.func71, Tryd.ntmps71
        go_wp2
        go_ret
        exact ⟨by first | rfl | (simp; done) | (simp only [← hji11] <;> (first | rfl | (simp; done))) | (simp [*]; done) | (simp; simp only [decide_eq_true_eq, eq_iff_iff, iff_true] at *; omega), by repeat (first | exact Drawn0.refl _ | apply Drawn0.step)⟩
       ·rw [if_neg c13] at H
        exact absurd H (by simp)
      ·rw [if_neg c12] at H
       exact absurd H (by simp)
     ·rw [if_neg c10] at H
      have c10b0 : decide (0 < a1) = false := decide_eq_false c10
      clear c10
      obtain rfl := Option.some.inj H
      have p143 : 0 ≤ (a1 : Int) := of_decide_eq_true za
      have q143 : a1 < (l0.length : Int) := of_decide_eq_true za
      obtain ⟨ad143, e143, hx143_0, hx143_1, hx143_2, hx143_3, hx143_4⟩ := at_T60 HR0.out a1 p143 q143
      cases e143
      replace p143 := eq_true p143
      replace q143 := eq_true q143
      go_enter Tryd.func71, Tryd.ntmps71
      go_wp2
      go_ret
      exact ⟨by first | rfl | (simp; done) | (simp [*]; done), by repeat (first | exact Drawn0.refl _ | apply Drawn0.step)⟩
    ·rw [if_neg c9] at H
     have c9b0 : (((rd_T60 l0 a1).f1) == 0) = false := beq_eq_false_iff_ne.mpr c9
     have c9b1 : (((rd_T60 l0 a1).f1) != 0) = true := bne_iff_ne.mpr c9
     obtain rfl := Option.some.inj H
     have p143 : 0 ≤ (a1 : Int) := of_decide_eq_true za
     have q143 : a1 < (l0.length : Int) := of_decide_eq_true za
     obtain ⟨ad143, e143, hx143_0, hx143_1, hx143_2, hx143_3, hx143_4⟩ := at_T60 HR0.out a1 p143 q143
     cases e143
     replace p143 := eq_true p143
     replace q143 := eq_true q143
     go_enter Tryd.func71, Tryd.ntmps71
     go_wp2
     go_ret
     exact ⟨by first | rfl | (simp; done) | (simp [*]; done), by repeat (first | exact Drawn0.refl _ | apply Drawn0.step)⟩
  ·rw [if_neg c4] at H
   exact absurd H (by simp)
 ·rw [if_neg c3] at H
  exact absurd H (by simp)
def cell_in.f (a0 : Int) (a1 : Int) (a2 : Int) : Option (Bool) := if a0 ≥ a1 then (some (decide (a0 ≤ a2))) else (some false)
set_option maxHeartbeats 8000000 in
set_option maxRecDepth 100000 in
theorem cell_in.calls (a0 : Int) (a1 : Int) (a2 : Int) (r : Bool) (w : World) (h : cell_in.f a0 a1 a2 = some r) :
  Calls Tryd.prog 84 #[.int .i64 a0, .int .i64 a1, .int .i64 a2] w fun e w' => e = .returned (.bool r) ∧ Drawn0 w w' := by
 have H : (if a0 ≥ a1 then (some (decide (a0 ≤ a2))) else (some false)) = some r := h
 clear h
 by_cases c4 : a0 ≥ a1
 ·rw [if_pos c4] at H
  have c4b0 : decide (a1 ≤ a0) = true := decide_eq_true c4
  clear c4
  obtain rfl := Option.some.inj H
  go_enter Tryd.func84, Tryd.ntmps84
  go_wp2
  go_ret
  exact ⟨by first | rfl | (simp; done) | (simp [*]; done), by repeat (first | exact Drawn0.refl _ | apply Drawn0.step)⟩
 ·rw [if_neg c4] at H
  have c4b0 : decide (a1 ≤ a0) = false := decide_eq_false c4
  clear c4
  obtain rfl := Option.some.inj H
  go_enter Tryd.func84, Tryd.ntmps84
  go_wp2
  go_ret
  exact ⟨by first | rfl | (simp; done) | (simp [*]; done), by repeat (first | exact Drawn0.refl _ | apply Drawn0.step)⟩
def cell_Look.f (a0_0 : Int) (a0_1 : Int) (a0_2 : Int) : Option (Bool) := (cell_in.f a0_0 0 256).bind fun t121 => (if t121 = true then ((cell_in.f a0_1 0 256).bind fun t122 => (if t122 = true then ((cell_in.f a0_2 0 255).bind fun t123 => (some t123)) else (some false))) else (some false))
set_option maxHeartbeats 8000000 in
set_option maxRecDepth 100000 in
theorem cell_Look.calls (a0_0 : Int) (a0_1 : Int) (a0_2 : Int) (r : Bool) (w : World) (h : cell_Look.f a0_0 a0_1 a0_2 = some r) :
  Calls Tryd.prog 83 #[.agg #[.int .i64 a0_0, .int .i64 a0_1, .int .i64 a0_2]] w fun e w' => e = .returned (.bool r) ∧ Below w.heap.size w w' := by
 have hu58 := Tryd.underlying58
 have HB := Aside0.mk (Below.refl w.heap.size w)
 have H : ((cell_in.f a0_0 0 256).bind fun t121 => (if t121 = true then ((cell_in.f a0_1 0 256).bind fun t122 => (if t122 = true then ((cell_in.f a0_2 0 255).bind fun t123 => (some t123)) else (some false))) else (some false))) = some r := h
 clear h
 replace H := Option.bind_eq_some_iff.mp H
 obtain ⟨t121, A20, H⟩ := H
 replace H : (if t121 = true then ((cell_in.f a0_1 0 256).bind fun t122 => (if t122 = true then ((cell_in.f a0_2 0 255).bind fun t123 => (some t123)) else (some false))) else (some false)) = some r := H
 have A2 := Aside0.mk A20
 clear A20
 by_cases c3 : t121 = true
 ·subst c3
  have H1 : ((cell_in.f a0_1 0 256).bind fun t122 => (if t122 = true then ((cell_in.f a0_2 0 255).bind fun t123 => (some t123)) else (some false))) = some r := by rw [if_pos rfl] at H; exact H
  clear H
  have H := H1
  clear H1
  replace H := Option.bind_eq_some_iff.mp H
  obtain ⟨t122, A40, H⟩ := H
  replace H : (if t122 = true then ((cell_in.f a0_2 0 255).bind fun t123 => (some t123)) else (some false)) = some r := H
  have A4 := Aside0.mk A40
  clear A40
  by_cases c5 : t122 = true
  ·subst c5
   have H1 : ((cell_in.f a0_2 0 255).bind fun t123 => (some t123)) = some r := by rw [if_pos rfl] at H; exact H
   clear H
   have H := H1
   clear H1
   replace H := Option.bind_eq_some_iff.mp H
   obtain ⟨t123, A60, H⟩ := H
   replace H : (some t123) = some r := H
   have A6 := Aside0.mk A60
   clear A60
   obtain rfl := Option.some.inj H
   go_enter Tryd.func83, Tryd.ntmps83
   go_wp2_with (first | ((with_reducible refine gate_dst (N := 1) rfl ?_); refine box_event ?hg (N := 1) ?hd (cs := #[.int .i64 a0_0, .int .i64 a0_1, .int .i64 a0_2]) (t := 58) ?hr ?_; (case hd => rfl); (case hg => rfl); (case hr => exact zo); intro gb120 hg w7 hbox hb; have BK120 := Aside0.mk (hbox); have GW120 := Aside0.mk ((zg hg : w.heap.size ≤ gb120)); have GE120 := Aside0.mk ((zg hg : w.heap.size ≤ gb120)); replace HB := (zs HB hb); clear hb hbox hg; obtain ⟨hcz8_0, hcz8_1, hcz8_2, hfz8_0, hfz8_1, hfz8_2⟩ := zq3 (w := w7) BK120) | ((with_reducible refine gate_callee (f := 84) rfl ?_); refine goesL_ (some 5) rfl rfl Tryd.func84 (by kernel_rfl) rfl #[.int .i64 a0_0, .int .i64 0, .int .i64 256] rfl zl ?_; (with_reducible refine (cell_in.calls a0_0 0 256 true _ A2.out).mono ?_); rintro e w' ⟨rfl, ⟨nd, rfl⟩⟩; refine ⟨_, rfl, ?_⟩) | (go_at_call 84; (with_reducible refine (cell_in.calls a0_1 0 256 true _ A4.out).mono ?_); rintro e w' ⟨rfl, ⟨nd, rfl⟩⟩) | (go_at_call 84; (with_reducible refine (cell_in.calls a0_2 0 255 t123 _ A6.out).mono ?_); rintro e w' ⟨rfl, ⟨nd, rfl⟩⟩))
   go_ret
   exact ⟨ze, zb⟩
  ·replace c5 := Bool.eq_false_iff.mpr c5
   subst c5
   have H1 : (some false) = some r := by rw [if_neg (show ¬ (false = true) by decide)] at H; exact H
   clear H
   have H := H1
   clear H1
   obtain rfl := Option.some.inj H
   go_enter Tryd.func83, Tryd.ntmps83
   go_wp2_with (first | ((with_reducible refine gate_dst (N := 1) rfl ?_); refine box_event ?hg (N := 1) ?hd (cs := #[.int .i64 a0_0, .int .i64 a0_1, .int .i64 a0_2]) (t := 58) ?hr ?_; (case hd => rfl); (case hg => rfl); (case hr => exact zo); intro gb120 hg w9 hbox hb; have BK120 := Aside0.mk (hbox); have GW120 := Aside0.mk ((zg hg : w.heap.size ≤ gb120)); have GE120 := Aside0.mk ((zg hg : w.heap.size ≤ gb120)); replace HB := (zs HB hb); clear hb hbox hg; obtain ⟨hcz10_0, hcz10_1, hcz10_2, hfz10_0, hfz10_1, hfz10_2⟩ := zq3 (w := w9) BK120) | ((with_reducible refine gate_callee (f := 84) rfl ?_); refine goesL_ (some 5) rfl rfl Tryd.func84 (by kernel_rfl) rfl #[.int .i64 a0_0, .int .i64 0, .int .i64 256] rfl zl ?_; (with_reducible refine (cell_in.calls a0_0 0 256 true _ A2.out).mono ?_); rintro e w' ⟨rfl, ⟨nd, rfl⟩⟩; refine ⟨_, rfl, ?_⟩) | (go_at_call 84; (with_reducible refine (cell_in.calls a0_1 0 256 false _ A4.out).mono ?_); rintro e w' ⟨rfl, ⟨nd, rfl⟩⟩))
   go_ret
   exact ⟨ze, zb⟩
 ·replace c3 := Bool.eq_false_iff.mpr c3
  subst c3
  have H1 : (some false) = some r := by rw [if_neg (show ¬ (false = true) by decide)] at H; exact H
  clear H
  have H := H1
  clear H1
  obtain rfl := Option.some.inj H
  go_enter Tryd.func83, Tryd.ntmps83
  go_wp2_with (first | ((with_reducible refine gate_dst (N := 1) rfl ?_); refine box_event ?hg (N := 1) ?hd (cs := #[.int .i64 a0_0, .int .i64 a0_1, .int .i64 a0_2]) (t := 58) ?hr ?_; (case hd => rfl); (case hg => rfl); (case hr => exact zo); intro gb120 hg w11 hbox hb; have BK120 := Aside0.mk (hbox); have GW120 := Aside0.mk ((zg hg : w.heap.size ≤ gb120)); have GE120 := Aside0.mk ((zg hg : w.heap.size ≤ gb120)); replace HB := (zs HB hb); clear hb hbox hg; obtain ⟨hcz12_0, hcz12_1, hcz12_2, hfz12_0, hfz12_1, hfz12_2⟩ := zq3 (w := w11) BK120) | ((with_reducible refine gate_callee (f := 84) rfl ?_); refine goesL_ (some 5) rfl rfl Tryd.func84 (by kernel_rfl) rfl #[.int .i64 a0_0, .int .i64 0, .int .i64 256] rfl zl ?_; (with_reducible refine (cell_in.calls a0_0 0 256 false _ A2.out).mono ?_); rintro e w' ⟨rfl, ⟨nd, rfl⟩⟩; refine ⟨_, rfl, ?_⟩))
  go_ret
  exact ⟨ze, zb⟩
end Go.Proofs.YtckkdaehmccjlaaDoor.P
namespace Go.Proofs.YtckkdaehmccjlaaDoor.P
open Go.RowKit Go.Proofs.YtckkdaehmccjlaaDoorW.PrintWords Go.Proofs.YtckkdaehmccjlaaDoorW.PrintLast Go.Proofs.YtckkdaehmccjlaaDoorW.PrintMore
def utf8_DecodeRuneInString.f (a0 : ByteArray) : Option (Int × Int) := some ((Lib.decodeGo a0).1, (Lib.decodeGo a0).2)
theorem utf8_DecodeRuneInString.calls (a0 : ByteArray) (r1 : Int) (r2 : Int) (w : World) (h : utf8_DecodeRuneInString.f a0 = some (r1, r2)) (hT : Tabs w := by first | exact Aside0.out (by with_reducible assumption) | exact Tabs.keepA (by with_reducible assumption) (by repeat (first | (with_reducible exact Aside0.out (by with_reducible assumption)) | (with_reducible apply below_alloc) | (with_reducible apply pw_below_drewN) | (with_reducible apply below_drew1) | (with_reducible refine below_set ?_ (Aside0.out (by with_reducible assumption)))))) :
    Calls Tryd.prog 103 #[.string a0] w fun e w' => e = .returned (.tuple #[.int .i32 r1, .int .i64 r2]) ∧ Below w.heap.size w w' := by
  have e := Option.some.inj h
  have e1 : ((Lib.decodeGo a0).1 : Int) = r1 := congrArg Prod.fst e
  have e2 : ((Lib.decodeGo a0).2 : Int) = r2 := congrArg Prod.snd e
  subst e1; subst e2
  exact Tryd.utf8_DecodeRuneInString a0 w hT.utf8
def fullN (n b0 b1 b2 : Nat) : Bool :=
  if n = 0 then false else if Lib.firstT b0 % 8 ≤ n then true
  else if 1 < n ∧ (b1 < Lib.accLo (Lib.firstT b0 / 16) ∨ Lib.accHi (Lib.firstT b0 / 16) < b1) then true
  else if 2 < n ∧ (b2 < 128 ∨ 191 < b2) then true else false
def utf8_FullRuneInString.f (a0 : ByteArray) : Option Bool := some (fullN a0.size (a0.get! 0).toNat (a0.get! 1).toNat (a0.get! 2).toNat)
open Go.Lib in
set_option maxHeartbeats 4000000 in
set_option maxRecDepth 100000 in
theorem full_any (s : ByteArray) (w : World) (hT : Tabs w) :
    Calls Tryd.prog 102 #[.string s] w fun e w' => e = .returned (.bool (fullN s.size (s.get! 0).toNat (s.get! 1).toNat (s.get! 2).toNat)) ∧ Below w.heap.size w w' := by
  by_cases h0 : s.size = 0
  · rw [show fullN s.size (s.get! 0).toNat (s.get! 1).toNat (s.get! 2).toNat = false by simp [fullN, h0]]
    go_enter Tryd.func102, Tryd.ntmps102
    go_wp2
    go_ret
    exact ⟨rfl, Below.refl _ _⟩
  · have hz0 : (0 : Int) < (s.size : Int) := by omega
    have hz0' : ((s.size : Int) == 0) = false := by simpa using h0
    obtain ⟨x0, hx0⟩ : ∃ x0, s.get! 0 = x0 := ⟨_, rfl⟩
    obtain ⟨x1, hx1⟩ : ∃ x1, s.get! 1 = x1 := ⟨_, rfl⟩
    obtain ⟨x2, hx2⟩ : ∃ x2, s.get! 2 = x2 := ⟨_, rfl⟩
    have hs0 : s[0]'(by omega) = x0 := by rw [← hx0]; exact (Utf8W.get!_of_lt s 0 (by omega)).symm
    have l0 := x0.toNat_lt; have l1 := x1.toNat_lt; have l2 := x2.toNat_lt
    rw [hx0, hx1, hx2]
    have hc0 := hT.utf8.1 x0.toNat (by omega)
    have hfc := Lib.firstT_cases x0.toNat
    by_cases hfull : firstT x0.toNat % 8 ≤ s.size
    · rw [show fullN s.size x0.toNat x1.toNat x2.toNat = true by simp [fullN, h0, hfull]]
      clear hT
      rcases hfc with hX | hX | hX | hX | hX | hX | hX | hX | hX
      all_goals
        rw [hX] at hc0 hfull
        clear hX h0
        simp only [Nat.reduceMod] at hfull
        have hfz := hfull
        go_enter Tryd.func102, Tryd.ntmps102
        go_wp2
        (go_ret; exact ⟨rfl, Below.refl _ _⟩)
    · have hcase : s.size = 1 ∨ s.size = 2 ∨ s.size = 3 := by
        rcases hfc with hX | hX | hX | hX | hX | hX | hX | hX | hX <;> rw [hX] at hfull <;> omega
      have hres : fullN s.size x0.toNat x1.toNat x2.toNat = (if 1 < s.size ∧ (x1.toNat < Lib.accLo (Lib.firstT x0.toNat / 16) ∨ Lib.accHi (Lib.firstT x0.toNat / 16) < x1.toNat) then true
          else if 2 < s.size ∧ (x2.toNat < 128 ∨ 191 < x2.toNat) then true else false) := by
        unfold fullN; rw [if_neg h0, if_neg hfull]
      rw [hres]
      clear hres
      rcases hcase with hn | hn | hn
      · rw [if_neg (by omega), if_neg (by omega)]
        rcases hfc with hX | hX | hX | hX | hX | hX | hX | hX | hX
        all_goals
          have ha0 := (hT.utf8.2 (firstT x0.toNat / 16) (by rw [hX]; omega)).1
          have ha1 := (hT.utf8.2 (firstT x0.toNat / 16) (by rw [hX]; omega)).2
          rw [hX] at hc0 hfull ha0 ha1
          simp only [accLo, accHi, Nat.reduceMul, Nat.reduceAdd, Nat.reduceEqDiff, if_true, if_false, Nat.reduceMod, Nat.reduceDiv] at ha0 ha1 hfull
          rw [hn] at hfull
          clear hT hX h0 hz0'
          first
          | (exfalso; omega)
          | (clear hfull
             have hn1d : decide ((1 : Int) < (s.size : Int)) = false := by rw [hn]; rfl
             have hn2d : decide ((2 : Int) < (s.size : Int)) = false := by rw [hn]; rfl
             go_enter Tryd.func102, Tryd.ntmps102
             go_wp2
             go_quiet (fail)
             go_wp2
             go_ret
             exact ⟨rfl, (((Below.refl _ _).alloc (Nat.le_refl _) _).trans (pw_below_drewN (Below.refl _ _) _))⟩)
      · have hz1 : (1 : Int) < (s.size : Int) := by omega
        have hs1 : s[1]'(by omega) = x1 := by rw [← hx1]; exact (Utf8W.get!_of_lt s 1 (by omega)).symm
        rcases hfc with hX | hX | hX | hX | hX | hX | hX | hX | hX
        all_goals
          have ha0 := (hT.utf8.2 (firstT x0.toNat / 16) (by rw [hX]; omega)).1
          have ha1 := (hT.utf8.2 (firstT x0.toNat / 16) (by rw [hX]; omega)).2
          rw [hX] at hc0 hfull ha0 ha1 ⊢
          simp only [Nat.reduceMul, Nat.reduceAdd, Nat.reduceMod, Nat.reduceDiv] at ha0 ha1 hfull ⊢
          clear hT hX h0 hz0'
          first
          | (exfalso; omega)
          | (clear hfull
             generalize accLo _ = LO at ha0 ⊢
             generalize accHi _ = HI at ha1 ⊢
             have hn1d : decide ((1 : Int) < (s.size : Int)) = true := decide_eq_true hz1
             have hn2d : decide ((2 : Int) < (s.size : Int)) = false := by rw [hn]; rfl
             by_cases hl : x1.toNat < LO
             · rw [if_pos ⟨by omega, .inl hl⟩]
               have hld : decide (x1.toNat < LO) = true := decide_eq_true (by omega)
               clear hl
               go_enter Tryd.func102, Tryd.ntmps102
               go_wp2
               go_quiet (fail)
               go_wp2
               go_ret
               exact ⟨rfl, (((Below.refl _ _).alloc (Nat.le_refl _) _).trans (pw_below_drewN (Below.refl _ _) _))⟩
             · have hld : decide (x1.toNat < LO) = false := decide_eq_false (by omega)
               by_cases hh : HI < x1.toNat
               · rw [if_pos ⟨by omega, .inr hh⟩]
                 have hhd : decide (HI < x1.toNat) = true := decide_eq_true (by omega)
                 clear hl hh
                 go_enter Tryd.func102, Tryd.ntmps102
                 go_wp2
                 go_quiet (fail)
                 go_wp2
                 go_ret
                 exact ⟨rfl, (((Below.refl _ _).alloc (Nat.le_refl _) _).trans (pw_below_drewN (Below.refl _ _) _))⟩
               · rw [if_neg (fun h => h.2.elim hl hh), if_neg (by omega)]
                 have hhd : decide (HI < x1.toNat) = false := decide_eq_false (by omega)
                 clear hl hh
                 go_enter Tryd.func102, Tryd.ntmps102
                 go_wp2
                 go_quiet (fail)
                 go_wp2
                 go_ret
                 exact ⟨rfl, (((Below.refl _ _).alloc (Nat.le_refl _) _).trans (pw_below_drewN (Below.refl _ _) _))⟩)
      · have hz1 : (1 : Int) < (s.size : Int) := by omega
        have hz2 : (2 : Int) < (s.size : Int) := by omega
        have hs1 : s[1]'(by omega) = x1 := by rw [← hx1]; exact (Utf8W.get!_of_lt s 1 (by omega)).symm
        have hs2 : s[2]'(by omega) = x2 := by rw [← hx2]; exact (Utf8W.get!_of_lt s 2 (by omega)).symm
        rcases hfc with hX | hX | hX | hX | hX | hX | hX | hX | hX
        all_goals
          have ha0 := (hT.utf8.2 (firstT x0.toNat / 16) (by rw [hX]; omega)).1
          have ha1 := (hT.utf8.2 (firstT x0.toNat / 16) (by rw [hX]; omega)).2
          rw [hX] at hc0 hfull ha0 ha1 ⊢
          simp only [Nat.reduceMul, Nat.reduceAdd, Nat.reduceMod, Nat.reduceDiv] at ha0 ha1 hfull ⊢
          clear hT hX h0 hz0'
          first
          | (exfalso; omega)
          | (clear hfull
             generalize accLo _ = LO at ha0 ⊢
             generalize accHi _ = HI at ha1 ⊢
             have hn1d : decide ((1 : Int) < (s.size : Int)) = true := decide_eq_true hz1
             have hn2d : decide ((2 : Int) < (s.size : Int)) = true := decide_eq_true hz2
             by_cases hl : x1.toNat < LO
             · rw [if_pos ⟨by omega, .inl hl⟩]
               have hld : decide (x1.toNat < LO) = true := decide_eq_true (by omega)
               clear hl
               go_enter Tryd.func102, Tryd.ntmps102
               go_wp2
               go_quiet (fail)
               go_wp2
               go_ret
               exact ⟨rfl, (((Below.refl _ _).alloc (Nat.le_refl _) _).trans (pw_below_drewN (Below.refl _ _) _))⟩
             · have hld : decide (x1.toNat < LO) = false := decide_eq_false (by omega)
               by_cases hh : HI < x1.toNat
               · rw [if_pos ⟨by omega, .inr hh⟩]
                 have hhd : decide (HI < x1.toNat) = true := decide_eq_true (by omega)
                 clear hl hh
                 go_enter Tryd.func102, Tryd.ntmps102
                 go_wp2
                 go_quiet (fail)
                 go_wp2
                 go_ret
                 exact ⟨rfl, (((Below.refl _ _).alloc (Nat.le_refl _) _).trans (pw_below_drewN (Below.refl _ _) _))⟩
               · rw [if_neg (fun h => h.2.elim hl hh)]
                 have hhd : decide (HI < x1.toNat) = false := decide_eq_false (by omega)
                 clear hl hh
                 by_cases h2l : x2.toNat < 128
                 · rw [if_pos ⟨by omega, .inl h2l⟩]
                   have h2ld : decide ((x2.toNat : Int) < 128) = true := decide_eq_true (by omega)
                   clear h2l
                   go_enter Tryd.func102, Tryd.ntmps102
                   go_wp2
                   go_quiet (fail)
                   go_wp2
                   go_ret
                   exact ⟨rfl, (((Below.refl _ _).alloc (Nat.le_refl _) _).trans (pw_below_drewN (Below.refl _ _) _))⟩
                 · have h2ld : decide ((x2.toNat : Int) < 128) = false := decide_eq_false (by omega)
                   by_cases h2h : 191 < x2.toNat
                   · rw [if_pos ⟨by omega, .inr h2h⟩]
                     have h2hd : decide ((191 : Int) < (x2.toNat : Int)) = true := decide_eq_true (by omega)
                     clear h2l h2h
                     go_enter Tryd.func102, Tryd.ntmps102
                     go_wp2
                     go_quiet (fail)
                     go_wp2
                     go_ret
                     exact ⟨rfl, (((Below.refl _ _).alloc (Nat.le_refl _) _).trans (pw_below_drewN (Below.refl _ _) _))⟩
                   · rw [if_neg (fun h => h.2.elim h2l h2h)]
                     have h2hd : decide ((191 : Int) < (x2.toNat : Int)) = false := decide_eq_false (by omega)
                     clear h2l h2h
                     go_enter Tryd.func102, Tryd.ntmps102
                     go_wp2
                     go_quiet (fail)
                     go_wp2
                     go_ret
                     exact ⟨rfl, (((Below.refl _ _).alloc (Nat.le_refl _) _).trans (pw_below_drewN (Below.refl _ _) _))⟩)
theorem utf8_FullRuneInString.calls (a0 : ByteArray) (r : Bool) (w : World) (h : utf8_FullRuneInString.f a0 = some r) (hT : Tabs w := by first | exact Aside0.out (by with_reducible assumption) | exact Tabs.keepA (by with_reducible assumption) (by repeat (first | (with_reducible exact Aside0.out (by with_reducible assumption)) | (with_reducible apply below_alloc) | (with_reducible apply pw_below_drewN) | (with_reducible apply below_drew1) | (with_reducible refine below_set ?_ (Aside0.out (by with_reducible assumption)))))) :
    Calls Tryd.prog 102 #[.string a0] w fun e w' => e = .returned (.bool r) ∧ Below w.heap.size w w' := by
  have e := Option.some.inj h
  subst e
  exact full_any a0 w hT
end Go.Proofs.YtckkdaehmccjlaaDoor.P
namespace Go.Proofs.YtckkdaehmccjlaaDoor.P
open Go.RowKit Go.Proofs.YtckkdaehmccjlaaDoorW.PrintWords Go.Proofs.YtckkdaehmccjlaaDoorW.PrintLast Go.Proofs.YtckkdaehmccjlaaDoorW.PrintMore
attribute [local go_sem] max2_int min2_int max_two min_two max_three min_three max_four min_four   -- for this text's walks alone
set_option linter.unusedVariables false
set_option linter.unusedSimpArgs false
mutual
def utf_First.j0 : Nat → ByteArray → Int → Int → Bool → Option (Int × Int × Int)
 | 0, _, _, _, _ => none
 | k + 1, x0, x5, x6, x20 => if x20 = true then (some (x5, x6, 0)) else (utf_First.l0 k x0 x6)
def utf_First.l0 : Nat → ByteArray → Int → Option (Int × Int × Int)
 | 0, _, _ => none
 | k + 1, x0, x6 => if x6 < (x0.size : Int) then (if 0 ≤ (wrap64 (x6 + 1)) then (if (wrap64 (x6 + 1)) ≤ (x0.size : Int) then ((utf8_FullRuneInString.f (x0.extract 0 ((wrap64 (x6 + 1)) : Int).toNat)).bind fun t127 => (if t127 = true then (some (0, x6, 4)) else (utf_First.l0 k x0 (wrap64 (x6 + 1))))) else (none)) else (none)) else (some (0, x6, 4))
end
def utf_First.f (k : Nat) (a0 : ByteArray) : Option (Int × Int × Int) := (utf8_FullRuneInString.f a0).bind fun t124 => (if t124 = true then ((utf8_DecodeRuneInString.f a0).bind fun bt125 => (if bt125.1 = 65533 then (utf_First.j0 k a0 bt125.1 bt125.2 (decide (bt125.2 > 1))) else (utf_First.j0 k a0 bt125.1 bt125.2 true))) else (some (0, 0, 2)))
set_option maxHeartbeats 8000000 in
set_option maxRecDepth 100000 in
theorem utf_First.calls (k : Nat) (a0 : ByteArray) (r1 : Int) (r2 : Int) (r3 : Int) (w : World) (h : utf_First.f k a0 = some (r1, r2, r3)) (hT : Tabs w := by first | exact Aside0.out (by with_reducible assumption) | exact Tabs.keepA (by with_reducible assumption) (by repeat (first | (with_reducible exact Aside0.out (by with_reducible assumption)) | (with_reducible apply below_alloc) | (with_reducible apply pw_below_drewN) | (with_reducible apply below_drew1) | (with_reducible refine below_set ?_ (Aside0.out (by with_reducible assumption)))))) :
  Calls Tryd.prog 85 #[.string a0] w fun e w' => e = .returned (.tuple #[.int .i32 r1, .int .i64 r2, .int .i64 r3]) ∧ Below w.heap.size w w' := by
 have HT := Aside0.mk (show Tabs w from hT)
 clear hT
 have HB := Aside0.mk (Below.refl w.heap.size w)
 have H : ((utf8_FullRuneInString.f a0).bind fun t124 => (if t124 = true then ((utf8_DecodeRuneInString.f a0).bind fun bt125 => (if bt125.1 = 65533 then (utf_First.j0 k a0 bt125.1 bt125.2 (decide (bt125.2 > 1))) else (utf_First.j0 k a0 bt125.1 bt125.2 true))) else (some (0, 0, 2)))) = some (r1, r2, r3) := h
 clear h
 replace H := Option.bind_eq_some_iff.mp H
 obtain ⟨t124, A20, H⟩ := H
 replace H : (if t124 = true then ((utf8_DecodeRuneInString.f a0).bind fun bt125 => (if bt125.1 = 65533 then (utf_First.j0 k a0 bt125.1 bt125.2 (decide (bt125.2 > 1))) else (utf_First.j0 k a0 bt125.1 bt125.2 true))) else (some (0, 0, 2))) = some (r1, r2, r3) := H
 have A2 := Aside0.mk A20
 clear A20
 by_cases c3 : t124 = true
 ·subst c3
  have H1 : ((utf8_DecodeRuneInString.f a0).bind fun bt125 => (if bt125.1 = 65533 then (utf_First.j0 k a0 bt125.1 bt125.2 (decide (bt125.2 > 1))) else (utf_First.j0 k a0 bt125.1 bt125.2 true))) = some (r1, r2, r3) := by rw [if_pos rfl] at H; exact H
  clear H
  have H := H1
  clear H1
  replace H := Option.bind_eq_some_iff.mp H
  obtain ⟨⟨t125, t126⟩, A40, H⟩ := H
  replace H : (if t125 = 65533 then (utf_First.j0 k a0 t125 t126 (decide (t126 > 1))) else (utf_First.j0 k a0 t125 t126 true)) = some (r1, r2, r3) := H
  have A4 := Aside0.mk A40
  clear A40
  have HC5 := Aside0.mk H
  clear H
  go_enter Tryd.func85, Tryd.ntmps85
  go_upto_region 4 with (first | ((with_reducible refine gate_callee (f := 102) rfl ?_); refine goesL_ (some 8) rfl rfl Tryd.func102 (by kernel_rfl) rfl #[.string a0] rfl zl ?_; (with_reducible refine (utf8_FullRuneInString.calls a0 true _ A2.out).mono ?_); rintro e w6 ⟨rfl, hb⟩; refine ⟨_, rfl, ?_⟩; replace HB := (zs HB hb); (try clear hb)) | ((with_reducible refine gate_callee (f := 103) rfl ?_); refine goesL_ (some 12) rfl rfl Tryd.func103 (by kernel_rfl) rfl #[.string a0] rfl zl ?_; (with_reducible refine (utf8_DecodeRuneInString.calls a0 t125 t126 _ A4.out).mono ?_); rintro e w7 ⟨rfl, hb⟩; refine ⟨_, rfl, ?_⟩; replace HB := (zs HB hb); (try clear hb)))
  (try simp only [Act.put, List.setIfInBounds_toArray, List.set_cons_zero, List.set_cons_succ])
  go_cut [20] (fun v20 wc => ∃ (kq : Nat) (x20_4 : Bool), v20 = .bool x20_4 ∧ Aside0 (utf_First.j0 kq a0 t125 t126 x20_4 = some (r1, r2, r3)) ∧ Aside0 (kq ≤ k) ∧ Aside0 (Below w.heap.size w wc))
  case first =>
   have H := HC5.out
   clear HC5
   by_cases c8 : t125 = 65533
   ·rw [if_pos c8] at H
    have c8b0 : (t125 == 65533) = true := beq_iff_eq.mpr c8
    have c8b1 : (t125 != 65533) = false := bne_eq_false_iff_eq.mpr c8
    clear c8
    (first | rw [c8b0] | (simp only [i64_w, i32_w]; rw [c8b0]) | skip)
    have H' := Aside0.mk H
    clear H
    go_wp2
    go_meet
    case rel => exact ⟨_, (decide (t126 > 1)), zf, H', ⟨by first | omega | exact Nat.le_refl _⟩, ⟨zb⟩⟩
   ·rw [if_neg c8] at H
    have c8b0 : (t125 == 65533) = false := beq_eq_false_iff_ne.mpr c8
    have c8b1 : (t125 != 65533) = true := bne_iff_ne.mpr c8
    (first | rw [c8b0] | (simp only [i64_w, i32_w]; rw [c8b0]) | skip)
    have H' := Aside0.mk H
    clear H
    go_wp2
    go_meet
    case rel => exact ⟨_, (true), zf, H', ⟨by first | omega | exact Nat.le_refl _⟩, ⟨zb⟩⟩
  case rest =>
   clear HC5
   try clear c3
   obtain ⟨kq, x20_4, rfl, HA, HJ4, HB⟩ := hcut
   cases kq with
   | zero => exact absurd HA.out (by simp [utf_First.j0])
   | succ kj4 =>
    have H := HA.out
    clear HA
    simp only [utf_First.j0] at H
    by_cases c9 : x20_4 = true
    ·subst c9
     have H1 : (some (t125, t126, 0)) = some (r1, r2, r3) := by rw [if_pos rfl] at H; exact H
     clear H
     have H := H1
     clear H1
     simp only [Option.some.injEq, Prod.mk.injEq] at H
     obtain ⟨rfl, rfl, rfl⟩ := H
     go_wp2
     go_ret3
     exact ⟨ze, zb⟩
    ·replace c9 := Bool.eq_false_iff.mpr c9
     subst c9
     have H1 : (utf_First.l0 kj4 a0 t126) = some (r1, r2, r3) := by rw [if_neg (show ¬ (false = true) by decide)] at H; exact H
     clear H
     have H := H1
     clear H1
     have H' := Aside0.mk H
     clear H
     go_wp2
     go_loopg [6] kj4 (fun kq v6 w' => ∃ (x6_2 : Int), v6 = .int .i64 x6_2 ∧ Aside0 (utf_First.l0 kq a0 x6_2 = some (r1, r2, r3)) ∧ Aside0 (kq ≤ kj4) ∧ Aside0 (Below w.heap.size w w'))
     case atStart => exact ⟨(t126), zf, H', ⟨Nat.le_refl _⟩, ⟨zb⟩⟩
     case round =>
      clear H'
      try clear c3
      try clear c9
      obtain ⟨x6_2, rfl, HA, HK2, HB⟩ := hrel
      cases gk with
      | zero => exact absurd HA.out (by simp [utf_First.l0])
      | succ k2 =>
       have H := HA.out
       clear HA
       simp only [utf_First.l0] at H
       by_cases c10 : x6_2 < (a0.size : Int)
       ·rw [if_pos c10] at H
        have c10b0 : decide (x6_2 < (a0.size : Int)) = true := decide_eq_true c10
        clear c10
        obtain ⟨ji11, hji11⟩ : ∃ j_ : Int, (wrap64 (x6_2 + 1)) = j_ := ⟨_, rfl⟩
        replace H : (if 0 ≤ (ji11) then (if (ji11) ≤ (a0.size : Int) then ((utf8_FullRuneInString.f (a0.extract 0 ((ji11) : Int).toNat)).bind fun t127 => (if t127 = true then (some (0, x6_2, 4)) else (utf_First.l0 k2 a0 ji11))) else (none)) else (none)) = some (r1, r2, r3) := by first | (rw [hji11] at H; exact H) | (simp only [hji11] at H ⊢; exact H)
        have hji11w : (IntKind.i64.wrap (x6_2 + 1)) = ji11 := (i64_w _).trans hji11
        by_cases c12 : 0 ≤ (ji11)
        ·rw [if_pos c12] at H
         have c12b0 := eq_true c12
         have c12b1 : decide (0 ≤ (ji11)) = true := decide_eq_true c12
         clear c12
         by_cases c13 : (ji11) ≤ (a0.size : Int)
         ·rw [if_pos c13] at H
          have c13b0 := eq_true c13
          have c13b1 : decide ((ji11) ≤ (a0.size : Int)) = true := decide_eq_true c13
          clear c13
          replace H := Option.bind_eq_some_iff.mp H
          obtain ⟨t127, A140, H⟩ := H
          replace H : (if t127 = true then (some (0, x6_2, 4)) else (utf_First.l0 k2 a0 ji11)) = some (r1, r2, r3) := H
          have A14 := Aside0.mk A140
          clear A140
          by_cases c15 : t127 = true
          ·subst c15
           have H1 : (some (0, x6_2, 4)) = some (r1, r2, r3) := by rw [if_pos rfl] at H; exact H
           clear H
           have H := H1
           clear H1
           simp only [Option.some.injEq, Prod.mk.injEq] at H
           obtain ⟨rfl, rfl, rfl⟩ := H
           go_wp2_with (first | (go_at_call 102; (with_reducible refine (utf8_FullRuneInString.calls (a0.extract 0 ((ji11) : Int).toNat) true _ A14.out).mono ?_); rintro e w16 ⟨rfl, hb⟩; replace HB := (zs HB hb); (try clear hb)))
           go_ret3
           exact ⟨by first | rfl | (simp [errW_none, errW_some] <;> rfl) | (simp only [← hji11]; first | rfl | (simp [errW_none, errW_some] <;> rfl)) | (simp [*, errW_none, errW_some] <;> rfl), zb⟩
          ·replace c15 := Bool.eq_false_iff.mpr c15
           subst c15
           have H1 : (utf_First.l0 k2 a0 ji11) = some (r1, r2, r3) := by rw [if_neg (show ¬ (false = true) by decide)] at H; exact H
           clear H
           have H := H1
           clear H1
           have H' := Aside0.mk H
           clear H
           go_wp2_with (first | (go_at_call 102; (with_reducible refine (utf8_FullRuneInString.calls (a0.extract 0 ((ji11) : Int).toNat) false _ A14.out).mono ?_); rintro e w17 ⟨rfl, hb⟩; replace HB := (zs HB hb); (try clear hb)))
           go_roundg k2
           case measure => have := HJ4.out; have := HK2.out; omega
           case rel => exact ⟨(ji11), (by first | rfl | (simp; done) | (simp only [← hji11] <;> (first | rfl | (simp; done))) | (simp [*]; done) | (simp; simp only [decide_eq_true_eq, eq_iff_iff, iff_true] at *; omega)), H', ⟨by have := HJ4.out; have := HK2.out; omega⟩, ⟨zb⟩⟩
         ·rw [if_neg c13] at H
          exact absurd H (by simp)
        ·rw [if_neg c12] at H
         exact absurd H (by simp)
       ·rw [if_neg c10] at H
        have c10b0 : decide (x6_2 < (a0.size : Int)) = false := decide_eq_false c10
        clear c10
        simp only [Option.some.injEq, Prod.mk.injEq] at H
        obtain ⟨rfl, rfl, rfl⟩ := H
        go_wp2
        go_ret3
        exact ⟨ze, zb⟩
 ·replace c3 := Bool.eq_false_iff.mpr c3
  subst c3
  have H1 : (some (0, 0, 2)) = some (r1, r2, r3) := by rw [if_neg (show ¬ (false = true) by decide)] at H; exact H
  clear H
  have H := H1
  clear H1
  simp only [Option.some.injEq, Prod.mk.injEq] at H
  obtain ⟨rfl, rfl, rfl⟩ := H
  go_enter Tryd.func85, Tryd.ntmps85
  go_wp2_with (first | ((with_reducible refine gate_callee (f := 102) rfl ?_); refine goesL_ (some 8) rfl rfl Tryd.func102 (by kernel_rfl) rfl #[.string a0] rfl zl ?_; (with_reducible refine (utf8_FullRuneInString.calls a0 false _ A2.out).mono ?_); rintro e w18 ⟨rfl, hb⟩; refine ⟨_, rfl, ?_⟩; replace HB := (zs HB hb); (try clear hb)))
  go_ret3
  exact ⟨ze, zb⟩
end Go.Proofs.YtckkdaehmccjlaaDoor.P
namespace Go.Proofs.YtckkdaehmccjlaaDoor.P
open Go.RowKit Go.Proofs.YtckkdaehmccjlaaDoorW.PrintWords Go.Proofs.YtckkdaehmccjlaaDoorW.PrintLast Go.Proofs.YtckkdaehmccjlaaDoorW.PrintMore
set_option linter.unusedVariables false
set_option linter.unusedSimpArgs false
def inAny (r : Int) (xs : List (Int × Int)) : Bool := xs.any fun p => decide (p.1 ≤ r) && decide (r ≤ p.2)
def SpanPost (r : Int) (xs : List (Int × Int)) (w : World) (e : Ending) (w' : World) : Prop :=
  ∃ v : Int, e = .returned (.int .i64 v) ∧ decide (0 ≤ v) = inAny r xs ∧ Below w.heap.size w w'
set_option maxHeartbeats 1000000 in
theorem within_clos (p1 p2 r : Int) (B : Nat) (w : World) (hB : w.cell? ⟨B, 0, none⟩ = some (.int .i32 r)) :
    Calls Tryd.prog 115 #[.agg #[.int .i32 p1, .int .i32 p2], .pointer (some ⟨B, 0, none⟩)] w fun e w' => e = .returned (.bool (decide (p1 ≤ r) && decide (r ≤ p2))) ∧ Below w.heap.size w w' := by
  have hB1 : (w.alloc (.cells #[.int .i32 p1, .int .i32 p2] 151)).cell? ⟨B, 0, none⟩ = some (.int .i32 r) := Lib.cell?_alloc_some _ hB
  by_cases h1 : p1 ≤ r
  · by_cases h2 : r ≤ p2
    · go_enter Tryd.func115, Tryd.ntmps115
      go_wp2
      go_ret
      exact ⟨by simp [h1, h2], (Below.refl _ _).alloc (Nat.le_refl _) _⟩
    · go_enter Tryd.func115, Tryd.ntmps115
      go_wp2
      go_ret
      exact ⟨by simp [h1, h2], (Below.refl _ _).alloc (Nat.le_refl _) _⟩
  · go_enter Tryd.func115, Tryd.ntmps115
    go_wp2
    go_ret
    exact ⟨by rw [decide_eq_false (by omega)]; rfl, (Below.refl _ _).alloc (Nat.le_refl _) _⟩
set_option maxHeartbeats 2000000 in
theorem span_index (r : Int) (B g c : Nat) (xs : List (Int × Int)) (w : World) (hm : xs.length ≤ 1000) (hB : w.cell? ⟨B, 0, none⟩ = some (.int .i32 r))
    (hc : ∀ j, j < xs.length → w.cell? ⟨g, j * 2, none⟩ = some (.int .i32 (xs.getD j (0, 0)).1) ∧ w.cell? ⟨g, j * 2 + 1, none⟩ = some (.int .i32 (xs.getD j (0, 0)).2)) :
    Calls Tryd.prog 120 #[.slice (some ⟨g, 0, none⟩) xs.length c, .func (.func 115) #[] #[.pointer (some ⟨B, 0, none⟩)]] w (SpanPost r xs w) := by
  go_enter Tryd.func120, Tryd.ntmps120
  go_wp2
  go_loopw [5, 8, 9, 10, 11, 12, 13, 14, 15, 16, 18] (fun _ i _ _ _ _ _ _ _ _ _ wr => ∃ k : Nat, k ≤ xs.length ∧ i = .int .i64 k ∧ Aside0 (inAny r (xs.take k) = false) ∧ Aside0 (Below w.heap.size w wr)) (fun _ i _ _ _ _ _ _ _ _ _ _ => xs.length - (intOf i).toNat)
  case atStart => exact ⟨0, Nat.zero_le _, rfl, ⟨rfl⟩, ⟨Below.refl _ _⟩⟩
  case round =>
    obtain ⟨k, hk, rfl, HA, HB⟩ := hrel
    by_cases hlt : k < xs.length
    · have hcell := hc k hlt
      obtain ⟨hc1, hc2⟩ := hcell
      have hw1 := pw_cell_below HB.out hc1
      have hw2 := pw_cell_below HB.out hc2
      have hwB := pw_cell_below HB.out hB
      clear hc hc1 hc2 hB
      have HS : Aside0 (inAny r (xs.take (k + 1)) = (decide ((xs.getD k (0, 0)).1 ≤ r) && decide (r ≤ (xs.getD k (0, 0)).2))) := ⟨by
        have h0 := HA.out
        unfold inAny at h0 ⊢
        rw [List.take_succ_eq_append_getElem hlt, List.any_append, h0]
        simp [List.getD_eq_getElem?_getD, hlt]⟩
      have HT : Aside0 (inAny r (xs.take (k + 1)) = true → inAny r xs = true) := ⟨fun h => by
        unfold inAny at h ⊢
        rw [← List.take_append_drop (k + 1) xs, List.any_append, h]; rfl⟩
      generalize (xs.getD k (0, 0)).1 = p1 at *
      generalize (xs.getD k (0, 0)).2 = p2 at *
      go_wp2_with (go_at_call 115; refine (within_clos p1 p2 r B _ hwB).mono ?_; rintro e w' ⟨rfl, hb⟩)
      · have hy : p1 ≤ r ∧ r ≤ p2 := by assumption
        go_ret
        exact ⟨k, rfl, by rw [HT.out (by rw [HS.out, decide_eq_true hy.1, decide_eq_true hy.2]; rfl)]; exact decide_eq_true (by omega), below_step HB.out hb⟩
      · have hy : r < p1 ∨ p2 < r := by assumption
        go_roundw
        case rel => exact ⟨k + 1, by omega, by go_num, ⟨by rw [HS.out]; rcases hy with hy | hy <;> simp <;> omega⟩, ⟨below_step HB.out hb⟩⟩
        case measure => simp [intOf]; omega
    · go_wp2
      go_ret
      obtain rfl : k = xs.length := by omega
      exact ⟨-1, rfl, by have h0 := HA.out; rw [List.take_length] at h0; rw [h0]; rfl, HB.out⟩
set_option maxHeartbeats 1000000 in
theorem span_contains (r : Int) (B g c : Nat) (xs : List (Int × Int)) (w : World) (hm : xs.length ≤ 1000) (hB : w.cell? ⟨B, 0, none⟩ = some (.int .i32 r))
    (hc : ∀ j, j < xs.length → w.cell? ⟨g, j * 2, none⟩ = some (.int .i32 (xs.getD j (0, 0)).1) ∧ w.cell? ⟨g, j * 2 + 1, none⟩ = some (.int .i32 (xs.getD j (0, 0)).2)) :
    Calls Tryd.prog 114 #[.slice (some ⟨g, 0, none⟩) xs.length c, .func (.func 115) #[] #[.pointer (some ⟨B, 0, none⟩)]] w fun e w' => e = .returned (.bool (inAny r xs)) ∧ Below w.heap.size w w' := by
  have cI := span_index r B g c xs w hm hB hc
  clear hc
  go_enter Tryd.func114, Tryd.ntmps114
  go_wp2_with (go_at_call 120; refine cI.mono ?_; rintro e w' ⟨v, rfl, hv, hb⟩; have HV := Aside0.mk hv; clear hv)
  go_ret
  exact ⟨by rw [← HV.out]; rfl, hb⟩
set_option maxHeartbeats 1000000 in
theorem span_within (r : Int) (g c : Nat) (xs : List (Int × Int)) (w : World) (hm : xs.length ≤ 1000)
    (hc : ∀ j, j < xs.length → w.cell? ⟨g, j * 2, none⟩ = some (.int .i32 (xs.getD j (0, 0)).1) ∧ w.cell? ⟨g, j * 2 + 1, none⟩ = some (.int .i32 (xs.getD j (0, 0)).2)) :
    Calls Tryd.prog 105 #[.slice (some ⟨g, 0, none⟩) xs.length c, .int .i32 r] w fun e w' => e = .returned (.bool (inAny r xs)) ∧ Below w.heap.size w w' := by
  have cI := span_contains r w.heap.size g c xs (w.alloc (.cells #[.int .i32 r] 21)) hm (by rw [World.cell?_alloc_new]; rfl) (fun j hj => ⟨Lib.cell?_alloc_some _ (hc j hj).1, Lib.cell?_alloc_some _ (hc j hj).2⟩)
  clear hc
  go_enter Tryd.func105, Tryd.ntmps105
  go_wp2_with (go_at_call 114; refine cI.mono ?_; rintro e w' ⟨rfl, hb⟩)
  go_ret
  exact ⟨rfl, ((Below.refl _ _).alloc (Nat.le_refl _) _).trans (hb.mono (by simp))⟩
def zeroSpans : List (Int × Int) := [(768, 879), (8203, 8205), (65024, 65039)]
def wideSpans : List (Int × Int) := [(4352, 4447), (12353, 19903), (19968, 40959), (44032, 55203), (63744, 64255), (65281, 65376), (127744, 129791), (131072, 262141)]
theorem zero_calls (w : World) : Calls Tryd.prog 106 #[] w fun e w' => e = .returned (.slice (some ⟨w.heap.size, 0, none⟩) 3 3) ∧
    (∀ j, j < zeroSpans.length → w'.cell? ⟨w.heap.size, j * 2, none⟩ = some (.int .i32 (zeroSpans.getD j (0, 0)).1) ∧ w'.cell? ⟨w.heap.size, j * 2 + 1, none⟩ = some (.int .i32 (zeroSpans.getD j (0, 0)).2)) ∧ Below w.heap.size w w' := by
  go_enter Tryd.func106, Tryd.ntmps106
  go_wp2
  go_ret
  refine ⟨rfl, fun j hj => ?_, (Below.refl _ _).alloc (Nat.le_refl _) _⟩
  have hj' : j = 0 ∨ j = 1 ∨ j = 2 := by have : zeroSpans.length = 3 := rfl; omega
  rcases hj' with rfl | rfl | rfl <;> exact ⟨by rw [World.cell?_alloc_new]; rfl, by rw [World.cell?_alloc_new]; rfl⟩
theorem wide_calls (w : World) : Calls Tryd.prog 107 #[] w fun e w' => e = .returned (.slice (some ⟨w.heap.size, 0, none⟩) 8 8) ∧
    (∀ j, j < wideSpans.length → w'.cell? ⟨w.heap.size, j * 2, none⟩ = some (.int .i32 (wideSpans.getD j (0, 0)).1) ∧ w'.cell? ⟨w.heap.size, j * 2 + 1, none⟩ = some (.int .i32 (wideSpans.getD j (0, 0)).2)) ∧ Below w.heap.size w w' := by
  go_enter Tryd.func107, Tryd.ntmps107
  go_wp2
  go_ret
  refine ⟨rfl, fun j hj => ?_, (Below.refl _ _).alloc (Nat.le_refl _) _⟩
  have hj' : j = 0 ∨ j = 1 ∨ j = 2 ∨ j = 3 ∨ j = 4 ∨ j = 5 ∨ j = 6 ∨ j = 7 := by have : wideSpans.length = 8 := rfl; omega
  rcases hj' with rfl | rfl | rfl | rfl | rfl | rfl | rfl | rfl <;> exact ⟨by rw [World.cell?_alloc_new]; rfl, by rw [World.cell?_alloc_new]; rfl⟩
def noLetter (r : Int) : Bool := !Lib.validRune r || decide (r < 32) || (decide (127 ≤ r) && decide (r < 160))
def utf_Width.f (a0 : Int) : Option Int := some (if noLetter a0 = true then -1 else if inAny a0 zeroSpans = true then 0 else if inAny a0 wideSpans = true then 2 else 1)
set_option maxHeartbeats 4000000 in
theorem width_no (r : Int) (w : World) (h : noLetter r = true) :
    Calls Tryd.prog 86 #[.int .i32 r] w fun e w' => e = .returned (.int .i64 (-1)) ∧ Below w.heap.size w w' := by
  unfold noLetter at h
  by_cases hv : Lib.validRune r = true
  · by_cases h1 : r < 32
    · clear h
      go_enter Tryd.func86, Tryd.ntmps86
      go_wp2_with (go_at_call 104; refine (Tryd.utf8_ValidRune r _).mono ?_; rintro e w' ⟨rfl, rfl⟩; rw [hv])
      go_ret
      exact ⟨rfl, Below.refl _ _⟩
    · have h2 : r ≥ 127 := by simp [hv, h1] at h; omega
      have h3 : r < 160 := by simp [hv, h1] at h; omega
      clear h
      go_enter Tryd.func86, Tryd.ntmps86
      go_wp2_with (go_at_call 104; refine (Tryd.utf8_ValidRune r _).mono ?_; rintro e w' ⟨rfl, rfl⟩; rw [hv])
      go_ret
      exact ⟨rfl, Below.refl _ _⟩
  · have hv' : Lib.validRune r = false := by simpa using hv
    clear h hv
    go_enter Tryd.func86, Tryd.ntmps86
    go_wp2_with (go_at_call 104; refine (Tryd.utf8_ValidRune r _).mono ?_; rintro e w' ⟨rfl, rfl⟩; rw [hv'])
    go_ret
    exact ⟨rfl, Below.refl _ _⟩
theorem within_zero (r : Int) (g : Nat) (w : World) (hc : ∀ j, j < zeroSpans.length → w.cell? ⟨g, j * 2, none⟩ = some (.int .i32 (zeroSpans.getD j (0, 0)).1) ∧ w.cell? ⟨g, j * 2 + 1, none⟩ = some (.int .i32 (zeroSpans.getD j (0, 0)).2)) :
    Calls Tryd.prog 105 #[.slice (some ⟨g, 0, none⟩) 3 3, .int .i32 r] w fun e w' => e = .returned (.bool (inAny r zeroSpans)) ∧ Below w.heap.size w w' := span_within r g 3 zeroSpans w (by decide) hc
theorem within_wide (r : Int) (g : Nat) (w : World) (hc : ∀ j, j < wideSpans.length → w.cell? ⟨g, j * 2, none⟩ = some (.int .i32 (wideSpans.getD j (0, 0)).1) ∧ w.cell? ⟨g, j * 2 + 1, none⟩ = some (.int .i32 (wideSpans.getD j (0, 0)).2)) :
    Calls Tryd.prog 105 #[.slice (some ⟨g, 0, none⟩) 8 8, .int .i32 r] w fun e w' => e = .returned (.bool (inAny r wideSpans)) ∧ Below w.heap.size w w' := span_within r g 8 wideSpans w (by decide) hc
set_option maxHeartbeats 4000000 in
theorem width_yes (r : Int) (w : World) (h : noLetter r = false) :
    Calls Tryd.prog 86 #[.int .i32 r] w fun e w' => e = .returned (.int .i64 (if inAny r zeroSpans = true then 0 else if inAny r wideSpans = true then 2 else 1)) ∧ Below w.heap.size w w' := by
  unfold noLetter at h
  have hv : Lib.validRune r = true := by cases h' : Lib.validRune r <;> simp [h'] at h ⊢
  have h1 : ¬ r < 32 := fun h' => by simp [h'] at h
  have h2 : r < 127 ∨ 160 ≤ r := by simp [hv] at h; omega
  clear h
  have h32 : decide (r < 32) = false := decide_eq_false h1
  clear h1
  rcases h2 with h2 | h2
  all_goals
    first
    | (have h127 : decide (r ≥ 127) = false := decide_eq_false (by omega))
    | (have h127 : decide (r ≥ 127) = true := decide_eq_true (by omega)
       have h160 : decide (r < 160) = false := decide_eq_false (by omega))
    clear h2
    cases hz : inAny r zeroSpans with
    | true =>
      rw [if_pos rfl]
      go_enter Tryd.func86, Tryd.ntmps86
      go_wp2_with (first | (go_at_call 104; refine (Tryd.utf8_ValidRune r _).mono ?_; rintro e w' ⟨rfl, rfl⟩; rw [hv]) | (go_at_call 106; refine (zero_calls _).mono ?_; rintro e w1 ⟨rfl, hc1, hb1⟩; have HC1 := Aside0.mk hc1; have HB1 := Aside0.mk hb1; clear hc1 hb1) | (go_at_call 105; refine (within_zero r _ _ HC1.out).mono ?_; rintro e w2 ⟨rfl, hb2⟩; have HB2 := Aside0.mk hb2; clear hb2; rw [hz]))
      go_ret
      exact ⟨rfl, below_step HB1.out HB2.out⟩
    | false =>
      rw [if_neg (by simp)]
      cases hw : inAny r wideSpans with
      | true =>
        go_enter Tryd.func86, Tryd.ntmps86
        go_wp2_with (first | (go_at_call 104; refine (Tryd.utf8_ValidRune r _).mono ?_; rintro e w' ⟨rfl, rfl⟩; rw [hv]) | (go_at_call 106; refine (zero_calls _).mono ?_; rintro e w1 ⟨rfl, hc1, hb1⟩; have HC1 := Aside0.mk hc1; have HB1 := Aside0.mk hb1; clear hc1 hb1) | (go_at_call 107; refine (wide_calls _).mono ?_; rintro e w3 ⟨rfl, hc3, hb3⟩; have HC3 := Aside0.mk hc3; have HB3 := Aside0.mk hb3; clear hc3 hb3) | (go_at_call 105; ((with_reducible refine (within_wide r _ _ HC3.out).mono ?_); rintro e w4 ⟨rfl, hb4⟩; have HB4 := Aside0.mk hb4; clear hb4; rw [hw])) | (go_at_call 105; ((with_reducible refine (within_zero r _ _ HC1.out).mono ?_); rintro e w2 ⟨rfl, hb2⟩; have HB2 := Aside0.mk hb2; clear hb2; rw [hz])))
        go_ret
        exact ⟨rfl, below_step (below_step (below_step HB1.out HB2.out) HB3.out) HB4.out⟩
      | false =>
        go_enter Tryd.func86, Tryd.ntmps86
        go_wp2_with (first | (go_at_call 104; refine (Tryd.utf8_ValidRune r _).mono ?_; rintro e w' ⟨rfl, rfl⟩; rw [hv]) | (go_at_call 106; refine (zero_calls _).mono ?_; rintro e w1 ⟨rfl, hc1, hb1⟩; have HC1 := Aside0.mk hc1; have HB1 := Aside0.mk hb1; clear hc1 hb1) | (go_at_call 107; refine (wide_calls _).mono ?_; rintro e w3 ⟨rfl, hc3, hb3⟩; have HC3 := Aside0.mk hc3; have HB3 := Aside0.mk hb3; clear hc3 hb3) | (go_at_call 105; ((with_reducible refine (within_wide r _ _ HC3.out).mono ?_); rintro e w4 ⟨rfl, hb4⟩; have HB4 := Aside0.mk hb4; clear hb4; rw [hw])) | (go_at_call 105; ((with_reducible refine (within_zero r _ _ HC1.out).mono ?_); rintro e w2 ⟨rfl, hb2⟩; have HB2 := Aside0.mk hb2; clear hb2; rw [hz])))
        go_ret
        exact ⟨rfl, below_step (below_step (below_step HB1.out HB2.out) HB3.out) HB4.out⟩
theorem utf_Width.calls (a0 : Int) (r : Int) (w : World) (h : utf_Width.f a0 = some r) :
    Calls Tryd.prog 86 #[.int .i32 a0] w fun e w' => e = .returned (.int .i64 r) ∧ Below w.heap.size w w' := by
  have e := Option.some.inj h
  subst e
  cases hn : noLetter a0 with
  | true => rw [if_pos rfl]; exact width_no a0 w hn
  | false => rw [if_neg (by simp)]; exact width_yes a0 w hn
end Go.Proofs.YtckkdaehmccjlaaDoor.P
namespace Go.Proofs.YtckkdaehmccjlaaDoor.P
open Go.RowKit Go.Proofs.YtckkdaehmccjlaaDoorW.PrintWords Go.Proofs.YtckkdaehmccjlaaDoorW.PrintLast Go.Proofs.YtckkdaehmccjlaaDoorW.PrintMore
attribute [local go_sem] max2_int min2_int max_two min_two max_three min_three max_four min_four   -- for this text's walks alone
set_option linter.unusedVariables false
set_option linter.unusedSimpArgs false
def cell_marks.l0 : Nat → ByteArray → Int → Option (Int)
 | 0, _, _ => none
 | k + 1, x0, x3 => if x0.toList = ([] : List UInt8) then (some x3) else ((utf_First.f k x0).bind fun bt128 => (if bt128.2.2 = 0 then ((utf_Width.f bt128.1).bind fun t131 => (if t131 = 0 then (if 0 ≤ bt128.2.1 then (if bt128.2.1 ≤ (x0.size : Int) then (cell_marks.l0 k (x0.extract (bt128.2.1 : Int).toNat x0.size) (wrap64 (x3 + 1))) else (none)) else (none)) else (some (-1)))) else (some (-1))))
def cell_marks.f (k : Nat) (a0 : ByteArray) : Option (Int) := cell_marks.l0 k a0 0
set_option maxHeartbeats 8000000 in
set_option maxRecDepth 100000 in
theorem cell_marks.calls (k : Nat) (a0 : ByteArray) (r : Int) (w : World) (h : cell_marks.f k a0 = some r) (hT : Tabs w := by first | exact Aside0.out (by with_reducible assumption) | exact Tabs.keepA (by with_reducible assumption) (by repeat (first | (with_reducible exact Aside0.out (by with_reducible assumption)) | (with_reducible apply below_alloc) | (with_reducible apply pw_below_drewN) | (with_reducible apply below_drew1) | (with_reducible refine below_set ?_ (Aside0.out (by with_reducible assumption)))))) :
  Calls Tryd.prog 87 #[.string a0] w fun e w' => e = .returned (.int .i64 r) ∧ Below w.heap.size w w' := by
 have HT := Aside0.mk (show Tabs w from hT)
 clear hT
 have HB := Aside0.mk (Below.refl w.heap.size w)
 have H : (cell_marks.l0 k a0 0) = some r := h
 clear h
 have H' := Aside0.mk H
 clear H
 go_enter Tryd.func87, Tryd.ntmps87
 go_wp2
 go_loopg [0, 3] k (fun kq v0 v3 w' => ∃ (x0_1 : ByteArray) (x3_1 : Int), v0 = .string x0_1 ∧ v3 = .int .i64 x3_1 ∧ Aside0 (cell_marks.l0 kq x0_1 x3_1 = some r) ∧ Aside0 (kq ≤ k) ∧ Aside0 (Below w.heap.size w w'))
 case atStart => exact ⟨(a0), (0), zf, zf, H', ⟨Nat.le_refl _⟩, ⟨zb⟩⟩
 case round =>
  clear H'
  obtain ⟨x0_1, x3_1, rfl, rfl, HA, HK1, HB⟩ := hrel
  cases gk with
  | zero => exact absurd HA.out (by simp [cell_marks.l0])
  | succ k1 =>
   have H := HA.out
   clear HA
   simp only [cell_marks.l0] at H
   by_cases c2 : x0_1.toList = ([] : List UInt8)
   ·rw [if_pos c2] at H
    have c2b0 : (x0_1.toList == ([] : List UInt8)) = true := beq_iff_eq.mpr c2
    have c2b1 : (x0_1.toList != ([] : List UInt8)) = false := bne_eq_false_iff_eq.mpr c2
    clear c2
    obtain rfl := Option.some.inj H
    go_wp2
    go_ret
    exact ⟨ze, zb⟩
   ·rw [if_neg c2] at H
    have c2b0 : (x0_1.toList == ([] : List UInt8)) = false := beq_eq_false_iff_ne.mpr c2
    have c2b1 : (x0_1.toList != ([] : List UInt8)) = true := bne_iff_ne.mpr c2
    replace H := Option.bind_eq_some_iff.mp H
    obtain ⟨⟨t128, t129, t130⟩, A30, H⟩ := H
    replace H : (if t130 = 0 then ((utf_Width.f t128).bind fun t131 => (if t131 = 0 then (if 0 ≤ t129 then (if t129 ≤ (x0_1.size : Int) then (cell_marks.l0 k1 (x0_1.extract (t129 : Int).toNat x0_1.size) (wrap64 (x3_1 + 1))) else (none)) else (none)) else (some (-1)))) else (some (-1))) = some r := H
    have A3 := Aside0.mk A30
    clear A30
    by_cases c4 : t130 = 0
    ·rw [if_pos c4] at H
     have c4b0 : (t130 == 0) = true := beq_iff_eq.mpr c4
     have c4b1 : (t130 != 0) = false := bne_eq_false_iff_eq.mpr c4
     clear c4
     replace H := Option.bind_eq_some_iff.mp H
     obtain ⟨t131, A50, H⟩ := H
     replace H : (if t131 = 0 then (if 0 ≤ t129 then (if t129 ≤ (x0_1.size : Int) then (cell_marks.l0 k1 (x0_1.extract (t129 : Int).toNat x0_1.size) (wrap64 (x3_1 + 1))) else (none)) else (none)) else (some (-1))) = some r := H
     have A5 := Aside0.mk A50
     clear A50
     by_cases c6 : t131 = 0
     ·rw [if_pos c6] at H
      have c6b0 : (t131 == 0) = true := beq_iff_eq.mpr c6
      have c6b1 : (t131 != 0) = false := bne_eq_false_iff_eq.mpr c6
      clear c6
      by_cases c7 : 0 ≤ t129
      ·rw [if_pos c7] at H
       have c7b0 := eq_true c7
       have c7b1 : decide (0 ≤ t129) = true := decide_eq_true c7
       clear c7
       by_cases c8 : t129 ≤ (x0_1.size : Int)
       ·rw [if_pos c8] at H
        have c8b0 := eq_true c8
        have c8b1 : decide (t129 ≤ (x0_1.size : Int)) = true := decide_eq_true c8
        clear c8
        have H' := Aside0.mk H
        clear H
        go_wp2_with (first | ((with_reducible refine gate_callee (f := 85) rfl ?_); refine goesL_ (some 11) rfl rfl Tryd.func85 (by kernel_rfl) rfl #[.string x0_1] rfl zl ?_; (with_reducible refine (utf_First.calls k1 x0_1 t128 t129 t130 _ A3.out).mono ?_); rintro e w9 ⟨rfl, hb⟩; refine ⟨_, rfl, ?_⟩; replace HB := (zs HB hb); (try clear hb)) | (go_at_call 86; (with_reducible refine (utf_Width.calls t128 t131 _ A5.out).mono ?_); rintro e w10 ⟨rfl, hb⟩; replace HB := (zs HB hb); (try clear hb)))
        go_roundg k1
        case measure => have := HK1.out; omega
        case rel => exact ⟨(x0_1.extract (t129 : Int).toNat x0_1.size), (wrap64 (x3_1 + 1)), zf, zf, H', ⟨by have := HK1.out; omega⟩, ⟨zb⟩⟩
       ·rw [if_neg c8] at H
        exact absurd H (by simp)
      ·rw [if_neg c7] at H
       exact absurd H (by simp)
     ·rw [if_neg c6] at H
      have c6b0 : (t131 == 0) = false := beq_eq_false_iff_ne.mpr c6
      have c6b1 : (t131 != 0) = true := bne_iff_ne.mpr c6
      obtain rfl := Option.some.inj H
      go_wp2_with (first | ((with_reducible refine gate_callee (f := 85) rfl ?_); refine goesL_ (some 11) rfl rfl Tryd.func85 (by kernel_rfl) rfl #[.string x0_1] rfl zl ?_; (with_reducible refine (utf_First.calls k1 x0_1 t128 t129 t130 _ A3.out).mono ?_); rintro e w11 ⟨rfl, hb⟩; refine ⟨_, rfl, ?_⟩; replace HB := (zs HB hb); (try clear hb)) | (go_at_call 86; (with_reducible refine (utf_Width.calls t128 t131 _ A5.out).mono ?_); rintro e w12 ⟨rfl, hb⟩; replace HB := (zs HB hb); (try clear hb)))
      go_ret
      exact ⟨ze, zb⟩
    ·rw [if_neg c4] at H
     have c4b0 : (t130 == 0) = false := beq_eq_false_iff_ne.mpr c4
     have c4b1 : (t130 != 0) = true := bne_iff_ne.mpr c4
     obtain rfl := Option.some.inj H
     go_wp2_with (first | ((with_reducible refine gate_callee (f := 85) rfl ?_); refine goesL_ (some 11) rfl rfl Tryd.func85 (by kernel_rfl) rfl #[.string x0_1] rfl zl ?_; (with_reducible refine (utf_First.calls k1 x0_1 t128 t129 t130 _ A3.out).mono ?_); rintro e w13 ⟨rfl, hb⟩; refine ⟨_, rfl, ?_⟩; replace HB := (zs HB hb); (try clear hb)))
     go_ret
     exact ⟨ze, zb⟩
def cell_Right.j0 : Nat → Int → Bool → ByteArray → Int → Int → Int → Int → Option (Bool)
 | 0, _, _, _, _, _, _, _ => none
 | k + 1, x4, x38, x133000, x133001, x133002, x133003, x133004 => if x38 = true then (some false) else ((cell_Look.f x133002 x133003 x133004).bind fun t140 => (if t140 = true then (if 0 ≤ x4 then (if x4 ≤ (x133000.size : Int) then ((cell_marks.f k (x133000.extract (x4 : Int).toNat x133000.size)).bind fun t141 => ((cell_in.f t141 0 2).bind fun t142 => (some t142))) else (none)) else (none)) else (some false)))
def cell_Right.f (k : Nat) (a0_0 : ByteArray) (a0_1 : Int) (a0_2 : Int) (a0_3 : Int) (a0_4 : Int) : Option (Bool) := if a0_0.toList = ([] : List UInt8) then ((cell_Look.f a0_2 a0_3 a0_4).bind fun t133 => (if t133 = true then ((cell_in.f a0_1 0 1).bind fun t134 => (some t134)) else (some false))) else ((utf_First.f k a0_0).bind fun bt135 => (if bt135.2.2 = 0 then ((cell_in.f a0_1 1 2).bind fun t138 => (if t138 = true then ((utf_Width.f bt135.1).bind fun t139 => (cell_Right.j0 k bt135.2.1 (t139 != a0_1) a0_0 a0_1 a0_2 a0_3 a0_4)) else (cell_Right.j0 k bt135.2.1 true a0_0 a0_1 a0_2 a0_3 a0_4))) else (cell_Right.j0 k bt135.2.1 true a0_0 a0_1 a0_2 a0_3 a0_4)))
def cell_Right.T4 : Bool × List (List Nat × List Nat) := (true, [([], []), ([0], [0]), ([1], [1]), ([2], [2]), ([3, 2], [2, 3]), ([4, 2, 2], [2, 4]), ([5, 2], [2, 5]), ([2, 6], [2, 6]), ([7, 5], [7]), ([8], [8]), ([9, 8, 8], [8, 9]), ([8], [8]), ([11, 8], [8, 11]), ([10, 12, 8], [8, 10, 12]), ([8, 13], [8, 13])])
def cell_Right.B4 : List Nat := [0, 1, 3, 7, 15, 31, 63, 127, 255, 511, 1023, 511, 2559, 8191, 16383]
theorem cell_Right.tab4 : rtab .any (opsOf Tryd.f70 4) = cell_Right.T4 := by kernel_rfl
theorem cell_Right.bits4 : waitsOk cell_Right.T4.2 cell_Right.B4 = true := by kernel_rfl
set_option maxHeartbeats 8000000 in
set_option maxRecDepth 100000 in
theorem cell_Right.calls (k : Nat) (a0_0 : ByteArray) (a0_1 : Int) (a0_2 : Int) (a0_3 : Int) (a0_4 : Int) (r : Bool) (w : World) (h : cell_Right.f k a0_0 a0_1 a0_2 a0_3 a0_4 = some r) (hT : Tabs w := by first | exact Aside0.out (by with_reducible assumption) | exact Tabs.keepA (by with_reducible assumption) (by repeat (first | (with_reducible exact Aside0.out (by with_reducible assumption)) | (with_reducible apply below_alloc) | (with_reducible apply pw_below_drewN) | (with_reducible apply below_drew1) | (with_reducible refine below_set ?_ (Aside0.out (by with_reducible assumption)))))) :
  Calls Tryd.prog 70 #[.agg #[.string a0_0, .int .i64 a0_1, .int .i64 a0_2, .int .i64 a0_3, .int .i64 a0_4]] w fun e w' => e = .returned (.bool r) ∧ Below w.heap.size w w' := by
 have HT := Aside0.mk (show Tabs w from hT)
 clear hT
 have hu60 := Tryd.underlying60
 have hu58 := Tryd.underlying58
 have HB := Aside0.mk (Below.refl w.heap.size w)
 have H : (if a0_0.toList = ([] : List UInt8) then ((cell_Look.f a0_2 a0_3 a0_4).bind fun t133 => (if t133 = true then ((cell_in.f a0_1 0 1).bind fun t134 => (some t134)) else (some false))) else ((utf_First.f k a0_0).bind fun bt135 => (if bt135.2.2 = 0 then ((cell_in.f a0_1 1 2).bind fun t138 => (if t138 = true then ((utf_Width.f bt135.1).bind fun t139 => (cell_Right.j0 k bt135.2.1 (t139 != a0_1) a0_0 a0_1 a0_2 a0_3 a0_4)) else (cell_Right.j0 k bt135.2.1 true a0_0 a0_1 a0_2 a0_3 a0_4))) else (cell_Right.j0 k bt135.2.1 true a0_0 a0_1 a0_2 a0_3 a0_4)))) = some r := h
 clear h
 by_cases c2 : a0_0.toList = ([] : List UInt8)
 ·rw [if_pos c2] at H
  have c2b0 : (a0_0.toList == ([] : List UInt8)) = true := beq_iff_eq.mpr c2
  have c2b1 : (a0_0.toList != ([] : List UInt8)) = false := bne_eq_false_iff_eq.mpr c2
  clear c2
  replace H := Option.bind_eq_some_iff.mp H
  obtain ⟨t133, A30, H⟩ := H
  replace H : (if t133 = true then ((cell_in.f a0_1 0 1).bind fun t134 => (some t134)) else (some false)) = some r := H
  have A3 := Aside0.mk A30
  clear A30
  by_cases c4 : t133 = true
  ·subst c4
   have H1 : ((cell_in.f a0_1 0 1).bind fun t134 => (some t134)) = some r := by rw [if_pos rfl] at H; exact H
   clear H
   have H := H1
   clear H1
   replace H := Option.bind_eq_some_iff.mp H
   obtain ⟨t134, A50, H⟩ := H
   replace H : (some t134) = some r := H
   have A5 := Aside0.mk A50
   clear A50
   obtain rfl := Option.some.inj H
   go_enter Tryd.func70, Tryd.ntmps70
   go_wp2_with (first | ((with_reducible refine gate_dst (N := 1) rfl ?_); refine box_event ?hg (N := 1) ?hd (cs := #[.string a0_0, .int .i64 a0_1, .int .i64 a0_2, .int .i64 a0_3, .int .i64 a0_4]) (t := 60) ?hr ?_; (case hd => rfl); (case hg => rfl); (case hr => exact zo); intro gb132 hg w6 hbox hb; have BK132 := Aside0.mk (hbox); have GW132 := Aside0.mk ((zg hg : w.heap.size ≤ gb132)); have GE132 := Aside0.mk ((zg hg : w.heap.size ≤ gb132)); replace HB := (zs HB hb); clear hb hbox hg; obtain ⟨hcz7_0, hcz7_1, hcz7_2, hcz7_3, hcz7_4, hfz7_0, hfz7_1, hfz7_2, hfz7_3, hfz7_4⟩ := zq5 (w := w6) BK132) | ((with_reducible refine gate_callee (f := 83) rfl ?_); refine goesL_ (some 11) rfl rfl Tryd.func83 (by kernel_rfl) rfl #[.agg #[.int .i64 a0_2, .int .i64 a0_3, .int .i64 a0_4]] rfl zl ?_; (with_reducible refine (cell_Look.calls a0_2 a0_3 a0_4 true _ A3.out).mono ?_); rintro e w8 ⟨rfl, hb⟩; refine ⟨_, rfl, ?_⟩; replace BK132 := (zk BK132 hb); replace HB := (zs HB hb); (try clear hb); obtain ⟨hcz9_0, hcz9_1, hcz9_2, hcz9_3, hcz9_4, hfz9_0, hfz9_1, hfz9_2, hfz9_3, hfz9_4⟩ := zq5 (w := w8) BK132) | (go_at_call 84; (with_reducible refine (cell_in.calls a0_1 0 1 t134 _ A5.out).mono ?_); rintro e w' ⟨rfl, ⟨nd, rfl⟩⟩))
   go_ret
   exact ⟨ze, zb⟩
  ·replace c4 := Bool.eq_false_iff.mpr c4
   subst c4
   have H1 : (some false) = some r := by rw [if_neg (show ¬ (false = true) by decide)] at H; exact H
   clear H
   have H := H1
   clear H1
   obtain rfl := Option.some.inj H
   go_enter Tryd.func70, Tryd.ntmps70
   go_wp2_with (first | ((with_reducible refine gate_dst (N := 1) rfl ?_); refine box_event ?hg (N := 1) ?hd (cs := #[.string a0_0, .int .i64 a0_1, .int .i64 a0_2, .int .i64 a0_3, .int .i64 a0_4]) (t := 60) ?hr ?_; (case hd => rfl); (case hg => rfl); (case hr => exact zo); intro gb132 hg w10 hbox hb; have BK132 := Aside0.mk (hbox); have GW132 := Aside0.mk ((zg hg : w.heap.size ≤ gb132)); have GE132 := Aside0.mk ((zg hg : w.heap.size ≤ gb132)); replace HB := (zs HB hb); clear hb hbox hg; obtain ⟨hcz11_0, hcz11_1, hcz11_2, hcz11_3, hcz11_4, hfz11_0, hfz11_1, hfz11_2, hfz11_3, hfz11_4⟩ := zq5 (w := w10) BK132) | ((with_reducible refine gate_callee (f := 83) rfl ?_); refine goesL_ (some 11) rfl rfl Tryd.func83 (by kernel_rfl) rfl #[.agg #[.int .i64 a0_2, .int .i64 a0_3, .int .i64 a0_4]] rfl zl ?_; (with_reducible refine (cell_Look.calls a0_2 a0_3 a0_4 false _ A3.out).mono ?_); rintro e w12 ⟨rfl, hb⟩; refine ⟨_, rfl, ?_⟩; replace BK132 := (zk BK132 hb); replace HB := (zs HB hb); (try clear hb)))
   go_ret
   exact ⟨ze, zb⟩
 ·rw [if_neg c2] at H
  have c2b0 : (a0_0.toList == ([] : List UInt8)) = false := beq_eq_false_iff_ne.mpr c2
  have c2b1 : (a0_0.toList != ([] : List UInt8)) = true := bne_iff_ne.mpr c2
  replace H := Option.bind_eq_some_iff.mp H
  obtain ⟨⟨t135, t136, t137⟩, A130, H⟩ := H
  replace H : (if t137 = 0 then ((cell_in.f a0_1 1 2).bind fun t138 => (if t138 = true then ((utf_Width.f t135).bind fun t139 => (cell_Right.j0 k t136 (t139 != a0_1) a0_0 a0_1 a0_2 a0_3 a0_4)) else (cell_Right.j0 k t136 true a0_0 a0_1 a0_2 a0_3 a0_4))) else (cell_Right.j0 k t136 true a0_0 a0_1 a0_2 a0_3 a0_4)) = some r := H
  have A13 := Aside0.mk A130
  clear A130
  have HC14 := Aside0.mk H
  clear H
  go_enter Tryd.func70, Tryd.ntmps70
  go_upto_region 4 with (first | ((with_reducible refine gate_dst (N := 1) rfl ?_); refine box_event ?hg (N := 1) ?hd (cs := #[.string a0_0, .int .i64 a0_1, .int .i64 a0_2, .int .i64 a0_3, .int .i64 a0_4]) (t := 60) ?hr ?_; (case hd => rfl); (case hg => rfl); (case hr => exact zo); intro gb132 hg w15 hbox hb; have BK132 := Aside0.mk (hbox); have GW132 := Aside0.mk ((zg hg : w.heap.size ≤ gb132)); have GE132 := Aside0.mk ((zg hg : w.heap.size ≤ gb132)); replace HB := (zs HB hb); clear hb hbox hg; obtain ⟨hcz16_0, hcz16_1, hcz16_2, hcz16_3, hcz16_4, hfz16_0, hfz16_1, hfz16_2, hfz16_3, hfz16_4⟩ := zq5 (w := w15) BK132) | ((with_reducible refine gate_callee (f := 85) rfl ?_); refine goesL_ (some 20) rfl rfl Tryd.func85 (by kernel_rfl) rfl #[.string a0_0] rfl zl ?_; (with_reducible refine (utf_First.calls k a0_0 t135 t136 t137 _ A13.out).mono ?_); rintro e w17 ⟨rfl, hb⟩; refine ⟨_, rfl, ?_⟩; replace BK132 := (zk BK132 hb); replace HB := (zs HB hb); (try clear hb)))
  (try simp only [Act.put, List.setIfInBounds_toArray, List.set_cons_zero, List.set_cons_succ])
  go_cut [38] (fun v38 wc => ∃ (kq : Nat) (x38_13 : Bool), v38 = .bool x38_13 ∧ Aside0 (cell_Right.j0 kq t136 x38_13 a0_0 a0_1 a0_2 a0_3 a0_4 = some r) ∧ Aside0 (kq ≤ k) ∧ Aside0 (wc.heap[gb132]? = some (.cells #[.string a0_0, .int .i64 a0_1, .int .i64 a0_2, .int .i64 a0_3, .int .i64 a0_4] 60 (0, 0))) ∧ Aside0 (Below w.heap.size w wc))
  case first =>
   have H := HC14.out
   clear HC14
   by_cases c18 : t137 = 0
   ·rw [if_pos c18] at H
    have c18b0 : (t137 == 0) = true := beq_iff_eq.mpr c18
    have c18b1 : (t137 != 0) = false := bne_eq_false_iff_eq.mpr c18
    clear c18
    (first | rw [c18b0] | (simp only [i64_w, i32_w]; rw [c18b0]) | skip)
    replace H := Option.bind_eq_some_iff.mp H
    obtain ⟨t138, A190, H⟩ := H
    replace H : (if t138 = true then ((utf_Width.f t135).bind fun t139 => (cell_Right.j0 k t136 (t139 != a0_1) a0_0 a0_1 a0_2 a0_3 a0_4)) else (cell_Right.j0 k t136 true a0_0 a0_1 a0_2 a0_3 a0_4)) = some r := H
    have A19 := Aside0.mk A190
    clear A190
    by_cases c20 : t138 = true
    ·subst c20
     have H1 : ((utf_Width.f t135).bind fun t139 => (cell_Right.j0 k t136 (t139 != a0_1) a0_0 a0_1 a0_2 a0_3 a0_4)) = some r := by rw [if_pos rfl] at H; exact H
     clear H
     have H := H1
     clear H1
     replace H := Option.bind_eq_some_iff.mp H
     obtain ⟨t139, A210, H⟩ := H
     replace H : (cell_Right.j0 k t136 (t139 != a0_1) a0_0 a0_1 a0_2 a0_3 a0_4) = some r := H
     have A21 := Aside0.mk A210
     clear A210
     have H' := Aside0.mk H
     clear H
     try go_wp2
     have n0_ := Aside0.mk (blk_drew BK132.out)
     have n1_ := Aside0.mk (below_drew1 HB.out)
     clear BK132
     clear HB
     have BK132 := n0_
     have HB := n1_
     clear n0_ n1_
     refine start_ (n := 15) (S := fun w' => w'.cell? ⟨gb132, 0, none⟩ = some (.string a0_0) ∧ w'.cell? ⟨gb132, 1, none⟩ = some (.int .i64 a0_1) ∧ w'.cell? ⟨gb132, 2, none⟩ = some (.int .i64 a0_2) ∧ w'.cell? ⟨gb132, 3, none⟩ = some (.int .i64 a0_3) ∧ w'.cell? ⟨gb132, 4, none⟩ = some (.int .i64 a0_4)) (ds := []) #[false, false, false, false, false, false, false, false, false, false, false, false, false, false, false] (by kernel_rfl) rfl rfl ⟨(blk_cell BK132.out 0).trans rfl, (blk_cell BK132.out 1).trans rfl, (blk_cell BK132.out 2).trans rfl, (blk_cell BK132.out 3).trans rfl, (blk_cell BK132.out 4).trans rfl⟩ (fun hHeld => ?_); refine with_tabW cell_Right.tab4 cell_Right.bits4 (fun HT_ HW_ => ?_)
     generalize w17.drew = w22 at BK132 HB hHeld ⊢
     refine pure_ (i := 0) (N := some 24) (v := ?_) (a' := ?_) #[true, false, false, false, false, false, false, false, false, false, false, false, false, false, false] rfl rfl (any_of HT_.out (by kernel_rfl)) (fun _ _ _ h => h) (Or.inl ⟨by rfl, ?_⟩) ?_ ?_
     rotate_left
     ·intro w'
      go_simp
      with_reducible rfl
     rotate_left
     ·exact zr
     refine pure_ (i := 1) (N := some 25) (v := ?_) (a' := ?_) #[true, true, false, false, false, false, false, false, false, false, false, false, false, false, false] rfl rfl (any_of HT_.out (by kernel_rfl)) (fun _ _ _ h => h) (Or.inl ⟨by rfl, ?_⟩) ?_ ?_
     rotate_left
     ·intro w'
      go_simp
      with_reducible rfl
     rotate_left
     ·exact zr
     refine pure_ (i := 2) (N := some 26) (v := ?_) (a' := ?_) #[true, true, true, false, false, false, false, false, false, false, false, false, false, false, false] rfl rfl (any_of HT_.out (by kernel_rfl)) (fun _ _ _ h => h) (Or.inl ⟨by rfl, ?_⟩) ?_ ?_
     rotate_left
     ·intro w'
      go_simp
      with_reducible rfl
     rotate_left
     ·exact zr
     refine pure_ (i := 3) (N := some 27) (v := ?_) (a' := ?_) #[true, true, true, true, false, false, false, false, false, false, false, false, false, false, false] rfl rfl (any_of HT_.out (by kernel_rfl)) (fun _ _ _ h => h) (Or.inl ⟨by rfl, ?_⟩) ?_ ?_
     rotate_left
     ·intro w'
      go_simp
      with_reducible rfl
     rotate_left
     ·exact zr
     refine take_ (i := 4) (N := some 28) (v := ?_) (a' := ?_) #[true, true, true, true, true, false, false, false, false, false, false, false, false, false, false] rfl rfl (take_ofW HT_.out HW_.out (by kernel_rfl)) (fun _ _ _ h => h) (Or.inl ⟨by rfl, ?_⟩) hHeld ?_ ?_
     rotate_left
     ·rintro w' ⟨s0, s1, s2, s3, s4⟩
      go_simp
      with_reducible rfl
     rotate_left
     ·exact zr
     refine one_ (i := 5) (N := some 29) #[true, true, true, true, true, true, false, false, false, false, false, false, false, false, false] rfl rfl (one_of HT_.out (by kernel_rfl)) (by decide) (fun K hK => ?_)
     refine goes_ Tryd.func84 (by kernel_rfl) rfl #[.int .i64 a0_1, .int .i64 1, .int .i64 2] (by rfl) rfl rfl zl ?_
     with_reducible refine (cell_in.calls a0_1 1 2 true _ A19.out).mono ?_
     rintro e w' ⟨rfl, ⟨nd, rfl⟩⟩
     refine ⟨_, rfl, ?_⟩
     refine hK.out _ _ ⟨(blk_cell BK132.out 0).trans rfl, (blk_cell BK132.out 1).trans rfl, (blk_cell BK132.out 2).trans rfl, (blk_cell BK132.out 3).trans rfl, (blk_cell BK132.out 4).trans rfl⟩ (fun hHeld => ?_)
     clear hK K
     refine norm_ (a' := ?_) ?_ ?_
     rotate_left
     ·show Act.put _ (some 29) _ = _
      simp only [Act.put, List.setIfInBounds_toArray, List.set_cons_zero, List.set_cons_succ, i64_w, i32_w]
      rfl
     refine pure_ (i := 6) (N := some 30) (v := ?_) (a' := ?_) #[true, true, true, true, true, true, true, false, false, false, false, false, false, false, false] rfl rfl (any_of HT_.out (by kernel_rfl)) (fun _ _ _ h => h) (Or.inl ⟨by rfl, ?_⟩) ?_ ?_
     rotate_left
     ·intro w'
      go_simp
      with_reducible rfl
     rotate_left
     ·exact zr
     refine pure_ (i := 7) (N := some 31) (v := ?_) (a' := ?_) #[true, true, true, true, true, true, true, true, false, false, false, false, false, false, false] rfl rfl (any_of HT_.out (by kernel_rfl)) (fun _ _ _ h => h) (Or.inl ⟨by rfl, ?_⟩) ?_ ?_
     rotate_left
     ·intro w'
      go_simp
      with_reducible rfl
     rotate_left
     ·exact zr
     refine pure_ (i := 8) (N := some 32) (v := ?_) (a' := ?_) #[true, true, true, true, true, true, true, true, true, false, false, false, false, false, false] rfl rfl (any_of HT_.out (by kernel_rfl)) (fun _ _ _ h => h) (Or.inl ⟨by rfl, ?_⟩) ?_ ?_
     rotate_left
     ·intro w'
      go_simp
      with_reducible rfl
     rotate_left
     ·exact zr
     refine pure_ (i := 9) (N := some 33) (v := ?_) (a' := ?_) #[true, true, true, true, true, true, true, true, true, true, false, false, false, false, false] rfl rfl (any_of HT_.out (by kernel_rfl)) (fun _ _ _ h => h) (Or.inl ⟨by rfl, ?_⟩) ?_ ?_
     rotate_left
     ·intro w'
      go_simp
      with_reducible rfl
     rotate_left
     ·exact zr
     refine pure_ (i := 11) (N := some 35) (v := ?_) (a' := ?_) #[true, true, true, true, true, true, true, true, true, true, false, true, false, false, false] rfl rfl (any_of HT_.out (by kernel_rfl)) (fun _ _ _ h => h) (Or.inl ⟨by rfl, ?_⟩) ?_ ?_
     rotate_left
     ·intro w'
      go_simp
      with_reducible rfl
     rotate_left
     ·exact zr
     refine take_ (i := 12) (N := some 36) (v := ?_) (a' := ?_) #[true, true, true, true, true, true, true, true, true, true, false, true, true, false, false] rfl rfl (take_ofW HT_.out HW_.out (by kernel_rfl)) (fun _ _ _ h => h) (Or.inl ⟨by rfl, ?_⟩) hHeld ?_ ?_
     rotate_left
     ·rintro w' ⟨s0, s1, s2, s3, s4⟩
      go_simp
      with_reducible rfl
     rotate_left
     ·exact zr
     refine one_ (i := 10) (N := some 34) #[true, true, true, true, true, true, true, true, true, true, true, true, true, false, false] rfl rfl (one_of HT_.out (by kernel_rfl)) (by decide) (fun K hK => ?_)
     refine goes_ Tryd.func86 (by kernel_rfl) rfl #[.int .i32 t135] (by rfl) rfl rfl zl ?_
     with_reducible refine (utf_Width.calls t135 t139 _ A21.out).mono ?_
     rintro e w23 ⟨rfl, hb⟩
     refine ⟨_, rfl, ?_⟩
     have n0_ := (zk BK132 hb)
     have n1_ := (zs HB hb)
     clear BK132
     clear HB
     have BK132 := n0_
     have HB := n1_
     clear n0_ n1_
     (try clear hb)
     (try clear hb2)
     (try clear hk)
     (try clear hi)
     refine hK.out _ _ ⟨(blk_cell BK132.out 0).trans rfl, (blk_cell BK132.out 1).trans rfl, (blk_cell BK132.out 2).trans rfl, (blk_cell BK132.out 3).trans rfl, (blk_cell BK132.out 4).trans rfl⟩ (fun hHeld => ?_)
     clear hK K
     refine norm_ (a' := ?_) ?_ ?_
     rotate_left
     ·show Act.put _ (some 34) _ = _
      simp only [Act.put, List.setIfInBounds_toArray, List.set_cons_zero, List.set_cons_succ, i64_w, i32_w]
      rfl
     refine pure_ (i := 13) (N := some 37) (v := ?_) (a' := ?_) #[true, true, true, true, true, true, true, true, true, true, true, true, true, true, false] rfl rfl (any_of HT_.out (by kernel_rfl)) (fun _ _ _ h => h) (Or.inl ⟨by rfl, ?_⟩) ?_ ?_
     rotate_left
     ·intro w'
      go_simp
      with_reducible rfl
     rotate_left
     ·exact zr
     refine pure_ (i := 14) (N := some 38) (v := ?_) (a' := ?_) #[true, true, true, true, true, true, true, true, true, true, true, true, true, true, true] rfl rfl (any_of HT_.out (by kernel_rfl)) (fun _ _ _ h => h) (Or.inl ⟨by rfl, ?_⟩) ?_ ?_
     rotate_left
     ·intro w'
      go_simp
      with_reducible rfl
     rotate_left
     ·exact zr
     refine done_ (done_of HT_.out (by kernel_rfl)) ?_
     try go_wp2
     go_meet
     case rel => exact ⟨_, ((t139 != a0_1)), zf, H', ⟨by first | omega | exact Nat.le_refl _⟩, ⟨by exact BK132.out⟩, ⟨zb⟩⟩
    ·replace c20 := Bool.eq_false_iff.mpr c20
     subst c20
     have H1 : (cell_Right.j0 k t136 true a0_0 a0_1 a0_2 a0_3 a0_4) = some r := by rw [if_neg (show ¬ (false = true) by decide)] at H; exact H
     clear H
     have H := H1
     clear H1
     have H' := Aside0.mk H
     clear H
     try go_wp2
     have n0_ := Aside0.mk (blk_drew BK132.out)
     have n1_ := Aside0.mk (below_drew1 HB.out)
     clear BK132
     clear HB
     have BK132 := n0_
     have HB := n1_
     clear n0_ n1_
     refine start_ (n := 15) (S := fun w' => w'.cell? ⟨gb132, 0, none⟩ = some (.string a0_0) ∧ w'.cell? ⟨gb132, 1, none⟩ = some (.int .i64 a0_1) ∧ w'.cell? ⟨gb132, 2, none⟩ = some (.int .i64 a0_2) ∧ w'.cell? ⟨gb132, 3, none⟩ = some (.int .i64 a0_3) ∧ w'.cell? ⟨gb132, 4, none⟩ = some (.int .i64 a0_4)) (ds := []) #[false, false, false, false, false, false, false, false, false, false, false, false, false, false, false] (by kernel_rfl) rfl rfl ⟨(blk_cell BK132.out 0).trans rfl, (blk_cell BK132.out 1).trans rfl, (blk_cell BK132.out 2).trans rfl, (blk_cell BK132.out 3).trans rfl, (blk_cell BK132.out 4).trans rfl⟩ (fun hHeld => ?_); refine with_tabW cell_Right.tab4 cell_Right.bits4 (fun HT_ HW_ => ?_)
     generalize w17.drew = w24 at BK132 HB hHeld ⊢
     refine pure_ (i := 0) (N := some 24) (v := ?_) (a' := ?_) #[true, false, false, false, false, false, false, false, false, false, false, false, false, false, false] rfl rfl (any_of HT_.out (by kernel_rfl)) (fun _ _ _ h => h) (Or.inl ⟨by rfl, ?_⟩) ?_ ?_
     rotate_left
     ·intro w'
      go_simp
      with_reducible rfl
     rotate_left
     ·exact zr
     refine pure_ (i := 1) (N := some 25) (v := ?_) (a' := ?_) #[true, true, false, false, false, false, false, false, false, false, false, false, false, false, false] rfl rfl (any_of HT_.out (by kernel_rfl)) (fun _ _ _ h => h) (Or.inl ⟨by rfl, ?_⟩) ?_ ?_
     rotate_left
     ·intro w'
      go_simp
      with_reducible rfl
     rotate_left
     ·exact zr
     refine pure_ (i := 2) (N := some 26) (v := ?_) (a' := ?_) #[true, true, true, false, false, false, false, false, false, false, false, false, false, false, false] rfl rfl (any_of HT_.out (by kernel_rfl)) (fun _ _ _ h => h) (Or.inl ⟨by rfl, ?_⟩) ?_ ?_
     rotate_left
     ·intro w'
      go_simp
      with_reducible rfl
     rotate_left
     ·exact zr
     refine pure_ (i := 3) (N := some 27) (v := ?_) (a' := ?_) #[true, true, true, true, false, false, false, false, false, false, false, false, false, false, false] rfl rfl (any_of HT_.out (by kernel_rfl)) (fun _ _ _ h => h) (Or.inl ⟨by rfl, ?_⟩) ?_ ?_
     rotate_left
     ·intro w'
      go_simp
      with_reducible rfl
     rotate_left
     ·exact zr
     refine take_ (i := 4) (N := some 28) (v := ?_) (a' := ?_) #[true, true, true, true, true, false, false, false, false, false, false, false, false, false, false] rfl rfl (take_ofW HT_.out HW_.out (by kernel_rfl)) (fun _ _ _ h => h) (Or.inl ⟨by rfl, ?_⟩) hHeld ?_ ?_
     rotate_left
     ·rintro w' ⟨s0, s1, s2, s3, s4⟩
      go_simp
      with_reducible rfl
     rotate_left
     ·exact zr
     refine one_ (i := 5) (N := some 29) #[true, true, true, true, true, true, false, false, false, false, false, false, false, false, false] rfl rfl (one_of HT_.out (by kernel_rfl)) (by decide) (fun K hK => ?_)
     refine goes_ Tryd.func84 (by kernel_rfl) rfl #[.int .i64 a0_1, .int .i64 1, .int .i64 2] (by rfl) rfl rfl zl ?_
     with_reducible refine (cell_in.calls a0_1 1 2 false _ A19.out).mono ?_
     rintro e w' ⟨rfl, ⟨nd, rfl⟩⟩
     refine ⟨_, rfl, ?_⟩
     refine hK.out _ _ ⟨(blk_cell BK132.out 0).trans rfl, (blk_cell BK132.out 1).trans rfl, (blk_cell BK132.out 2).trans rfl, (blk_cell BK132.out 3).trans rfl, (blk_cell BK132.out 4).trans rfl⟩ (fun hHeld => ?_)
     clear hK K
     refine norm_ (a' := ?_) ?_ ?_
     rotate_left
     ·show Act.put _ (some 29) _ = _
      simp only [Act.put, List.setIfInBounds_toArray, List.set_cons_zero, List.set_cons_succ, i64_w, i32_w]
      rfl
     refine pure_ (i := 6) (N := some 30) (v := ?_) (a' := ?_) #[true, true, true, true, true, true, true, false, false, false, false, false, false, false, false] rfl rfl (any_of HT_.out (by kernel_rfl)) (fun _ _ _ h => h) (Or.inl ⟨by rfl, ?_⟩) ?_ ?_
     rotate_left
     ·intro w'
      go_simp
      with_reducible rfl
     rotate_left
     ·exact zr
     refine pure_ (i := 7) (N := some 31) (v := ?_) (a' := ?_) #[true, true, true, true, true, true, true, true, false, false, false, false, false, false, false] rfl rfl (any_of HT_.out (by kernel_rfl)) (fun _ _ _ h => h) (Or.inl ⟨by rfl, ?_⟩) ?_ ?_
     rotate_left
     ·intro w'
      go_simp
      with_reducible rfl
     rotate_left
     ·exact zr
     refine pure_ (i := 8) (N := some 32) (v := ?_) (a' := ?_) #[true, true, true, true, true, true, true, true, true, false, false, false, false, false, false] rfl rfl (any_of HT_.out (by kernel_rfl)) (fun _ _ _ h => h) (Or.inl ⟨by rfl, ?_⟩) ?_ ?_
     rotate_left
     ·intro w'
      go_simp
      with_reducible rfl
     rotate_left
     ·exact zr
     refine pure_ (i := 9) (N := some 33) (v := undef) (a' := ?_) #[true, true, true, true, true, true, true, true, true, true, false, false, false, false, false] rfl rfl (any_of HT_.out (by kernel_rfl)) (fun _ _ _ h => h) (Or.inr ⟨by rfl, rfl⟩) ?_ ?_
     rotate_left
     ·exact zr
     refine pure_ (i := 10) (N := some 34) (v := undef) (a' := ?_) #[true, true, true, true, true, true, true, true, true, true, true, false, false, false, false] rfl rfl (any_of HT_.out (by kernel_rfl)) (fun _ _ _ h => h) (Or.inr ⟨by rfl, rfl⟩) ?_ ?_
     rotate_left
     ·exact zr
     refine pure_ (i := 11) (N := some 35) (v := undef) (a' := ?_) #[true, true, true, true, true, true, true, true, true, true, true, true, false, false, false] rfl rfl (any_of HT_.out (by kernel_rfl)) (fun _ _ _ h => h) (Or.inr ⟨by rfl, rfl⟩) ?_ ?_
     rotate_left
     ·exact zr
     refine pure_ (i := 12) (N := some 36) (v := undef) (a' := ?_) #[true, true, true, true, true, true, true, true, true, true, true, true, true, false, false] rfl rfl (any_of HT_.out (by kernel_rfl)) (fun _ _ _ h => h) (Or.inr ⟨by rfl, rfl⟩) ?_ ?_
     rotate_left
     ·exact zr
     refine pure_ (i := 13) (N := some 37) (v := undef) (a' := ?_) #[true, true, true, true, true, true, true, true, true, true, true, true, true, true, false] rfl rfl (any_of HT_.out (by kernel_rfl)) (fun _ _ _ h => h) (Or.inr ⟨by rfl, rfl⟩) ?_ ?_
     rotate_left
     ·exact zr
     refine pure_ (i := 14) (N := some 38) (v := ?_) (a' := ?_) #[true, true, true, true, true, true, true, true, true, true, true, true, true, true, true] rfl rfl (any_of HT_.out (by kernel_rfl)) (fun _ _ _ h => h) (Or.inl ⟨by rfl, ?_⟩) ?_ ?_
     rotate_left
     ·intro w'
      go_simp
      with_reducible rfl
     rotate_left
     ·exact zr
     refine done_ (done_of HT_.out (by kernel_rfl)) ?_
     try go_wp2
     go_meet
     case rel => exact ⟨_, (true), zf, H', ⟨by first | omega | exact Nat.le_refl _⟩, ⟨by exact BK132.out⟩, ⟨zb⟩⟩
   ·rw [if_neg c18] at H
    have c18b0 : (t137 == 0) = false := beq_eq_false_iff_ne.mpr c18
    have c18b1 : (t137 != 0) = true := bne_iff_ne.mpr c18
    (first | rw [c18b0] | (simp only [i64_w, i32_w]; rw [c18b0]) | skip)
    have H' := Aside0.mk H
    clear H
    try go_wp2
    have n0_ := Aside0.mk (blk_drew BK132.out)
    have n1_ := Aside0.mk (below_drew1 HB.out)
    clear BK132
    clear HB
    have BK132 := n0_
    have HB := n1_
    clear n0_ n1_
    refine start_ (n := 15) (S := fun w' => True) (ds := []) #[false, false, false, false, false, false, false, false, false, false, false, false, false, false, false] (by kernel_rfl) rfl rfl trivial (fun hHeld => ?_); refine with_tabW cell_Right.tab4 cell_Right.bits4 (fun HT_ HW_ => ?_)
    generalize w17.drew = w25 at BK132 HB hHeld ⊢
    refine pure_ (i := 0) (N := some 24) (v := ?_) (a' := ?_) #[true, false, false, false, false, false, false, false, false, false, false, false, false, false, false] rfl rfl (any_of HT_.out (by kernel_rfl)) (fun _ _ _ h => h) (Or.inl ⟨by rfl, ?_⟩) ?_ ?_
    rotate_left
    ·intro w'
     go_simp
     with_reducible rfl
    rotate_left
    ·exact zr
    refine pure_ (i := 1) (N := some 25) (v := ?_) (a' := ?_) #[true, true, false, false, false, false, false, false, false, false, false, false, false, false, false] rfl rfl (any_of HT_.out (by kernel_rfl)) (fun _ _ _ h => h) (Or.inl ⟨by rfl, ?_⟩) ?_ ?_
    rotate_left
    ·intro w'
     go_simp
     with_reducible rfl
    rotate_left
    ·exact zr
    refine pure_ (i := 2) (N := some 26) (v := ?_) (a' := ?_) #[true, true, true, false, false, false, false, false, false, false, false, false, false, false, false] rfl rfl (any_of HT_.out (by kernel_rfl)) (fun _ _ _ h => h) (Or.inl ⟨by rfl, ?_⟩) ?_ ?_
    rotate_left
    ·intro w'
     go_simp
     with_reducible rfl
    rotate_left
    ·exact zr
    refine pure_ (i := 3) (N := some 27) (v := undef) (a' := ?_) #[true, true, true, true, false, false, false, false, false, false, false, false, false, false, false] rfl rfl (any_of HT_.out (by kernel_rfl)) (fun _ _ _ h => h) (Or.inr ⟨by rfl, rfl⟩) ?_ ?_
    rotate_left
    ·exact zr
    refine pure_ (i := 4) (N := some 28) (v := undef) (a' := ?_) #[true, true, true, true, true, false, false, false, false, false, false, false, false, false, false] rfl rfl (any_of HT_.out (by kernel_rfl)) (fun _ _ _ h => h) (Or.inr ⟨by rfl, rfl⟩) ?_ ?_
    rotate_left
    ·exact zr
    refine pure_ (i := 5) (N := some 29) (v := undef) (a' := ?_) #[true, true, true, true, true, true, false, false, false, false, false, false, false, false, false] rfl rfl (any_of HT_.out (by kernel_rfl)) (fun _ _ _ h => h) (Or.inr ⟨by rfl, rfl⟩) ?_ ?_
    rotate_left
    ·exact zr
    refine pure_ (i := 6) (N := some 30) (v := undef) (a' := ?_) #[true, true, true, true, true, true, true, false, false, false, false, false, false, false, false] rfl rfl (any_of HT_.out (by kernel_rfl)) (fun _ _ _ h => h) (Or.inr ⟨by rfl, rfl⟩) ?_ ?_
    rotate_left
    ·exact zr
    refine pure_ (i := 7) (N := some 31) (v := ?_) (a' := ?_) #[true, true, true, true, true, true, true, true, false, false, false, false, false, false, false] rfl rfl (any_of HT_.out (by kernel_rfl)) (fun _ _ _ h => h) (Or.inl ⟨by rfl, ?_⟩) ?_ ?_
    rotate_left
    ·intro w'
     go_simp
     with_reducible rfl
    rotate_left
    ·exact zr
    refine pure_ (i := 8) (N := some 32) (v := ?_) (a' := ?_) #[true, true, true, true, true, true, true, true, true, false, false, false, false, false, false] rfl rfl (any_of HT_.out (by kernel_rfl)) (fun _ _ _ h => h) (Or.inl ⟨by rfl, ?_⟩) ?_ ?_
    rotate_left
    ·intro w'
     go_simp
     with_reducible rfl
    rotate_left
    ·exact zr
    refine pure_ (i := 9) (N := some 33) (v := undef) (a' := ?_) #[true, true, true, true, true, true, true, true, true, true, false, false, false, false, false] rfl rfl (any_of HT_.out (by kernel_rfl)) (fun _ _ _ h => h) (Or.inr ⟨by rfl, rfl⟩) ?_ ?_
    rotate_left
    ·exact zr
    refine pure_ (i := 10) (N := some 34) (v := undef) (a' := ?_) #[true, true, true, true, true, true, true, true, true, true, true, false, false, false, false] rfl rfl (any_of HT_.out (by kernel_rfl)) (fun _ _ _ h => h) (Or.inr ⟨by rfl, rfl⟩) ?_ ?_
    rotate_left
    ·exact zr
    refine pure_ (i := 11) (N := some 35) (v := undef) (a' := ?_) #[true, true, true, true, true, true, true, true, true, true, true, true, false, false, false] rfl rfl (any_of HT_.out (by kernel_rfl)) (fun _ _ _ h => h) (Or.inr ⟨by rfl, rfl⟩) ?_ ?_
    rotate_left
    ·exact zr
    refine pure_ (i := 12) (N := some 36) (v := undef) (a' := ?_) #[true, true, true, true, true, true, true, true, true, true, true, true, true, false, false] rfl rfl (any_of HT_.out (by kernel_rfl)) (fun _ _ _ h => h) (Or.inr ⟨by rfl, rfl⟩) ?_ ?_
    rotate_left
    ·exact zr
    refine pure_ (i := 13) (N := some 37) (v := undef) (a' := ?_) #[true, true, true, true, true, true, true, true, true, true, true, true, true, true, false] rfl rfl (any_of HT_.out (by kernel_rfl)) (fun _ _ _ h => h) (Or.inr ⟨by rfl, rfl⟩) ?_ ?_
    rotate_left
    ·exact zr
    refine pure_ (i := 14) (N := some 38) (v := ?_) (a' := ?_) #[true, true, true, true, true, true, true, true, true, true, true, true, true, true, true] rfl rfl (any_of HT_.out (by kernel_rfl)) (fun _ _ _ h => h) (Or.inl ⟨by rfl, ?_⟩) ?_ ?_
    rotate_left
    ·intro w'
     go_simp
     with_reducible rfl
    rotate_left
    ·exact zr
    refine done_ (done_of HT_.out (by kernel_rfl)) ?_
    try go_wp2
    go_meet
    case rel => exact ⟨_, (true), zf, H', ⟨by first | omega | exact Nat.le_refl _⟩, ⟨by exact BK132.out⟩, ⟨zb⟩⟩
  case rest =>
   clear HC14
   try clear c2
   try clear c2b0
   try clear c2b1
   try clear hcz16_0
   try clear hcz16_1
   try clear hcz16_2
   try clear hcz16_3
   try clear hcz16_4
   try clear hfz16_0
   try clear hfz16_1
   try clear hfz16_2
   try clear hfz16_3
   try clear hfz16_4
   obtain ⟨kq, x38_13, rfl, HA, HJ13, BK132, HB⟩ := hcut
   cases kq with
   | zero => exact absurd HA.out (by simp [cell_Right.j0])
   | succ kj13 =>
    have H := HA.out
    clear HA
    simp only [cell_Right.j0] at H
    by_cases c26 : x38_13 = true
    ·subst c26
     have H1 : (some false) = some r := by rw [if_pos rfl] at H; exact H
     clear H
     have H := H1
     clear H1
     obtain rfl := Option.some.inj H
     go_wp2
     go_ret
     exact ⟨ze, zb⟩
    ·replace c26 := Bool.eq_false_iff.mpr c26
     subst c26
     have H1 : ((cell_Look.f a0_2 a0_3 a0_4).bind fun t140 => (if t140 = true then (if 0 ≤ t136 then (if t136 ≤ (a0_0.size : Int) then ((cell_marks.f kj13 (a0_0.extract (t136 : Int).toNat a0_0.size)).bind fun t141 => ((cell_in.f t141 0 2).bind fun t142 => (some t142))) else (none)) else (none)) else (some false))) = some r := by rw [if_neg (show ¬ (false = true) by decide)] at H; exact H
     clear H
     have H := H1
     clear H1
     replace H := Option.bind_eq_some_iff.mp H
     obtain ⟨t140, A270, H⟩ := H
     replace H : (if t140 = true then (if 0 ≤ t136 then (if t136 ≤ (a0_0.size : Int) then ((cell_marks.f kj13 (a0_0.extract (t136 : Int).toNat a0_0.size)).bind fun t141 => ((cell_in.f t141 0 2).bind fun t142 => (some t142))) else (none)) else (none)) else (some false)) = some r := H
     have A27 := Aside0.mk A270
     clear A270
     by_cases c28 : t140 = true
     ·subst c28
      have H1 : (if 0 ≤ t136 then (if t136 ≤ (a0_0.size : Int) then ((cell_marks.f kj13 (a0_0.extract (t136 : Int).toNat a0_0.size)).bind fun t141 => ((cell_in.f t141 0 2).bind fun t142 => (some t142))) else (none)) else (none)) = some r := by rw [if_pos rfl] at H; exact H
      clear H
      have H := H1
      clear H1
      by_cases c29 : 0 ≤ t136
      ·rw [if_pos c29] at H
       have c29b0 := eq_true c29
       have c29b1 : decide (0 ≤ t136) = true := decide_eq_true c29
       clear c29
       by_cases c30 : t136 ≤ (a0_0.size : Int)
       ·rw [if_pos c30] at H
        have c30b0 := eq_true c30
        have c30b1 : decide (t136 ≤ (a0_0.size : Int)) = true := decide_eq_true c30
        clear c30
        replace H := Option.bind_eq_some_iff.mp H
        obtain ⟨t141, A310, H⟩ := H
        replace H : ((cell_in.f t141 0 2).bind fun t142 => (some t142)) = some r := H
        have A31 := Aside0.mk A310
        clear A310
        replace H := Option.bind_eq_some_iff.mp H
        obtain ⟨t142, A320, H⟩ := H
        replace H : (some t142) = some r := H
        have A32 := Aside0.mk A320
        clear A320
        obtain rfl := Option.some.inj H
        obtain ⟨hcz33_0, hcz33_1, hcz33_2, hcz33_3, hcz33_4, hfz33_0, hfz33_1, hfz33_2, hfz33_3, hfz33_4⟩ := zq5 (w := wc) BK132
        go_wp2_with (first | ((with_reducible refine gate_callee (f := 83) rfl ?_); refine goesL_ (some 41) rfl rfl Tryd.func83 (by kernel_rfl) rfl #[.agg #[.int .i64 a0_2, .int .i64 a0_3, .int .i64 a0_4]] rfl zl ?_; (with_reducible refine (cell_Look.calls a0_2 a0_3 a0_4 true _ A27.out).mono ?_); rintro e w34 ⟨rfl, hb⟩; refine ⟨_, rfl, ?_⟩; replace BK132 := (zk BK132 hb); replace HB := (zs HB hb); (try clear hb); obtain ⟨hcz35_0, hcz35_1, hcz35_2, hcz35_3, hcz35_4, hfz35_0, hfz35_1, hfz35_2, hfz35_3, hfz35_4⟩ := zq5 (w := w34) BK132) | (go_at_call 87; (with_reducible refine (cell_marks.calls kj13 (a0_0.extract (t136 : Int).toNat a0_0.size) t141 _ A31.out).mono ?_); rintro e w36 ⟨rfl, hb⟩; replace BK132 := (zk BK132 hb); replace HB := (zs HB hb); (try clear hb)) | (go_at_call 84; (with_reducible refine (cell_in.calls t141 0 2 t142 _ A32.out).mono ?_); rintro e w' ⟨rfl, ⟨nd, rfl⟩⟩))
        go_ret
        exact ⟨ze, zb⟩
       ·rw [if_neg c30] at H
        exact absurd H (by simp)
      ·rw [if_neg c29] at H
       exact absurd H (by simp)
     ·replace c28 := Bool.eq_false_iff.mpr c28
      subst c28
      have H1 : (some false) = some r := by rw [if_neg (show ¬ (false = true) by decide)] at H; exact H
      clear H
      have H := H1
      clear H1
      obtain rfl := Option.some.inj H
      obtain ⟨hcz37_0, hcz37_1, hcz37_2, hcz37_3, hcz37_4, hfz37_0, hfz37_1, hfz37_2, hfz37_3, hfz37_4⟩ := zq5 (w := wc) BK132
      go_wp2_with (first | ((with_reducible refine gate_callee (f := 83) rfl ?_); refine goesL_ (some 41) rfl rfl Tryd.func83 (by kernel_rfl) rfl #[.agg #[.int .i64 a0_2, .int .i64 a0_3, .int .i64 a0_4]] rfl zl ?_; (with_reducible refine (cell_Look.calls a0_2 a0_3 a0_4 false _ A27.out).mono ?_); rintro e w38 ⟨rfl, hb⟩; refine ⟨_, rfl, ?_⟩; replace BK132 := (zk BK132 hb); replace HB := (zs HB hb); (try clear hb)))
      go_ret
      exact ⟨ze, zb⟩
def grid_Fits.l0 : Nat → Int → List (S60) → Int → Int → List (S60) → Bool → Option (Bool)
 | 0, _, _, _, _, _, _ => none
 | k + 1, x1, x8, x9, x10, x147000, x147001 => if x10 < x9 then (if 0 ≤ x10 then (if x10 < (x8.length : Int) then ((cell_Right.f k ((rd_T60 x8 x10).f0) ((rd_T60 x8 x10).f1) ((rd_T60 x8 x10).f2.f0) ((rd_T60 x8 x10).f2.f1) ((rd_T60 x8 x10).f2.f2)).bind fun t149 => (if t149 = true then ((grid_whole.f x147000 x10).bind fun t150 => (if t150 = true then (grid_Fits.l0 k x1 x8 x9 (wrap64 (x10 + 1)) x147000 x147001) else (some false))) else (some false))) else (none)) else (none)) else (some ((x147000.length : Int) == x1))
def grid_Fits.f (k : Nat) (l0_0 : List (S60)) (a0_1 : Bool) (a1 : Int) : Option (Bool) := grid_Fits.l0 k a1 l0_0 (l0_0.length : Int) 0 l0_0 a0_1
set_option maxHeartbeats 8000000 in
set_option maxRecDepth 100000 in
theorem grid_Fits.calls (k : Nat) (A0_0 : Option Addr) (c0_0 : Nat) (l0_0 : List (S60)) (a0_1 : Bool) (a1 : Int) (r : Bool) (w : World) (hr0_0 : Kd.C k60 w A0_0 l0_0.length l0_0) (hc0_0 : l0_0.length ≤ c0_0) (h : grid_Fits.f k l0_0 a0_1 a1 = some r) (hT : Tabs w := by first | exact Aside0.out (by with_reducible assumption) | exact Tabs.keepA (by with_reducible assumption) (by repeat (first | (with_reducible exact Aside0.out (by with_reducible assumption)) | (with_reducible apply below_alloc) | (with_reducible apply pw_below_drewN) | (with_reducible apply below_drew1) | (with_reducible refine below_set ?_ (Aside0.out (by with_reducible assumption)))))) :
  Calls Tryd.prog 51 #[.agg #[.slice A0_0 l0_0.length c0_0, .bool a0_1], .int .i64 a1] w fun e w' => e = .returned (.bool r) ∧ Below w.heap.size w w' := by
 have HT := Aside0.mk (show Tabs w from hT)
 clear hT
 have hu38 := Tryd.underlying38
 have hu60 := Tryd.underlying60
 have HR0_0 := Aside0.mk hr0_0
 have HC0_0 := Aside0.mk hc0_0
 clear hr0_0 hc0_0
 have HB := Aside0.mk (Below.refl w.heap.size w)
 have H : (grid_Fits.l0 k a1 l0_0 (l0_0.length : Int) 0 l0_0 a0_1) = some r := h
 clear h
 have H' := Aside0.mk H
 clear H
 go_enter Tryd.func51, Tryd.ntmps51
 go_wp2_with (first | ((with_reducible refine gate_dst (N := 2) rfl ?_); refine box_event ?hg (N := 2) ?hd (cs := #[.slice A0_0 l0_0.length c0_0, .bool a0_1]) (t := 38) ?hr ?_; (case hd => rfl); (case hg => rfl); (case hr => exact zo); intro gb146 hg w3 hbox hb; have BK146 := Aside0.mk (hbox); have GW146 := Aside0.mk ((zg hg : w.heap.size ≤ gb146)); have GE146 := Aside0.mk ((zg hg : w.heap.size ≤ gb146)); replace HB := (zs HB hb); clear hb hbox hg; obtain ⟨hcz4_0, hcz4_1, hfz4_0, hfz4_1⟩ := zq2 (w := w3) BK146))
 go_loopg [10] k (fun kq v10 w' => ∃ (x10_1 : Int), v10 = .int .i64 x10_1 ∧ Aside0 (grid_Fits.l0 kq a1 l0_0 (l0_0.length : Int) x10_1 l0_0 a0_1 = some r) ∧ Aside0 (kq ≤ k) ∧ Aside0 (w'.heap[gb146]? = some (.cells #[(.slice A0_0 l0_0.length c0_0), .bool a0_1] 38 (0, 0))) ∧ Aside0 (Below w.heap.size w w'))
 case atStart => exact ⟨(0), zf, H', ⟨Nat.le_refl _⟩, ⟨by exact BK146.out⟩, ⟨zb⟩⟩
 case round =>
  clear H'
  try clear hcz4_0
  try clear hcz4_1
  try clear hfz4_0
  try clear hfz4_1
  obtain ⟨x10_1, rfl, HA, HK1, BK146, HB⟩ := hrel
  cases gk with
  | zero => exact absurd HA.out (by simp [grid_Fits.l0])
  | succ k1 =>
   have H := HA.out
   clear HA
   simp only [grid_Fits.l0] at H
   by_cases c5 : x10_1 < (l0_0.length : Int)
   ·rw [if_pos c5] at H
    have c5b0 : decide (x10_1 < (l0_0.length : Int)) = true := decide_eq_true c5
    clear c5
    by_cases c6 : 0 ≤ x10_1
    ·rw [if_pos c6] at H
     have c6b0 : decide (0 ≤ x10_1) = true := decide_eq_true c6
     clear c6
     by_cases c7 : x10_1 < (l0_0.length : Int)
     ·rw [if_pos c7] at H
      have c7b0 : decide (x10_1 < (l0_0.length : Int)) = true := decide_eq_true c7
      clear c7
      replace H := Option.bind_eq_some_iff.mp H
      obtain ⟨t149, A80, H⟩ := H
      replace H : (if t149 = true then ((grid_whole.f l0_0 x10_1).bind fun t150 => (if t150 = true then (grid_Fits.l0 k1 a1 l0_0 (l0_0.length : Int) (wrap64 (x10_1 + 1)) l0_0 a0_1) else (some false))) else (some false)) = some r := H
      have A8 := Aside0.mk A80
      clear A80
      by_cases c9 : t149 = true
      ·subst c9
       have H1 : ((grid_whole.f l0_0 x10_1).bind fun t150 => (if t150 = true then (grid_Fits.l0 k1 a1 l0_0 (l0_0.length : Int) (wrap64 (x10_1 + 1)) l0_0 a0_1) else (some false))) = some r := by rw [if_pos rfl] at H; exact H
       clear H
       have H := H1
       clear H1
       replace H := Option.bind_eq_some_iff.mp H
       obtain ⟨t150, A100, H⟩ := H
       replace H : (if t150 = true then (grid_Fits.l0 k1 a1 l0_0 (l0_0.length : Int) (wrap64 (x10_1 + 1)) l0_0 a0_1) else (some false)) = some r := H
       have A10 := Aside0.mk A100
       clear A100
       by_cases c11 : t150 = true
       ·subst c11
        have H1 : (grid_Fits.l0 k1 a1 l0_0 (l0_0.length : Int) (wrap64 (x10_1 + 1)) l0_0 a0_1) = some r := by rw [if_pos rfl] at H; exact H
        clear H
        have H := H1
        clear H1
        have H' := Aside0.mk H
        clear H
        have p147 : 0 ≤ (x10_1 : Int) := of_decide_eq_true za
        have q147 : x10_1 < (l0_0.length : Int) := of_decide_eq_true za
        obtain ⟨ad147, e147, hx147_0, hx147_1, hx147_2, hx147_3, hx147_4⟩ := at_T60 HR0_0.out x10_1 p147 q147
        cases e147
        replace hx147_0 := zc HB hx147_0
        replace hx147_1 := zc HB hx147_1
        replace hx147_2 := zc HB hx147_2
        replace hx147_3 := zc HB hx147_3
        replace hx147_4 := zc HB hx147_4
        replace p147 := eq_true p147
        replace q147 := eq_true q147
        go_wp2_with (first | ((with_reducible refine gate_dst (N := 6) rfl ?_); refine box_event ?hg (N := 6) ?hd (cs := #[.string (⟨#[]⟩ : ByteArray), .int .i64 0, .int .i64 0, .int .i64 0, .int .i64 0]) (t := 60) ?hr ?_; (case hd => rfl); (case hg => rfl); (case hr => exact zo); intro gb148 hg w12 hbox hb; have n0_ := (zk BK146 hb); have n1_ := (zs HB hb); have n2_ := Aside0.mk (hbox); have n3_ := Aside0.mk ((zg hg : w.heap.size ≤ gb148)); have n4_ := Aside0.mk ((zg hg : w.heap.size ≤ gb148)); have n5_ := Aside0.mk ((by rw [hg]; exact Nat.ne_of_lt (blk_lt (g := gb146) (o := .cells #[.slice (some ad147) l0_0.length c0_0, .bool a0_1] 38 (0, 0)) (by exact BK146.out)) : gb146 ≠ gb148)); have n6_ := Aside0.mk ((by rw [hg]; exact Nat.ne_of_gt (blk_lt (g := gb146) (o := .cells #[.slice (some ad147) l0_0.length c0_0, .bool a0_1] 38 (0, 0)) (by exact BK146.out)) : gb148 ≠ gb146)); clear BK146; clear HB; have BK146 := n0_; have HB := n1_; have BK148 := n2_; have GW148 := n3_; have GE148 := n4_; have NB146_148 := n5_; have NB148_146 := n6_; clear n0_ n1_ n2_ n3_ n4_ n5_ n6_; clear hb hbox hg; have hnb13 := NB148_146.out; have hnc13 := NB146_148.out; obtain ⟨hcz14_0, hcz14_1, hcz14_2, hcz14_3, hcz14_4, hfz14_0, hfz14_1, hfz14_2, hfz14_3, hfz14_4⟩ := zq5 (w := w12) BK148) | ((with_reducible refine gate_callee (f := 70) rfl ?_); refine goesL_ (some 16) rfl rfl Tryd.func70 (by kernel_rfl) rfl #[.agg #[.string ((rd_T60 l0_0 x10_1).f0), .int .i64 ((rd_T60 l0_0 x10_1).f1), .int .i64 ((rd_T60 l0_0 x10_1).f2.f0), .int .i64 ((rd_T60 l0_0 x10_1).f2.f1), .int .i64 ((rd_T60 l0_0 x10_1).f2.f2)]] rfl zl ?_; (with_reducible refine (cell_Right.calls k1 ((rd_T60 l0_0 x10_1).f0) ((rd_T60 l0_0 x10_1).f1) ((rd_T60 l0_0 x10_1).f2.f0) ((rd_T60 l0_0 x10_1).f2.f1) ((rd_T60 l0_0 x10_1).f2.f2) true _ A8.out).mono ?_); rintro e w15 ⟨rfl, hb⟩; refine ⟨_, rfl, ?_⟩; replace BK146 := Aside0.mk (blk_below (g := gb146) (o := .cells #[.slice (some ad147) l0_0.length c0_0, .bool a0_1] 38 (0, 0)) (by refine blk_far ?_ NB146_148.out _; refine blk_far ?_ NB146_148.out _; refine blk_far ?_ NB146_148.out _; refine blk_far ?_ NB146_148.out _; refine blk_far ?_ NB146_148.out _; exact BK146.out) hb); replace BK148 := Aside0.mk (blk_below (g := gb148) (o := .cells #[.string ((rd_T60 l0_0 x10_1).f0), .int .i64 ((rd_T60 l0_0 x10_1).f1), .int .i64 ((rd_T60 l0_0 x10_1).f2.f0), .int .i64 ((rd_T60 l0_0 x10_1).f2.f1), .int .i64 ((rd_T60 l0_0 x10_1).f2.f2)] 60 (0, 0)) (by refine blk_put (cs := #[.string ((rd_T60 l0_0 x10_1).f0), .int .i64 ((rd_T60 l0_0 x10_1).f1), .int .i64 ((rd_T60 l0_0 x10_1).f2.f0), .int .i64 ((rd_T60 l0_0 x10_1).f2.f1), .int .i64 0]) ?_ 4 _ rfl; refine blk_put (cs := #[.string ((rd_T60 l0_0 x10_1).f0), .int .i64 ((rd_T60 l0_0 x10_1).f1), .int .i64 ((rd_T60 l0_0 x10_1).f2.f0), .int .i64 0, .int .i64 0]) ?_ 3 _ rfl; refine blk_put (cs := #[.string ((rd_T60 l0_0 x10_1).f0), .int .i64 ((rd_T60 l0_0 x10_1).f1), .int .i64 0, .int .i64 0, .int .i64 0]) ?_ 2 _ rfl; refine blk_put (cs := #[.string ((rd_T60 l0_0 x10_1).f0), .int .i64 0, .int .i64 0, .int .i64 0, .int .i64 0]) ?_ 1 _ rfl; refine blk_put (cs := #[.string (⟨#[]⟩ : ByteArray), .int .i64 0, .int .i64 0, .int .i64 0, .int .i64 0]) ?_ 0 _ rfl; exact BK148.out) hb); replace HB := (zs HB hb); (try clear hb); obtain ⟨hcz16_0, hcz16_1, hfz16_0, hfz16_1⟩ := zq2 (w := w15) BK146) | (go_at_call 71; (with_reducible refine (grid_whole.calls _ _ l0_0 x10_1 true _ ?side1 ?side2 A10.out).mono ?_); (case side1 => repeat (first | exact (Kd.C_below HR0_0.out HB.out) | (with_reducible refine Kd.C_alloc ?_ _) | (with_reducible refine Kd.C_drewN ?_ _) | (with_reducible refine Kd.C_drew ?_))); (case side2 => exact HC0_0.out); rintro e w' ⟨rfl, ⟨nd, rfl⟩⟩))
        go_roundg k1
        case measure => have := HK1.out; omega
        case rel => exact ⟨(wrap64 (x10_1 + 1)), zf, H', ⟨by have := HK1.out; omega⟩, ⟨by exact BK146.out⟩, ⟨zb⟩⟩
       ·replace c11 := Bool.eq_false_iff.mpr c11
        subst c11
        have H1 : (some false) = some r := by rw [if_neg (show ¬ (false = true) by decide)] at H; exact H
        clear H
        have H := H1
        clear H1
        obtain rfl := Option.some.inj H
        have p147 : 0 ≤ (x10_1 : Int) := of_decide_eq_true za
        have q147 : x10_1 < (l0_0.length : Int) := of_decide_eq_true za
        obtain ⟨ad147, e147, hx147_0, hx147_1, hx147_2, hx147_3, hx147_4⟩ := at_T60 HR0_0.out x10_1 p147 q147
        cases e147
        replace hx147_0 := zc HB hx147_0
        replace hx147_1 := zc HB hx147_1
        replace hx147_2 := zc HB hx147_2
        replace hx147_3 := zc HB hx147_3
        replace hx147_4 := zc HB hx147_4
        replace p147 := eq_true p147
        replace q147 := eq_true q147
        go_wp2_with (first | ((with_reducible refine gate_dst (N := 6) rfl ?_); refine box_event ?hg (N := 6) ?hd (cs := #[.string (⟨#[]⟩ : ByteArray), .int .i64 0, .int .i64 0, .int .i64 0, .int .i64 0]) (t := 60) ?hr ?_; (case hd => rfl); (case hg => rfl); (case hr => exact zo); intro gb148 hg w17 hbox hb; have n0_ := (zk BK146 hb); have n1_ := (zs HB hb); have n2_ := Aside0.mk (hbox); have n3_ := Aside0.mk ((zg hg : w.heap.size ≤ gb148)); have n4_ := Aside0.mk ((zg hg : w.heap.size ≤ gb148)); have n5_ := Aside0.mk ((by rw [hg]; exact Nat.ne_of_lt (blk_lt (g := gb146) (o := .cells #[.slice (some ad147) l0_0.length c0_0, .bool a0_1] 38 (0, 0)) (by exact BK146.out)) : gb146 ≠ gb148)); have n6_ := Aside0.mk ((by rw [hg]; exact Nat.ne_of_gt (blk_lt (g := gb146) (o := .cells #[.slice (some ad147) l0_0.length c0_0, .bool a0_1] 38 (0, 0)) (by exact BK146.out)) : gb148 ≠ gb146)); clear BK146; clear HB; have BK146 := n0_; have HB := n1_; have BK148 := n2_; have GW148 := n3_; have GE148 := n4_; have NB146_148 := n5_; have NB148_146 := n6_; clear n0_ n1_ n2_ n3_ n4_ n5_ n6_; clear hb hbox hg; have hnb18 := NB148_146.out; have hnc18 := NB146_148.out; obtain ⟨hcz19_0, hcz19_1, hcz19_2, hcz19_3, hcz19_4, hfz19_0, hfz19_1, hfz19_2, hfz19_3, hfz19_4⟩ := zq5 (w := w17) BK148) | ((with_reducible refine gate_callee (f := 70) rfl ?_); refine goesL_ (some 16) rfl rfl Tryd.func70 (by kernel_rfl) rfl #[.agg #[.string ((rd_T60 l0_0 x10_1).f0), .int .i64 ((rd_T60 l0_0 x10_1).f1), .int .i64 ((rd_T60 l0_0 x10_1).f2.f0), .int .i64 ((rd_T60 l0_0 x10_1).f2.f1), .int .i64 ((rd_T60 l0_0 x10_1).f2.f2)]] rfl zl ?_; (with_reducible refine (cell_Right.calls k1 ((rd_T60 l0_0 x10_1).f0) ((rd_T60 l0_0 x10_1).f1) ((rd_T60 l0_0 x10_1).f2.f0) ((rd_T60 l0_0 x10_1).f2.f1) ((rd_T60 l0_0 x10_1).f2.f2) true _ A8.out).mono ?_); rintro e w20 ⟨rfl, hb⟩; refine ⟨_, rfl, ?_⟩; replace BK146 := Aside0.mk (blk_below (g := gb146) (o := .cells #[.slice (some ad147) l0_0.length c0_0, .bool a0_1] 38 (0, 0)) (by refine blk_far ?_ NB146_148.out _; refine blk_far ?_ NB146_148.out _; refine blk_far ?_ NB146_148.out _; refine blk_far ?_ NB146_148.out _; refine blk_far ?_ NB146_148.out _; exact BK146.out) hb); replace BK148 := Aside0.mk (blk_below (g := gb148) (o := .cells #[.string ((rd_T60 l0_0 x10_1).f0), .int .i64 ((rd_T60 l0_0 x10_1).f1), .int .i64 ((rd_T60 l0_0 x10_1).f2.f0), .int .i64 ((rd_T60 l0_0 x10_1).f2.f1), .int .i64 ((rd_T60 l0_0 x10_1).f2.f2)] 60 (0, 0)) (by refine blk_put (cs := #[.string ((rd_T60 l0_0 x10_1).f0), .int .i64 ((rd_T60 l0_0 x10_1).f1), .int .i64 ((rd_T60 l0_0 x10_1).f2.f0), .int .i64 ((rd_T60 l0_0 x10_1).f2.f1), .int .i64 0]) ?_ 4 _ rfl; refine blk_put (cs := #[.string ((rd_T60 l0_0 x10_1).f0), .int .i64 ((rd_T60 l0_0 x10_1).f1), .int .i64 ((rd_T60 l0_0 x10_1).f2.f0), .int .i64 0, .int .i64 0]) ?_ 3 _ rfl; refine blk_put (cs := #[.string ((rd_T60 l0_0 x10_1).f0), .int .i64 ((rd_T60 l0_0 x10_1).f1), .int .i64 0, .int .i64 0, .int .i64 0]) ?_ 2 _ rfl; refine blk_put (cs := #[.string ((rd_T60 l0_0 x10_1).f0), .int .i64 0, .int .i64 0, .int .i64 0, .int .i64 0]) ?_ 1 _ rfl; refine blk_put (cs := #[.string (⟨#[]⟩ : ByteArray), .int .i64 0, .int .i64 0, .int .i64 0, .int .i64 0]) ?_ 0 _ rfl; exact BK148.out) hb); replace HB := (zs HB hb); (try clear hb); obtain ⟨hcz21_0, hcz21_1, hfz21_0, hfz21_1⟩ := zq2 (w := w20) BK146) | (go_at_call 71; (with_reducible refine (grid_whole.calls _ _ l0_0 x10_1 false _ ?side1 ?side2 A10.out).mono ?_); (case side1 => repeat (first | exact (Kd.C_below HR0_0.out HB.out) | (with_reducible refine Kd.C_alloc ?_ _) | (with_reducible refine Kd.C_drewN ?_ _) | (with_reducible refine Kd.C_drew ?_))); (case side2 => exact HC0_0.out); rintro e w' ⟨rfl, ⟨nd, rfl⟩⟩))
        go_ret
        exact ⟨ze, zb⟩
      ·replace c9 := Bool.eq_false_iff.mpr c9
       subst c9
       have H1 : (some false) = some r := by rw [if_neg (show ¬ (false = true) by decide)] at H; exact H
       clear H
       have H := H1
       clear H1
       obtain rfl := Option.some.inj H
       have p147 : 0 ≤ (x10_1 : Int) := of_decide_eq_true za
       have q147 : x10_1 < (l0_0.length : Int) := of_decide_eq_true za
       obtain ⟨ad147, e147, hx147_0, hx147_1, hx147_2, hx147_3, hx147_4⟩ := at_T60 HR0_0.out x10_1 p147 q147
       cases e147
       replace hx147_0 := zc HB hx147_0
       replace hx147_1 := zc HB hx147_1
       replace hx147_2 := zc HB hx147_2
       replace hx147_3 := zc HB hx147_3
       replace hx147_4 := zc HB hx147_4
       replace p147 := eq_true p147
       replace q147 := eq_true q147
       go_wp2_with (first | ((with_reducible refine gate_dst (N := 6) rfl ?_); refine box_event ?hg (N := 6) ?hd (cs := #[.string (⟨#[]⟩ : ByteArray), .int .i64 0, .int .i64 0, .int .i64 0, .int .i64 0]) (t := 60) ?hr ?_; (case hd => rfl); (case hg => rfl); (case hr => exact zo); intro gb148 hg w22 hbox hb; have n0_ := (zk BK146 hb); have n1_ := (zs HB hb); have n2_ := Aside0.mk (hbox); have n3_ := Aside0.mk ((zg hg : w.heap.size ≤ gb148)); have n4_ := Aside0.mk ((zg hg : w.heap.size ≤ gb148)); have n5_ := Aside0.mk ((by rw [hg]; exact Nat.ne_of_lt (blk_lt (g := gb146) (o := .cells #[.slice (some ad147) l0_0.length c0_0, .bool a0_1] 38 (0, 0)) (by exact BK146.out)) : gb146 ≠ gb148)); have n6_ := Aside0.mk ((by rw [hg]; exact Nat.ne_of_gt (blk_lt (g := gb146) (o := .cells #[.slice (some ad147) l0_0.length c0_0, .bool a0_1] 38 (0, 0)) (by exact BK146.out)) : gb148 ≠ gb146)); clear BK146; clear HB; have BK146 := n0_; have HB := n1_; have BK148 := n2_; have GW148 := n3_; have GE148 := n4_; have NB146_148 := n5_; have NB148_146 := n6_; clear n0_ n1_ n2_ n3_ n4_ n5_ n6_; clear hb hbox hg; have hnb23 := NB148_146.out; have hnc23 := NB146_148.out; obtain ⟨hcz24_0, hcz24_1, hcz24_2, hcz24_3, hcz24_4, hfz24_0, hfz24_1, hfz24_2, hfz24_3, hfz24_4⟩ := zq5 (w := w22) BK148) | ((with_reducible refine gate_callee (f := 70) rfl ?_); refine goesL_ (some 16) rfl rfl Tryd.func70 (by kernel_rfl) rfl #[.agg #[.string ((rd_T60 l0_0 x10_1).f0), .int .i64 ((rd_T60 l0_0 x10_1).f1), .int .i64 ((rd_T60 l0_0 x10_1).f2.f0), .int .i64 ((rd_T60 l0_0 x10_1).f2.f1), .int .i64 ((rd_T60 l0_0 x10_1).f2.f2)]] rfl zl ?_; (with_reducible refine (cell_Right.calls k1 ((rd_T60 l0_0 x10_1).f0) ((rd_T60 l0_0 x10_1).f1) ((rd_T60 l0_0 x10_1).f2.f0) ((rd_T60 l0_0 x10_1).f2.f1) ((rd_T60 l0_0 x10_1).f2.f2) false _ A8.out).mono ?_); rintro e w25 ⟨rfl, hb⟩; refine ⟨_, rfl, ?_⟩; replace BK146 := Aside0.mk (blk_below (g := gb146) (o := .cells #[.slice (some ad147) l0_0.length c0_0, .bool a0_1] 38 (0, 0)) (by refine blk_far ?_ NB146_148.out _; refine blk_far ?_ NB146_148.out _; refine blk_far ?_ NB146_148.out _; refine blk_far ?_ NB146_148.out _; refine blk_far ?_ NB146_148.out _; exact BK146.out) hb); replace BK148 := Aside0.mk (blk_below (g := gb148) (o := .cells #[.string ((rd_T60 l0_0 x10_1).f0), .int .i64 ((rd_T60 l0_0 x10_1).f1), .int .i64 ((rd_T60 l0_0 x10_1).f2.f0), .int .i64 ((rd_T60 l0_0 x10_1).f2.f1), .int .i64 ((rd_T60 l0_0 x10_1).f2.f2)] 60 (0, 0)) (by refine blk_put (cs := #[.string ((rd_T60 l0_0 x10_1).f0), .int .i64 ((rd_T60 l0_0 x10_1).f1), .int .i64 ((rd_T60 l0_0 x10_1).f2.f0), .int .i64 ((rd_T60 l0_0 x10_1).f2.f1), .int .i64 0]) ?_ 4 _ rfl; refine blk_put (cs := #[.string ((rd_T60 l0_0 x10_1).f0), .int .i64 ((rd_T60 l0_0 x10_1).f1), .int .i64 ((rd_T60 l0_0 x10_1).f2.f0), .int .i64 0, .int .i64 0]) ?_ 3 _ rfl; refine blk_put (cs := #[.string ((rd_T60 l0_0 x10_1).f0), .int .i64 ((rd_T60 l0_0 x10_1).f1), .int .i64 0, .int .i64 0, .int .i64 0]) ?_ 2 _ rfl; refine blk_put (cs := #[.string ((rd_T60 l0_0 x10_1).f0), .int .i64 0, .int .i64 0, .int .i64 0, .int .i64 0]) ?_ 1 _ rfl; refine blk_put (cs := #[.string (⟨#[]⟩ : ByteArray), .int .i64 0, .int .i64 0, .int .i64 0, .int .i64 0]) ?_ 0 _ rfl; exact BK148.out) hb); replace HB := (zs HB hb); (try clear hb)))
       go_ret
       exact ⟨ze, zb⟩
     ·rw [if_neg c7] at H
      exact absurd H (by simp)
    ·rw [if_neg c6] at H
     exact absurd H (by simp)
   ·rw [if_neg c5] at H
    have c5b0 : decide (x10_1 < (l0_0.length : Int)) = false := decide_eq_false c5
    clear c5
    obtain rfl := Option.some.inj H
    obtain ⟨hcz26_0, hcz26_1, hfz26_0, hfz26_1⟩ := zq2 (w := wr) BK146
    go_wp2
    go_ret
    exact ⟨ze, zb⟩
def back_odd.f (k : Nat) (l0_0 : List (S60)) (a0_1 : Bool) : Option (Bool) := if (l0_0.length : Int) < 1 then (some true) else (if (l0_0.length : Int) > 80 then (some true) else ((grid_Fits.f k l0_0 a0_1 (l0_0.length : Int)).bind fun t152 => (some (!t152))))
set_option maxHeartbeats 8000000 in
set_option maxRecDepth 100000 in
theorem back_odd.calls (k : Nat) (A0_0 : Option Addr) (c0_0 : Nat) (l0_0 : List (S60)) (a0_1 : Bool) (r : Bool) (w : World) (hr0_0 : Kd.C k60 w A0_0 l0_0.length l0_0) (hc0_0 : l0_0.length ≤ c0_0) (h : back_odd.f k l0_0 a0_1 = some r) (hT : Tabs w := by first | exact Aside0.out (by with_reducible assumption) | exact Tabs.keepA (by with_reducible assumption) (by repeat (first | (with_reducible exact Aside0.out (by with_reducible assumption)) | (with_reducible apply below_alloc) | (with_reducible apply pw_below_drewN) | (with_reducible apply below_drew1) | (with_reducible refine below_set ?_ (Aside0.out (by with_reducible assumption)))))) :
  Calls Tryd.prog 80 #[.agg #[.slice A0_0 l0_0.length c0_0, .bool a0_1]] w fun e w' => e = .returned (.bool r) ∧ Below w.heap.size w w' := by
 have HT := Aside0.mk (show Tabs w from hT)
 clear hT
 have hu38 := Tryd.underlying38
 have HR0_0 := Aside0.mk hr0_0
 have HC0_0 := Aside0.mk hc0_0
 clear hr0_0 hc0_0
 have HB := Aside0.mk (Below.refl w.heap.size w)
 have H : (if (l0_0.length : Int) < 1 then (some true) else (if (l0_0.length : Int) > 80 then (some true) else ((grid_Fits.f k l0_0 a0_1 (l0_0.length : Int)).bind fun t152 => (some (!t152))))) = some r := h
 clear h
 by_cases c2 : (l0_0.length : Int) < 1
 ·rw [if_pos c2] at H
  have c2b0 : decide ((l0_0.length : Int) < 1) = true := decide_eq_true c2
  have c2b1 : decide (l0_0.length < 1) = true := decide_eq_true (by omega)
  clear c2
  obtain rfl := Option.some.inj H
  go_enter Tryd.func80, Tryd.ntmps80
  go_wp2_with (first | ((with_reducible refine gate_dst (N := 1) rfl ?_); refine box_event ?hg (N := 1) ?hd (cs := #[.slice A0_0 l0_0.length c0_0, .bool a0_1]) (t := 38) ?hr ?_; (case hd => rfl); (case hg => rfl); (case hr => exact zo); intro gb151 hg w3 hbox hb; have BK151 := Aside0.mk (hbox); have GW151 := Aside0.mk ((zg hg : w.heap.size ≤ gb151)); have GE151 := Aside0.mk ((zg hg : w.heap.size ≤ gb151)); replace HB := (zs HB hb); clear hb hbox hg; obtain ⟨hcz4_0, hcz4_1, hfz4_0, hfz4_1⟩ := zq2 (w := w3) BK151))
  go_ret
  exact ⟨ze, zb⟩
 ·rw [if_neg c2] at H
  have c2b0 : decide ((l0_0.length : Int) < 1) = false := decide_eq_false c2
  have c2b1 : decide (l0_0.length < 1) = false := decide_eq_false (by omega)
  clear c2
  by_cases c5 : (l0_0.length : Int) > 80
  ·rw [if_pos c5] at H
   have c5b0 : decide (80 < (l0_0.length : Int)) = true := decide_eq_true c5
   have c5b1 : decide (80 < l0_0.length) = true := decide_eq_true (by omega)
   clear c5
   obtain rfl := Option.some.inj H
   go_enter Tryd.func80, Tryd.ntmps80
   go_wp2_with (first | ((with_reducible refine gate_dst (N := 1) rfl ?_); refine box_event ?hg (N := 1) ?hd (cs := #[.slice A0_0 l0_0.length c0_0, .bool a0_1]) (t := 38) ?hr ?_; (case hd => rfl); (case hg => rfl); (case hr => exact zo); intro gb151 hg w6 hbox hb; have BK151 := Aside0.mk (hbox); have GW151 := Aside0.mk ((zg hg : w.heap.size ≤ gb151)); have GE151 := Aside0.mk ((zg hg : w.heap.size ≤ gb151)); replace HB := (zs HB hb); clear hb hbox hg; obtain ⟨hcz7_0, hcz7_1, hfz7_0, hfz7_1⟩ := zq2 (w := w6) BK151))
   go_ret
   exact ⟨ze, zb⟩
  ·rw [if_neg c5] at H
   have c5b0 : decide (80 < (l0_0.length : Int)) = false := decide_eq_false c5
   have c5b1 : decide (80 < l0_0.length) = false := decide_eq_false (by omega)
   clear c5
   replace H := Option.bind_eq_some_iff.mp H
   obtain ⟨t152, A80, H⟩ := H
   replace H : (some (!t152)) = some r := H
   have A8 := Aside0.mk A80
   clear A80
   obtain rfl := Option.some.inj H
   go_enter Tryd.func80, Tryd.ntmps80
   go_wp2_with (first | ((with_reducible refine gate_dst (N := 1) rfl ?_); refine box_event ?hg (N := 1) ?hd (cs := #[.slice A0_0 l0_0.length c0_0, .bool a0_1]) (t := 38) ?hr ?_; (case hd => rfl); (case hg => rfl); (case hr => exact zo); intro gb151 hg w9 hbox hb; have BK151 := Aside0.mk (hbox); have GW151 := Aside0.mk ((zg hg : w.heap.size ≤ gb151)); have GE151 := Aside0.mk ((zg hg : w.heap.size ≤ gb151)); replace HB := (zs HB hb); clear hb hbox hg; obtain ⟨hcz10_0, hcz10_1, hfz10_0, hfz10_1⟩ := zq2 (w := w9) BK151) | (go_at_call 51; (with_reducible refine (grid_Fits.calls k _ _ l0_0 a0_1 (l0_0.length : Int) t152 _ ?side1 ?side2 A8.out).mono ?_); (case side1 => repeat (first | exact (Kd.C_below HR0_0.out HB.out) | (with_reducible refine Kd.C_alloc ?_ _) | (with_reducible refine Kd.C_drewN ?_ _) | (with_reducible refine Kd.C_drew ?_))); (case side2 => exact HC0_0.out); rintro e w11 ⟨rfl, hb⟩; replace BK151 := (zk BK151 hb); replace HB := (zs HB hb); (try clear hb)))
   go_ret
   exact ⟨ze, zb⟩
end Go.Proofs.YtckkdaehmccjlaaDoor.P
namespace Go.Proofs.YtckkdaehmccjlaaDoor.P
open Go.RowKit Go.Proofs.YtckkdaehmccjlaaDoorW.PrintWords Go.Proofs.YtckkdaehmccjlaaDoorW.PrintLast Go.Proofs.YtckkdaehmccjlaaDoorW.PrintMore
set_option linter.unusedVariables false
set_option linter.unusedSimpArgs false
def oddIn (k : Nat) : List S38 → Option Bool
 | [] => some false
 | x :: t => (back_odd.f k x.f0 x.f1).bind fun b => if b = true then some true else oddIn k t
def back_Right.f (k : Nat) (a0_0 : Int) (l0_1 : List S38) : Option Bool :=
 if a0_0 ≥ 0 then if a0_0 ≤ 40 then if (l0_1.length : Int) ≤ a0_0 then (oddIn k l0_1).bind fun t => some (!t) else some false else some false else some false
def LinesPost (r : Bool) (w : World) (e : Ending) (w' : World) : Prop := ∃ v : Int, e = .returned (.int .i64 v) ∧ decide (0 ≤ v) = r ∧ Below w.heap.size w w'
set_option maxHeartbeats 4000000 in
set_option maxRecDepth 100000 in
theorem lines_index (k : Nat) (A : Option Addr) (c : Nat) (l : List S38) (r : Bool) (w : World) (hr : Kd.C k38 w A l.length l) (hc : l.length ≤ c) (h : oddIn k l = some r) (hT : Tabs w) :
  Calls Tryd.prog 101 #[.slice A l.length c, .func (.func 80) #[] #[]] w (LinesPost r w) := by
 have HR0 := Aside0.mk hr
 have HC0 := Aside0.mk hc
 have HT := Aside0.mk hT
 have H0 := Aside0.mk h
 have hm : l.length ≤ 9223372036854775807 := Kd.C_max hr
 clear hr hc hT h
 go_enter Tryd.func101, Tryd.ntmps101
 go_wp2
 go_loopw [8] (fun i wr => ∃ j : Nat, j ≤ l.length ∧ i = .int .i64 j ∧ Aside0 (oddIn k (l.drop j) = some r) ∧ Aside0 (Below w.heap.size w wr)) (fun i _ => l.length - (intOf i).toNat)
 case atStart => exact ⟨0, Nat.zero_le _, rfl, ⟨H0.out⟩, ⟨Below.refl _ _⟩⟩
 case round =>
  obtain ⟨j, hj, rfl, HA, HB⟩ := hrel
  by_cases hlt : j < l.length
  ·obtain ⟨b, hb0, hb1⟩ : ∃ b, back_odd.f k (rd_T38 l j).f0 (rd_T38 l j).f1 = some b ∧ (if b = true then some true else oddIn k (l.drop (j + 1))) = some r := by
    have h0 := HA.out
    rw [List.drop_eq_getElem_cons hlt] at h0
    unfold oddIn at h0
    obtain ⟨b, hb, h1⟩ := Option.bind_eq_some_iff.1 h0
    have e : rd_T38 l j = l[j] := by unfold rd_T38; simp [List.getD_eq_getElem?_getD, hlt]
    exact ⟨b, by rw [e]; exact hb, h1⟩
   obtain ⟨ad, A0, c0, e0, hx0, hx1, hl0, hi0⟩ := at_T38 HR0.out j (by omega) (by omega)
   cases e0
   replace hx0 := zc HB hx0
   replace hx1 := zc HB hx1
   simp only [Int.toNat_natCast] at hx0 hx1
   have HI := Aside0.mk hi0
   have HL := Aside0.mk hl0
   have HB0 := Aside0.mk hb0
   have HB1 := Aside0.mk hb1
   clear hi0 hl0 hb0 hb1
   go_wp2_with (go_at_call 80; (with_reducible refine (back_odd.calls k _ _ _ _ b _ (Kd.C_below HI.out HB.out) HL.out HB0.out).mono ?_); rintro e w1 ⟨rfl, hb⟩)
   ·have hy : b = true := by assumption
    subst hy
    go_ret
    exact ⟨j, rfl, by have := Option.some.inj (HB1.out : some true = some r); rw [← this]; exact decide_eq_true (by omega), below_step HB.out hb⟩
   ·have hy : b = false := by assumption
    subst hy
    go_roundw
    case rel => exact ⟨j + 1, by omega, by go_num, ⟨HB1.out⟩, ⟨below_step HB.out hb⟩⟩
    case measure => simp [intOf]; omega
  ·have HE : Aside0 (r = false) := ⟨by
    have h0 := HA.out
    rw [List.drop_eq_nil_of_le (by omega)] at h0
    exact (Option.some.inj h0).symm⟩
   go_wp2
   go_ret
   exact ⟨-1, rfl, by rw [HE.out]; rfl, HB.out⟩
set_option maxHeartbeats 1000000 in
theorem lines_contains (k : Nat) (A : Option Addr) (c : Nat) (l : List S38) (r : Bool) (w : World) (hr : Kd.C k38 w A l.length l) (hc : l.length ≤ c) (h : oddIn k l = some r) (hT : Tabs w) :
  Calls Tryd.prog 79 #[.slice A l.length c, .func (.func 80) #[] #[]] w fun e w' => e = .returned (.bool r) ∧ Below w.heap.size w w' := by
 have cI := lines_index k A c l r w hr hc h hT
 clear hr hc h hT
 go_enter Tryd.func79, Tryd.ntmps79
 go_wp2_with (go_at_call 101; refine cI.mono ?_; rintro e w' ⟨v, rfl, hv, hb⟩; have HV := Aside0.mk hv; clear hv)
 go_ret
 exact ⟨by rw [← HV.out]; rfl, hb⟩
set_option maxHeartbeats 4000000 in
set_option maxRecDepth 100000 in
theorem back_Right.calls (k : Nat) (a0_0 : Int) (A0_1 : Option Addr) (c0_1 : Nat) (l0_1 : List S38) (r : Bool) (w : World) (hr0_1 : Kd.C k38 w A0_1 l0_1.length l0_1) (hc0_1 : l0_1.length ≤ c0_1) (h : back_Right.f k a0_0 l0_1 = some r) (hT : Tabs w := by first | exact Aside0.out (by with_reducible assumption) | exact Tabs.keepA (by with_reducible assumption) (by repeat (first | (with_reducible exact Aside0.out (by with_reducible assumption)) | (with_reducible apply below_alloc) | (with_reducible apply pw_below_drewN) | (with_reducible apply below_drew1) | (with_reducible refine below_set ?_ (Aside0.out (by with_reducible assumption)))))) :
  Calls Tryd.prog 66 #[.agg #[.int .i64 a0_0, .slice A0_1 l0_1.length c0_1]] w fun e w' => e = .returned (.bool r) ∧ Below w.heap.size w w' := by
 have hm : l0_1.length ≤ 9223372036854775807 := Kd.C_max hr0_1
 unfold back_Right.f at h
 by_cases h1 : a0_0 ≥ 0
 ·rw [if_pos h1] at h
  by_cases h2 : a0_0 ≤ 40
  ·rw [if_pos h2] at h
   by_cases h3 : (l0_1.length : Int) ≤ a0_0
   ·rw [if_pos h3] at h
    obtain ⟨t, ht, h⟩ := Option.bind_eq_some_iff.1 h
    obtain rfl := Option.some.inj h
    have cI := fun W (hb : Below w.heap.size w W) => lines_contains k A0_1 c0_1 l0_1 t W (Kd.C_below hr0_1 hb) hc0_1 ht (hT.below hb)
    have CI := Aside0.mk cI
    clear h ht hr0_1 hT cI
    go_enter Tryd.func66, Tryd.ntmps66
    go_wp2_with (go_at_call 79; (with_reducible refine (CI.out _ (below_alloc (Below.refl _ _) _)).mono ?_); rintro e w' ⟨rfl, hb⟩)
    go_ret
    exact ⟨rfl, below_step (below_alloc (Below.refl _ _) _) hb⟩
   ·rw [if_neg h3] at h
    obtain rfl := Option.some.inj h
    clear h hr0_1 hT
    go_enter Tryd.func66, Tryd.ntmps66
    go_wp2
    go_ret
    exact ⟨rfl, below_alloc (Below.refl _ _) _⟩
  ·rw [if_neg h2] at h
   obtain rfl := Option.some.inj h
   clear h hr0_1 hT
   go_enter Tryd.func66, Tryd.ntmps66
   go_wp2
   go_ret
   exact ⟨rfl, below_alloc (Below.refl _ _) _⟩
 ·rw [if_neg h1] at h
  obtain rfl := Option.some.inj h
  clear h hr0_1 hT
  go_enter Tryd.func66, Tryd.ntmps66
  go_wp2
  go_ret
  exact ⟨rfl, below_alloc (Below.refl _ _) _⟩
end Go.Proofs.YtckkdaehmccjlaaDoor.P
namespace Go.Proofs.YtckkdaehmccjlaaDoor.P
open Go.RowKit Go.Proofs.YtckkdaehmccjlaaDoorW.PrintWords Go.Proofs.YtckkdaehmccjlaaDoorW.PrintLast Go.Proofs.YtckkdaehmccjlaaDoorW.PrintMore
attribute [local go_sem] Oper.semAt_some
set_option linter.unusedVariables false
set_option linter.unusedSimpArgs false
def piece (l : List S38) (j : Nat) : List S38 := (l.drop (40 * j)).take 40
def pieces (l : List S38) : Nat := (l.length + 39) / 40
def askN (k : Nat) (l : List S38) : Nat → Option Bool
 | 0 => some true
 | j + 1 => (askN k l j).bind fun a => (back_Right.f k 40 (piece l j)).bind fun b => some (a && b)
def flow_may.f (k : Nat) (l0 : List S38) : Option Bool := if l0.length ≤ 1000000000000 then (askN k l0 (pieces l0)).bind fun a => some (a && decide (l0.length ≤ 200)) else none
theorem askN_each {k : Nat} {l : List S38} : ∀ {n : Nat} {r : Bool}, askN k l n = some r → ∀ j, j < n → ∃ b, back_Right.f k 40 (piece l j) = some b
 | n + 1, r, h, j, hj => by
  obtain ⟨a, ha, h⟩ := Option.bind_eq_some_iff.1 h
  obtain ⟨b, hb, h⟩ := Option.bind_eq_some_iff.1 h
  by_cases e : j = n
  ·subst e; exact ⟨b, hb⟩
  ·exact askN_each ha j (by omega)
theorem askN_true {k : Nat} {l : List S38} : ∀ {n : Nat} {r : Bool}, askN k l n = some r → (∀ j, j < n → back_Right.f k 40 (piece l j) = some true) → r = true
 | 0, r, h, _ => (Option.some.inj h).symm
 | n + 1, r, h, hj => by
  obtain ⟨a, ha, h⟩ := Option.bind_eq_some_iff.1 h
  obtain ⟨b, hb, h⟩ := Option.bind_eq_some_iff.1 h
  rw [hj n (by omega)] at hb
  have := askN_true ha (fun j h => hj j (by omega))
  cases hb; subst this; exact (Option.some.inj h).symm
theorem askN_false {k : Nat} {l : List S38} : ∀ {n : Nat} {r : Bool}, askN k l n = some r → ∀ j, j < n → back_Right.f k 40 (piece l j) = some false → r = false
 | n + 1, r, h, j, hj, hf => by
  obtain ⟨a, ha, h⟩ := Option.bind_eq_some_iff.1 h
  obtain ⟨b, hb, h⟩ := Option.bind_eq_some_iff.1 h
  by_cases e : j = n
  ·subst e; rw [hf] at hb; cases hb; rw [← Option.some.inj h]; simp
  ·have := askN_false ha j (by omega) hf
   subst this; exact (Option.some.inj h).symm
theorem chunk_calls (A : Option Addr) (n c : Nat) (w : World) :
  Calls Tryd.prog 65 #[.slice A n c, .int .i64 40] w fun e w' => e = .returned (.func (.func 78) #[] #[.pointer (some ⟨w.heap.size, 0, none⟩), .pointer (some ⟨w.heap.size + 1, 0, none⟩)]) ∧ w' = (w.alloc (.cells #[.slice A n c] 22)).alloc (.cells #[.int .i64 40] 3) := by
 go_enter Tryd.func65, Tryd.ntmps65
 go_wp2
 go_ret
 exact ⟨rfl, rfl⟩
set_option maxRecDepth 100000 in
set_option maxHeartbeats 4000000 in
theorem chunk_iter (n : Nat) (hn : 1 ≤ n) (l Bs Bn n₀ len cap m : Nat) (A : Option Addr) (hcap : len ≤ cap) (hA : 0 < len → ∃ ad, A = some ad) (hlen : len ≤ 1000000000000) (hm : m = (len + 39) / 40) (hBs0 : Bs < n₀) (hBn0 : Bn < n₀)
  (J Jx : List { j : Nat // j < m } → World → Prop)
  (hJd : ∀ pre W q, J pre W → J pre (W.drewN q))
  (hY : ∀ pre (x : { j : Nat // j < m }) W, J pre W → pre.length < m → YieldAt Fence.wide (n - 1) Tryd.prog l #[.slice (A.map (·.add (40 * x.1 * 2))) (min 40 (len - 40 * x.1)) (min 40 (len - 40 * x.1))] W fun e W' =>
   (e = .returned (.bool true) ∧ J (pre ++ [x]) W' ∧ Below n₀ W W') ∨ (e = .returned (.bool false) ∧ Jx (pre ++ [x]) W'))
  (W : World) (hBs : W.cell? ⟨Bs, 0, none⟩ = some (.slice A len cap)) (hBn : W.cell? ⟨Bn, 0, none⟩ = some (.int .i64 40)) (h0 : J [] W) :
  CallsIn Fence.wide n Tryd.prog 78 #[.func (.yield l) #[] #[], .pointer (some ⟨Bs, 0, none⟩), .pointer (some ⟨Bn, 0, none⟩)] W fun e W' => (∃ v, e = .returned v) ∧
   ((∃ ys, ys.map (·.1) = List.range m ∧ J ys W') ∨ (∃ pre, (∃ k, k ≤ m ∧ pre.map (·.1) = List.range k) ∧ Jx pre W')) := by
 refine callsIn_of_wp Tryd.func78 rfl trivial ?_ rfl
 simp only [Tryd.ntmps78, List.size_toArray, List.length_cons, List.length_nil, Nat.reduceAdd, Nat.reduceSub, Array.replicate_succ, Array.replicate_zero, List.push_toArray, List.append_toArray, List.nil_append, List.cons_append]
 gi_wp2
 gi_loopw [4] (fun i wr => ∃ (k : Nat) (pre : List { j : Nat // j < m }), k ≤ m ∧ i = .int .i64 ((40 * k : Nat) : Int) ∧ Aside0 (pre.map (·.1) = List.range k) ∧ Aside0 (J pre wr) ∧ Aside0 (Below n₀ W wr))
  (fun i _ => 40 * m - (intOf i).toNat)
 case atStart => exact ⟨0, [], Nat.zero_le _, rfl, ⟨rfl⟩, ⟨h0⟩, ⟨Below.refl _ _⟩⟩
 case round =>
  obtain ⟨k, pre, hk, rfl, HP, HJ, HB⟩ := hrel
  have hxs := (HB.out.cell (p := ⟨Bs, 0, none⟩) hBs0).trans hBs
  have hxn := (HB.out.cell (p := ⟨Bn, 0, none⟩) hBn0).trans hBn
  by_cases hlt : 40 * k < len
  ·obtain ⟨ad, rfl⟩ := hA (by omega)
   have hkm : k < m := by omega
   have hmn : min (40 : Int) ((len : Int) - (40 * k : Nat)) = ((min 40 (len - 40 * k) : Nat) : Int) := by omega
   have h0 : (0 : Int) ≤ ((40 * k : Nat) : Int) := by omega
   have hle : ((40 * k : Nat) : Int) ≤ (len : Int) := by omega
   gi_wp2
   refine wpIn_wide.2 ?_
   go_quiet (fail)
   gi_wp2
   obtain ⟨fn, tmps, assign, body, hy, hR⟩ := hY pre ⟨k, hkm⟩ (wr.drewN nq) (hJd _ _ _ HJ.out) (by have := congrArg List.length HP.out; simp at this; omega)
   simp only [Option.map_some] at hy
   have hq : (40 * (k : Int) + min 40 ((len - 40 * k : Nat) : Int)).toNat - 40 * k = min 40 (len - 40 * k) := by omega
   rw [hq, hy]
   refine ⟨fun _ => hn, hR.mono ?_⟩
   rintro e W3 (⟨rfl, hJ3, hk3⟩ | ⟨rfl, hJx3⟩)
   ·have hn3 := (hk3.cell (p := ⟨Bn, 0, none⟩) hBn0).trans (show (wr.drewN nq).cell? ⟨Bn, 0, none⟩ = some (.int .i64 40) from hxn)
    have HK3 := Aside0.mk hk3
    clear hk3
    gi_wp2
    go_roundw
    case rel => exact ⟨k + 1, pre ++ [⟨k, hkm⟩], by omega, by go_num, ⟨by rw [List.map_append, HP.out, List.range_succ]; rfl⟩, ⟨hJ3⟩, ⟨(pw_below_drewN HB.out nq).trans HK3.out⟩⟩
    case measure => simp [intOf]; omega
   ·gi_wp2
    refine bodyPost_ret (results_none rfl _ _ _) rfl ?_
    exact ⟨⟨_, rfl⟩, .inr ⟨pre ++ [⟨k, hkm⟩], ⟨k + 1, by omega, by rw [List.map_append, HP.out, List.range_succ]; rfl⟩, hJx3⟩⟩
  ·gi_wp2
   go_end0
   exact ⟨⟨_, rfl⟩, .inl ⟨pre, by rw [HP.out, show k = m by omega], HJ.out⟩⟩
theorem chunk_stops (n : Nat) (hn : 1 ≤ n) (Bs Bn n₀ len cap m : Nat) (A : Option Addr) (hcap : len ≤ cap) (hA : 0 < len → ∃ ad, A = some ad) (hlen : len ≤ 1000000000000) (hm : m = (len + 39) / 40) (hBs0 : Bs < n₀) (hBn0 : Bn < n₀) (w : World) (hn₀ : n₀ ≤ w.heap.size)
  (hBs : w.cell? ⟨Bs, 0, none⟩ = some (.slice A len cap)) (hBn : w.cell? ⟨Bn, 0, none⟩ = some (.int .i64 40)) :
  SeqStopsK Fence.wide n Tryd.prog 78 #[.pointer (some ⟨Bs, 0, none⟩), .pointer (some ⟨Bn, 0, none⟩)] (fun x : { j : Nat // j < m } => #[.slice (A.map (·.add (40 * x.1 * 2))) (min 40 (len - 40 * x.1)) (min 40 (len - 40 * x.1))]) (Below n₀)
   (fun xs => xs.map (·.1) = List.range m) (fun pre => ∃ k, k ≤ m ∧ pre.map (·.1) = List.range k) m w := fun l J Jx W hW hJ _ hY h0 =>
 chunk_iter n hn l Bs Bn n₀ len cap m A hcap hA hlen hm hBs0 hBn0 J Jx (fun pre W q h => hJ _ _ _ none h ⟨rfl, rfl, rfl, Nat.le_refl _, fun _ _ _ => rfl⟩ (fun r e => by cases e)) hY W
  ((hW.cell (p := ⟨Bs, 0, none⟩) (show Bs < _ by omega)).trans hBs) ((hW.cell (p := ⟨Bn, 0, none⟩) (show Bn < _ by omega)).trans hBn) h0
set_option maxRecDepth 100000 in
set_option maxHeartbeats 4000000 in
theorem flow_may.calls (k : Nat) (A0 : Option Addr) (c0 : Nat) (l0 : List S38) (r : Bool) (w : World) (hr0 : Kd.C k38 w A0 l0.length l0) (hc0 : l0.length ≤ c0) (h : flow_may.f k l0 = some r) (hT : Tabs w := by first | exact Aside0.out (by with_reducible assumption) | exact Tabs.keepA (by with_reducible assumption) (by repeat (first | (with_reducible exact Aside0.out (by with_reducible assumption)) | (with_reducible apply below_alloc) | (with_reducible apply pw_below_drewN) | (with_reducible apply below_drew1) | (with_reducible refine below_set ?_ (Aside0.out (by with_reducible assumption)))))) :
  Calls Tryd.prog 43 #[.slice A0 l0.length c0] w fun e w' => e = .returned (.bool r) ∧ Below w.heap.size w w' := by
 unfold flow_may.f at h
 by_cases hlen : l0.length ≤ 1000000000000
 rotate_left
 ·rw [if_neg hlen] at h; cases h
 rw [if_pos hlen] at h
 obtain ⟨a, ha, h⟩ := Option.bind_eq_some_iff.1 h
 obtain rfl := Option.some.inj h
 clear h
 have hA : 0 < l0.length → ∃ ad, A0 = some ad := fun hp => by obtain ⟨ad, e, _⟩ := hr0.2.2 hp; exact ⟨ad, e⟩
 have cB : ∀ (x : Nat) (b : Bool), x < pieces l0 → back_Right.f k 40 (piece l0 x) = some b → ∀ W : World, Below w.heap.size w W → Calls Tryd.prog 66 #[.agg #[.int .i64 40, .slice (A0.map (·.add (40 * x * 2))) (min 40 (l0.length - 40 * x)) (min 40 (l0.length - 40 * x))]] W fun e w' => e = .returned (.bool b) ∧ Below W.heap.size W w' := fun x b hx hb W hW => by
  have hxl : 40 * x < l0.length := by unfold pieces at hx; omega
  have hC := Kd.C_drop (m := 40 * x) (Kd.C_below hr0 hW) (by omega) hc0
  rw [if_neg (by omega), show k38.sz = 2 from rfl] at hC
  have hC2 := Kd.C_take (m := min 40 (l0.length - 40 * x)) hC (by rw [List.length_drop]; omega)
  have hp : (l0.drop (40 * x)).take (min 40 (l0.length - 40 * x)) = piece l0 x := by
   unfold piece
   rcases Nat.le_total 40 (l0.length - 40 * x) with h' | h'
   ·rw [Nat.min_eq_left h']
   ·rw [Nat.min_eq_right h', List.take_of_length_le (by rw [List.length_drop]; omega), List.take_of_length_le (by rw [List.length_drop]; omega)]
  rw [hp] at hC2
  have hpl : (piece l0 x).length = min 40 (l0.length - 40 * x) := by rw [← hp, List.length_take, List.length_drop]; omega
  have := back_Right.calls k 40 (A0.map (·.add (40 * x * 2))) (min 40 (l0.length - 40 * x)) (piece l0 x) b W hC2 (by omega) hb (hT.below hW)
  rwa [hpl] at this
 have HCB := Aside0.mk cB
 have hea := fun j hj => askN_each ha j hj
 have HEA := Aside0.mk hea
 have HAT := Aside0.mk (fun h => askN_true ha h)
 have HAF := Aside0.mk (fun j hj h => askN_false ha j hj h)
 have hpc : pieces l0 = (l0.length + 39) / 40 := rfl
 have HPC := Aside0.mk hpc
 clear cB hr0 hT hea ha hpc
 refine (callsIn_wide (n := 6)).1 ?_
 refine callsIn_of_wp_marks Tryd.func43 rfl trivial ?_ rfl
 simp only [Tryd.ntmps43, List.size_toArray, List.length_cons, List.length_nil, Nat.reduceAdd, Nat.reduceSub, Array.replicate_succ, Array.replicate_zero, List.push_toArray, List.append_toArray, List.nil_append, List.cons_append]
 gi_wp2_with (refine ⟨trivial, ?_⟩; gi_at_call 65; refine (callsIn_wide.2 (chunk_calls _ _ _ _)).mono ?_; rintro e w' ⟨rfl, rfl⟩)
 have hs1 : (((w.alloc (.cells #[.bool false] 4)).alloc (.cells #[.slice A0 l0.length c0] 22)).alloc (.cells #[.int .i64 40] 3)).heap.size = w.heap.size + 3 := by simp
 have hbw : Below w.heap.size w (((w.alloc (.cells #[.bool false] 4)).alloc (.cells #[.slice A0 l0.length c0] 22)).alloc (.cells #[.int .i64 40] 3)) := below_alloc (below_alloc (below_alloc (Below.refl _ _) _) _) _
 have hbx : (((w.alloc (.cells #[.bool false] 4)).alloc (.cells #[.slice A0 l0.length c0] 22)).alloc (.cells #[.int .i64 40] 3)).heap[w.heap.size]? = some (.cells #[.bool false] 4 (0, 0)) := by
  rw [Below.heap_alloc _ _ _ (by simp only [World.size_alloc]; omega), Below.heap_alloc _ _ _ (by simp only [World.size_alloc]; omega)]; exact World.alloc_heap_new w _
 have hc1 : (((w.alloc (.cells #[.bool false] 4)).alloc (.cells #[.slice A0 l0.length c0] 22)).alloc (.cells #[.int .i64 40] 3)).cell? ⟨w.heap.size + 1, 0, none⟩ = some (.slice A0 l0.length c0) := by go_simp
 have hc2 : (((w.alloc (.cells #[.bool false] 4)).alloc (.cells #[.slice A0 l0.length c0] 22)).alloc (.cells #[.int .i64 40] 3)).cell? ⟨w.heap.size + 1 + 1, 0, none⟩ = some (.int .i64 40) := by go_simp
 refine wpIn_rangeFunc_ownF rfl (by decide) (gf := 78) (lb := #[.pointer (some ⟨w.heap.size + 1, 0, none⟩), .pointer (some ⟨w.heap.size + 1 + 1, 0, none⟩)]) rfl trivial (enters_of Tryd.func78 (by kernel_rfl) rfl)
  (chunk_stops 5 (by decide) (w.heap.size + 1) (w.heap.size + 1 + 1) (w.heap.size + 3) l0.length c0 (pieces l0) A0 hc0 hA hlen rfl (by omega) (by omega) _ (by rw [hs1]; exact Nat.le_refl _) hc1 hc2) belowK_t (belowK_b (by rw [hs1]; exact Nat.le_refl _)) (Below.refl _ _) (fun _ => rfl)
  (fun pre W => ((∀ x ∈ pre, back_Right.f k 40 (piece l0 x.1) = some true) ∧ (W.heap[w.heap.size]? = some (.cells #[.bool false] 4 (0, 0)) ∧ w.heap.size + 3 ≤ W.heap.size)) ∧ Below w.heap.size w W)
  (fun c pre W => (c = .ret ∧ (∃ x ∈ pre, back_Right.f k 40 (piece l0 x.1) = some false) ∧ (W.heap[w.heap.size]? = some (.cells #[.bool false] 4 (0, 0)) ∧ w.heap.size + 3 ≤ W.heap.size)) ∧ Below w.heap.size w W)
  ?hI ?hIx ⟨⟨fun x hx => by (cases hx), hbx, by rw [hs1]; exact Nat.le_refl _⟩, hbw⟩
  (fun x => { tmps := #[.slice A0 l0.length c0, undef, .pointer (some ⟨w.heap.size, 0, none⟩), .slice (A0.map (·.add (40 * x.1 * 2))) (min 40 (l0.length - 40 * x.1)) (min 40 (l0.length - 40 * x.1)), .slice A0 l0.length c0, .func (.func 78) #[] #[.pointer (some ⟨w.heap.size + 1, 0, none⟩), .pointer (some ⟨w.heap.size + 1 + 1, 0, none⟩)], .slice (A0.map (·.add (40 * x.1 * 2))) (min 40 (l0.length - 40 * x.1)) (min 40 (l0.length - 40 * x.1)), undef, undef, undef, undef, undef, undef, undef], defers := [] }) ?assign ?body ?done ?stop
 case hI =>
  refine OwnFrom.and (fun s W W' row hs hg hr => ⟨hs.1, ?_, Nat.le_trans hs.2.2 hg.size⟩) (ownFrom_below (Nat.le_refl _) (by rw [hs1]; omega))
  rw [hg.block _ (blk_lt hs.2.1) (fun e => by have := (hr _ e.symm).1; rw [hs1] at this; omega)]; exact hs.2.1
 case hIx =>
  intro c
  refine OwnFrom.and (fun s W W' row hs hg hr => ⟨hs.1, hs.2.1, ?_, Nat.le_trans hs.2.2.2 hg.size⟩) (ownFrom_below (Nat.le_refl _) (by rw [hs1]; omega))
  rw [hg.block _ (blk_lt hs.2.2.1) (fun e => by have := (hr _ e.symm).1; rw [hs1] at this; omega)]; exact hs.2.2.1
 case assign =>
  intro l x W K hK
  gi_wp2
  exact hK
 case body =>
  rintro l pre x W ⟨⟨hall, hblk, hsz⟩, hB⟩ _
  obtain ⟨b, hb⟩ := HEA.out x.1 x.2
  have cR := HCB.out x.1 b x.2 hb W hB
  have HALL := Aside0.mk hall
  have HBL := Aside0.mk hblk
  have HB := Aside0.mk hB
  have HBB := Aside0.mk hb
  clear hall hblk hB hb hbx hbw hc1 hc2
  cases b with
  | true =>
   gi_wp2_with (refine ⟨trivial, ?_⟩; gi_at_call 66; refine (CallsIn.inRound l (callsIn_wide.2 cR)).mono ?_; rintro e w1 ⟨rfl, hb1⟩; have HB1 := Aside0.mk hb1; clear hb1)
   refine ⟨KeepsOthers.of_grownBy (grown_of_below HB1.out none) (fun j o e => by cases e), HB1.out.mono hsz, ⟨fun y hy => ?_, ?_, Nat.le_trans hsz HB1.out.size⟩, below_step HB.out HB1.out⟩
   ·rcases List.mem_append.1 hy with h | h
    ·exact HALL.out y h
    ·rw [List.mem_singleton.1 h]; exact HBB.out
   ·exact (HB1.out.block _ (blk_lt HBL.out)).trans HBL.out
  | false =>
   gi_wp2_with (refine ⟨trivial, ?_⟩; gi_at_call 66; refine (CallsIn.inRound l (callsIn_wide.2 cR)).mono ?_; rintro e w1 ⟨rfl, hb1⟩; have hbl1 := (hb1.block _ (blk_lt HBL.out)).trans HBL.out; have hcz : w1.cell? ⟨w.heap.size, 0, none⟩ = some (.bool false) := (blk_cell hbl1 0).trans rfl; have hfz := blk_frozen hbl1 0; have HBL1 := Aside0.mk hbl1; have HB1 := Aside0.mk hb1; clear hb1 hbl1)
   refine ⟨(KeepsOthers.of_grownBy (grown_of_below HB1.out none) (fun j o e => by cases e)).trans (KeepsOthers.setCell _ _ _), ⟨rfl, ⟨x, by simp, HBB.out⟩, ?_, by rw [World.size_setCell]; exact Nat.le_trans hsz HB1.out.size⟩, (below_step HB.out HB1.out).setCell (p := ⟨w.heap.size, 0, none⟩) (Nat.le_refl _) _⟩
   exact blk_put (cs := #[.bool false]) HBL1.out 0 (.bool false) rfl
 case done =>
  rintro D xs W hD hxs ⟨⟨hall, hblk, hsz⟩, hB⟩ hK
  have HE : Aside0 (a = true) := ⟨HAT.out (fun j hj => by
   have hm : j ∈ xs.map (·.1) := by rw [hxs]; exact List.mem_range.2 hj
   obtain ⟨x, hx, rfl⟩ := List.mem_map.1 hm
   exact hall x hx)⟩
  have hcz : W.cell? ⟨w.heap.size, 0, none⟩ = some (.bool false) := (blk_cell hblk 0).trans rfl
  have hfz := blk_frozen hblk 0
  have HK := Aside0.mk hK
  have HBL := Aside0.mk hblk
  have HB := Aside0.mk hB
  clear hxs hall hblk hB hK hbx hbw hc1 hc2
  gi_wp2
  have hK2 := (KeepsOthers.setCell W ⟨w.heap.size, 0, none⟩ (.bool (decide ((l0.length : Int) ≤ 200)))).same D _ HK.out rfl
  have hb2 := blk_put (cs := #[.bool false]) HBL.out 0 (.bool (decide ((l0.length : Int) ≤ 200))) rfl
  have hc2 := cell_kept ((blk_cell hb2 0).trans rfl) (grownBy_putObj' _ D (.deferred none)) (fun r e => by cases e; exact ⟨_, hK2, rfl⟩)
  refine ⟨by simp, .inl ⟨_, _, rfl, run_takeDeferred hK2, ?_⟩⟩
  refine ⟨.bool (decide ((l0.length : Int) ≤ 200)), by simp [results, Tryd.results43, go_sem, hc2], by rw [HE.out, Bool.true_and]; congr 2; rw [decide_eq_decide]; omega, ?_⟩
  exact (HB.out.setCell (p := ⟨w.heap.size, 0, none⟩) (Nat.le_refl _) _).trans (belowK_b (w := w) (Nat.le_refl _) _ D _ _ (by rw [hs1] at hD; omega) hK2 rfl rfl)
 case stop =>
  rintro D c pre W hD ⟨q, hq, hpre⟩ ⟨⟨rfl, ⟨x, hx, hf⟩, hblk, hsz⟩, hB⟩ hK
  have HE : Aside0 (a = false) := ⟨HAF.out x.1 x.2 hf⟩
  gi_wp2
  have hc2 := cell_kept ((blk_cell hblk 0).trans rfl) (grownBy_putObj' _ D (.deferred none)) (fun r e => by cases e; exact ⟨_, hK, rfl⟩)
  refine ⟨by simp, .inl ⟨_, _, rfl, run_takeDeferred hK, ?_⟩⟩
  refine ⟨.bool false, by simp [results, Tryd.results43, go_sem, hc2], by rw [HE.out]; rfl, ?_⟩
  exact hB.trans (belowK_b (w := w) (Nat.le_refl _) _ D _ _ (by rw [hs1] at hD; omega) hK rfl rfl)
end Go.Proofs.YtckkdaehmccjlaaDoor.P
