/- Texts of this session put together by a program, part 1: Px51, Px52, Px53, Rep, Round, Lett, Px7, Px8, Filled, Box, Build, Say, Px9, Px54, Back, May, Px63, Letters, Fold. -/
import Derived.Test.YtckkdaehmccjlaaDoorFOm0
import Derived.Laws.CopyOwn
import Derived.StillTailTactics
import Derived.Test.YtckkdaehmccjlaaDoorWLast
import Derived.OrdersIn
import Derived.RangeFuncCalls
import Derived.TacticsIn
import Derived.RangeFuncBox
import Derived.RangeFuncNested
import Derived.Sort.LoopGhostIn
import Derived.RangeFuncWrites
import Derived.Test.YtckkdaehmccjlaaDoorProg
import Derived.Shelf.Strings.BuilderK
import Derived.RangeFuncBound
import Derived.RangeFuncLeaves
import Derived.Shelf.Abstract
import Derived.Shelf.RegionOpen
import Derived.WalkKit
import Derived.OwnWalkIn
import Derived.TacticsInMore
import Derived.LoopNIn
import Derived.LoopIn
namespace Go.Proofs.YtckkdaehmccjlaaDoor.P
open Go.RowKit Go.Proofs.YtckkdaehmccjlaaDoorW.PrintWords Go.Proofs.YtckkdaehmccjlaaDoorW.PrintLast Go.Proofs.YtckkdaehmccjlaaDoorW.PrintMore
attribute [local go_sem] max2_int min2_int max_two min_two max_three min_three max_four min_four   -- for this text's walks alone
set_option linter.unusedVariables false
set_option linter.unusedSimpArgs false
def cell_marks.l0 : Nat → ByteArray → Int → Option (Int)
 | 0, _, _ => none
 | k + 1, x0, x3 => if x0.toList = ([] : List UInt8) then (some x3) else ((utf_First.f k x0).bind fun bt128 => (if bt128.2.2 = 0 then ((utf_Width.f bt128.1).bind fun t131 => (if t131 = 0 then (if 0 ≤ bt128.2.1 then (if bt128.2.1 ≤ (x0.size : Int) then (cell_marks.l0 k (x0.extract (bt128.2.1 : Int).toNat x0.size) (wrap64 (x3 + 1))) else (none)) else (none)) else (some (-1)))) else (some (-1))))
def cell_marks.f (k : Nat) (a0 : ByteArray) : Option (Int) := cell_marks.l0 k a0 0
set_option maxHeartbeats 8000000 in
set_option maxRecDepth 100000 in
theorem cell_marks.calls (k : Nat) (a0 : ByteArray) (r : Int) (w : World) (h : cell_marks.f k a0 = some r) (hT : Tabs w := by first | exact Aside0.out (by with_reducible assumption) | exact Tabs.keepA (by with_reducible assumption) (by repeat (first | (with_reducible exact Aside0.out (by with_reducible assumption)) | (with_reducible apply below_alloc) | (with_reducible apply pw_below_drewN) | (with_reducible apply below_drew1) | (with_reducible refine below_set ?_ (Aside0.out (by with_reducible assumption)))))) :
  Calls Tryd.prog 87 #[.string a0] w fun e w' => e = .returned (.int .i64 r) ∧ Below w.heap.size w w' := by
 have HT := Aside0.mk (show Tabs w from hT)
 clear hT
 have HB := Aside0.mk (Below.refl w.heap.size w)
 have H : (cell_marks.l0 k a0 0) = some r := h
 clear h
 have H' := Aside0.mk H
 clear H
 go_enter Tryd.func87, Tryd.ntmps87
 go_wp2
 go_loopg [0, 3] k (fun kq v0 v3 w' => ∃ (x0_1 : ByteArray) (x3_1 : Int), v0 = .string x0_1 ∧ v3 = .int .i64 x3_1 ∧ Aside0 (cell_marks.l0 kq x0_1 x3_1 = some r) ∧ Aside0 (kq ≤ k) ∧ Aside0 (Below w.heap.size w w'))
 case atStart => exact ⟨(a0), (0), zf, zf, H', ⟨Nat.le_refl _⟩, ⟨zb⟩⟩
 case round =>
  clear H'
  obtain ⟨x0_1, x3_1, rfl, rfl, HA, HK1, HB⟩ := hrel
  cases gk with
  | zero => exact absurd HA.out (by simp [cell_marks.l0])
  | succ k1 =>
   have H := HA.out
   clear HA
   simp only [cell_marks.l0] at H
   by_cases c2 : x0_1.toList = ([] : List UInt8)
   ·rw [if_pos c2] at H
    have c2b0 : (x0_1.toList == ([] : List UInt8)) = true := beq_iff_eq.mpr c2
    have c2b1 : (x0_1.toList != ([] : List UInt8)) = false := bne_eq_false_iff_eq.mpr c2
    clear c2
    obtain rfl := Option.some.inj H
    go_wp2
    go_ret
    exact ⟨ze, zb⟩
   ·rw [if_neg c2] at H
    have c2b0 : (x0_1.toList == ([] : List UInt8)) = false := beq_eq_false_iff_ne.mpr c2
    have c2b1 : (x0_1.toList != ([] : List UInt8)) = true := bne_iff_ne.mpr c2
    replace H := Option.bind_eq_some_iff.mp H
    obtain ⟨⟨t128, t129, t130⟩, A30, H⟩ := H
    replace H : (if t130 = 0 then ((utf_Width.f t128).bind fun t131 => (if t131 = 0 then (if 0 ≤ t129 then (if t129 ≤ (x0_1.size : Int) then (cell_marks.l0 k1 (x0_1.extract (t129 : Int).toNat x0_1.size) (wrap64 (x3_1 + 1))) else (none)) else (none)) else (some (-1)))) else (some (-1))) = some r := H
    have A3 := Aside0.mk A30
    clear A30
    by_cases c4 : t130 = 0
    ·rw [if_pos c4] at H
     have c4b0 : (t130 == 0) = true := beq_iff_eq.mpr c4
     have c4b1 : (t130 != 0) = false := bne_eq_false_iff_eq.mpr c4
     clear c4
     replace H := Option.bind_eq_some_iff.mp H
     obtain ⟨t131, A50, H⟩ := H
     replace H : (if t131 = 0 then (if 0 ≤ t129 then (if t129 ≤ (x0_1.size : Int) then (cell_marks.l0 k1 (x0_1.extract (t129 : Int).toNat x0_1.size) (wrap64 (x3_1 + 1))) else (none)) else (none)) else (some (-1))) = some r := H
     have A5 := Aside0.mk A50
     clear A50
     by_cases c6 : t131 = 0
     ·rw [if_pos c6] at H
      have c6b0 : (t131 == 0) = true := beq_iff_eq.mpr c6
      have c6b1 : (t131 != 0) = false := bne_eq_false_iff_eq.mpr c6
      clear c6
      by_cases c7 : 0 ≤ t129
      ·rw [if_pos c7] at H
       have c7b0 := eq_true c7
       have c7b1 : decide (0 ≤ t129) = true := decide_eq_true c7
       clear c7
       by_cases c8 : t129 ≤ (x0_1.size : Int)
       ·rw [if_pos c8] at H
        have c8b0 := eq_true c8
        have c8b1 : decide (t129 ≤ (x0_1.size : Int)) = true := decide_eq_true c8
        clear c8
        have H' := Aside0.mk H
        clear H
        go_wp2_with (first | ((with_reducible refine gate_callee (f := 85) rfl ?_); refine goesL_ (some 11) rfl rfl Tryd.func85 (by kernel_rfl) rfl #[.string x0_1] rfl zl ?_; (with_reducible refine (utf_First.calls k1 x0_1 t128 t129 t130 _ A3.out).mono ?_); rintro e w9 ⟨rfl, hb⟩; refine ⟨_, rfl, ?_⟩; replace HB := (zs HB hb); (try clear hb)) | (go_at_call 86; (with_reducible refine (utf_Width.calls t128 t131 _ A5.out).mono ?_); rintro e w10 ⟨rfl, hb⟩; replace HB := (zs HB hb); (try clear hb)))
        go_roundg k1
        case measure => have := HK1.out; omega
        case rel => exact ⟨(x0_1.extract (t129 : Int).toNat x0_1.size), (wrap64 (x3_1 + 1)), zf, zf, H', ⟨by have := HK1.out; omega⟩, ⟨zb⟩⟩
       ·rw [if_neg c8] at H
        exact absurd H (by simp)
      ·rw [if_neg c7] at H
       exact absurd H (by simp)
     ·rw [if_neg c6] at H
      have c6b0 : (t131 == 0) = false := beq_eq_false_iff_ne.mpr c6
      have c6b1 : (t131 != 0) = true := bne_iff_ne.mpr c6
      obtain rfl := Option.some.inj H
      go_wp2_with (first | ((with_reducible refine gate_callee (f := 85) rfl ?_); refine goesL_ (some 11) rfl rfl Tryd.func85 (by kernel_rfl) rfl #[.string x0_1] rfl zl ?_; (with_reducible refine (utf_First.calls k1 x0_1 t128 t129 t130 _ A3.out).mono ?_); rintro e w11 ⟨rfl, hb⟩; refine ⟨_, rfl, ?_⟩; replace HB := (zs HB hb); (try clear hb)) | (go_at_call 86; (with_reducible refine (utf_Width.calls t128 t131 _ A5.out).mono ?_); rintro e w12 ⟨rfl, hb⟩; replace HB := (zs HB hb); (try clear hb)))
      go_ret
      exact ⟨ze, zb⟩
    ·rw [if_neg c4] at H
     have c4b0 : (t130 == 0) = false := beq_eq_false_iff_ne.mpr c4
     have c4b1 : (t130 != 0) = true := bne_iff_ne.mpr c4
     obtain rfl := Option.some.inj H
     go_wp2_with (first | ((with_reducible refine gate_callee (f := 85) rfl ?_); refine goesL_ (some 11) rfl rfl Tryd.func85 (by kernel_rfl) rfl #[.string x0_1] rfl zl ?_; (with_reducible refine (utf_First.calls k1 x0_1 t128 t129 t130 _ A3.out).mono ?_); rintro e w13 ⟨rfl, hb⟩; refine ⟨_, rfl, ?_⟩; replace HB := (zs HB hb); (try clear hb)))
     go_ret
     exact ⟨ze, zb⟩
def cell_Right.j0 : Nat → Int → Bool → ByteArray → Int → Int → Int → Int → Option (Bool)
 | 0, _, _, _, _, _, _, _ => none
 | k + 1, x4, x38, x133000, x133001, x133002, x133003, x133004 => if x38 = true then (some false) else ((cell_Look.f x133002 x133003 x133004).bind fun t140 => (if t140 = true then (if 0 ≤ x4 then (if x4 ≤ (x133000.size : Int) then ((cell_marks.f k (x133000.extract (x4 : Int).toNat x133000.size)).bind fun t141 => ((cell_in.f t141 0 2).bind fun t142 => (some t142))) else (none)) else (none)) else (some false)))
def cell_Right.f (k : Nat) (a0_0 : ByteArray) (a0_1 : Int) (a0_2 : Int) (a0_3 : Int) (a0_4 : Int) : Option (Bool) := if a0_0.toList = ([] : List UInt8) then ((cell_Look.f a0_2 a0_3 a0_4).bind fun t133 => (if t133 = true then ((cell_in.f a0_1 0 1).bind fun t134 => (some t134)) else (some false))) else ((utf_First.f k a0_0).bind fun bt135 => (if bt135.2.2 = 0 then ((cell_in.f a0_1 1 2).bind fun t138 => (if t138 = true then ((utf_Width.f bt135.1).bind fun t139 => (cell_Right.j0 k bt135.2.1 (t139 != a0_1) a0_0 a0_1 a0_2 a0_3 a0_4)) else (cell_Right.j0 k bt135.2.1 true a0_0 a0_1 a0_2 a0_3 a0_4))) else (cell_Right.j0 k bt135.2.1 true a0_0 a0_1 a0_2 a0_3 a0_4)))
def cell_Right.T4 : Bool × List (List Nat × List Nat) := (true, [([], []), ([0], [0]), ([1], [1]), ([2], [2]), ([3, 2], [2, 3]), ([4, 2, 2], [2, 4]), ([5, 2], [2, 5]), ([2, 6], [2, 6]), ([7, 5], [7]), ([8], [8]), ([9, 8, 8], [8, 9]), ([8], [8]), ([11, 8], [8, 11]), ([10, 12, 8], [8, 10, 12]), ([8, 13], [8, 13])])
def cell_Right.B4 : List Nat := [0, 1, 3, 7, 15, 31, 63, 127, 255, 511, 1023, 511, 2559, 8191, 16383]
theorem cell_Right.tab4 : rtab .any (opsOf Tryd.f70 4) = cell_Right.T4 := by kernel_rfl
theorem cell_Right.bits4 : waitsOk cell_Right.T4.2 cell_Right.B4 = true := by kernel_rfl
set_option maxHeartbeats 8000000 in
set_option maxRecDepth 100000 in
theorem cell_Right.calls (k : Nat) (a0_0 : ByteArray) (a0_1 : Int) (a0_2 : Int) (a0_3 : Int) (a0_4 : Int) (r : Bool) (w : World) (h : cell_Right.f k a0_0 a0_1 a0_2 a0_3 a0_4 = some r) (hT : Tabs w := by first | exact Aside0.out (by with_reducible assumption) | exact Tabs.keepA (by with_reducible assumption) (by repeat (first | (with_reducible exact Aside0.out (by with_reducible assumption)) | (with_reducible apply below_alloc) | (with_reducible apply pw_below_drewN) | (with_reducible apply below_drew1) | (with_reducible refine below_set ?_ (Aside0.out (by with_reducible assumption)))))) :
  Calls Tryd.prog 70 #[.agg #[.string a0_0, .int .i64 a0_1, .int .i64 a0_2, .int .i64 a0_3, .int .i64 a0_4]] w fun e w' => e = .returned (.bool r) ∧ Below w.heap.size w w' := by
 have HT := Aside0.mk (show Tabs w from hT)
 clear hT
 have hu60 := Tryd.underlying60
 have hu58 := Tryd.underlying58
 have HB := Aside0.mk (Below.refl w.heap.size w)
 have H : (if a0_0.toList = ([] : List UInt8) then ((cell_Look.f a0_2 a0_3 a0_4).bind fun t133 => (if t133 = true then ((cell_in.f a0_1 0 1).bind fun t134 => (some t134)) else (some false))) else ((utf_First.f k a0_0).bind fun bt135 => (if bt135.2.2 = 0 then ((cell_in.f a0_1 1 2).bind fun t138 => (if t138 = true then ((utf_Width.f bt135.1).bind fun t139 => (cell_Right.j0 k bt135.2.1 (t139 != a0_1) a0_0 a0_1 a0_2 a0_3 a0_4)) else (cell_Right.j0 k bt135.2.1 true a0_0 a0_1 a0_2 a0_3 a0_4))) else (cell_Right.j0 k bt135.2.1 true a0_0 a0_1 a0_2 a0_3 a0_4)))) = some r := h
 clear h
 by_cases c2 : a0_0.toList = ([] : List UInt8)
 ·rw [if_pos c2] at H
  have c2b0 : (a0_0.toList == ([] : List UInt8)) = true := beq_iff_eq.mpr c2
  have c2b1 : (a0_0.toList != ([] : List UInt8)) = false := bne_eq_false_iff_eq.mpr c2
  clear c2
  replace H := Option.bind_eq_some_iff.mp H
  obtain ⟨t133, A30, H⟩ := H
  replace H : (if t133 = true then ((cell_in.f a0_1 0 1).bind fun t134 => (some t134)) else (some false)) = some r := H
  have A3 := Aside0.mk A30
  clear A30
  by_cases c4 : t133 = true
  ·subst c4
   have H1 : ((cell_in.f a0_1 0 1).bind fun t134 => (some t134)) = some r := by rw [if_pos rfl] at H; exact H
   clear H
   have H := H1
   clear H1
   replace H := Option.bind_eq_some_iff.mp H
   obtain ⟨t134, A50, H⟩ := H
   replace H : (some t134) = some r := H
   have A5 := Aside0.mk A50
   clear A50
   obtain rfl := Option.some.inj H
   go_enter Tryd.func70, Tryd.ntmps70
   go_wp2_with (first | ((with_reducible refine gate_dst (N := 1) rfl ?_); refine box_event ?hg (N := 1) ?hd (cs := #[.string a0_0, .int .i64 a0_1, .int .i64 a0_2, .int .i64 a0_3, .int .i64 a0_4]) (t := 60) ?hr ?_; (case hd => rfl); (case hg => rfl); (case hr => exact zo); intro gb132 hg w6 hbox hb; have BK132 := Aside0.mk (hbox); have GW132 := Aside0.mk ((zg hg : w.heap.size ≤ gb132)); have GE132 := Aside0.mk ((zg hg : w.heap.size ≤ gb132)); replace HB := (zs HB hb); clear hb hbox hg; obtain ⟨hcz7_0, hcz7_1, hcz7_2, hcz7_3, hcz7_4, hfz7_0, hfz7_1, hfz7_2, hfz7_3, hfz7_4⟩ := zq5 (w := w6) BK132) | ((with_reducible refine gate_callee (f := 83) rfl ?_); refine goesL_ (some 11) rfl rfl Tryd.func83 (by kernel_rfl) rfl #[.agg #[.int .i64 a0_2, .int .i64 a0_3, .int .i64 a0_4]] rfl zl ?_; (with_reducible refine (cell_Look.calls a0_2 a0_3 a0_4 true _ A3.out).mono ?_); rintro e w8 ⟨rfl, hb⟩; refine ⟨_, rfl, ?_⟩; replace BK132 := (zk BK132 hb); replace HB := (zs HB hb); (try clear hb); obtain ⟨hcz9_0, hcz9_1, hcz9_2, hcz9_3, hcz9_4, hfz9_0, hfz9_1, hfz9_2, hfz9_3, hfz9_4⟩ := zq5 (w := w8) BK132) | (go_at_call 84; (with_reducible refine (cell_in.calls a0_1 0 1 t134 _ A5.out).mono ?_); rintro e w' ⟨rfl, ⟨nd, rfl⟩⟩))
   go_ret
   exact ⟨ze, zb⟩
  ·replace c4 := Bool.eq_false_iff.mpr c4
   subst c4
   have H1 : (some false) = some r := by rw [if_neg (show ¬ (false = true) by decide)] at H; exact H
   clear H
   have H := H1
   clear H1
   obtain rfl := Option.some.inj H
   go_enter Tryd.func70, Tryd.ntmps70
   go_wp2_with (first | ((with_reducible refine gate_dst (N := 1) rfl ?_); refine box_event ?hg (N := 1) ?hd (cs := #[.string a0_0, .int .i64 a0_1, .int .i64 a0_2, .int .i64 a0_3, .int .i64 a0_4]) (t := 60) ?hr ?_; (case hd => rfl); (case hg => rfl); (case hr => exact zo); intro gb132 hg w10 hbox hb; have BK132 := Aside0.mk (hbox); have GW132 := Aside0.mk ((zg hg : w.heap.size ≤ gb132)); have GE132 := Aside0.mk ((zg hg : w.heap.size ≤ gb132)); replace HB := (zs HB hb); clear hb hbox hg; obtain ⟨hcz11_0, hcz11_1, hcz11_2, hcz11_3, hcz11_4, hfz11_0, hfz11_1, hfz11_2, hfz11_3, hfz11_4⟩ := zq5 (w := w10) BK132) | ((with_reducible refine gate_callee (f := 83) rfl ?_); refine goesL_ (some 11) rfl rfl Tryd.func83 (by kernel_rfl) rfl #[.agg #[.int .i64 a0_2, .int .i64 a0_3, .int .i64 a0_4]] rfl zl ?_; (with_reducible refine (cell_Look.calls a0_2 a0_3 a0_4 false _ A3.out).mono ?_); rintro e w12 ⟨rfl, hb⟩; refine ⟨_, rfl, ?_⟩; replace BK132 := (zk BK132 hb); replace HB := (zs HB hb); (try clear hb)))
   go_ret
   exact ⟨ze, zb⟩
 ·rw [if_neg c2] at H
  have c2b0 : (a0_0.toList == ([] : List UInt8)) = false := beq_eq_false_iff_ne.mpr c2
  have c2b1 : (a0_0.toList != ([] : List UInt8)) = true := bne_iff_ne.mpr c2
  replace H := Option.bind_eq_some_iff.mp H
  obtain ⟨⟨t135, t136, t137⟩, A130, H⟩ := H
  replace H : (if t137 = 0 then ((cell_in.f a0_1 1 2).bind fun t138 => (if t138 = true then ((utf_Width.f t135).bind fun t139 => (cell_Right.j0 k t136 (t139 != a0_1) a0_0 a0_1 a0_2 a0_3 a0_4)) else (cell_Right.j0 k t136 true a0_0 a0_1 a0_2 a0_3 a0_4))) else (cell_Right.j0 k t136 true a0_0 a0_1 a0_2 a0_3 a0_4)) = some r := H
  have A13 := Aside0.mk A130
  clear A130
  have HC14 := Aside0.mk H
  clear H
  go_enter Tryd.func70, Tryd.ntmps70
  go_upto_region 4 with (first | ((with_reducible refine gate_dst (N := 1) rfl ?_); refine box_event ?hg (N := 1) ?hd (cs := #[.string a0_0, .int .i64 a0_1, .int .i64 a0_2, .int .i64 a0_3, .int .i64 a0_4]) (t := 60) ?hr ?_; (case hd => rfl); (case hg => rfl); (case hr => exact zo); intro gb132 hg w15 hbox hb; have BK132 := Aside0.mk (hbox); have GW132 := Aside0.mk ((zg hg : w.heap.size ≤ gb132)); have GE132 := Aside0.mk ((zg hg : w.heap.size ≤ gb132)); replace HB := (zs HB hb); clear hb hbox hg; obtain ⟨hcz16_0, hcz16_1, hcz16_2, hcz16_3, hcz16_4, hfz16_0, hfz16_1, hfz16_2, hfz16_3, hfz16_4⟩ := zq5 (w := w15) BK132) | ((with_reducible refine gate_callee (f := 85) rfl ?_); refine goesL_ (some 20) rfl rfl Tryd.func85 (by kernel_rfl) rfl #[.string a0_0] rfl zl ?_; (with_reducible refine (utf_First.calls k a0_0 t135 t136 t137 _ A13.out).mono ?_); rintro e w17 ⟨rfl, hb⟩; refine ⟨_, rfl, ?_⟩; replace BK132 := (zk BK132 hb); replace HB := (zs HB hb); (try clear hb)))
  (try simp only [Act.put, List.setIfInBounds_toArray, List.set_cons_zero, List.set_cons_succ])
  go_cut [38] (fun v38 wc => ∃ (kq : Nat) (x38_13 : Bool), v38 = .bool x38_13 ∧ Aside0 (cell_Right.j0 kq t136 x38_13 a0_0 a0_1 a0_2 a0_3 a0_4 = some r) ∧ Aside0 (kq ≤ k) ∧ Aside0 (wc.heap[gb132]? = some (.cells #[.string a0_0, .int .i64 a0_1, .int .i64 a0_2, .int .i64 a0_3, .int .i64 a0_4] 60 (0, 0))) ∧ Aside0 (Below w.heap.size w wc))
  case first =>
   have H := HC14.out
   clear HC14
   by_cases c18 : t137 = 0
   ·rw [if_pos c18] at H
    have c18b0 : (t137 == 0) = true := beq_iff_eq.mpr c18
    have c18b1 : (t137 != 0) = false := bne_eq_false_iff_eq.mpr c18
    clear c18
    (first | rw [c18b0] | (simp only [i64_w, i32_w]; rw [c18b0]) | skip)
    replace H := Option.bind_eq_some_iff.mp H
    obtain ⟨t138, A190, H⟩ := H
    replace H : (if t138 = true then ((utf_Width.f t135).bind fun t139 => (cell_Right.j0 k t136 (t139 != a0_1) a0_0 a0_1 a0_2 a0_3 a0_4)) else (cell_Right.j0 k t136 true a0_0 a0_1 a0_2 a0_3 a0_4)) = some r := H
    have A19 := Aside0.mk A190
    clear A190
    by_cases c20 : t138 = true
    ·subst c20
     have H1 : ((utf_Width.f t135).bind fun t139 => (cell_Right.j0 k t136 (t139 != a0_1) a0_0 a0_1 a0_2 a0_3 a0_4)) = some r := by rw [if_pos rfl] at H; exact H
     clear H
     have H := H1
     clear H1
     replace H := Option.bind_eq_some_iff.mp H
     obtain ⟨t139, A210, H⟩ := H
     replace H : (cell_Right.j0 k t136 (t139 != a0_1) a0_0 a0_1 a0_2 a0_3 a0_4) = some r := H
     have A21 := Aside0.mk A210
     clear A210
     have H' := Aside0.mk H
     clear H
     try go_wp2
     have n0_ := Aside0.mk (blk_drew BK132.out)
     have n1_ := Aside0.mk (below_drew1 HB.out)
     clear BK132
     clear HB
     have BK132 := n0_
     have HB := n1_
     clear n0_ n1_
     refine start_ (n := 15) (S := fun w' => w'.cell? ⟨gb132, 0, none⟩ = some (.string a0_0) ∧ w'.cell? ⟨gb132, 1, none⟩ = some (.int .i64 a0_1) ∧ w'.cell? ⟨gb132, 2, none⟩ = some (.int .i64 a0_2) ∧ w'.cell? ⟨gb132, 3, none⟩ = some (.int .i64 a0_3) ∧ w'.cell? ⟨gb132, 4, none⟩ = some (.int .i64 a0_4)) (ds := []) #[false, false, false, false, false, false, false, false, false, false, false, false, false, false, false] (by kernel_rfl) rfl rfl ⟨(blk_cell BK132.out 0).trans rfl, (blk_cell BK132.out 1).trans rfl, (blk_cell BK132.out 2).trans rfl, (blk_cell BK132.out 3).trans rfl, (blk_cell BK132.out 4).trans rfl⟩ (fun hHeld => ?_); refine with_tabW cell_Right.tab4 cell_Right.bits4 (fun HT_ HW_ => ?_)
     generalize w17.drew = w22 at BK132 HB hHeld ⊢
     refine pure_ (i := 0) (N := some 24) (v := ?_) (a' := ?_) #[true, false, false, false, false, false, false, false, false, false, false, false, false, false, false] rfl rfl (any_of HT_.out (by kernel_rfl)) (fun _ _ _ h => h) (Or.inl ⟨by rfl, ?_⟩) ?_ ?_
     rotate_left
     ·intro w'
      go_simp
      with_reducible rfl
     rotate_left
     ·exact zr
     refine pure_ (i := 1) (N := some 25) (v := ?_) (a' := ?_) #[true, true, false, false, false, false, false, false, false, false, false, false, false, false, false] rfl rfl (any_of HT_.out (by kernel_rfl)) (fun _ _ _ h => h) (Or.inl ⟨by rfl, ?_⟩) ?_ ?_
     rotate_left
     ·intro w'
      go_simp
      with_reducible rfl
     rotate_left
     ·exact zr
     refine pure_ (i := 2) (N := some 26) (v := ?_) (a' := ?_) #[true, true, true, false, false, false, false, false, false, false, false, false, false, false, false] rfl rfl (any_of HT_.out (by kernel_rfl)) (fun _ _ _ h => h) (Or.inl ⟨by rfl, ?_⟩) ?_ ?_
     rotate_left
     ·intro w'
      go_simp
      with_reducible rfl
     rotate_left
     ·exact zr
     refine pure_ (i := 3) (N := some 27) (v := ?_) (a' := ?_) #[true, true, true, true, false, false, false, false, false, false, false, false, false, false, false] rfl rfl (any_of HT_.out (by kernel_rfl)) (fun _ _ _ h => h) (Or.inl ⟨by rfl, ?_⟩) ?_ ?_
     rotate_left
     ·intro w'
      go_simp
      with_reducible rfl
     rotate_left
     ·exact zr
     refine take_ (i := 4) (N := some 28) (v := ?_) (a' := ?_) #[true, true, true, true, true, false, false, false, false, false, false, false, false, false, false] rfl rfl (take_ofW HT_.out HW_.out (by kernel_rfl)) (fun _ _ _ h => h) (Or.inl ⟨by rfl, ?_⟩) hHeld ?_ ?_
     rotate_left
     ·rintro w' ⟨s0, s1, s2, s3, s4⟩
      go_simp
      with_reducible rfl
     rotate_left
     ·exact zr
     refine one_ (i := 5) (N := some 29) #[true, true, true, true, true, true, false, false, false, false, false, false, false, false, false] rfl rfl (one_of HT_.out (by kernel_rfl)) (by decide) (fun K hK => ?_)
     refine goes_ Tryd.func84 (by kernel_rfl) rfl #[.int .i64 a0_1, .int .i64 1, .int .i64 2] (by rfl) rfl rfl zl ?_
     with_reducible refine (cell_in.calls a0_1 1 2 true _ A19.out).mono ?_
     rintro e w' ⟨rfl, ⟨nd, rfl⟩⟩
     refine ⟨_, rfl, ?_⟩
     refine hK.out _ _ ⟨(blk_cell BK132.out 0).trans rfl, (blk_cell BK132.out 1).trans rfl, (blk_cell BK132.out 2).trans rfl, (blk_cell BK132.out 3).trans rfl, (blk_cell BK132.out 4).trans rfl⟩ (fun hHeld => ?_)
     clear hK K
     refine norm_ (a' := ?_) ?_ ?_
     rotate_left
     ·show Act.put _ (some 29) _ = _
      simp only [Act.put, List.setIfInBounds_toArray, List.set_cons_zero, List.set_cons_succ, i64_w, i32_w]
      rfl
     refine pure_ (i := 6) (N := some 30) (v := ?_) (a' := ?_) #[true, true, true, true, true, true, true, false, false, false, false, false, false, false, false] rfl rfl (any_of HT_.out (by kernel_rfl)) (fun _ _ _ h => h) (Or.inl ⟨by rfl, ?_⟩) ?_ ?_
     rotate_left
     ·intro w'
      go_simp
      with_reducible rfl
     rotate_left
     ·exact zr
     refine pure_ (i := 7) (N := some 31) (v := ?_) (a' := ?_) #[true, true, true, true, true, true, true, true, false, false, false, false, false, false, false] rfl rfl (any_of HT_.out (by kernel_rfl)) (fun _ _ _ h => h) (Or.inl ⟨by rfl, ?_⟩) ?_ ?_
     rotate_left
     ·intro w'
      go_simp
      with_reducible rfl
     rotate_left
     ·exact zr
     refine pure_ (i := 8) (N := some 32) (v := ?_) (a' := ?_) #[true, true, true, true, true, true, true, true, true, false, false, false, false, false, false] rfl rfl (any_of HT_.out (by kernel_rfl)) (fun _ _ _ h => h) (Or.inl ⟨by rfl, ?_⟩) ?_ ?_
     rotate_left
     ·intro w'
      go_simp
      with_reducible rfl
     rotate_left
     ·exact zr
     refine pure_ (i := 9) (N := some 33) (v := ?_) (a' := ?_) #[true, true, true, true, true, true, true, true, true, true, false, false, false, false, false] rfl rfl (any_of HT_.out (by kernel_rfl)) (fun _ _ _ h => h) (Or.inl ⟨by rfl, ?_⟩) ?_ ?_
     rotate_left
     ·intro w'
      go_simp
      with_reducible rfl
     rotate_left
     ·exact zr
     refine pure_ (i := 11) (N := some 35) (v := ?_) (a' := ?_) #[true, true, true, true, true, true, true, true, true, true, false, true, false, false, false] rfl rfl (any_of HT_.out (by kernel_rfl)) (fun _ _ _ h => h) (Or.inl ⟨by rfl, ?_⟩) ?_ ?_
     rotate_left
     ·intro w'
      go_simp
      with_reducible rfl
     rotate_left
     ·exact zr
     refine take_ (i := 12) (N := some 36) (v := ?_) (a' := ?_) #[true, true, true, true, true, true, true, true, true, true, false, true, true, false, false] rfl rfl (take_ofW HT_.out HW_.out (by kernel_rfl)) (fun _ _ _ h => h) (Or.inl ⟨by rfl, ?_⟩) hHeld ?_ ?_
     rotate_left
     ·rintro w' ⟨s0, s1, s2, s3, s4⟩
      go_simp
      with_reducible rfl
     rotate_left
     ·exact zr
     refine one_ (i := 10) (N := some 34) #[true, true, true, true, true, true, true, true, true, true, true, true, true, false, false] rfl rfl (one_of HT_.out (by kernel_rfl)) (by decide) (fun K hK => ?_)
     refine goes_ Tryd.func86 (by kernel_rfl) rfl #[.int .i32 t135] (by rfl) rfl rfl zl ?_
     with_reducible refine (utf_Width.calls t135 t139 _ A21.out).mono ?_
     rintro e w23 ⟨rfl, hb⟩
     refine ⟨_, rfl, ?_⟩
     have n0_ := (zk BK132 hb)
     have n1_ := (zs HB hb)
     clear BK132
     clear HB
     have BK132 := n0_
     have HB := n1_
     clear n0_ n1_
     (try clear hb)
     (try clear hb2)
     (try clear hk)
     (try clear hi)
     refine hK.out _ _ ⟨(blk_cell BK132.out 0).trans rfl, (blk_cell BK132.out 1).trans rfl, (blk_cell BK132.out 2).trans rfl, (blk_cell BK132.out 3).trans rfl, (blk_cell BK132.out 4).trans rfl⟩ (fun hHeld => ?_)
     clear hK K
     refine norm_ (a' := ?_) ?_ ?_
     rotate_left
     ·show Act.put _ (some 34) _ = _
      simp only [Act.put, List.setIfInBounds_toArray, List.set_cons_zero, List.set_cons_succ, i64_w, i32_w]
      rfl
     refine pure_ (i := 13) (N := some 37) (v := ?_) (a' := ?_) #[true, true, true, true, true, true, true, true, true, true, true, true, true, true, false] rfl rfl (any_of HT_.out (by kernel_rfl)) (fun _ _ _ h => h) (Or.inl ⟨by rfl, ?_⟩) ?_ ?_
     rotate_left
     ·intro w'
      go_simp
      with_reducible rfl
     rotate_left
     ·exact zr
     refine pure_ (i := 14) (N := some 38) (v := ?_) (a' := ?_) #[true, true, true, true, true, true, true, true, true, true, true, true, true, true, true] rfl rfl (any_of HT_.out (by kernel_rfl)) (fun _ _ _ h => h) (Or.inl ⟨by rfl, ?_⟩) ?_ ?_
     rotate_left
     ·intro w'
      go_simp
      with_reducible rfl
     rotate_left
     ·exact zr
     refine done_ (done_of HT_.out (by kernel_rfl)) ?_
     try go_wp2
     go_meet
     case rel => exact ⟨_, ((t139 != a0_1)), zf, H', ⟨by first | omega | exact Nat.le_refl _⟩, ⟨by exact BK132.out⟩, ⟨zb⟩⟩
    ·replace c20 := Bool.eq_false_iff.mpr c20
     subst c20
     have H1 : (cell_Right.j0 k t136 true a0_0 a0_1 a0_2 a0_3 a0_4) = some r := by rw [if_neg (show ¬ (false = true) by decide)] at H; exact H
     clear H
     have H := H1
     clear H1
     have H' := Aside0.mk H
     clear H
     try go_wp2
     have n0_ := Aside0.mk (blk_drew BK132.out)
     have n1_ := Aside0.mk (below_drew1 HB.out)
     clear BK132
     clear HB
     have BK132 := n0_
     have HB := n1_
     clear n0_ n1_
     refine start_ (n := 15) (S := fun w' => w'.cell? ⟨gb132, 0, none⟩ = some (.string a0_0) ∧ w'.cell? ⟨gb132, 1, none⟩ = some (.int .i64 a0_1) ∧ w'.cell? ⟨gb132, 2, none⟩ = some (.int .i64 a0_2) ∧ w'.cell? ⟨gb132, 3, none⟩ = some (.int .i64 a0_3) ∧ w'.cell? ⟨gb132, 4, none⟩ = some (.int .i64 a0_4)) (ds := []) #[false, false, false, false, false, false, false, false, false, false, false, false, false, false, false] (by kernel_rfl) rfl rfl ⟨(blk_cell BK132.out 0).trans rfl, (blk_cell BK132.out 1).trans rfl, (blk_cell BK132.out 2).trans rfl, (blk_cell BK132.out 3).trans rfl, (blk_cell BK132.out 4).trans rfl⟩ (fun hHeld => ?_); refine with_tabW cell_Right.tab4 cell_Right.bits4 (fun HT_ HW_ => ?_)
     generalize w17.drew = w24 at BK132 HB hHeld ⊢
     refine pure_ (i := 0) (N := some 24) (v := ?_) (a' := ?_) #[true, false, false, false, false, false, false, false, false, false, false, false, false, false, false] rfl rfl (any_of HT_.out (by kernel_rfl)) (fun _ _ _ h => h) (Or.inl ⟨by rfl, ?_⟩) ?_ ?_
     rotate_left
     ·intro w'
      go_simp
      with_reducible rfl
     rotate_left
     ·exact zr
     refine pure_ (i := 1) (N := some 25) (v := ?_) (a' := ?_) #[true, true, false, false, false, false, false, false, false, false, false, false, false, false, false] rfl rfl (any_of HT_.out (by kernel_rfl)) (fun _ _ _ h => h) (Or.inl ⟨by rfl, ?_⟩) ?_ ?_
     rotate_left
     ·intro w'
      go_simp
      with_reducible rfl
     rotate_left
     ·exact zr
     refine pure_ (i := 2) (N := some 26) (v := ?_) (a' := ?_) #[true, true, true, false, false, false, false, false, false, false, false, false, false, false, false] rfl rfl (any_of HT_.out (by kernel_rfl)) (fun _ _ _ h => h) (Or.inl ⟨by rfl, ?_⟩) ?_ ?_
     rotate_left
     ·intro w'
      go_simp
      with_reducible rfl
     rotate_left
     ·exact zr
     refine pure_ (i := 3) (N := some 27) (v := ?_) (a' := ?_) #[true, true, true, true, false, false, false, false, false, false, false, false, false, false, false] rfl rfl (any_of HT_.out (by kernel_rfl)) (fun _ _ _ h => h) (Or.inl ⟨by rfl, ?_⟩) ?_ ?_
     rotate_left
     ·intro w'
      go_simp
      with_reducible rfl
     rotate_left
     ·exact zr
     refine take_ (i := 4) (N := some 28) (v := ?_) (a' := ?_) #[true, true, true, true, true, false, false, false, false, false, false, false, false, false, false] rfl rfl (take_ofW HT_.out HW_.out (by kernel_rfl)) (fun _ _ _ h => h) (Or.inl ⟨by rfl, ?_⟩) hHeld ?_ ?_
     rotate_left
     ·rintro w' ⟨s0, s1, s2, s3, s4⟩
      go_simp
      with_reducible rfl
     rotate_left
     ·exact zr
     refine one_ (i := 5) (N := some 29) #[true, true, true, true, true, true, false, false, false, false, false, false, false, false, false] rfl rfl (one_of HT_.out (by kernel_rfl)) (by decide) (fun K hK => ?_)
     refine goes_ Tryd.func84 (by kernel_rfl) rfl #[.int .i64 a0_1, .int .i64 1, .int .i64 2] (by rfl) rfl rfl zl ?_
     with_reducible refine (cell_in.calls a0_1 1 2 false _ A19.out).mono ?_
     rintro e w' ⟨rfl, ⟨nd, rfl⟩⟩
     refine ⟨_, rfl, ?_⟩
     refine hK.out _ _ ⟨(blk_cell BK132.out 0).trans rfl, (blk_cell BK132.out 1).trans rfl, (blk_cell BK132.out 2).trans rfl, (blk_cell BK132.out 3).trans rfl, (blk_cell BK132.out 4).trans rfl⟩ (fun hHeld => ?_)
     clear hK K
     refine norm_ (a' := ?_) ?_ ?_
     rotate_left
     ·show Act.put _ (some 29) _ = _
      simp only [Act.put, List.setIfInBounds_toArray, List.set_cons_zero, List.set_cons_succ, i64_w, i32_w]
      rfl
     refine pure_ (i := 6) (N := some 30) (v := ?_) (a' := ?_) #[true, true, true, true, true, true, true, false, false, false, false, false, false, false, false] rfl rfl (any_of HT_.out (by kernel_rfl)) (fun _ _ _ h => h) (Or.inl ⟨by rfl, ?_⟩) ?_ ?_
     rotate_left
     ·intro w'
      go_simp
      with_reducible rfl
     rotate_left
     ·exact zr
     refine pure_ (i := 7) (N := some 31) (v := ?_) (a' := ?_) #[true, true, true, true, true, true, true, true, false, false, false, false, false, false, false] rfl rfl (any_of HT_.out (by kernel_rfl)) (fun _ _ _ h => h) (Or.inl ⟨by rfl, ?_⟩) ?_ ?_
     rotate_left
     ·intro w'
      go_simp
      with_reducible rfl
     rotate_left
     ·exact zr
     refine pure_ (i := 8) (N := some 32) (v := ?_) (a' := ?_) #[true, true, true, true, true, true, true, true, true, false, false, false, false, false, false] rfl rfl (any_of HT_.out (by kernel_rfl)) (fun _ _ _ h => h) (Or.inl ⟨by rfl, ?_⟩) ?_ ?_
     rotate_left
     ·intro w'
      go_simp
      with_reducible rfl
     rotate_left
     ·exact zr
     refine pure_ (i := 9) (N := some 33) (v := undef) (a' := ?_) #[true, true, true, true, true, true, true, true, true, true, false, false, false, false, false] rfl rfl (any_of HT_.out (by kernel_rfl)) (fun _ _ _ h => h) (Or.inr ⟨by rfl, rfl⟩) ?_ ?_
     rotate_left
     ·exact zr
     refine pure_ (i := 10) (N := some 34) (v := undef) (a' := ?_) #[true, true, true, true, true, true, true, true, true, true, true, false, false, false, false] rfl rfl (any_of HT_.out (by kernel_rfl)) (fun _ _ _ h => h) (Or.inr ⟨by rfl, rfl⟩) ?_ ?_
     rotate_left
     ·exact zr
     refine pure_ (i := 11) (N := some 35) (v := undef) (a' := ?_) #[true, true, true, true, true, true, true, true, true, true, true, true, false, false, false] rfl rfl (any_of HT_.out (by kernel_rfl)) (fun _ _ _ h => h) (Or.inr ⟨by rfl, rfl⟩) ?_ ?_
     rotate_left
     ·exact zr
     refine pure_ (i := 12) (N := some 36) (v := undef) (a' := ?_) #[true, true, true, true, true, true, true, true, true, true, true, true, true, false, false] rfl rfl (any_of HT_.out (by kernel_rfl)) (fun _ _ _ h => h) (Or.inr ⟨by rfl, rfl⟩) ?_ ?_
     rotate_left
     ·exact zr
     refine pure_ (i := 13) (N := some 37) (v := undef) (a' := ?_) #[true, true, true, true, true, true, true, true, true, true, true, true, true, true, false] rfl rfl (any_of HT_.out (by kernel_rfl)) (fun _ _ _ h => h) (Or.inr ⟨by rfl, rfl⟩) ?_ ?_
     rotate_left
     ·exact zr
     refine pure_ (i := 14) (N := some 38) (v := ?_) (a' := ?_) #[true, true, true, true, true, true, true, true, true, true, true, true, true, true, true] rfl rfl (any_of HT_.out (by kernel_rfl)) (fun _ _ _ h => h) (Or.inl ⟨by rfl, ?_⟩) ?_ ?_
     rotate_left
     ·intro w'
      go_simp
      with_reducible rfl
     rotate_left
     ·exact zr
     refine done_ (done_of HT_.out (by kernel_rfl)) ?_
     try go_wp2
     go_meet
     case rel => exact ⟨_, (true), zf, H', ⟨by first | omega | exact Nat.le_refl _⟩, ⟨by exact BK132.out⟩, ⟨zb⟩⟩
   ·rw [if_neg c18] at H
    have c18b0 : (t137 == 0) = false := beq_eq_false_iff_ne.mpr c18
    have c18b1 : (t137 != 0) = true := bne_iff_ne.mpr c18
    (first | rw [c18b0] | (simp only [i64_w, i32_w]; rw [c18b0]) | skip)
    have H' := Aside0.mk H
    clear H
    try go_wp2
    have n0_ := Aside0.mk (blk_drew BK132.out)
    have n1_ := Aside0.mk (below_drew1 HB.out)
    clear BK132
    clear HB
    have BK132 := n0_
    have HB := n1_
    clear n0_ n1_
    refine start_ (n := 15) (S := fun w' => True) (ds := []) #[false, false, false, false, false, false, false, false, false, false, false, false, false, false, false] (by kernel_rfl) rfl rfl trivial (fun hHeld => ?_); refine with_tabW cell_Right.tab4 cell_Right.bits4 (fun HT_ HW_ => ?_)
    generalize w17.drew = w25 at BK132 HB hHeld ⊢
    refine pure_ (i := 0) (N := some 24) (v := ?_) (a' := ?_) #[true, false, false, false, false, false, false, false, false, false, false, false, false, false, false] rfl rfl (any_of HT_.out (by kernel_rfl)) (fun _ _ _ h => h) (Or.inl ⟨by rfl, ?_⟩) ?_ ?_
    rotate_left
    ·intro w'
     go_simp
     with_reducible rfl
    rotate_left
    ·exact zr
    refine pure_ (i := 1) (N := some 25) (v := ?_) (a' := ?_) #[true, true, false, false, false, false, false, false, false, false, false, false, false, false, false] rfl rfl (any_of HT_.out (by kernel_rfl)) (fun _ _ _ h => h) (Or.inl ⟨by rfl, ?_⟩) ?_ ?_
    rotate_left
    ·intro w'
     go_simp
     with_reducible rfl
    rotate_left
    ·exact zr
    refine pure_ (i := 2) (N := some 26) (v := ?_) (a' := ?_) #[true, true, true, false, false, false, false, false, false, false, false, false, false, false, false] rfl rfl (any_of HT_.out (by kernel_rfl)) (fun _ _ _ h => h) (Or.inl ⟨by rfl, ?_⟩) ?_ ?_
    rotate_left
    ·intro w'
     go_simp
     with_reducible rfl
    rotate_left
    ·exact zr
    refine pure_ (i := 3) (N := some 27) (v := undef) (a' := ?_) #[true, true, true, true, false, false, false, false, false, false, false, false, false, false, false] rfl rfl (any_of HT_.out (by kernel_rfl)) (fun _ _ _ h => h) (Or.inr ⟨by rfl, rfl⟩) ?_ ?_
    rotate_left
    ·exact zr
    refine pure_ (i := 4) (N := some 28) (v := undef) (a' := ?_) #[true, true, true, true, true, false, false, false, false, false, false, false, false, false, false] rfl rfl (any_of HT_.out (by kernel_rfl)) (fun _ _ _ h => h) (Or.inr ⟨by rfl, rfl⟩) ?_ ?_
    rotate_left
    ·exact zr
    refine pure_ (i := 5) (N := some 29) (v := undef) (a' := ?_) #[true, true, true, true, true, true, false, false, false, false, false, false, false, false, false] rfl rfl (any_of HT_.out (by kernel_rfl)) (fun _ _ _ h => h) (Or.inr ⟨by rfl, rfl⟩) ?_ ?_
    rotate_left
    ·exact zr
    refine pure_ (i := 6) (N := some 30) (v := undef) (a' := ?_) #[true, true, true, true, true, true, true, false, false, false, false, false, false, false, false] rfl rfl (any_of HT_.out (by kernel_rfl)) (fun _ _ _ h => h) (Or.inr ⟨by rfl, rfl⟩) ?_ ?_
    rotate_left
    ·exact zr
    refine pure_ (i := 7) (N := some 31) (v := ?_) (a' := ?_) #[true, true, true, true, true, true, true, true, false, false, false, false, false, false, false] rfl rfl (any_of HT_.out (by kernel_rfl)) (fun _ _ _ h => h) (Or.inl ⟨by rfl, ?_⟩) ?_ ?_
    rotate_left
    ·intro w'
     go_simp
     with_reducible rfl
    rotate_left
    ·exact zr
    refine pure_ (i := 8) (N := some 32) (v := ?_) (a' := ?_) #[true, true, true, true, true, true, true, true, true, false, false, false, false, false, false] rfl rfl (any_of HT_.out (by kernel_rfl)) (fun _ _ _ h => h) (Or.inl ⟨by rfl, ?_⟩) ?_ ?_
    rotate_left
    ·intro w'
     go_simp
     with_reducible rfl
    rotate_left
    ·exact zr
    refine pure_ (i := 9) (N := some 33) (v := undef) (a' := ?_) #[true, true, true, true, true, true, true, true, true, true, false, false, false, false, false] rfl rfl (any_of HT_.out (by kernel_rfl)) (fun _ _ _ h => h) (Or.inr ⟨by rfl, rfl⟩) ?_ ?_
    rotate_left
    ·exact zr
    refine pure_ (i := 10) (N := some 34) (v := undef) (a' := ?_) #[true, true, true, true, true, true, true, true, true, true, true, false, false, false, false] rfl rfl (any_of HT_.out (by kernel_rfl)) (fun _ _ _ h => h) (Or.inr ⟨by rfl, rfl⟩) ?_ ?_
    rotate_left
    ·exact zr
    refine pure_ (i := 11) (N := some 35) (v := undef) (a' := ?_) #[true, true, true, true, true, true, true, true, true, true, true, true, false, false, false] rfl rfl (any_of HT_.out (by kernel_rfl)) (fun _ _ _ h => h) (Or.inr ⟨by rfl, rfl⟩) ?_ ?_
    rotate_left
    ·exact zr
    refine pure_ (i := 12) (N := some 36) (v := undef) (a' := ?_) #[true, true, true, true, true, true, true, true, true, true, true, true, true, false, false] rfl rfl (any_of HT_.out (by kernel_rfl)) (fun _ _ _ h => h) (Or.inr ⟨by rfl, rfl⟩) ?_ ?_
    rotate_left
    ·exact zr
    refine pure_ (i := 13) (N := some 37) (v := undef) (a' := ?_) #[true, true, true, true, true, true, true, true, true, true, true, true, true, true, false] rfl rfl (any_of HT_.out (by kernel_rfl)) (fun _ _ _ h => h) (Or.inr ⟨by rfl, rfl⟩) ?_ ?_
    rotate_left
    ·exact zr
    refine pure_ (i := 14) (N := some 38) (v := ?_) (a' := ?_) #[true, true, true, true, true, true, true, true, true, true, true, true, true, true, true] rfl rfl (any_of HT_.out (by kernel_rfl)) (fun _ _ _ h => h) (Or.inl ⟨by rfl, ?_⟩) ?_ ?_
    rotate_left
    ·intro w'
     go_simp
     with_reducible rfl
    rotate_left
    ·exact zr
    refine done_ (done_of HT_.out (by kernel_rfl)) ?_
    try go_wp2
    go_meet
    case rel => exact ⟨_, (true), zf, H', ⟨by first | omega | exact Nat.le_refl _⟩, ⟨by exact BK132.out⟩, ⟨zb⟩⟩
  case rest =>
   clear HC14
   try clear c2
   try clear c2b0
   try clear c2b1
   try clear hcz16_0
   try clear hcz16_1
   try clear hcz16_2
   try clear hcz16_3
   try clear hcz16_4
   try clear hfz16_0
   try clear hfz16_1
   try clear hfz16_2
   try clear hfz16_3
   try clear hfz16_4
   obtain ⟨kq, x38_13, rfl, HA, HJ13, BK132, HB⟩ := hcut
   cases kq with
   | zero => exact absurd HA.out (by simp [cell_Right.j0])
   | succ kj13 =>
    have H := HA.out
    clear HA
    simp only [cell_Right.j0] at H
    by_cases c26 : x38_13 = true
    ·subst c26
     have H1 : (some false) = some r := by rw [if_pos rfl] at H; exact H
     clear H
     have H := H1
     clear H1
     obtain rfl := Option.some.inj H
     go_wp2
     go_ret
     exact ⟨ze, zb⟩
    ·replace c26 := Bool.eq_false_iff.mpr c26
     subst c26
     have H1 : ((cell_Look.f a0_2 a0_3 a0_4).bind fun t140 => (if t140 = true then (if 0 ≤ t136 then (if t136 ≤ (a0_0.size : Int) then ((cell_marks.f kj13 (a0_0.extract (t136 : Int).toNat a0_0.size)).bind fun t141 => ((cell_in.f t141 0 2).bind fun t142 => (some t142))) else (none)) else (none)) else (some false))) = some r := by rw [if_neg (show ¬ (false = true) by decide)] at H; exact H
     clear H
     have H := H1
     clear H1
     replace H := Option.bind_eq_some_iff.mp H
     obtain ⟨t140, A270, H⟩ := H
     replace H : (if t140 = true then (if 0 ≤ t136 then (if t136 ≤ (a0_0.size : Int) then ((cell_marks.f kj13 (a0_0.extract (t136 : Int).toNat a0_0.size)).bind fun t141 => ((cell_in.f t141 0 2).bind fun t142 => (some t142))) else (none)) else (none)) else (some false)) = some r := H
     have A27 := Aside0.mk A270
     clear A270
     by_cases c28 : t140 = true
     ·subst c28
      have H1 : (if 0 ≤ t136 then (if t136 ≤ (a0_0.size : Int) then ((cell_marks.f kj13 (a0_0.extract (t136 : Int).toNat a0_0.size)).bind fun t141 => ((cell_in.f t141 0 2).bind fun t142 => (some t142))) else (none)) else (none)) = some r := by rw [if_pos rfl] at H; exact H
      clear H
      have H := H1
      clear H1
      by_cases c29 : 0 ≤ t136
      ·rw [if_pos c29] at H
       have c29b0 := eq_true c29
       have c29b1 : decide (0 ≤ t136) = true := decide_eq_true c29
       clear c29
       by_cases c30 : t136 ≤ (a0_0.size : Int)
       ·rw [if_pos c30] at H
        have c30b0 := eq_true c30
        have c30b1 : decide (t136 ≤ (a0_0.size : Int)) = true := decide_eq_true c30
        clear c30
        replace H := Option.bind_eq_some_iff.mp H
        obtain ⟨t141, A310, H⟩ := H
        replace H : ((cell_in.f t141 0 2).bind fun t142 => (some t142)) = some r := H
        have A31 := Aside0.mk A310
        clear A310
        replace H := Option.bind_eq_some_iff.mp H
        obtain ⟨t142, A320, H⟩ := H
        replace H : (some t142) = some r := H
        have A32 := Aside0.mk A320
        clear A320
        obtain rfl := Option.some.inj H
        obtain ⟨hcz33_0, hcz33_1, hcz33_2, hcz33_3, hcz33_4, hfz33_0, hfz33_1, hfz33_2, hfz33_3, hfz33_4⟩ := zq5 (w := wc) BK132
        go_wp2_with (first | ((with_reducible refine gate_callee (f := 83) rfl ?_); refine goesL_ (some 41) rfl rfl Tryd.func83 (by kernel_rfl) rfl #[.agg #[.int .i64 a0_2, .int .i64 a0_3, .int .i64 a0_4]] rfl zl ?_; (with_reducible refine (cell_Look.calls a0_2 a0_3 a0_4 true _ A27.out).mono ?_); rintro e w34 ⟨rfl, hb⟩; refine ⟨_, rfl, ?_⟩; replace BK132 := (zk BK132 hb); replace HB := (zs HB hb); (try clear hb); obtain ⟨hcz35_0, hcz35_1, hcz35_2, hcz35_3, hcz35_4, hfz35_0, hfz35_1, hfz35_2, hfz35_3, hfz35_4⟩ := zq5 (w := w34) BK132) | (go_at_call 87; (with_reducible refine (cell_marks.calls kj13 (a0_0.extract (t136 : Int).toNat a0_0.size) t141 _ A31.out).mono ?_); rintro e w36 ⟨rfl, hb⟩; replace BK132 := (zk BK132 hb); replace HB := (zs HB hb); (try clear hb)) | (go_at_call 84; (with_reducible refine (cell_in.calls t141 0 2 t142 _ A32.out).mono ?_); rintro e w' ⟨rfl, ⟨nd, rfl⟩⟩))
        go_ret
        exact ⟨ze, zb⟩
       ·rw [if_neg c30] at H
        exact absurd H (by simp)
      ·rw [if_neg c29] at H
       exact absurd H (by simp)
     ·replace c28 := Bool.eq_false_iff.mpr c28
      subst c28
      have H1 : (some false) = some r := by rw [if_neg (show ¬ (false = true) by decide)] at H; exact H
      clear H
      have H := H1
      clear H1
      obtain rfl := Option.some.inj H
      obtain ⟨hcz37_0, hcz37_1, hcz37_2, hcz37_3, hcz37_4, hfz37_0, hfz37_1, hfz37_2, hfz37_3, hfz37_4⟩ := zq5 (w := wc) BK132
      go_wp2_with (first | ((with_reducible refine gate_callee (f := 83) rfl ?_); refine goesL_ (some 41) rfl rfl Tryd.func83 (by kernel_rfl) rfl #[.agg #[.int .i64 a0_2, .int .i64 a0_3, .int .i64 a0_4]] rfl zl ?_; (with_reducible refine (cell_Look.calls a0_2 a0_3 a0_4 false _ A27.out).mono ?_); rintro e w38 ⟨rfl, hb⟩; refine ⟨_, rfl, ?_⟩; replace BK132 := (zk BK132 hb); replace HB := (zs HB hb); (try clear hb)))
      go_ret
      exact ⟨ze, zb⟩
def grid_Fits.l0 : Nat → Int → List (S60) → Int → Int → List (S60) → Bool → Option (Bool)
 | 0, _, _, _, _, _, _ => none
 | k + 1, x1, x8, x9, x10, x147000, x147001 => if x10 < x9 then (if 0 ≤ x10 then (if x10 < (x8.length : Int) then ((cell_Right.f k ((rd_T60 x8 x10).f0) ((rd_T60 x8 x10).f1) ((rd_T60 x8 x10).f2.f0) ((rd_T60 x8 x10).f2.f1) ((rd_T60 x8 x10).f2.f2)).bind fun t149 => (if t149 = true then ((grid_whole.f x147000 x10).bind fun t150 => (if t150 = true then (grid_Fits.l0 k x1 x8 x9 (wrap64 (x10 + 1)) x147000 x147001) else (some false))) else (some false))) else (none)) else (none)) else (some ((x147000.length : Int) == x1))
def grid_Fits.f (k : Nat) (l0_0 : List (S60)) (a0_1 : Bool) (a1 : Int) : Option (Bool) := grid_Fits.l0 k a1 l0_0 (l0_0.length : Int) 0 l0_0 a0_1
set_option maxHeartbeats 8000000 in
set_option maxRecDepth 100000 in
theorem grid_Fits.calls (k : Nat) (A0_0 : Option Addr) (c0_0 : Nat) (l0_0 : List (S60)) (a0_1 : Bool) (a1 : Int) (r : Bool) (w : World) (hr0_0 : Kd.C k60 w A0_0 l0_0.length l0_0) (hc0_0 : l0_0.length ≤ c0_0) (h : grid_Fits.f k l0_0 a0_1 a1 = some r) (hT : Tabs w := by first | exact Aside0.out (by with_reducible assumption) | exact Tabs.keepA (by with_reducible assumption) (by repeat (first | (with_reducible exact Aside0.out (by with_reducible assumption)) | (with_reducible apply below_alloc) | (with_reducible apply pw_below_drewN) | (with_reducible apply below_drew1) | (with_reducible refine below_set ?_ (Aside0.out (by with_reducible assumption)))))) :
  Calls Tryd.prog 51 #[.agg #[.slice A0_0 l0_0.length c0_0, .bool a0_1], .int .i64 a1] w fun e w' => e = .returned (.bool r) ∧ Below w.heap.size w w' := by
 have HT := Aside0.mk (show Tabs w from hT)
 clear hT
 have hu38 := Tryd.underlying38
 have hu60 := Tryd.underlying60
 have HR0_0 := Aside0.mk hr0_0
 have HC0_0 := Aside0.mk hc0_0
 clear hr0_0 hc0_0
 have HB := Aside0.mk (Below.refl w.heap.size w)
 have H : (grid_Fits.l0 k a1 l0_0 (l0_0.length : Int) 0 l0_0 a0_1) = some r := h
 clear h
 have H' := Aside0.mk H
 clear H
 go_enter Tryd.func51, Tryd.ntmps51
 go_wp2_with (first | ((with_reducible refine gate_dst (N := 2) rfl ?_); refine box_event ?hg (N := 2) ?hd (cs := #[.slice A0_0 l0_0.length c0_0, .bool a0_1]) (t := 38) ?hr ?_; (case hd => rfl); (case hg => rfl); (case hr => exact zo); intro gb146 hg w3 hbox hb; have BK146 := Aside0.mk (hbox); have GW146 := Aside0.mk ((zg hg : w.heap.size ≤ gb146)); have GE146 := Aside0.mk ((zg hg : w.heap.size ≤ gb146)); replace HB := (zs HB hb); clear hb hbox hg; obtain ⟨hcz4_0, hcz4_1, hfz4_0, hfz4_1⟩ := zq2 (w := w3) BK146))
 go_loopg [10] k (fun kq v10 w' => ∃ (x10_1 : Int), v10 = .int .i64 x10_1 ∧ Aside0 (grid_Fits.l0 kq a1 l0_0 (l0_0.length : Int) x10_1 l0_0 a0_1 = some r) ∧ Aside0 (kq ≤ k) ∧ Aside0 (w'.heap[gb146]? = some (.cells #[(.slice A0_0 l0_0.length c0_0), .bool a0_1] 38 (0, 0))) ∧ Aside0 (Below w.heap.size w w'))
 case atStart => exact ⟨(0), zf, H', ⟨Nat.le_refl _⟩, ⟨by exact BK146.out⟩, ⟨zb⟩⟩
 case round =>
  clear H'
  try clear hcz4_0
  try clear hcz4_1
  try clear hfz4_0
  try clear hfz4_1
  obtain ⟨x10_1, rfl, HA, HK1, BK146, HB⟩ := hrel
  cases gk with
  | zero => exact absurd HA.out (by simp [grid_Fits.l0])
  | succ k1 =>
   have H := HA.out
   clear HA
   simp only [grid_Fits.l0] at H
   by_cases c5 : x10_1 < (l0_0.length : Int)
   ·rw [if_pos c5] at H
    have c5b0 : decide (x10_1 < (l0_0.length : Int)) = true := decide_eq_true c5
    clear c5
    by_cases c6 : 0 ≤ x10_1
    ·rw [if_pos c6] at H
     have c6b0 : decide (0 ≤ x10_1) = true := decide_eq_true c6
     clear c6
     by_cases c7 : x10_1 < (l0_0.length : Int)
     ·rw [if_pos c7] at H
      have c7b0 : decide (x10_1 < (l0_0.length : Int)) = true := decide_eq_true c7
      clear c7
      replace H := Option.bind_eq_some_iff.mp H
      obtain ⟨t149, A80, H⟩ := H
      replace H : (if t149 = true then ((grid_whole.f l0_0 x10_1).bind fun t150 => (if t150 = true then (grid_Fits.l0 k1 a1 l0_0 (l0_0.length : Int) (wrap64 (x10_1 + 1)) l0_0 a0_1) else (some false))) else (some false)) = some r := H
      have A8 := Aside0.mk A80
      clear A80
      by_cases c9 : t149 = true
      ·subst c9
       have H1 : ((grid_whole.f l0_0 x10_1).bind fun t150 => (if t150 = true then (grid_Fits.l0 k1 a1 l0_0 (l0_0.length : Int) (wrap64 (x10_1 + 1)) l0_0 a0_1) else (some false))) = some r := by rw [if_pos rfl] at H; exact H
       clear H
       have H := H1
       clear H1
       replace H := Option.bind_eq_some_iff.mp H
       obtain ⟨t150, A100, H⟩ := H
       replace H : (if t150 = true then (grid_Fits.l0 k1 a1 l0_0 (l0_0.length : Int) (wrap64 (x10_1 + 1)) l0_0 a0_1) else (some false)) = some r := H
       have A10 := Aside0.mk A100
       clear A100
       by_cases c11 : t150 = true
       ·subst c11
        have H1 : (grid_Fits.l0 k1 a1 l0_0 (l0_0.length : Int) (wrap64 (x10_1 + 1)) l0_0 a0_1) = some r := by rw [if_pos rfl] at H; exact H
        clear H
        have H := H1
        clear H1
        have H' := Aside0.mk H
        clear H
        have p147 : 0 ≤ (x10_1 : Int) := of_decide_eq_true za
        have q147 : x10_1 < (l0_0.length : Int) := of_decide_eq_true za
        obtain ⟨ad147, e147, hx147_0, hx147_1, hx147_2, hx147_3, hx147_4⟩ := at_T60 HR0_0.out x10_1 p147 q147
        cases e147
        replace hx147_0 := zc HB hx147_0
        replace hx147_1 := zc HB hx147_1
        replace hx147_2 := zc HB hx147_2
        replace hx147_3 := zc HB hx147_3
        replace hx147_4 := zc HB hx147_4
        replace p147 := eq_true p147
        replace q147 := eq_true q147
        go_wp2_with (first | ((with_reducible refine gate_dst (N := 6) rfl ?_); refine box_event ?hg (N := 6) ?hd (cs := #[.string (⟨#[]⟩ : ByteArray), .int .i64 0, .int .i64 0, .int .i64 0, .int .i64 0]) (t := 60) ?hr ?_; (case hd => rfl); (case hg => rfl); (case hr => exact zo); intro gb148 hg w12 hbox hb; have n0_ := (zk BK146 hb); have n1_ := (zs HB hb); have n2_ := Aside0.mk (hbox); have n3_ := Aside0.mk ((zg hg : w.heap.size ≤ gb148)); have n4_ := Aside0.mk ((zg hg : w.heap.size ≤ gb148)); have n5_ := Aside0.mk ((by rw [hg]; exact Nat.ne_of_lt (blk_lt (g := gb146) (o := .cells #[.slice (some ad147) l0_0.length c0_0, .bool a0_1] 38 (0, 0)) (by exact BK146.out)) : gb146 ≠ gb148)); have n6_ := Aside0.mk ((by rw [hg]; exact Nat.ne_of_gt (blk_lt (g := gb146) (o := .cells #[.slice (some ad147) l0_0.length c0_0, .bool a0_1] 38 (0, 0)) (by exact BK146.out)) : gb148 ≠ gb146)); clear BK146; clear HB; have BK146 := n0_; have HB := n1_; have BK148 := n2_; have GW148 := n3_; have GE148 := n4_; have NB146_148 := n5_; have NB148_146 := n6_; clear n0_ n1_ n2_ n3_ n4_ n5_ n6_; clear hb hbox hg; have hnb13 := NB148_146.out; have hnc13 := NB146_148.out; obtain ⟨hcz14_0, hcz14_1, hcz14_2, hcz14_3, hcz14_4, hfz14_0, hfz14_1, hfz14_2, hfz14_3, hfz14_4⟩ := zq5 (w := w12) BK148) | ((with_reducible refine gate_callee (f := 70) rfl ?_); refine goesL_ (some 16) rfl rfl Tryd.func70 (by kernel_rfl) rfl #[.agg #[.string ((rd_T60 l0_0 x10_1).f0), .int .i64 ((rd_T60 l0_0 x10_1).f1), .int .i64 ((rd_T60 l0_0 x10_1).f2.f0), .int .i64 ((rd_T60 l0_0 x10_1).f2.f1), .int .i64 ((rd_T60 l0_0 x10_1).f2.f2)]] rfl zl ?_; (with_reducible refine (cell_Right.calls k1 ((rd_T60 l0_0 x10_1).f0) ((rd_T60 l0_0 x10_1).f1) ((rd_T60 l0_0 x10_1).f2.f0) ((rd_T60 l0_0 x10_1).f2.f1) ((rd_T60 l0_0 x10_1).f2.f2) true _ A8.out).mono ?_); rintro e w15 ⟨rfl, hb⟩; refine ⟨_, rfl, ?_⟩; replace BK146 := Aside0.mk (blk_below (g := gb146) (o := .cells #[.slice (some ad147) l0_0.length c0_0, .bool a0_1] 38 (0, 0)) (by refine blk_far ?_ NB146_148.out _; refine blk_far ?_ NB146_148.out _; refine blk_far ?_ NB146_148.out _; refine blk_far ?_ NB146_148.out _; refine blk_far ?_ NB146_148.out _; exact BK146.out) hb); replace BK148 := Aside0.mk (blk_below (g := gb148) (o := .cells #[.string ((rd_T60 l0_0 x10_1).f0), .int .i64 ((rd_T60 l0_0 x10_1).f1), .int .i64 ((rd_T60 l0_0 x10_1).f2.f0), .int .i64 ((rd_T60 l0_0 x10_1).f2.f1), .int .i64 ((rd_T60 l0_0 x10_1).f2.f2)] 60 (0, 0)) (by refine blk_put (cs := #[.string ((rd_T60 l0_0 x10_1).f0), .int .i64 ((rd_T60 l0_0 x10_1).f1), .int .i64 ((rd_T60 l0_0 x10_1).f2.f0), .int .i64 ((rd_T60 l0_0 x10_1).f2.f1), .int .i64 0]) ?_ 4 _ rfl; refine blk_put (cs := #[.string ((rd_T60 l0_0 x10_1).f0), .int .i64 ((rd_T60 l0_0 x10_1).f1), .int .i64 ((rd_T60 l0_0 x10_1).f2.f0), .int .i64 0, .int .i64 0]) ?_ 3 _ rfl; refine blk_put (cs := #[.string ((rd_T60 l0_0 x10_1).f0), .int .i64 ((rd_T60 l0_0 x10_1).f1), .int .i64 0, .int .i64 0, .int .i64 0]) ?_ 2 _ rfl; refine blk_put (cs := #[.string ((rd_T60 l0_0 x10_1).f0), .int .i64 0, .int .i64 0, .int .i64 0, .int .i64 0]) ?_ 1 _ rfl; refine blk_put (cs := #[.string (⟨#[]⟩ : ByteArray), .int .i64 0, .int .i64 0, .int .i64 0, .int .i64 0]) ?_ 0 _ rfl; exact BK148.out) hb); replace HB := (zs HB hb); (try clear hb); obtain ⟨hcz16_0, hcz16_1, hfz16_0, hfz16_1⟩ := zq2 (w := w15) BK146) | (go_at_call 71; (with_reducible refine (grid_whole.calls _ _ l0_0 x10_1 true _ ?side1 ?side2 A10.out).mono ?_); (case side1 => repeat (first | exact (Kd.C_below HR0_0.out HB.out) | (with_reducible refine Kd.C_alloc ?_ _) | (with_reducible refine Kd.C_drewN ?_ _) | (with_reducible refine Kd.C_drew ?_))); (case side2 => exact HC0_0.out); rintro e w' ⟨rfl, ⟨nd, rfl⟩⟩))
        go_roundg k1
        case measure => have := HK1.out; omega
        case rel => exact ⟨(wrap64 (x10_1 + 1)), zf, H', ⟨by have := HK1.out; omega⟩, ⟨by exact BK146.out⟩, ⟨zb⟩⟩
       ·replace c11 := Bool.eq_false_iff.mpr c11
        subst c11
        have H1 : (some false) = some r := by rw [if_neg (show ¬ (false = true) by decide)] at H; exact H
        clear H
        have H := H1
        clear H1
        obtain rfl := Option.some.inj H
        have p147 : 0 ≤ (x10_1 : Int) := of_decide_eq_true za
        have q147 : x10_1 < (l0_0.length : Int) := of_decide_eq_true za
        obtain ⟨ad147, e147, hx147_0, hx147_1, hx147_2, hx147_3, hx147_4⟩ := at_T60 HR0_0.out x10_1 p147 q147
        cases e147
        replace hx147_0 := zc HB hx147_0
        replace hx147_1 := zc HB hx147_1
        replace hx147_2 := zc HB hx147_2
        replace hx147_3 := zc HB hx147_3
        replace hx147_4 := zc HB hx147_4
        replace p147 := eq_true p147
        replace q147 := eq_true q147
        go_wp2_with (first | ((with_reducible refine gate_dst (N := 6) rfl ?_); refine box_event ?hg (N := 6) ?hd (cs := #[.string (⟨#[]⟩ : ByteArray), .int .i64 0, .int .i64 0, .int .i64 0, .int .i64 0]) (t := 60) ?hr ?_; (case hd => rfl); (case hg => rfl); (case hr => exact zo); intro gb148 hg w17 hbox hb; have n0_ := (zk BK146 hb); have n1_ := (zs HB hb); have n2_ := Aside0.mk (hbox); have n3_ := Aside0.mk ((zg hg : w.heap.size ≤ gb148)); have n4_ := Aside0.mk ((zg hg : w.heap.size ≤ gb148)); have n5_ := Aside0.mk ((by rw [hg]; exact Nat.ne_of_lt (blk_lt (g := gb146) (o := .cells #[.slice (some ad147) l0_0.length c0_0, .bool a0_1] 38 (0, 0)) (by exact BK146.out)) : gb146 ≠ gb148)); have n6_ := Aside0.mk ((by rw [hg]; exact Nat.ne_of_gt (blk_lt (g := gb146) (o := .cells #[.slice (some ad147) l0_0.length c0_0, .bool a0_1] 38 (0, 0)) (by exact BK146.out)) : gb148 ≠ gb146)); clear BK146; clear HB; have BK146 := n0_; have HB := n1_; have BK148 := n2_; have GW148 := n3_; have GE148 := n4_; have NB146_148 := n5_; have NB148_146 := n6_; clear n0_ n1_ n2_ n3_ n4_ n5_ n6_; clear hb hbox hg; have hnb18 := NB148_146.out; have hnc18 := NB146_148.out; obtain ⟨hcz19_0, hcz19_1, hcz19_2, hcz19_3, hcz19_4, hfz19_0, hfz19_1, hfz19_2, hfz19_3, hfz19_4⟩ := zq5 (w := w17) BK148) | ((with_reducible refine gate_callee (f := 70) rfl ?_); refine goesL_ (some 16) rfl rfl Tryd.func70 (by kernel_rfl) rfl #[.agg #[.string ((rd_T60 l0_0 x10_1).f0), .int .i64 ((rd_T60 l0_0 x10_1).f1), .int .i64 ((rd_T60 l0_0 x10_1).f2.f0), .int .i64 ((rd_T60 l0_0 x10_1).f2.f1), .int .i64 ((rd_T60 l0_0 x10_1).f2.f2)]] rfl zl ?_; (with_reducible refine (cell_Right.calls k1 ((rd_T60 l0_0 x10_1).f0) ((rd_T60 l0_0 x10_1).f1) ((rd_T60 l0_0 x10_1).f2.f0) ((rd_T60 l0_0 x10_1).f2.f1) ((rd_T60 l0_0 x10_1).f2.f2) true _ A8.out).mono ?_); rintro e w20 ⟨rfl, hb⟩; refine ⟨_, rfl, ?_⟩; replace BK146 := Aside0.mk (blk_below (g := gb146) (o := .cells #[.slice (some ad147) l0_0.length c0_0, .bool a0_1] 38 (0, 0)) (by refine blk_far ?_ NB146_148.out _; refine blk_far ?_ NB146_148.out _; refine blk_far ?_ NB146_148.out _; refine blk_far ?_ NB146_148.out _; refine blk_far ?_ NB146_148.out _; exact BK146.out) hb); replace BK148 := Aside0.mk (blk_below (g := gb148) (o := .cells #[.string ((rd_T60 l0_0 x10_1).f0), .int .i64 ((rd_T60 l0_0 x10_1).f1), .int .i64 ((rd_T60 l0_0 x10_1).f2.f0), .int .i64 ((rd_T60 l0_0 x10_1).f2.f1), .int .i64 ((rd_T60 l0_0 x10_1).f2.f2)] 60 (0, 0)) (by refine blk_put (cs := #[.string ((rd_T60 l0_0 x10_1).f0), .int .i64 ((rd_T60 l0_0 x10_1).f1), .int .i64 ((rd_T60 l0_0 x10_1).f2.f0), .int .i64 ((rd_T60 l0_0 x10_1).f2.f1), .int .i64 0]) ?_ 4 _ rfl; refine blk_put (cs := #[.string ((rd_T60 l0_0 x10_1).f0), .int .i64 ((rd_T60 l0_0 x10_1).f1), .int .i64 ((rd_T60 l0_0 x10_1).f2.f0), .int .i64 0, .int .i64 0]) ?_ 3 _ rfl; refine blk_put (cs := #[.string ((rd_T60 l0_0 x10_1).f0), .int .i64 ((rd_T60 l0_0 x10_1).f1), .int .i64 0, .int .i64 0, .int .i64 0]) ?_ 2 _ rfl; refine blk_put (cs := #[.string ((rd_T60 l0_0 x10_1).f0), .int .i64 0, .int .i64 0, .int .i64 0, .int .i64 0]) ?_ 1 _ rfl; refine blk_put (cs := #[.string (⟨#[]⟩ : ByteArray), .int .i64 0, .int .i64 0, .int .i64 0, .int .i64 0]) ?_ 0 _ rfl; exact BK148.out) hb); replace HB := (zs HB hb); (try clear hb); obtain ⟨hcz21_0, hcz21_1, hfz21_0, hfz21_1⟩ := zq2 (w := w20) BK146) | (go_at_call 71; (with_reducible refine (grid_whole.calls _ _ l0_0 x10_1 false _ ?side1 ?side2 A10.out).mono ?_); (case side1 => repeat (first | exact (Kd.C_below HR0_0.out HB.out) | (with_reducible refine Kd.C_alloc ?_ _) | (with_reducible refine Kd.C_drewN ?_ _) | (with_reducible refine Kd.C_drew ?_))); (case side2 => exact HC0_0.out); rintro e w' ⟨rfl, ⟨nd, rfl⟩⟩))
        go_ret
        exact ⟨ze, zb⟩
      ·replace c9 := Bool.eq_false_iff.mpr c9
       subst c9
       have H1 : (some false) = some r := by rw [if_neg (show ¬ (false = true) by decide)] at H; exact H
       clear H
       have H := H1
       clear H1
       obtain rfl := Option.some.inj H
       have p147 : 0 ≤ (x10_1 : Int) := of_decide_eq_true za
       have q147 : x10_1 < (l0_0.length : Int) := of_decide_eq_true za
       obtain ⟨ad147, e147, hx147_0, hx147_1, hx147_2, hx147_3, hx147_4⟩ := at_T60 HR0_0.out x10_1 p147 q147
       cases e147
       replace hx147_0 := zc HB hx147_0
       replace hx147_1 := zc HB hx147_1
       replace hx147_2 := zc HB hx147_2
       replace hx147_3 := zc HB hx147_3
       replace hx147_4 := zc HB hx147_4
       replace p147 := eq_true p147
       replace q147 := eq_true q147
       go_wp2_with (first | ((with_reducible refine gate_dst (N := 6) rfl ?_); refine box_event ?hg (N := 6) ?hd (cs := #[.string (⟨#[]⟩ : ByteArray), .int .i64 0, .int .i64 0, .int .i64 0, .int .i64 0]) (t := 60) ?hr ?_; (case hd => rfl); (case hg => rfl); (case hr => exact zo); intro gb148 hg w22 hbox hb; have n0_ := (zk BK146 hb); have n1_ := (zs HB hb); have n2_ := Aside0.mk (hbox); have n3_ := Aside0.mk ((zg hg : w.heap.size ≤ gb148)); have n4_ := Aside0.mk ((zg hg : w.heap.size ≤ gb148)); have n5_ := Aside0.mk ((by rw [hg]; exact Nat.ne_of_lt (blk_lt (g := gb146) (o := .cells #[.slice (some ad147) l0_0.length c0_0, .bool a0_1] 38 (0, 0)) (by exact BK146.out)) : gb146 ≠ gb148)); have n6_ := Aside0.mk ((by rw [hg]; exact Nat.ne_of_gt (blk_lt (g := gb146) (o := .cells #[.slice (some ad147) l0_0.length c0_0, .bool a0_1] 38 (0, 0)) (by exact BK146.out)) : gb148 ≠ gb146)); clear BK146; clear HB; have BK146 := n0_; have HB := n1_; have BK148 := n2_; have GW148 := n3_; have GE148 := n4_; have NB146_148 := n5_; have NB148_146 := n6_; clear n0_ n1_ n2_ n3_ n4_ n5_ n6_; clear hb hbox hg; have hnb23 := NB148_146.out; have hnc23 := NB146_148.out; obtain ⟨hcz24_0, hcz24_1, hcz24_2, hcz24_3, hcz24_4, hfz24_0, hfz24_1, hfz24_2, hfz24_3, hfz24_4⟩ := zq5 (w := w22) BK148) | ((with_reducible refine gate_callee (f := 70) rfl ?_); refine goesL_ (some 16) rfl rfl Tryd.func70 (by kernel_rfl) rfl #[.agg #[.string ((rd_T60 l0_0 x10_1).f0), .int .i64 ((rd_T60 l0_0 x10_1).f1), .int .i64 ((rd_T60 l0_0 x10_1).f2.f0), .int .i64 ((rd_T60 l0_0 x10_1).f2.f1), .int .i64 ((rd_T60 l0_0 x10_1).f2.f2)]] rfl zl ?_; (with_reducible refine (cell_Right.calls k1 ((rd_T60 l0_0 x10_1).f0) ((rd_T60 l0_0 x10_1).f1) ((rd_T60 l0_0 x10_1).f2.f0) ((rd_T60 l0_0 x10_1).f2.f1) ((rd_T60 l0_0 x10_1).f2.f2) false _ A8.out).mono ?_); rintro e w25 ⟨rfl, hb⟩; refine ⟨_, rfl, ?_⟩; replace BK146 := Aside0.mk (blk_below (g := gb146) (o := .cells #[.slice (some ad147) l0_0.length c0_0, .bool a0_1] 38 (0, 0)) (by refine blk_far ?_ NB146_148.out _; refine blk_far ?_ NB146_148.out _; refine blk_far ?_ NB146_148.out _; refine blk_far ?_ NB146_148.out _; refine blk_far ?_ NB146_148.out _; exact BK146.out) hb); replace BK148 := Aside0.mk (blk_below (g := gb148) (o := .cells #[.string ((rd_T60 l0_0 x10_1).f0), .int .i64 ((rd_T60 l0_0 x10_1).f1), .int .i64 ((rd_T60 l0_0 x10_1).f2.f0), .int .i64 ((rd_T60 l0_0 x10_1).f2.f1), .int .i64 ((rd_T60 l0_0 x10_1).f2.f2)] 60 (0, 0)) (by refine blk_put (cs := #[.string ((rd_T60 l0_0 x10_1).f0), .int .i64 ((rd_T60 l0_0 x10_1).f1), .int .i64 ((rd_T60 l0_0 x10_1).f2.f0), .int .i64 ((rd_T60 l0_0 x10_1).f2.f1), .int .i64 0]) ?_ 4 _ rfl; refine blk_put (cs := #[.string ((rd_T60 l0_0 x10_1).f0), .int .i64 ((rd_T60 l0_0 x10_1).f1), .int .i64 ((rd_T60 l0_0 x10_1).f2.f0), .int .i64 0, .int .i64 0]) ?_ 3 _ rfl; refine blk_put (cs := #[.string ((rd_T60 l0_0 x10_1).f0), .int .i64 ((rd_T60 l0_0 x10_1).f1), .int .i64 0, .int .i64 0, .int .i64 0]) ?_ 2 _ rfl; refine blk_put (cs := #[.string ((rd_T60 l0_0 x10_1).f0), .int .i64 0, .int .i64 0, .int .i64 0, .int .i64 0]) ?_ 1 _ rfl; refine blk_put (cs := #[.string (⟨#[]⟩ : ByteArray), .int .i64 0, .int .i64 0, .int .i64 0, .int .i64 0]) ?_ 0 _ rfl; exact BK148.out) hb); replace HB := (zs HB hb); (try clear hb)))
       go_ret
       exact ⟨ze, zb⟩
     ·rw [if_neg c7] at H
      exact absurd H (by simp)
    ·rw [if_neg c6] at H
     exact absurd H (by simp)
   ·rw [if_neg c5] at H
    have c5b0 : decide (x10_1 < (l0_0.length : Int)) = false := decide_eq_false c5
    clear c5
    obtain rfl := Option.some.inj H
    obtain ⟨hcz26_0, hcz26_1, hfz26_0, hfz26_1⟩ := zq2 (w := wr) BK146
    go_wp2
    go_ret
    exact ⟨ze, zb⟩
end Go.Proofs.YtckkdaehmccjlaaDoor.P
namespace Go.Proofs.YtckkdaehmccjlaaDoor.P
open Go.RowKit Go.Proofs.YtckkdaehmccjlaaDoorW.PrintWords Go.Proofs.YtckkdaehmccjlaaDoorW.PrintLast Go.Proofs.YtckkdaehmccjlaaDoorW.PrintMore
set_option linter.unusedVariables false
set_option linter.unusedSimpArgs false
theorem run_copy_rows {P : Program} (w : World) (dT sT ty elem : TypeId) (size g o dLen dCap : Nat) (a : Addr) (sLen sCap : Nat) (cur : Array Value) (t : TypeId) (cs : List Value)
  (hu : P.underlying dT = some (.slice elem)) (hs : (P.info? elem).map (·.size) = some size)
  (hg : w.heap[g]? = some (.cells cur t (0, 0))) (hn : cs.length = Nat.min sLen dLen * size)
  (hsrc : ∀ j v, cs[j]? = some v → w.cell? (a.add j) = some v) (hfit : o + cs.length ≤ cur.size) (h1 : ∀ v ∈ cs, v.oneCell' = true) :
  (Builtin.copy_ #[dT, sT] ty #[.slice (some ⟨g, o, none⟩) dLen dCap, .slice (some a) sLen sCap]).run P w =
   .ok (goInt (Nat.min sLen dLen)) (w.setRow g (cur.toList.take o ++ cs ++ cur.toList.drop (o + cs.length)).toArray) := by
 have hl := run_loadCells_list (P := P) w a cs hsrc
 have hst := run_storeCells_at P g o t cs 0 cur w hg (by simpa using hfit) h1
 cases hq : P.info? elem with
 | none => simp [hq] at hs
 | some i =>
  have hi : i.size = size := by simpa [hq] using hs
  simp [Builtin.copy_, run_underlying hu, Builtin.lenOf, Builtin.firstCells, sizeOf, typeInfo, hq, hi, ← hn, hl, hst]
theorem wpList_copy_rows {P : Program} {w : World} {ops : Array Oper} {rest : List Oper} {o : Oper} {a : Act} {Q : Exit → Act → World → Prop} (hgd : o.guard = none) (d s : Operand) (dT sT : TypeId)
  (ho : o.op = .call { callee := .builtin .copy, args := #[d, s], argTypes := #[dT, sT] }) (elem : TypeId) (size : Nat) (hu : P.underlying dT = some (.slice elem)) (hsz : (P.info? elem).map (·.size) = some size)
  (g off dLen dCap : Nat) (ad : Addr) (sLen sCap : Nat) (hd : a.eval d = .slice (some ⟨g, off, none⟩) dLen dCap) (hs : a.eval s = .slice (some ad) sLen sCap)
  (cur : Array Value) (t : TypeId) (hg : w.heap[g]? = some (.cells cur t (0, 0))) (cs : List Value) (hn : cs.length = Nat.min sLen dLen * size)
  (hsrc : ∀ j v, cs[j]? = some v → w.cell? (ad.add j) = some v) (hfit : off + cs.length ≤ cur.size) (h1 : ∀ v ∈ cs, v.oneCell' = true)
  (h : wpList P ops Q rest (a.put o.dst (goInt (Nat.min sLen dLen))) (w.setRow g (cur.toList.take off ++ cs ++ cur.toList.drop (off + cs.length)).toArray)) : wpList P ops Q (o :: rest) a w := by
 refine wpList_plain hgd fun K hK => ?_
 have hrun := run_copy_rows (P := P) w dT sT o.type elem size g off dLen dCap ad sLen sCap cur t cs hu hsz hg hn hsrc hfit h1
 unfold Oper.wp
 simp only [execOp, ho, resolve, invoke, builtin]
 simp [hd, hs, builtin, hrun, Result.andThen]
 rw [List.append_assoc] at h
 exact hK _ _ h
def blankCells : List Value := [.string ⟨#[]⟩, .int .i64 1, .int .i64 0, .int .i64 0, .int .i64 0]
def blanks (n : Nat) : List Value := (List.replicate n blankCells).flatten
theorem blanks_length (n : Nat) : (blanks n).length = 5 * n := by unfold blanks; simp [blankCells]; omega
theorem blanks_add (a b : Nat) : blanks (a + b) = blanks a ++ blanks b := by unfold blanks; rw [← List.replicate_append_replicate, List.flatten_append]
theorem blanks_one (n : Nat) : ∀ v ∈ blanks n, v.oneCell' = true := by
 intro v hv
 unfold blanks at hv
 obtain ⟨l, hl, hv⟩ := List.mem_flatten.1 hv
 rw [List.eq_of_mem_replicate hl] at hv
 unfold blankCells at hv
 simp only [List.mem_cons, List.not_mem_nil, or_false] at hv
 rcases hv with rfl | rfl | rfl | rfl | rfl <;> rfl
theorem Tryd.cellSize : (Tryd.prog.info? 60).map (·.size) = some 5 := by kernel_rfl
theorem clip_calls (A : Option Addr) (n c : Nat) (hc : n ≤ c) (hm : c ≤ 9223372036854775807) (w : World) :
  Calls Tryd.prog 88 #[.slice A n c] w fun e w' => e = .returned (.slice A n n) ∧ w' = w := by
 go_enter Tryd.func88, Tryd.ntmps88
 go_wp2
 go_ret
 exact ⟨rfl, rfl⟩
def zerosC (n : Nat) : List Value := (List.replicate n ([.string ⟨#[]⟩, .int .i64 0, .int .i64 0, .int .i64 0, .int .i64 0] : List Value)).flatten
theorem zerosC_length (n : Nat) : (zerosC n).length = 5 * n := by unfold zerosC; simp; omega
theorem zerosC_drop (a b : Nat) : (zerosC (a + b)).drop (5 * a) = zerosC b := by
 unfold zerosC
 rw [← List.replicate_append_replicate, List.flatten_append]
 exact List.drop_left' (by have := zerosC_length a; unfold zerosC at this; exact this)
def repRow (m n : Nat) : List Value := blanks n ++ zerosC (m - n)
theorem repRow_length {m n : Nat} (h : n ≤ m) : (repRow m n).length = 5 * m := by unfold repRow; rw [List.length_append, blanks_length, zerosC_length]; omega
theorem repRow_step {m n k : Nat} (h : n + k ≤ m) : (repRow m n).take (5 * n) ++ blanks k ++ (repRow m n).drop (5 * n + (blanks k).length) = repRow m (n + k) := by
 unfold repRow
 rw [List.take_left' (blanks_length n), blanks_add, List.drop_append, List.drop_of_length_le (by rw [blanks_length, blanks_length]; omega), List.nil_append, blanks_length, blanks_length]
 rw [show 5 * n + 5 * k - 5 * n = 5 * k by omega, show m - n = k + (m - (n + k)) by omega, zerosC_drop]
theorem made_zeros (m : Nat) : (madeCells (Value.agg #[.string ⟨#[]⟩, .int .i64 0, .int .i64 0, .int .i64 0, .int .i64 0]).cells (m * 5)).toList = zerosC m := by
 have hz : (Value.agg #[.string ⟨#[]⟩, .int .i64 0, .int .i64 0, .int .i64 0, .int .i64 0]).cells = #[.string ⟨#[]⟩, .int .i64 0, .int .i64 0, .int .i64 0, .int .i64 0] := by rfl
 rw [hz]
 unfold madeCells
 rw [Array.toList_map, Array.toList_range]
 induction m with
 | zero => rfl
 | succ m ih =>
  rw [Nat.succ_mul, List.range_add, List.map_append, ih, List.map_map]
  unfold zerosC
  rw [List.replicate_succ', List.flatten_append]
  congr 1
  show (List.range 5).map _ = _
  have e : ∀ i, (m * 5 + i) % 5 = i % 5 := fun i => by rw [Nat.add_comm, Nat.add_mul_mod_self_right]
  simp only [Function.comp_def, List.size_toArray, List.length_cons, List.length_nil, Nat.zero_add, Nat.reduceAdd, e]
  rfl
theorem made_heap {w : World} {base g m : Nat} (h : w.ownsRow base 60 5 (.slice (some ⟨g, 0, none⟩) m m) m (madeCells (Value.agg #[.string ⟨#[]⟩, .int .i64 0, .int .i64 0, .int .i64 0, .int .i64 0]).cells (m * 5)).toList) : w.heap[g]? = some (.cells (repRow m 0).toArray 60 (0, 0)) := by
 rcases h.2 with ⟨h1, _⟩ | ⟨g', cap, cur, h1, _, h2, _, _, h3, h4⟩
 ·cases h1
 ·injection h1 with a1 _ a3
  injection a1 with a1
  injection a1 with a1
  subst a1
  subst a3
  rw [List.take_of_length_le (by rw [Array.length_toList]; omega), made_zeros] at h4
  have e : repRow m 0 = zerosC m := by unfold repRow blanks; simp
  rw [h2, e, ← h4]
theorem rep_set {w0 w : World} {g m n k off : Nat} (hg : w.heap[g]? = some (.cells (repRow m n).toArray 60 (0, 0))) (h : n + k ≤ m) (ho : off = 5 * n) (hb : Below w0.heap.size w0 w) (hg0 : w0.heap.size ≤ g) :
  (w.setRow g ((repRow m n).toArray.toList.take off ++ blanks k ++ (repRow m n).toArray.toList.drop (off + (blanks k).length)).toArray).heap[g]? = some (.cells (repRow m (n + k)).toArray 60 (0, 0)) ∧
  Below w0.heap.size w0 (w.setRow g ((repRow m n).toArray.toList.take off ++ blanks k ++ (repRow m n).toArray.toList.drop (off + (blanks k).length)).toArray) := by
 subst ho
 have e := repRow_step h
 refine ⟨?_, below_setRow hb hg0 _⟩
 rw [show (repRow m n).toArray.toList = repRow m n from rfl, e]
 exact setRow_heap w g _ _ _ _ hg
theorem rep_cells {w : World} {g m n k : Nat} (hg : w.heap[g]? = some (.cells (repRow m n).toArray 60 (0, 0))) (h : k ≤ n) (j : Nat) (v : Value) (hj : (blanks k)[j]? = some v) : w.cell? ((⟨g, 0, none⟩ : Addr).add j) = some v := by
 have hlt := (List.getElem?_eq_some_iff.1 hj).1
 rw [Addr.add_lit, Nat.zero_add, blk_cell hg]
 unfold repRow
 rw [show n = k + (n - k) by omega, blanks_add, List.append_assoc]
 simp only [List.getElem?_toArray]
 rw [List.getElem?_append_left hlt]
 exact hj
theorem one_cells {w : World} {g m : Nat} (hg : w.heap[g]? = some (.cells blankCells.toArray 60 (0, 0))) (j : Nat) (v : Value) (hj : (blanks (Nat.min 1 m))[j]? = some v) : w.cell? ((⟨g, 0, none⟩ : Addr).add j) = some v := by
 rw [Addr.add_lit, Nat.zero_add, blk_cell hg]
 simp only [List.getElem?_toArray]
 rcases Nat.le_one_iff_eq_zero_or_eq_one.1 (Nat.min_le_left 1 m) with h | h
 ·rw [show Nat.min 1 m = 0 from h] at hj; cases hj
 ·rw [show Nat.min 1 m = 1 from h] at hj; unfold blanks at hj; simpa using hj
theorem Tryd.cellInfo : (Tryd.prog.info? 60).map (fun i => (i.zero, i.size, i.bytes)) = some (some (.agg #[.string ⟨#[]⟩, .int .i64 0, .int .i64 0, .int .i64 0, .int .i64 0]), 5, 48) := by kernel_rfl
set_option maxHeartbeats 4000000 in
set_option maxRecDepth 100000 in
theorem repeat_calls (xb m : Nat) (hm : m ≤ 1000000) (w : World) (hx : w.heap[xb]? = some (.cells blankCells.toArray 60 (0, 0))) :
  Calls Tryd.prog 89 #[.slice (some ⟨xb, 0, none⟩) 1 1, .int .i64 m] w fun e w' => ∃ g, e = .returned (.slice (some ⟨g, 0, none⟩) m m) ∧ w.heap.size ≤ g ∧ w'.heap[g]? = some (.cells (blanks m).toArray 60 (0, 0)) ∧ Below w.heap.size w w' := by
 have HX := Aside0.mk hx
 have HM := Aside0.mk hm
 clear hx
 obtain ⟨i0, hi0, hz0, hz1, hz2⟩ := info_parts Tryd.cellInfo
 have HI0 := Aside0.mk hi0
 have HZ0 := Aside0.mk hz0
 have HZ1 := Aside0.mk hz1
 have HZ2 := Aside0.mk hz2
 clear hi0 hz0 hz1 hz2
 have hq : 1 * m / 18446744073709551616 = 0 := Nat.div_eq_of_lt (by omega)
 have hr : 1 * m % 18446744073709551616 = m := by rw [Nat.one_mul]; exact Nat.mod_eq_of_lt (by omega)
 have cM := Tryd.bits_Mul 1 m (by omega) (by omega) w
 rw [hq, hr] at cM
 have CM := Aside0.mk (cM.mono (R' := fun e w' => e = .returned (.tuple #[.int .u64 ((0 : Nat) : Int), .int .u64 ((m : Nat) : Int)]) ∧ w = w') (fun _ _ h => ⟨h.1, h.2.symm⟩))
 clear cM hq hr
 go_enter Tryd.func89, Tryd.ntmps89
 go_wp2_with (first | (go_at_call 108; refine CM.out.mono ?_; rintro e w1 ⟨rfl, rfl⟩) | (at_make; (refine wpList_make_full _ rfl _ _ 36 rfl w.heap.size 60 i0 _ 5 Tryd.underlying36 HI0.out HZ0.out HZ1.out .i64 .i64 _ _ m rfl rfl (by omega) (by omega) (by rw [HZ2.out]; omega) (by unfold maxLen; omega) (Nat.le_refl _) ?_; intro w2 hown hgr; have HG2 := Aside0.mk (made_heap hown); have HB2 : Aside0 (Below w.heap.size w w2) := ⟨(Below.refl _ w).grown hgr (Nat.le_refl _) (fun k e => by cases e)⟩; clear hown hgr)) | ((refine wpList_copy_rows (o := ⟨some 33, _, _, _, _, _⟩) rfl _ _ 36 36 rfl 60 5 Tryd.underlying36 Tryd.cellSize w.heap.size 0 m m ⟨xb, 0, none⟩ 1 1 rfl rfl _ 60 HG2.out (blanks (Nat.min 1 m)) ?c1 ?c2 ?c3 (blanks_one _) ?_; (case c1 => exact (blanks_length _).trans (Nat.mul_comm _ _)); (case c2 => exact one_cells ((HB2.out.block _ (blk_lt HX.out)).trans HX.out)); (case c3 => (rw [blanks_length, List.size_toArray, repRow_length (Nat.zero_le m)]; have hq_ : Nat.min 1 m ≤ m := Nat.min_le_right 1 m; omega)); have hs3 := rep_set (k := Nat.min 1 m) (off := 0) HG2.out (by have hq_ : Nat.min 1 m ≤ m := Nat.min_le_right 1 m; omega) rfl HB2.out (Nat.le_refl _); generalize w2.setRow _ _ = w3 at *; have HG3 := Aside0.mk hs3.1; have HB3 := Aside0.mk hs3.2; clear hs3)))
 go_loopw [8] (fun v wr => ∃ q : Nat, q ≤ m ∧ (0 < m → 0 < q) ∧ v = .int .i64 q ∧ Aside0 (wr.heap[w.heap.size]? = some (.cells (repRow m q).toArray 60 (0, 0))) ∧ Aside0 (Below w.heap.size w wr)) (fun v _ => m - (intOf v).toNat)
 case atStart => exact ⟨Nat.min 1 m, (Nat.min_le_right 1 m : Nat.min 1 m ≤ m), fun h => (Nat.lt_min.2 ⟨Nat.one_pos, h⟩ : 0 < min 1 m), rfl, ⟨by have := HG3.out; rwa [Nat.zero_add] at this⟩, HB3⟩
 case round =>
  obtain ⟨q, hqm, hq0, rfl, HG, HB⟩ := hrel
  by_cases hlt : q < m
  ·have hq1 : 0 < q := hq0 (by omega)
   clear hq0
   have hmq : (m = q) = False := eq_false (by omega)
   have hmin : Nat.min q (m - q) ≤ m - q := Nat.min_le_right _ _
   have hmin2 : Nat.min q (m - q) ≤ q := Nat.min_le_left _ _
   have hmin3 : 0 < Nat.min q (m - q) := Nat.lt_min.2 ⟨hq1, by omega⟩
   go_wp2
   refine start_ (n := 10) (S := fun _ => True) (ds := []) #[false, false, false, false, false, false, false, false, false, false] (by kernel_rfl) rfl rfl trivial (fun _ => ?_)
   refine pure_ (i := 0) (N := some 38) (v := ?_) (a' := ?_) #[true, false, false, false, false, false, false, false, false, false] rfl rfl (by kernel_rfl) (fun _ _ _ h => h) (Or.inl ⟨by rfl, ?_⟩) ?_ ?_
   rotate_left
   ·intro w'
    go_simp
    with_reducible rfl
   rotate_left
   ·exact zr
   refine pure_ (i := 1) (N := some 39) (v := ?_) (a' := ?_) #[true, true, false, false, false, false, false, false, false, false] rfl rfl (by kernel_rfl) (fun _ _ _ h => h) (Or.inl ⟨by rfl, ?_⟩) ?_ ?_
   rotate_left
   ·intro w'
    go_simp
    with_reducible rfl
   rotate_left
   ·exact zr
   refine pure_ (i := 2) (N := some 40) (v := ?_) (a' := ?_) #[true, true, true, false, false, false, false, false, false, false] rfl rfl (by kernel_rfl) (fun _ _ _ h => h) (Or.inl ⟨by rfl, ?_⟩) ?_ ?_
   rotate_left
   ·intro w'
    go_simp
    with_reducible rfl
   rotate_left
   ·exact zr
   refine pure_ (i := 3) (N := some 41) (v := ?_) (a' := ?_) #[true, true, true, true, false, false, false, false, false, false] rfl rfl (by kernel_rfl) (fun _ _ _ h => h) (Or.inl ⟨by rfl, ?_⟩) ?_ ?_
   rotate_left
   ·intro w'
    go_simp
    with_reducible rfl
   rotate_left
   ·exact zr
   refine pure_ (i := 4) (N := some 42) (v := ?_) (a' := ?_) #[true, true, true, true, true, false, false, false, false, false] rfl rfl (by kernel_rfl) (fun _ _ _ h => h) (Or.inl ⟨by rfl, ?_⟩) ?_ ?_
   rotate_left
   ·intro w'
    go_simp
    with_reducible rfl
   rotate_left
   ·exact zr
   refine pure_ (i := 5) (N := some 43) (v := ?_) (a' := ?_) #[true, true, true, true, true, true, false, false, false, false] rfl rfl (by kernel_rfl) (fun _ _ _ h => h) (Or.inl ⟨by rfl, ?_⟩) ?_ ?_
   rotate_left
   ·intro w'
    go_simp
    with_reducible rfl
   rotate_left
   ·exact zr
   refine pure_ (i := 6) (N := some 44) (v := ?_) (a' := ?_) #[true, true, true, true, true, true, true, false, false, false] rfl rfl (by kernel_rfl) (fun _ _ _ h => h) (Or.inl ⟨by rfl, ?_⟩) ?_ ?_
   rotate_left
   ·intro w'
    go_simp
    with_reducible rfl
   rotate_left
   ·exact zr
   have hgr := HG.out
   have hrun := run_copy_rows (P := Tryd.prog) wr.drew 36 36 3 60 5 w.heap.size (q * 5) (m - q) (m - q) ⟨w.heap.size, 0, none⟩ q m (repRow m q).toArray 60 (blanks (Nat.min q (m - q))) Tryd.underlying36 Tryd.cellSize hgr ((blanks_length _).trans (Nat.mul_comm _ _)) (rep_cells hgr hmin2) (by rw [blanks_length, List.size_toArray, repRow_length (by omega)]; omega) (blanks_one _)
   have hs3 := rep_set (w := wr.drew) (k := Nat.min q (m - q)) (off := q * 5) hgr (by omega) (Nat.mul_comm _ _) HB.out.drew (Nat.le_refl _)
   generalize wr.drew.setRow _ _ = w4 at *
   generalize Nat.min q (m - q) = kq at *
   have hsum : IntKind.i64.wrap ((q : Int) + (kq : Int)) = ((q + kq : Nat) : Int) := by rw [IntKind.wrap_i64]; omega
   refine one_ (i := 7) (N := some 45) #[true, true, true, true, true, true, true, true, false, false] rfl rfl (by kernel_rfl) (by decide) (fun K hK => ?_)
   refine value_ (w1 := w4) (v := .int .i64 (kq : Nat)) (by rfl) rfl ?_ ?_
   ·go_simp
   refine hK.out _ _ trivial (fun _ => ?_)
   clear hK K
   refine norm_ (a' := ?_) ?_ ?_
   rotate_left
   ·show Act.put _ (some 45) _ = _
    exact zr
   refine pure_ (i := 8) (N := some 46) (v := .int .i64 ((q + kq : Nat) : Int)) (a' := ?_) #[true, true, true, true, true, true, true, true, true, false] rfl rfl (by kernel_rfl) (fun _ _ _ h => h) (Or.inl ⟨by rfl, ?y8⟩) ?ha8 ?_
   case y8 =>
    intro w'
    go_simp
   case ha8 => exact zr
   refine pure_ (i := 9) (N := some 8) (v := .int .i64 ((q + kq : Nat) : Int)) (a' := ?_) #[true, true, true, true, true, true, true, true, true, true] rfl rfl (by kernel_rfl) (fun _ _ _ h => h) (Or.inl ⟨by rfl, ?y9⟩) ?ha9 ?_
   case y9 =>
    intro w'
    go_simp
   case ha9 => exact zr
   refine done_ (by kernel_rfl) ?_
   go_roundw
   case rel => (repeat apply Exists.intro); exact ⟨⟨q + kq, by omega, fun _ => by omega, rfl, ⟨hs3.1⟩, ⟨hs3.2⟩⟩, rfl⟩
   case measure => simp [intOf]; omega
  ·obtain rfl : q = m := by omega
   go_wp2
   go_ret
   refine ⟨_, rfl, Nat.le_refl _, ?_, HB.out⟩
   have hh := HG.out
   unfold repRow at hh
   rw [Nat.sub_self] at hh
   have e : zerosC 0 = [] := rfl
   rw [e, List.append_nil] at hh
   exact hh
end Go.Proofs.YtckkdaehmccjlaaDoor.P
namespace Go.Proofs.YtckkdaehmccjlaaDoor.P
open Go.RowKit Go.Proofs.YtckkdaehmccjlaaDoorW.PrintLast
variable {P : Program} {ops : Array Oper} {Q : Exit → Act → World → Prop} {md : Region.Mode} {S : World → Prop} {ds : List Nat}
theorem rowsIn_wideX {n : Nat} {row : String} {args : Array Value} {w : World} {R : Value → World → Prop} (l : Nat) (h : Rows P row args w R) : RowsIn (Fence.wide.inRound l) n P row args w R :=
 fun c cs _ => let ⟨v, w', r, s⟩ := h c cs; ⟨v, w', r, stepsIn_wide.2 s⟩
theorem wpOp_inRound {l n : Nat} (hd : ∀ (i : Nat) (o : Oper), ops[i]? = some o → ∀ c, o.op ≠ Op.defer c) (hno : ¬ LetsOut Q) {i : Nat} {K K' : Act → World → Prop} (hK : ∀ a w, K a w → K' a w) {a : Act} {w : World}
  (h : wpOp P ops Q i K a w) : wpOpIn (Fence.wide.inRound l) n P ops Q i K' a w := by
 unfold wpOp at h
 unfold wpOpIn
 split
 ·rename_i ho; simp only [ho] at h; exact hK _ _ h
 ·rename_i o ho
  simp only [ho] at h
  split
  ·rename_i hw
   simp only [hw, if_true] at h
   rcases h with h | ⟨_, h⟩
   rotate_left
   ·exact absurd h hno
   refine ⟨fun _ _ => trivial, ?_⟩
   show Oper.uponIn _ _ _ _ _ _ _ ((Oper.semAt (some l) a.eval o).run P w)
   rw [Oper.semAt_some l _ _ (hd _ _ ho)]
   unfold Oper.wp at h
   generalize (execOp a.eval o).run P w = r at *
   cases r with
   | ok x w' =>
    cases x <;> simp only [Oper.upon, Oper.uponIn] at h ⊢
    case value v => exact hK _ _ h
    case skip => exact hK _ _ h
    case defer d => exact hK _ _ h
    case enter f args => exact ⟨fun e => (by cases e), CallsIn.inRound l (callsIn_wide.2 (h.mono fun e w'' he => by cases e <;> first | exact hK _ _ he | exact he))⟩
    case row row args => exact ⟨fun e => (by cases e), rowsIn_wideX l (Rows.mono h fun v w'' he => hK _ _ he)⟩
   | halt x w' => cases x <;> simp only [Oper.upon, Oper.uponIn] at h ⊢; exact h
  ·rename_i hw
   simp only [hw] at h
   exact ⟨fun _ _ => trivial, hK _ _ h⟩
theorem oper_inRound {l n : Nat} {o : Oper} (hd : ∀ c, o.op ≠ Op.defer c) {K K' : Act → World → Prop} (hK : ∀ a w, K a w → K' a w) {a : Act} {w : World} (h : o.wp P a w K Q) : o.wpIn (Fence.wide.inRound l) n P a w K' Q := by
 refine ⟨fun _ _ => trivial, ?_⟩
 show Oper.uponIn _ _ _ _ _ _ _ ((Oper.semAt (some l) a.eval o).run P w)
 rw [Oper.semAt_some l _ _ hd]
 unfold Oper.wp at h
 generalize (execOp a.eval o).run P w = r at *
 cases r with
 | ok x w' =>
  cases x <;> simp only [Oper.upon, Oper.uponIn] at h ⊢
  case value v => exact hK _ _ h
  case skip => exact hK _ _ h
  case defer d => exact hK _ _ h
  case enter f args => exact ⟨fun e => (by cases e), CallsIn.inRound l (callsIn_wide.2 (h.mono fun e w'' he => by cases e <;> first | exact hK _ _ he | exact he))⟩
  case row row args => exact ⟨fun e => (by cases e), rowsIn_wideX l (Rows.mono h fun v w'' he => hK _ _ he)⟩
 | halt x w' => cases x <;> simp only [Oper.upon, Oper.uponIn] at h ⊢; exact h
theorem wpListIn_inRound {l n : Nat} (hno : ¬ LetsOut Q) : ∀ (os : List Oper), (os.all fun o => match o.op with | .defer _ => false | _ => true) = true → ∀ (a : Act) (w : World), wpList P ops Q os a w → wpListIn (Fence.wide.inRound l) n P ops Q os a w
 | [], _, _, _, h => h
 | o :: os, hd, a, w, h => by
  rw [List.all_cons, Bool.and_eq_true] at hd
  unfold wpList at h
  unfold wpListIn
  split
  ·rename_i hw
   simp only [hw, if_true] at h
   rcases h with h | ⟨_, h⟩
   ·exact oper_inRound (fun c e => by have := hd.1; rw [e] at this; cases this) (fun a w h' => wpListIn_inRound hno os hd.2 a w h') h
   ·exact absurd h hno
  ·rename_i hw
   simp only [hw] at h
   exact ⟨fun _ _ => trivial, wpListIn_inRound hno os hd.2 _ _ h⟩
theorem wpAny_inRound {l n : Nat} (hd : ∀ (i : Nat) (o : Oper), ops[i]? = some o → ∀ c, o.op ≠ Op.defer c) (hno : ¬ LetsOut Q) : ∀ (fuel : Nat) (listed : Array Bool) (a : Act) (w : World), wpAny P md ops Q fuel listed a w → wpAnyIn (Fence.wide.inRound l) n P md ops Q fuel listed a w
 | 0, _, _, _, h => h
 | fuel + 1, _, _, _, h => ⟨h.1, fun i hi => wpOp_inRound hd hno (fun a w h' => wpAny_inRound hd hno fuel _ a w h') (h.2 i hi)⟩
theorem startR_ {l m id n : Nat} {a : Act} {w : World} (ls : Array Bool) (hd : (ops.all fun o => match o.op with | .defer _ => false | _ => true) = true) (hno : ¬ LetsOut Q) (hm : P.follows .mixedOrders = true) (hn : ops.size = n) (hl : Array.replicate n false = ls) (hS : S w.drew)
  (h : S w.drew → wpAnyLast P .any ops Q S ds n ls a w.drew) : (Code.region id ops true).wpIn (Fence.wide.inRound l) m P Q a w := by
 subst hn
 subst hl
 refine wpIn_region_any hm (wpAny_inRound (fun i o ho c e => ?_) hno _ _ _ _ ?_)
 ·rw [Array.all_eq_true] at hd
  obtain ⟨hi, he⟩ := Array.getElem?_eq_some_iff.1 ho
  have := hd i hi
  rw [he, e] at this
  cases this
 ·exact wpAny_of_last _ _ _ _ (h hS)
end Go.Proofs.YtckkdaehmccjlaaDoor.P
namespace Go.Proofs.YtckkdaehmccjlaaDoor.P
open Go.RowKit Go.Proofs.YtckkdaehmccjlaaDoorW.PrintWords Go.Proofs.YtckkdaehmccjlaaDoorW.PrintLast Go.Proofs.YtckkdaehmccjlaaDoorW.PrintMore
attribute [local go_sem] Oper.semAt_some max2_int
set_option linter.unusedVariables false
set_option linter.unusedSimpArgs false
def grpF : Nat → Nat → List S60 → Option (List (Nat × Nat))
 | _, _, [] => some []
 | 0, _, _ :: _ => none
 | f + 1, off, c :: t => if (mx c.f1 1).toNat ≤ t.length + 1 then (grpF f (off + (mx c.f1 1).toNat) ((c :: t).drop (mx c.f1 1).toNat)).map ((off, (mx c.f1 1).toNat) :: ·) else none
def grpO (l : List S60) : Option (List (Nat × Nat)) := grpF l.length 0 l
theorem letters_calls (A : Option Addr) (n c : Nat) (w : World) :
  Calls Tryd.prog 45 #[.slice A n c] w fun e w' => e = .returned (.func (.func 68) #[] #[.pointer (some ⟨w.heap.size, 0, none⟩)]) ∧ w' = w.alloc (.cells #[.slice A n c] 36) := by
 go_enter Tryd.func45, Tryd.ntmps45
 go_wp2
 go_ret
 exact ⟨rfl, rfl⟩
set_option maxRecDepth 100000 in
set_option maxHeartbeats 4000000 in
theorem letters_iter (n : Nat) (hn : 1 ≤ n) (lp Bl c0 : Nat) (A : Option Addr) (l : List S60) (gs : List (Nat × Nat)) (w0 : World) (hgs : grpO l = some gs) (hcap : l.length ≤ c0) (hC : Kd.C k60 w0 A l.length l) (hlo : w0.heap.size ≤ Bl)
  (J : List (Nat × Nat) → World → Prop) (hJ : ∀ s W v, J s W → J s (W.setCell ⟨Bl, 0, none⟩ v))
  (hY : ∀ pre (x : Nat × Nat) rest W, J pre W → gs = pre ++ x :: rest → YieldAt Fence.wide (n - 1) Tryd.prog lp #[.slice (A.map (·.add (x.1 * 5))) x.2 (c0 - x.1)] W fun e W' =>
   e = .returned (.bool true) ∧ J (pre ++ [x]) W' ∧ Below w0.heap.size W W' ∧ W'.heap[Bl]? = W.heap[Bl]?)
  (W : World) (hB0 : Below w0.heap.size w0 W) (hBl : W.heap[Bl]? = some (.cells #[.slice A l.length c0] 36 (0, 0))) (h0 : J [] W) :
  CallsIn Fence.wide n Tryd.prog 68 #[.func (.yield lp) #[] #[], .pointer (some ⟨Bl, 0, none⟩)] W fun e W' => (∃ v, e = .returned v) ∧ J gs W' := by
 have hm : l.length ≤ 9223372036854775807 := Kd.C_max hC
 have HC := Aside0.mk hC
 have HB0 := Aside0.mk hB0
 have HBl := Aside0.mk hBl
 have HG := Aside0.mk hgs
 clear hC hB0 hBl hgs
 refine callsIn_of_wp Tryd.func68 rfl trivial ?_ rfl
 simp only [Tryd.ntmps68, List.size_toArray, List.length_cons, List.length_nil, Nat.reduceAdd, Nat.reduceSub, Array.replicate_succ, Array.replicate_zero, List.push_toArray, List.append_toArray, List.nil_append, List.cons_append]
 gi_wp2
 gi_loopg [] l.length (fun m wr => ∃ (off f : Nat) (A' : Option Addr) (pre post : List (Nat × Nat)), off + m = l.length ∧ Aside0 (gs = pre ++ post) ∧ Aside0 (grpF f off (l.drop off) = some post) ∧
   Aside0 (wr.heap[Bl]? = some (.cells #[.slice A' (l.length - off) (c0 - off)] 36 (0, 0))) ∧ Aside0 (off < l.length → A' = A.map (·.add (off * 5))) ∧ Aside0 (J pre wr) ∧ Aside0 (Below w0.heap.size w0 wr))
 case atStart => exact ⟨0, l.length, A, [], gs, by omega, ⟨rfl⟩, ⟨HG.out⟩, HBl, ⟨fun _ => by cases A <;> simp [Addr.add_zero']⟩, ⟨h0⟩, HB0⟩
 case round =>
  obtain ⟨off, f, A', pre, post, hoff, HP, HF, HX, HA, HJ, HB⟩ := hrel
  have hx := (blk_cell HX.out 0).trans rfl
  have hfz := blk_frozen HX.out 0
  by_cases hlt : off < l.length
  ·have hd : l.drop off = l[off] :: l.drop (off + 1) := List.drop_eq_getElem_cons hlt
   have hF := HF.out
   rw [hd] at hF
   cases f with
   | zero => cases hF
   | succ f =>
    unfold grpF at hF
    have hlen : (l.drop (off + 1)).length = l.length - (off + 1) := List.length_drop
    rw [hlen, ← hd, List.drop_drop] at hF
    obtain ⟨ad, e0, _, hx1, _⟩ := at_T60 (Kd.C_below HC.out HB.out) (off : Nat) (by omega) (by omega)
    subst e0
    simp only [Int.toNat_natCast] at hx1
    have hrd : rd_T60 l (off : Nat) = l[off] := by unfold rd_T60; simp [List.getD_eq_getElem?_getD, hlt]
    rw [hrd] at hx1
    have hA := HA.out hlt
    have hA2 : A' = some (ad.add (off * 5)) := hA
    subst hA2
    clear hA hrd
    generalize hw : l[off].f1 = wide at *
    have h1 : (1 : Int) ≤ mx wide 1 := by unfold mx; omega
    have hN : ((mx wide 1).toNat : Int) = mx wide 1 := Int.toNat_of_nonneg (by omega)
    generalize hn0 : (mx wide 1).toNat = N at *
    by_cases hle : N ≤ l.length - (off + 1) + 1
    ·rw [if_pos hle] at hF
     obtain ⟨post', hp', hpost⟩ := Option.map_eq_some_iff.1 hF
     subst hpost
     have hL0 : 0 < l.length - off := by omega
     have hNle : N ≤ l.length - off := by omega
     have hNcap : N ≤ c0 - off := by omega
     have hN1 : 1 ≤ N := by omega
     have HP2 := Aside0.mk hp'
     obtain ⟨fn, tmps, assign, body, hy, hR⟩ := hY pre (off, N) post' wr HJ.out HP.out
     simp only [Option.map_some] at hy
     have HY := Aside0.mk hy
     have HR := Aside0.mk hR
     clear hF hp' hd hlen hy hR hle
     have next : ∀ (W3 : World) (A3 : Option Addr), J (pre ++ [(off, N)]) W3 → Below w0.heap.size wr W3 → W3.heap[Bl]? = wr.heap[Bl]? → (off + N < l.length → A3 = some (ad.add ((off + N) * 5))) → ∀ (C : Nat) (Wn : World), C = c0 - off - N → Wn = W3.setCell ⟨Bl, 0, none⟩ (.slice A3 (l.length - off - N) C) →
       (∃ (off f : Nat) (A' : Option Addr) (pre post : List (Nat × Nat)), off + (gk - N) = l.length ∧ Aside0 (gs = pre ++ post) ∧ Aside0 (grpF f off (l.drop off) = some post) ∧
        Aside0 (Wn.heap[Bl]? = some (.cells #[.slice A' (l.length - off) (c0 - off)] 36 (0, 0))) ∧ Aside0 (off < l.length → A' = (some ad).map (·.add (off * 5))) ∧ Aside0 (J pre Wn) ∧ Aside0 (Below w0.heap.size w0 Wn)) := fun W3 A3 hJ3 hb3 hB3 hA3 C Wn hC hWn => by
      subst hWn
      subst hC
      refine ⟨off + N, f, A3, pre ++ [(off, N)], post', by omega, ⟨by rw [HP.out]; simp⟩, HP2, ⟨?_⟩, ⟨hA3⟩, ⟨hJ _ _ _ hJ3⟩, ⟨(HB.out.trans hb3).setCell (p := ⟨Bl, 0, none⟩) hlo _⟩⟩
      rw [← Nat.sub_sub, ← Nat.sub_sub]
      exact blk_put (cs := #[.slice (some (ad.add (off * 5))) (l.length - off) (c0 - off)]) (hB3.trans HX.out) 0 _ rfl
     have hgk : gk - N < gk := by omega
     generalize gk - N = q at next hgk
     have NX := Aside0.mk next
     clear next hoff
     generalize hcc : c0 - off = cc at *
     have hA3 : ∀ A3 : Option Addr, (A3 = some ((ad.add (off * 5)).add (N * 5)) ∨ N = cc) → off + N < l.length → A3 = some (ad.add ((off + N) * 5)) := fun A3 h hlt => by
      rcases h with rfl | h
      ·rw [Addr.add_add, ← Nat.add_mul]
      ·omega
     have HA3 := Aside0.mk hA3
     clear hA3 hcc
     have hwN : (1 ≤ wide ∧ wide = (N : Int)) ∨ (wide < 1 ∧ N = 1) := by unfold mx at hN; omega
     clear hN hn0 h1 hw
     by_cases hcN : N = cc <;> (first | subst hcN | skip) <;> rcases hwN with ⟨hw1, rfl⟩ | ⟨hw1, rfl⟩
     all_goals
      gi_wp2
      (first | simp only [show max (N : Int) 1 = N from by omega, Int.toNat_natCast] | simp only [show max wide 1 = 1 from by omega, Int.toNat_one] | skip)
      rw [HY.out]
      refine ⟨fun _ => hn, HR.out.mono ?_⟩
      rintro e W3 ⟨rfl, hJ3, hb3, hB3⟩
      have hx3 := (blk_cell (hB3.trans HX.out) 0).trans rfl
      have hfz3 := blk_frozen (hB3.trans HX.out) 0
      have HJ3 := Aside0.mk hJ3
      have HK3 := Aside0.mk hb3
      have HB3 := Aside0.mk hB3
      clear hJ3 hb3 hB3
      gi_wp2
      gi_roundg q
      case rel => exact NX.out W3 _ HJ3.out HK3.out HB3.out (HA3.out _ (by first | exact Or.inr rfl | exact Or.inr trivial | exact Or.inr (by assumption) | exact Or.inl rfl)) _ _ (by first | rfl | simp) rfl
      case measure => exact hgk
    ·rw [if_neg hle] at hF; cases hF
  ·have : post = [] := by
    have hF := HF.out
    rw [List.drop_of_length_le (by omega)] at hF
    cases f <;> exact (Option.some.inj hF).symm
   subst this
   have hz : l.length - off = 0 := by omega
   rw [hz] at hx
   gi_wp2
   go_end0
   have hP := HP.out
   rw [List.append_nil] at hP
   exact ⟨⟨_, rfl⟩, hP ▸ HJ.out⟩
end Go.Proofs.YtckkdaehmccjlaaDoor.P
namespace Go.Proofs.YtckkdaehmccjlaaDoor.P
open Go.RowKit Go.Proofs.YtckkdaehmccjlaaDoorW.PrintWords Go.Proofs.YtckkdaehmccjlaaDoorW.PrintLast Go.Proofs.YtckkdaehmccjlaaDoorW.PrintMore
attribute [local go_sem] max2_int min2_int max_two min_two max_three min_three max_four min_four   -- for this text's walks alone
set_option linter.unusedVariables false
set_option linter.unusedSimpArgs false
def cell_Blank.f (a0_0 : Int) (a0_1 : Int) (a0_2 : Int) : Option (ByteArray × Int × Int × Int × Int) := some ((⟨#[]⟩ : ByteArray), 1, 0, a0_1, 0)
set_option maxHeartbeats 8000000 in
set_option maxRecDepth 100000 in
theorem cell_Blank.calls (a0_0 : Int) (a0_1 : Int) (a0_2 : Int) (r1 : ByteArray) (r2 : Int) (r3 : Int) (r4 : Int) (r5 : Int) (w : World) (h : cell_Blank.f a0_0 a0_1 a0_2 = some (r1, r2, r3, r4, r5)) :
  Calls Tryd.prog 81 #[.agg #[.int .i64 a0_0, .int .i64 a0_1, .int .i64 a0_2]] w fun e w' => e = .returned (.agg #[.string r1, .int .i64 r2, .int .i64 r3, .int .i64 r4, .int .i64 r5]) ∧ Below w.heap.size w w' := by
 have hu58 := Tryd.underlying58
 have hu60 := Tryd.underlying60
 have HB := Aside0.mk (Below.refl w.heap.size w)
 have H : (some ((⟨#[]⟩ : ByteArray), 1, 0, a0_1, 0)) = some (r1, r2, r3, r4, r5) := h
 clear h
 simp only [Option.some.injEq, Prod.mk.injEq] at H
 obtain ⟨rfl, rfl, rfl, rfl, rfl⟩ := H
 go_enter Tryd.func81, Tryd.ntmps81
 go_wp2_with (first | ((with_reducible refine gate_dst (N := 1) rfl ?_); refine box_event ?hg (N := 1) ?hd (cs := #[.int .i64 a0_0, .int .i64 a0_1, .int .i64 a0_2]) (t := 58) ?hr ?_; (case hd => rfl); (case hg => rfl); (case hr => exact zo); intro gb153 hg w2 hbox hb; have BK153 := Aside0.mk (hbox); have GW153 := Aside0.mk ((zg hg : w.heap.size ≤ gb153)); have GE153 := Aside0.mk ((zg hg : w.heap.size ≤ gb153)); replace HB := (zs HB hb); clear hb hbox hg) | ((with_reducible refine gate_dst (N := 2) rfl ?_); refine box_event ?hg (N := 2) ?hd (cs := #[.string (⟨#[]⟩ : ByteArray), .int .i64 0, .int .i64 0, .int .i64 0, .int .i64 0]) (t := 60) ?hr ?_; (case hd => rfl); (case hg => rfl); (case hr => exact zo); intro gb154 hg w3 hbox hb; have n0_ := (zk BK153 hb); have n1_ := (zs HB hb); have n2_ := Aside0.mk (hbox); have n3_ := Aside0.mk ((zg hg : w.heap.size ≤ gb154)); have n4_ := Aside0.mk ((zg hg : w.heap.size ≤ gb154)); have n5_ := Aside0.mk ((by rw [hg]; exact Nat.ne_of_lt (blk_lt (g := gb153) (o := .cells #[.int .i64 a0_0, .int .i64 a0_1, .int .i64 a0_2] 58 (0, 0)) (by exact BK153.out)) : gb153 ≠ gb154)); have n6_ := Aside0.mk ((by rw [hg]; exact Nat.ne_of_gt (blk_lt (g := gb153) (o := .cells #[.int .i64 a0_0, .int .i64 a0_1, .int .i64 a0_2] 58 (0, 0)) (by exact BK153.out)) : gb154 ≠ gb153)); clear BK153; clear HB; have BK153 := n0_; have HB := n1_; have BK154 := n2_; have GW154 := n3_; have GE154 := n4_; have NB153_154 := n5_; have NB154_153 := n6_; clear n0_ n1_ n2_ n3_ n4_ n5_ n6_; clear hb hbox hg; have hnb4 := NB153_154.out; have hnc4 := NB154_153.out; obtain ⟨hcz5_0, hcz5_1, hcz5_2, hfz5_0, hfz5_1, hfz5_2⟩ := zq3 (w := w3) BK153; obtain ⟨hcz6_0, hcz6_1, hcz6_2, hcz6_3, hcz6_4, hfz6_0, hfz6_1, hfz6_2, hfz6_3, hfz6_4⟩ := zq5 (w := w3) BK154))
 refine bodyPost_ret (results_cell_row rfl _ _ gb154 60 #[.string (⟨#[]⟩ : ByteArray), .int .i64 1, .int .i64 0, .int .i64 a0_1, .int .i64 0] (0, 0) _ rfl (by refine blk_put (cs := #[.string (⟨#[]⟩ : ByteArray), .int .i64 1, .int .i64 0, .int .i64 a0_1, .int .i64 0]) ?_ 4 _ rfl; refine blk_put (cs := #[.string (⟨#[]⟩ : ByteArray), .int .i64 1, .int .i64 0, .int .i64 0, .int .i64 0]) ?_ 3 _ rfl; refine blk_put (cs := #[.string (⟨#[]⟩ : ByteArray), .int .i64 1, .int .i64 0, .int .i64 0, .int .i64 0]) ?_ 2 _ rfl; refine blk_put (cs := #[.string (⟨#[]⟩ : ByteArray), .int .i64 0, .int .i64 0, .int .i64 0, .int .i64 0]) ?_ 1 _ rfl; refine blk_put (cs := #[.string (⟨#[]⟩ : ByteArray), .int .i64 0, .int .i64 0, .int .i64 0, .int .i64 0]) ?_ 0 _ rfl; exact BK154.out) Tryd.underlying60 rfl (by kernel_rfl)) rfl ?_
 exact ⟨ze, zb⟩
def flow_none.f  : Option (ByteArray × Int × Int × Int × Int) := (cell_Blank.f 0 0 0).bind fun bt156 => (some (bt156.1, bt156.2.1, bt156.2.2.1, bt156.2.2.2.1, bt156.2.2.2.2))
set_option maxHeartbeats 8000000 in
set_option maxRecDepth 100000 in
theorem flow_none.calls  (r1 : ByteArray) (r2 : Int) (r3 : Int) (r4 : Int) (r5 : Int) (w : World) (h : flow_none.f  = some (r1, r2, r3, r4, r5)) :
  Calls Tryd.prog 67 #[] w fun e w' => e = .returned (.agg #[.string r1, .int .i64 r2, .int .i64 r3, .int .i64 r4, .int .i64 r5]) ∧ Below w.heap.size w w' := by
 have hu60 := Tryd.underlying60
 have hu58 := Tryd.underlying58
 have HB := Aside0.mk (Below.refl w.heap.size w)
 have H : ((cell_Blank.f 0 0 0).bind fun bt156 => (some (bt156.1, bt156.2.1, bt156.2.2.1, bt156.2.2.2.1, bt156.2.2.2.2))) = some (r1, r2, r3, r4, r5) := h
 clear h
 replace H := Option.bind_eq_some_iff.mp H
 obtain ⟨⟨t156, t157, t158, t159, t160⟩, A10, H⟩ := H
 replace H : (some (t156, t157, t158, t159, t160)) = some (r1, r2, r3, r4, r5) := H
 have A1 := Aside0.mk A10
 clear A10
 simp only [Option.some.injEq, Prod.mk.injEq] at H
 obtain ⟨rfl, rfl, rfl, rfl, rfl⟩ := H
 go_enter Tryd.func67, Tryd.ntmps67
 go_wp2_with (first | ((with_reducible refine gate_dst (N := 0) rfl ?_); refine box_event ?hg (N := 0) ?hd (cs := #[.string (⟨#[]⟩ : ByteArray), .int .i64 0, .int .i64 0, .int .i64 0, .int .i64 0]) (t := 60) ?hr ?_; (case hd => rfl); (case hg => rfl); (case hr => exact zo); intro gb155 hg w2 hbox hb; have BK155 := Aside0.mk (hbox); have GW155 := Aside0.mk ((zg hg : w.heap.size ≤ gb155)); have GE155 := Aside0.mk ((zg hg : w.heap.size ≤ gb155)); replace HB := (zs HB hb); clear hb hbox hg) | ((with_reducible refine gate_callee (f := 81) rfl ?_); refine goesL_ (some 2) rfl rfl Tryd.func81 (by kernel_rfl) rfl #[.agg #[.int .i64 0, .int .i64 0, .int .i64 0]] rfl zl ?_; (with_reducible refine (cell_Blank.calls 0 0 0 t156 t157 t158 t159 t160 _ A1.out).mono ?_); rintro e w3 ⟨rfl, hb⟩; refine ⟨_, rfl, ?_⟩; replace BK155 := (zk BK155 hb); replace HB := (zs HB hb); (try clear hb); obtain ⟨hcz4_0, hcz4_1, hcz4_2, hcz4_3, hcz4_4, hfz4_0, hfz4_1, hfz4_2, hfz4_3, hfz4_4⟩ := zq5 (w := w3) BK155))
 refine bodyPost_ret (results_cell_row rfl _ _ gb155 60 #[.string t156, .int .i64 t157, .int .i64 t158, .int .i64 t159, .int .i64 t160] (0, 0) _ rfl (by refine blk_put (cs := #[.string t156, .int .i64 t157, .int .i64 t158, .int .i64 t159, .int .i64 0]) ?_ 4 _ rfl; refine blk_put (cs := #[.string t156, .int .i64 t157, .int .i64 t158, .int .i64 0, .int .i64 0]) ?_ 3 _ rfl; refine blk_put (cs := #[.string t156, .int .i64 t157, .int .i64 0, .int .i64 0, .int .i64 0]) ?_ 2 _ rfl; refine blk_put (cs := #[.string t156, .int .i64 0, .int .i64 0, .int .i64 0, .int .i64 0]) ?_ 1 _ rfl; refine blk_put (cs := #[.string (⟨#[]⟩ : ByteArray), .int .i64 0, .int .i64 0, .int .i64 0, .int .i64 0]) ?_ 0 _ rfl; exact BK155.out) Tryd.underlying60 rfl (by kernel_rfl)) rfl ?_
 exact ⟨ze, zb⟩
end Go.Proofs.YtckkdaehmccjlaaDoor.P
namespace Go.Proofs.YtckkdaehmccjlaaDoor.P
open Go.RowKit Go.Proofs.YtckkdaehmccjlaaDoorW.PrintWords Go.Proofs.YtckkdaehmccjlaaDoorW.PrintLast Go.Proofs.YtckkdaehmccjlaaDoorW.PrintMore
set_option linter.unusedVariables false
set_option linter.unusedSimpArgs false
def blankC : S60 := ⟨⟨#[]⟩, 1, ⟨0, 0, 0⟩⟩
theorem none_f : flow_none.f = some (⟨#[]⟩, 1, 0, 0, 0) := by rfl
def fillL (now : List S60) (m : Nat) : List S60 := now ++ List.replicate (m - now.length) blankC
theorem reps_blanks (base : Nat) (w : World) (ok : Nat → Prop) : ∀ n, Reps (k60.M w base ok) 5 (List.replicate n blankC) (blanks n)
 | 0 => Reps.none _ _
 | n + 1 => by
  have h := Reps.snoc (reps_blanks base w ok n) (k60_mkM w base ok blankC) rfl
  rw [List.replicate_succ']
  rw [blanks_add]
  exact h
theorem cells_any {W W' : World} {base base' : Nat} {ok ok' : Nat → Prop} {xs : List S60} {cs : List Value} (h : Reps (k60.M W base ok) 5 xs cs) : Reps (k60.M W' base' ok') 5 xs cs :=
 h.imp_ (fun x c hp => by rw [k60_openM hp]; exact k60_mkM _ _ _ x)
theorem fillL_length {now : List S60} {m : Nat} (h : now.length ≤ m) : (fillL now m).length = m := by unfold fillL; rw [List.length_append, List.length_replicate]; omega
theorem filled_R {W W' : World} {base base' m : Nat} {ok : Nat → Prop} {now : List S60} {inner : List Value} {v : Value} (hr : Reps (k60.M W base ok) 5 now inner) (h : now.length ≤ m)
  (ho : W'.ownsRow base' 60 5 v (now.length + (m - now.length)) (inner ++ blanks (m - now.length))) : Kd.R k60 60 W' base' (fun _ => True) v (fillL now m) :=
 ⟨fun _ _ => trivial, inner ++ blanks (m - now.length), by rw [fillL_length h]; rw [show now.length + (m - now.length) = m by omega] at ho; exact ho, Kd.reps_append (cells_any hr) (reps_blanks _ _ _ _)⟩
set_option maxHeartbeats 4000000 in
set_option maxRecDepth 100000 in
theorem filled_calls (base m : Nat) (ok : Nat → Prop) (vn : Value) (now : List S60) (soft : Bool) (W : World) (hR : Kd.R k60 60 W base ok vn now) (hlen : now.length ≤ m) (hm1 : 1 ≤ m) (hm : m ≤ 1000000) :
  Calls Tryd.prog 72 #[vn, .int .i64 m, .bool soft] W fun e w' => ∃ (A' : Option Addr) (c' : Nat), e = .returned (.agg #[.slice A' m c', .bool soft]) ∧ m ≤ c' ∧ Kd.F k60 w' (fun k => some k = vn.ownBlock ∨ W.heap.size ≤ k) A' m (fillL now m) ∧ Below W.heap.size W w' := by
 obtain ⟨A, c, rfl⟩ := Kd.R_slice hR
 obtain ⟨_, hc, _⟩ := Kd.R_reads' hR
 have hmx : now.length ≤ 1000000 := Nat.le_trans hlen hm
 have hR2 := hR
 obtain ⟨h0, inner, ho, hr⟩ := hR
 have hinl : inner.length = now.length * 5 := ho.1
 have hcm : c ≤ 9223372036854775807 ∧ (A = none → now.length = 0 ∧ now.length = 0) ∧ (0 < now.length → ∃ b, A = some ⟨b, 0, none⟩) ∧ ∀ w', Below W.heap.size W w' → ∀ b, A = some b → ∀ j u, inner[j]? = some u → w'.cell? (b.add j) = some u := by
  rcases ho.2 with ⟨h1, h2⟩ | ⟨g, cap, cur, h1, hb, hg, h3, h4, h5, h6⟩
  ·injection h1 with a1 a2 a3
   subst a1
   exact ⟨by omega, fun _ => ⟨h2, h2⟩, fun h => by omega, fun _ _ b e => by cases e⟩
  ·injection h1 with a1 a2 a3
   subst a1
   subst a3
   refine ⟨by unfold maxLen at h4; exact h4, fun e => (by cases e), fun _ => ⟨g, rfl⟩, fun w' hw b e j u hj => ?_⟩
   cases e
   have hq := ho.cells (g := g) rfl j u hj
   exact (hw.cell (World.block_lt_of_cell? W _ hq)).trans hq
 obtain ⟨hcap, hnone, hsome, holds⟩ := hcm
 have HR := Aside0.mk hR2
 have HRR := Aside0.mk hr
 have HIN := Aside0.mk hinl
 have HNO := Aside0.mk hnone
 have HSO := Aside0.mk hsome
 have HHO := Aside0.mk holds
 have HLEN := Aside0.mk hlen
 have HM1 := Aside0.mk hm1
 have hmn : (m : Int) - (now.length : Int) = ((m - now.length : Nat) : Int) := by omega
 have HMN := Aside0.mk hmn
 obtain ⟨i0, hi0, hz0, hz1, hz2⟩ := info_parts Tryd.cellInfo
 have HI0 := Aside0.mk hi0
 have HZ0 := Aside0.mk hz0
 have HZ1 := Aside0.mk hz1
 have HZ2 := Aside0.mk hz2
 clear hR2 h0 ho hr hinl hnone hsome holds hmn hi0 hz0 hz1 hz2
 have hb1 : Below W.heap.size W (W.alloc (.cells #[.slice none 0 0, .bool false] 38)) := below_alloc (Below.refl _ _) _
 have hk1 := blk_new W (.cells #[.slice none 0 0, .bool false] 38)
 have HB1 := Aside0.mk hb1
 have HK1 := Aside0.mk hk1
 clear hb1 hk1
 by_cases hk : 0 < m - now.length
 ·go_enter Tryd.func72, Tryd.ntmps72
  go_wp2_with (first | (go_at_call 88; refine (clip_calls _ _ _ hc hcap _).mono ?_; rintro e w1 ⟨rfl, rfl⟩) | (go_at_call 67; refine (flow_none.calls _ _ _ _ _ _ none_f).mono ?_; rintro e w2 ⟨rfl, hb2⟩; have HB2 := Aside0.mk (below_step HB1.out hb2); have HK2 := Aside0.mk ((hb2.block _ (blk_lt HK1.out)).trans HK1.out); clear hb2) | (go_at_call 89; rw [HMN.out]; refine (repeat_calls w2.heap.size (m - now.length) (by omega) _ (blk_new w2 _)).mono ?_; rintro e w3 ⟨g, rfl, hg, hg3, hb3⟩; have HK3 := Aside0.mk ((hb3.block _ (blk_lt (blk_alloc HK2.out _))).trans (blk_alloc HK2.out _)); have HB3 := Aside0.mk (below_step (below_alloc HB2.out _) hb3); have HG3 := Aside0.mk hg3; clear hg3 hb3 hg) | (at_builtin; refine wpList_append_grows _ rfl (.tmp 8) (.tmp 15) 36 rfl 60 i0 _ 5 48 Tryd.underlying36 HI0.out HZ0.out HZ1.out HZ2.out rfl (by decide) A now.length now.length inner rfl HNO.out HIN.out (HHO.out _ HB3.out) ⟨g, 0, none⟩ (m - now.length) (m - now.length) (blanks (m - now.length)) rfl ((blanks_length _).trans (Nat.mul_comm _ _)) ?c1 (blanks_one _) (by omega) (by unfold maxLen; omega) (by omega) ?_; (case c1 => (intro j y hj; rw [Addr.add_lit, Nat.zero_add, blk_cell HG3.out]; simpa using hj)); intro v4 w4 hown hgr; have HR4 := Aside0.mk (filled_R HRR.out HLEN.out hown); obtain ⟨A4, c4, rfl⟩ := Kd.R_slice HR4.out; rw [fillL_length HLEN.out]; have HGR := Aside0.mk hgr; have hk4 := (hgr.block _ (blk_lt HK3.out) (fun e => by cases e)).trans HK3.out; have HK4 := Aside0.mk hk4; obtain ⟨hq0, hq1, hf0, hf1⟩ := zq2 (w := w4) HK4; clear hown hgr hk4))
  refine bodyPost_ret (v := .agg #[.slice A4 m c4, .bool soft]) (by simp [results, Tryd.results72, go_sem, hq0, hq1]) rfl ⟨A4, c4, rfl, ?_, ?_, ?_⟩
  ·have h := (Kd.R_reads' HR4.out).2.1
   rwa [fillL_length HLEN.out] at h
  ·have hb4 := Kd.R_base HR4.out
   have hlt3 := blk_lt HK3.out
   have hok : ∀ k, some k = (Value.slice A4 (fillL now m).length c4).ownBlock → k ≠ W.heap.size := fun k hk => by have := hb4 k hk.symm; omega
   have h5 := Kd.F_mono (ok' := fun k => some k = (Value.slice A now.length c).ownBlock ∨ W.heap.size ≤ k) (Kd.R_F (Kd.R_far (p := ⟨W.heap.size, 1, none⟩) (Kd.R_far (p := ⟨W.heap.size, 0, none⟩) (Kd.R_tight rfl HR4.out) hok (.slice A4 m c4)) hok (.bool soft))) (fun k hk => Or.inr (by have := hb4 k hk.symm; omega))
   rw [fillL_length HLEN.out] at h5
   exact h5
  ·exact ((HB3.out.grown HGR.out HB3.out.size (fun k e => by cases e)).setCell (p := ⟨W.heap.size, 0, none⟩) (Nat.le_refl _) _).setCell (p := ⟨W.heap.size, 1, none⟩) (Nat.le_refl _) _
 ·have hk0 : m = now.length := by omega
  obtain ⟨b, hb⟩ := HSO.out (by omega)
  subst hb
  subst hk0
  go_enter Tryd.func72, Tryd.ntmps72
  go_wp2_with (first | (go_at_call 88; refine (clip_calls _ _ _ hc hcap _).mono ?_; rintro e w1 ⟨rfl, rfl⟩) | (go_at_call 67; refine (flow_none.calls _ _ _ _ _ _ none_f).mono ?_; rintro e w2 ⟨rfl, hb2⟩; have HB2 := Aside0.mk (below_step HB1.out hb2); have HK2 := Aside0.mk ((hb2.block _ (blk_lt HK1.out)).trans HK1.out); clear hb2) | (go_at_call 89; refine (repeat_calls w2.heap.size 0 (by omega) _ (blk_new w2 _)).mono ?_; rintro e w3 ⟨g, rfl, hg, hg3, hb3⟩; have HK3 := Aside0.mk ((hb3.block _ (blk_lt (blk_alloc HK2.out _))).trans (blk_alloc HK2.out _)); have HB3 := Aside0.mk (below_step (below_alloc HB2.out _) hb3); have HG3 := Aside0.mk hg3; obtain ⟨hq0, hq1, hf0, hf1⟩ := zq2 (w := w3) HK3; clear hg3 hb3 hg) | (at_builtin; refine wpList_append_arg _ rfl (.tmp 8) (.tmp 15) 36 rfl 60 i0 _ 5 48 Tryd.underlying36 HI0.out HZ0.out HZ1.out HZ2.out rfl (by decide) b 0 now.length now.length inner rfl HIN.out ?c1 ⟨g, 0, none⟩ 0 0 [] rfl rfl (fun j y h => by cases h) (fun y h => by cases h) (fun _ j h => by cases h) (by unfold maxLen; omega) (by omega) (fun _ => ?_) (fun h => by omega); (case c1 => (intro j y hj; have hq := HHO.out _ HB3.out _ rfl j y hj; rwa [Addr.add_lit] at hq)); change wpList _ _ _ _ (Act.put _ _ _) w3))
  refine bodyPost_ret (v := .agg #[.slice (some ⟨b, 0, none⟩) now.length now.length, .bool soft]) (by simp [results, Tryd.results72, go_sem, hq0, hq1]) rfl ⟨some ⟨b, 0, none⟩, now.length, rfl, Nat.le_refl _, ?_, ?_⟩
  ·have hlt := Kd.R_lt HR.out
   have hok : ∀ k, some k = (Value.slice (some ⟨b, 0, none⟩) now.length c).ownBlock → k ≠ W.heap.size := fun k hk => by have := hlt k hk.symm; omega
   have hR3 := Kd.R_below (Kd.R_tight rfl HR.out) HB3.out
   have h5 := Kd.F_mono (ok' := fun k => some k = (Value.slice (some ⟨b, 0, none⟩) now.length c).ownBlock ∨ W.heap.size ≤ k) (Kd.R_F (Kd.R_far (p := ⟨W.heap.size, 1, none⟩) (Kd.R_far (p := ⟨W.heap.size, 0, none⟩) hR3 hok (.slice (some ⟨b, 0, none⟩) now.length now.length)) hok (.bool soft))) (fun k hk => Or.inl hk)
   have e : fillL now now.length = now := by unfold fillL; rw [Nat.sub_self]; simp
   rw [e]
   exact h5
  ·exact (HB3.out.setCell (p := ⟨W.heap.size, 0, none⟩) (Nat.le_refl _) _).setCell (p := ⟨W.heap.size, 1, none⟩) (Nat.le_refl _) _
end Go.Proofs.YtckkdaehmccjlaaDoor.P
namespace Go.Proofs.YtckkdaehmccjlaaDoor.P
open Go.RowKit
variable {F : Fence} {n : Nat} {P : Program} {w : World} {α : Type}
def goesOn (Kp : World → World → Prop) (R : World → Prop) (W : World) : Exit → Act → World → Prop
 | .normal, _, W' => KeepsOthers W W' ∧ Kp W W' ∧ R W'
 | _, _, _ => False
theorem below_alloc_two (w : World) (o o1 : Obj) : Below w.heap.size w ((w.alloc o).alloc o1) := ((Below.refl _ w).alloc (Nat.le_refl _) _).alloc (by simp) _
theorem ends_record {W : World} {l D : Nat} {rec : LoopState → Option Code → Loop} (hl : W.heap[l]? = some (.loop (rec .busy none))) (hk : W.heap[D]? = some (.deferred (some []))) (hne : D ≠ l) (hr : ∀ s p, { rec s p with state := .ready, pending := none } = rec .ready none) :
  (Instr.endRound l none).run P W = .ok (.bool true) (W.putObj l (.loop (rec .ready none))) ∧ (W.putObj l (.loop (rec .ready none))).heap[l]? = some (.loop (rec .ready none)) ∧ (W.putObj l (.loop (rec .ready none))).heap[D]? = some (.deferred (some [])) := by
 refine ⟨?_, World.putObj_heap_same (Array.getElem?_eq_some_iff.1 hl).1, (World.putObj_heap_other hne).trans hk⟩
 have h := run_endRound (P := P) none hl
 simpa [hr] using h
def Own2 (B : Nat) (I : List α → World → Prop) : Prop :=
 ∀ s W W' row, I s W → W.grownBy W' row → (∀ r, row = some r → (r = B ∨ r = B + 1) ∧ ∃ o : Obj, W.heap[r]? = some o ∧ o.isCells = false) → I s W'
theorem wpIn_rangeFunc_box {g : Operand} {ps : Array Tmp} {assign body : Code} {Q : Exit → Act → World → Prop} {a : Act}
  (hro : F.round = none) (h1 : 1 ≤ n) {gf : Nat} {lb : Array Value} (hg : a.eval g = .func (.func gf) #[] lb) (hFg : F.fn gf) (eg : ∀ args w, (callFunc gf args).run P w = .ok (.enter gf args) w)
  {encs : α → Array Value} {Kp : World → World → Prop} {Bl : Nat} {xs : List α}
  (hseq : ∀ (l : Nat) (J : List α → World → Prop) (W : World), Below w.heap.size w W → (∀ s W v, J s W → J s (W.setCell ⟨Bl, 0, none⟩ v)) →
   (∀ pre x rest W1, J pre W1 → xs = pre ++ x :: rest → YieldAt F (n - 1 - 1) P l (encs x) W1 fun e W' => e = .returned (.bool true) ∧ J (pre ++ [x]) W' ∧ Kp W1 W') → J [] W →
   CallsIn F (n - 1) P gf (#[.func (.yield l) #[] #[]] ++ lb) W fun e W' => (∃ v, e = .returned v) ∧ J xs W')
  (hKt : ∀ {A B C : World}, Kp A B → Kp B C → Kp A C) (hKb : ∀ (W : World) (l : Nat) (o o' : Obj), w.heap.size ≤ l → W.heap[l]? = some o → o.isCells = false → Kp W (W.putObj l o')) (hBl : Bl < w.heap.size) (hps : ∀ x, (encs x).size = ps.size)
  (I : List α → World → Prop) (hI : Own2 w.heap.size I) (hIs : ∀ s W v, I s W → I s (W.setCell ⟨Bl, 0, none⟩ v)) (h0 : I [] w) (a₁ : α → Act)
  (hassign : ∀ (l : Nat) (x : α) (W : World) (K : Act → World → Prop), K (a₁ x) W →
   assign.wpIn (F.inRound l) (n - 1 - 1) P (Exit.then K (fun _ _ _ => False)) { tmps := (ps.zip (encs x)).foldl (fun t (p, v) => t.setIfInBounds p v) a.tmps, defers := [] } W)
  (hbody : ∀ (l : Nat) (pre : List α) (x : α) (rest : List α) (W : World), xs = pre ++ x :: rest → w.heap.size + 2 ≤ W.heap.size → I pre W → body.wpIn (F.inRound l) (n - 1 - 1) P (goesOn Kp (I (pre ++ [x])) W) (a₁ x) W)
  (hdone : ∀ (D : Nat) (W : World), D = w.heap.size → w.heap.size + 2 ≤ W.heap.size → I xs W → W.heap[D]? = some (.deferred (some [])) → Q .normal { a with defers := { target := .collected D, args := #[] } :: a.defers } W) :
  (Code.rangeFunc g ps assign body).wpIn F n P Q a w := by
 refine wpIn_rangeFunc ?_
 intro fn hfn
 rw [hro]
 obtain ⟨rec, hrec⟩ : ∃ rec : LoopState → Option Code → Loop, rec = fun st pe => { state := st, pending := pe, fn, tmps := a.tmps, params := ps, assign, body, defers := w.heap.size } := ⟨_, rfl⟩
 have hset : ∀ s p, { rec s p with state := .ready, pending := none } = rec .ready none := by subst hrec; intro s p; rfl
 obtain ⟨W1, hW1⟩ : ∃ W1, (w.alloc (.deferred (some []))).alloc (.loop (rec .ready none)) = W1 := ⟨_, rfl⟩
 have hL1 : W1.heap[w.heap.size + 1]? = some (.loop (rec .ready none)) := by
  have := World.alloc_heap_new (w.alloc (.deferred (some []))) (.loop (rec .ready none)); rw [World.size_alloc] at this; rw [← hW1]; exact this
 have hK1 : W1.heap[w.heap.size]? = some (.deferred (some [])) := by
  rw [← hW1]; exact (Below.heap_alloc _ _ _ (by simp)).trans (World.alloc_heap_new w _)
 refine ⟨w.heap.size + 1, [{ target := .collected w.heap.size, args := #[] }], W1, { target := .fn (.func gf) lb, args := #[.func (.yield (w.heap.size + 1)) #[] #[]] }, W1, gf,
  #[.func (.yield (w.heap.size + 1)) #[] #[]] ++ lb, W1, by rw [← hW1, hrec]; exact run_enterLoop_outer _ _ _ _ _, by simp only [resolve, hg]; simp [go_sem], fun f' hf' => by simp [Target.leads] at hf'; subst hf'; exact hFg, by simp [invoke, go_sem, eg], fun _ => h1, ?_⟩
 refine (hseq (w.heap.size + 1) (fun pre W => I pre W ∧ W.heap[w.heap.size + 1]? = some (.loop (rec .ready none)) ∧ W.heap[w.heap.size]? = some (.deferred (some []))) W1
  (by rw [← hW1]; exact below_alloc_two w _ _)
  (fun s W v h => ⟨hIs s W v h.1, (Below.heap_setCell _ _ _ _ (by show w.heap.size + 1 ≠ Bl; omega)).trans h.2.1, (Below.heap_setCell _ _ _ _ (by show w.heap.size ≠ Bl; omega)).trans h.2.2⟩)
  ?_ ⟨by rw [← hW1]; exact hI _ _ _ none (hI _ _ _ none h0 (World.grownBy_alloc _ _ none) (fun r e => by cases e)) (World.grownBy_alloc _ _ none) (fun r e => by cases e), hL1, hK1⟩).mono ?_
 ·rintro pre x rest W ⟨hi, hl, hk⟩ hx
  have hlt : w.heap.size + 1 < W.heap.size := (Array.getElem?_eq_some_iff.1 hl).1
  have hy := run_yield (P := P) (args := encs x) hl (by rw [hrec]; exact hps x)
  have hb := run_beginRound (P := P) hl (by rw [hrec])
  rw [hrec] at hy
  refine ⟨fn, _, assign, body, hy, roundIn_of_wpIn hfn (hassign _ x W _ ⟨_, hb, ?_⟩)⟩
  have hl2 : (W.putObj (w.heap.size + 1) (.loop { rec .ready none with state := .busy })).heap[w.heap.size + 1]? = some (.loop { rec .ready none with state := .busy }) := World.putObj_heap_same hlt
  have hk2 : (W.putObj (w.heap.size + 1) (.loop { rec .ready none with state := .busy })).heap[w.heap.size]? = some (.deferred (some [])) := (World.putObj_heap_other (by omega)).trans hk
  have hw2 : Kp W (W.putObj (w.heap.size + 1) (.loop { rec .ready none with state := .busy })) := hKb _ _ _ _ (by omega) hl rfl
  refine wpIn_mono (hbody _ pre x rest _ hx (by show _ ≤ (W.heap.setIfInBounds _ _).size; rw [Array.size_setIfInBounds]; omega) (hI _ _ _ _ hi (grownBy_putObj' _ _ _) (fun r e => by cases e; exact ⟨Or.inr rfl, _, hl, rfl⟩))) ?_
  rintro e a3 W3 hp
  cases e with
  | normal =>
   obtain ⟨hk3, hkp3, hi3⟩ := hp
   have hl3 := hk3.same _ _ hl2 rfl
   have hd3 := hk3.same _ _ hk2 rfl
   obtain ⟨hr, hl4, hk4⟩ := ends_record (P := P) (rec := rec) (l := w.heap.size + 1) (D := w.heap.size) (W := W3) (by subst hrec; exact hl3) hd3 (by omega) hset
   exact ⟨_, _, hr, rfl, ⟨hI _ _ _ _ hi3 (grownBy_putObj' _ _ _) (fun r e => by cases e; exact ⟨Or.inr rfl, _, hl3, rfl⟩), hl4, hk4⟩, hKt (hKt hw2 hkp3) (hKb _ _ _ _ (by omega) hl3 rfl)⟩
  | _ => exact hp.elim
 ·rintro e W2 ⟨⟨v, rfl⟩, hi, hl, hk⟩
  exact ⟨none, _, by have := run_endLoop (P := P) hl (by rw [hrec]; simp); rw [hrec] at this; exact this, hdone _ _ rfl (by show _ ≤ (W2.heap.setIfInBounds _ _).size; rw [Array.size_setIfInBounds]; have := (Array.getElem?_eq_some_iff.1 hl).1; omega) (hI _ _ _ _ hi (grownBy_putObj' _ _ _) (fun r e => by cases e; exact ⟨Or.inr rfl, _, hl, rfl⟩)) ((World.putObj_heap_other (by omega)).trans hk)⟩
end Go.Proofs.YtckkdaehmccjlaaDoor.P
namespace Go.Proofs
open Go.Shelf
def Tryd.laysB_ren : Go.Shelf.Ren := ⟨fun | 166 => 46 | 167 => 47 | 240 => 69 | 276 => 82 | n => n, fun | 0 => 0 | 3 => 3 | 4 => 4 | 5 => 5 | 9 => 9 | 20 => 20 | 37 => 75 | 72 => 77 | 70 => 74 | 75 => 82 | 76 => 83 | 164 => 114 | 80 => 86 | n => n, fun | n => n⟩
theorem Tryd.laysB166 : Go.Proofs.Lays.n166 Tryd.prog Tryd.laysB_ren := {
 mixed := by kernel_rfl
 f166 := Tryd.func46.trans (congrArg some (by kernel_rfl))
 f240 := Tryd.func69.trans (congrArg some (by kernel_rfl))
 f276 := Tryd.func82.trans (congrArg some (by kernel_rfl))
 t0 := Tryd.underlying0
 a0 := Tryd.isAgg0
 z0 := Tryd.sizeOf0
 v0 := Tryd.zeroValue0
 t3 := Tryd.underlying3
 a3 := Tryd.isAgg3
 z3 := Tryd.sizeOf3
 v3 := Tryd.zeroValue3
 t4 := Tryd.underlying4
 a4 := Tryd.isAgg4
 z4 := Tryd.sizeOf4
 v4 := Tryd.zeroValue4
 t9 := Tryd.underlying9
 a9 := Tryd.isAgg9
 z9 := Tryd.sizeOf9
 v9 := Tryd.zeroValue9
 t20 := Tryd.underlying20
 a20 := Tryd.isAgg20
 z20 := Tryd.sizeOf20
 v20 := Tryd.zeroValue20
 t37 := Tryd.underlying75
 a37 := Tryd.isAgg75
 z37 := Tryd.sizeOf75
 v37 := Tryd.zeroValue75
 t70 := Tryd.underlying74
 a70 := Tryd.isAgg74
 z70 := Tryd.sizeOf74
 v70 := Tryd.zeroValue74
 t72 := Tryd.underlying77
 a72 := Tryd.isAgg77
 z72 := Tryd.sizeOf77
 v72 := Tryd.zeroValue77
 t75 := Tryd.underlying82
 a75 := Tryd.isAgg82
 z75 := Tryd.sizeOf82
 v75 := Tryd.zeroValue82
 t164 := Tryd.underlying114
 a164 := Tryd.isAgg114
 z164 := Tryd.sizeOf114
 v164 := Tryd.zeroValue114 }
theorem Tryd.laysB167 : Go.Proofs.Lays.n167 Tryd.prog Tryd.laysB_ren := {
 mixed := by kernel_rfl
 f167 := Tryd.func47.trans (congrArg some (by kernel_rfl))
 f240 := Tryd.func69.trans (congrArg some (by kernel_rfl))
 f276 := Tryd.func82.trans (congrArg some (by kernel_rfl))
 t0 := Tryd.underlying0
 a0 := Tryd.isAgg0
 z0 := Tryd.sizeOf0
 v0 := Tryd.zeroValue0
 t4 := Tryd.underlying4
 a4 := Tryd.isAgg4
 z4 := Tryd.sizeOf4
 v4 := Tryd.zeroValue4
 t5 := Tryd.underlying5
 a5 := Tryd.isAgg5
 z5 := Tryd.sizeOf5
 v5 := Tryd.zeroValue5
 t9 := Tryd.underlying9
 a9 := Tryd.isAgg9
 z9 := Tryd.sizeOf9
 v9 := Tryd.zeroValue9
 t20 := Tryd.underlying20
 a20 := Tryd.isAgg20
 z20 := Tryd.sizeOf20
 v20 := Tryd.zeroValue20
 t37 := Tryd.underlying75
 a37 := Tryd.isAgg75
 z37 := Tryd.sizeOf75
 v37 := Tryd.zeroValue75
 t70 := Tryd.underlying74
 a70 := Tryd.isAgg74
 z70 := Tryd.sizeOf74
 v70 := Tryd.zeroValue74
 t72 := Tryd.underlying77
 a72 := Tryd.isAgg77
 z72 := Tryd.sizeOf77
 v72 := Tryd.zeroValue77
 t75 := Tryd.underlying82
 a75 := Tryd.isAgg82
 z75 := Tryd.sizeOf82
 v75 := Tryd.zeroValue82
 t164 := Tryd.underlying114
 a164 := Tryd.isAgg114
 z164 := Tryd.sizeOf114
 v164 := Tryd.zeroValue114 }
theorem Tryd.Builder_ExtraB : Builder.Extra Tryd.prog Tryd.laysB_ren := {
 sizeBuilder := by kernel_rfl
 liesBuilder := by kernel_rfl
 t5 := Tryd.underlying5
 a5 := Tryd.isAgg5
 z5 := Tryd.sizeOf5
 v5 := Tryd.zeroValue5
 infoByte := by kernel_rfl
 cellsByte := by kernel_rfl
 sizeByte := by kernel_rfl
 neB5 := by decide }
open Go.RowKit in
theorem Tryd.bWriteString (B b : Nat) (bs : List Value) (s : ByteArray) (w : World) (h : Lib.IsBuilderF 77 5 B b bs w) (hlen : bs.length + s.size ≤ 140737488355328) (hBw : B ≤ w.heap.size) :
  Calls Tryd.prog 46 #[.pointer (some ⟨b, 0, none⟩), .string s] w fun e w' => e = .returned (.tuple #[.int .i64 s.size, .nilIface]) ∧ (Lib.BuilderAtF 77 5 B b (.pointer (some ⟨b, 0, none⟩)) (bs ++ Lib.strCells s) w' ∧ Below B w w' ∧ Lib.OthersKept 5 (some b) w w') := Any.Builder_WriteString_k Tryd.laysB166 Tryd.Builder_ExtraB B b bs s w h hlen hBw
open Go.RowKit in
theorem Tryd.bWriteByte (B b : Nat) (bs : List Value) (c : Int) (w : World) (h : Lib.IsBuilderF 77 5 B b bs w) (hlen : bs.length + 1 ≤ 140737488355328) (hBw : B ≤ w.heap.size) :
  Calls Tryd.prog 47 #[.pointer (some ⟨b, 0, none⟩), .int .u8 c] w fun e w' => e = .returned .nilIface ∧ (Lib.BuilderAtF 77 5 B b (.pointer (some ⟨b, 0, none⟩)) (bs ++ [.int .u8 c]) w' ∧ Below B w w' ∧ Lib.OthersKept 5 (some b) w w') := Any.Builder_WriteByte_k Tryd.laysB167 Tryd.Builder_ExtraB B b bs c w h hlen hBw
end Go.Proofs
namespace Go.Lib
open Go.RowKit
theorem BuilderAtF.belowX {T e : TypeId} {B b : Nat} {p : Value} {bs : List Value} {W W' : World} (h : BuilderAtF T e B b p bs W) (hb : Below W.heap.size W W') : BuilderAtF T e B b p bs W' := by
 have hlt := h.lt
 obtain ⟨hB, v, hv, hown, hne⟩ := h
 exact ⟨hB, v, (hb.block b hlt).trans hv, hown.kept (row := none) ⟨hb.os, hb.tape, hb.output, hb.size, fun k hk _ => hb.block k hk⟩ (Classical.em _), hne⟩
theorem IsBuilderF.belowX {T e : TypeId} {B b : Nat} {bs : List Value} {W W' : World} (h : IsBuilderF T e B b bs W) (hb : Below W.heap.size W W') : IsBuilderF T e B b bs W' :=
 h.elim (fun x => .inl (x.belowX hb)) (fun x => .inr (x.belowX hb))
theorem IsBuilderF.usedX {T e : TypeId} {B b : Nat} {bs : List Value} {W : World} (h : BuilderAtF T e B b (.pointer (some ⟨b, 0, none⟩)) bs W) : IsBuilderF T e B b bs W := Or.inr h
theorem IsBuilderF.ltX {T e : TypeId} {B b : Nat} {bs : List Value} {W : World} (h : IsBuilderF T e B b bs W) : b < W.heap.size := h.elim (fun x => x.lt) (fun x => x.lt)
end Go.Lib
namespace Go.Proofs.YtckkdaehmccjlaaDoor.P
open Go.RowKit Go.Proofs.YtckkdaehmccjlaaDoorW.PrintWords Go.Proofs.YtckkdaehmccjlaaDoorW.PrintLast Go.Proofs.YtckkdaehmccjlaaDoorW.PrintMore
set_option linter.unusedVariables false
set_option linter.unusedSimpArgs false
def sayC (c : S60) : List UInt8 := c.f0.data.toList ++ (if c.f0.toList = ([] : List UInt8) then if c.f1 = 1 then [32] else [] else [])
def sayL : List S60 → List UInt8
 | [] => []
 | c :: t => sayC c ++ sayL t
theorem sayL_append : ∀ a b, sayL (a ++ b) = sayL a ++ sayL b
 | [], b => rfl
 | c :: t, b => by simp [sayL, sayL_append t b]
def find_say.f (l0 : List S60) : Option ByteArray := if (sayL l0).length ≤ 140737488355328 then some ⟨(sayL l0).toArray⟩ else none
set_option maxHeartbeats 4000000 in
set_option maxRecDepth 100000 in
theorem find_say.calls (A0 : Option Addr) (c0 : Nat) (l0 : List S60) (r : ByteArray) (w : World) (hr0 : Kd.C k60 w A0 l0.length l0) (hc0 : l0.length ≤ c0) (h : find_say.f l0 = some r) :
  Calls Tryd.prog 42 #[.slice A0 l0.length c0] w fun e w' => e = .returned (.string r) ∧ Below w.heap.size w w' := by
 unfold find_say.f at h
 by_cases hlen : (sayL l0).length ≤ 140737488355328
 rotate_left
 ·rw [if_neg hlen] at h; cases h
 rw [if_pos hlen] at h
 obtain rfl := Option.some.inj h
 clear h
 have HR0 := Aside0.mk hr0
 have HC0 := Aside0.mk hc0
 have HL0 := Aside0.mk hlen
 have hm : l0.length ≤ 9223372036854775807 := Kd.C_max hr0
 clear hr0 hc0 hlen
 go_enter Tryd.func42, Tryd.ntmps42
 go_wp2
 go_loopw [8] (fun i wr => ∃ j : Nat, j ≤ l0.length ∧ i = .int .i64 j ∧ Aside0 (Lib.IsBuilderF 77 5 w.heap.size w.heap.size (Lib.byteCells (sayL (l0.take j))) wr) ∧ Aside0 (Below w.heap.size w wr)) (fun i _ => l0.length - (intOf i).toNat)
 case atStart => exact ⟨0, Nat.zero_le _, rfl, ⟨Lib.IsBuilderF.of (Lib.fresh_isBuilder _ _ w)⟩, ⟨below_alloc (Below.refl _ _) _⟩⟩
 case round =>
  obtain ⟨j, hj, rfl, HI, HB⟩ := hrel
  by_cases hlt : j < l0.length
  ·obtain ⟨ad, e0, hx0, hx1, hx2, hx3, hx4⟩ := at_T60 HR0.out j (by omega) (by omega)
   cases e0
   replace hx0 := zc HB hx0
   replace hx1 := zc HB hx1
   replace hx2 := zc HB hx2
   replace hx3 := zc HB hx3
   replace hx4 := zc HB hx4
   simp only [Int.toNat_natCast] at hx0 hx1 hx2 hx3 hx4
   have HT : Aside0 (l0.take (j + 1) = l0.take j ++ [rd_T60 l0 j]) := ⟨by
    have e : rd_T60 l0 j = l0[j] := by unfold rd_T60; simp [List.getD_eq_getElem?_getD, hlt]
    rw [e, List.take_succ_eq_append_getElem hlt]⟩
   have HS : Aside0 ((sayL (l0.take j)).length + (sayC (rd_T60 l0 j)).length ≤ 140737488355328) := ⟨by
    have e := congrArg (fun x => (sayL x).length) (List.take_append_drop (j + 1) l0)
    simp only [HT.out, sayL_append, List.length_append, sayL, List.append_nil] at e
    have := HL0.out
    omega⟩
   have HSx : Aside0 ((sayL (l0.take j)).length + (rd_T60 l0 j).f0.size ≤ 140737488355328) := ⟨by
    have e : (rd_T60 l0 j).f0.data.toList.length ≤ (sayC (rd_T60 l0 j)).length := by unfold sayC; rw [List.length_append]; omega
    have := HS.out
    have : (rd_T60 l0 j).f0.size = (rd_T60 l0 j).f0.data.toList.length := rfl
    omega⟩
   have hsz := HB.out.size
   have hlb : w.heap.size < wr.heap.size := Lib.IsBuilderF.ltX HI.out
   have cW : ∀ W : World, Below wr.heap.size wr W → Calls Tryd.prog 46 #[.pointer (some ⟨w.heap.size, 0, none⟩), .string (rd_T60 l0 j).f0] W fun e w' => e = .returned (.tuple #[.int .i64 (rd_T60 l0 j).f0.size, .nilIface]) ∧ (Lib.BuilderAtF 77 5 w.heap.size w.heap.size (.pointer (some ⟨w.heap.size, 0, none⟩)) (Lib.byteCells (sayL (l0.take j)) ++ Lib.strCells (rd_T60 l0 j).f0) w' ∧ Below w.heap.size W w' ∧ Lib.OthersKept 5 (some w.heap.size) W w') := fun W hW =>
    Tryd.bWriteString _ _ _ _ _ (Lib.IsBuilderF.belowX HI.out hW) (by rw [Lib.byteCells_length]; exact HSx.out) (Nat.le_trans hsz hW.size)
   have CW := Aside0.mk cW
   clear cW
   by_cases hE : (rd_T60 l0 j).f0.toList = ([] : List UInt8)
   ·have e1 : ((rd_T60 l0 j).f0.toList == ([] : List UInt8)) = true := beq_iff_eq.mpr hE
    by_cases hO : (rd_T60 l0 j).f1 = 1
    ·have e2 : ((rd_T60 l0 j).f1 == 1) = true := beq_iff_eq.mpr hO
     have hsy : sayC (rd_T60 l0 j) = (rd_T60 l0 j).f0.data.toList ++ [32] := by unfold sayC; rw [if_pos hE, if_pos hO]
     have HSY := Aside0.mk hsy
     have HS2 : Aside0 ((sayL (l0.take j)).length + (rd_T60 l0 j).f0.size + 1 ≤ 140737488355328) := ⟨by
      have := HS.out
      rw [hsy, List.length_append] at this
      have : (rd_T60 l0 j).f0.size = (rd_T60 l0 j).f0.data.toList.length := rfl
      simp only [List.length_cons, List.length_nil] at *
      omega⟩
     clear hE hO hsy
     go_wp2_with (first | (go_at_call 46; (with_reducible refine (CW.out _ (below_alloc (Below.refl _ _) _)).mono ?_); rintro e w1 ⟨rfl, hat, hb1, hk1⟩; have hcb := (hk1 wr.heap.size _ (blk_new wr _) (by intro e; have := Option.some.inj e; omega) (by intro c fz e; cases e)); have hc0 := (blk_cell hcb 0).trans rfl; have hc1 := (blk_cell hcb 1).trans rfl; have HAT := Aside0.mk hat; have HB1 := Aside0.mk hb1; have HCB := Aside0.mk hcb; clear hat hb1 hk1 hcb) | (go_at_call 47; (with_reducible refine (Tryd.bWriteByte _ _ _ 32 _ (Lib.IsBuilderF.usedX HAT.out) ?b1 ?b2).mono ?_); (case b1 => rw [List.length_append, Lib.byteCells_length, Lib.strCells_length]; exact HS2.out); (case b2 => exact Nat.le_trans (by rw [World.size_alloc]; omega) HB1.out.size); rintro e w2 ⟨rfl, hat2, hb2, -⟩; have HAT2 := Aside0.mk hat2; have HB2 := Aside0.mk hb2; clear hat2 hb2))
     go_roundw
     case rel => exact ⟨j + 1, by omega, by go_num, ⟨by rw [HT.out, sayL_append]; simp only [sayL, List.append_nil, HSY.out]; rw [Lib.byteCells_append, Lib.byteCells_append, ← List.append_assoc]; exact Or.inr HAT2.out⟩, ⟨(below_alloc HB.out _).trans (HB1.out.trans HB2.out)⟩⟩
     case measure => simp [intOf]; omega
    ·have e2 : ((rd_T60 l0 j).f1 == 1) = false := beq_eq_false_iff_ne.mpr hO
     have HSY : Aside0 (sayC (rd_T60 l0 j) = (rd_T60 l0 j).f0.data.toList) := ⟨by unfold sayC; rw [if_pos hE, if_neg hO, List.append_nil]⟩
     clear hE hO
     go_wp2_with (go_at_call 46; (with_reducible refine (CW.out _ (below_alloc (Below.refl _ _) _)).mono ?_); rintro e w1 ⟨rfl, hat, hb1, hk1⟩; have hcb := (hk1 wr.heap.size _ (blk_new wr _) (by intro e; have := Option.some.inj e; omega) (by intro c fz e; cases e)); have hc0 := (blk_cell hcb 0).trans rfl; have hc1 := (blk_cell hcb 1).trans rfl; have HAT := Aside0.mk hat; have HB1 := Aside0.mk hb1; have HCB := Aside0.mk hcb; clear hat hb1 hk1 hcb)
     go_roundw
     case rel => exact ⟨j + 1, by omega, by go_num, ⟨by rw [HT.out, sayL_append]; simp only [sayL, List.append_nil, HSY.out]; rw [Lib.byteCells_append]; exact Or.inr HAT.out⟩, ⟨(below_alloc HB.out _).trans HB1.out⟩⟩
     case measure => simp [intOf]; omega
   ·have e1 : ((rd_T60 l0 j).f0.toList == ([] : List UInt8)) = false := beq_eq_false_iff_ne.mpr hE
    have HSY : Aside0 (sayC (rd_T60 l0 j) = (rd_T60 l0 j).f0.data.toList) := ⟨by unfold sayC; rw [if_neg hE, List.append_nil]⟩
    clear hE
    go_wp2_with (go_at_call 46; (with_reducible refine (CW.out _ (below_alloc (Below.refl _ _) _)).mono ?_); rintro e w1 ⟨rfl, hat, hb1, hk1⟩; have hcb := (hk1 wr.heap.size _ (blk_new wr _) (by intro e; have := Option.some.inj e; omega) (by intro c fz e; cases e)); have hc0 := (blk_cell hcb 0).trans rfl; have hc1 := (blk_cell hcb 1).trans rfl; have HAT := Aside0.mk hat; have HB1 := Aside0.mk hb1; have HCB := Aside0.mk hcb; clear hat hb1 hk1 hcb)
    go_roundw
    case rel => exact ⟨j + 1, by omega, by go_num, ⟨by rw [HT.out, sayL_append]; simp only [sayL, List.append_nil, HSY.out]; rw [Lib.byteCells_append]; exact Or.inr HAT.out⟩, ⟨(below_alloc HB.out _).trans HB1.out⟩⟩
    case measure => simp [intOf]; omega
  ·rw [List.take_of_length_le (by omega)] at HI
   go_wp2_with (go_at_call 48; refine (Tryd.Builder_String_any_k _ _ _ _ HI.out HB.out.size).mono ?_; rintro e w1 ⟨rfl, -, hb, -⟩)
   go_ret
   exact ⟨rfl, HB.out.trans hb⟩
end Go.Proofs.YtckkdaehmccjlaaDoor.P
namespace Go.Proofs.YtckkdaehmccjlaaDoor.P
open Go.RowKit Go.Proofs.YtckkdaehmccjlaaDoorW.PrintWords Go.Proofs.YtckkdaehmccjlaaDoorW.PrintLast Go.Proofs.YtckkdaehmccjlaaDoorW.PrintMore
attribute [local go_sem] max2_int min2_int max_two min_two max_three min_three max_four min_four   -- for this text's walks alone
set_option linter.unusedVariables false
set_option linter.unusedSimpArgs false
attribute [local go_sem high] eqA60
def flow_trimmed.l0 : Nat → List (S60) → Option ((List (S60)))
 | 0, _ => none
 | k + 1, x0 => if (x0.length : Int) > 0 then (if 0 ≤ (wrap64 ((x0.length : Int) - 1)) then (if (wrap64 ((x0.length : Int) - 1)) < (x0.length : Int) then ((flow_none.f).bind fun bt162 => (if ((((rd_T60 x0 (wrap64 ((x0.length : Int) - 1))).f0).toList) == bt162.1.toList && (((rd_T60 x0 (wrap64 ((x0.length : Int) - 1))).f1) == bt162.2.1 && ((((rd_T60 x0 (wrap64 ((x0.length : Int) - 1))).f2.f0) == bt162.2.2.1 && (((rd_T60 x0 (wrap64 ((x0.length : Int) - 1))).f2.f1) == bt162.2.2.2.1 && (((rd_T60 x0 (wrap64 ((x0.length : Int) - 1))).f2.f2) == bt162.2.2.2.2)))))) = true then (if (wrap64 ((x0.length : Int) - 1)) ≤ (x0.length : Int) then (flow_trimmed.l0 k (x0.take ((wrap64 ((x0.length : Int) - 1)) : Int).toNat)) else (none)) else (some x0))) else (none)) else (none)) else (some x0)
def flow_trimmed.f (k : Nat) (l0 : List (S60)) : Option ((List (S60))) := flow_trimmed.l0 k l0
def flow_trimmed.T1 : Bool × List (List Nat × List Nat) := (true, [([], []), ([0], [0]), ([1], [1]), ([2], [2]), ([3], [3]), ([3], [3]), ([5, 3], [3, 5]), ([6, 3], [3, 6]), ([4, 7, 3], [3, 4, 7]), ([8, 3], [3, 8]), ([3, 3], [3]), ([9, 10, 3], [3, 9, 10]), ([3, 11], [3, 11])])
def flow_trimmed.B1 : List Nat := [0, 1, 3, 7, 15, 15, 47, 111, 255, 511, 15, 2047, 4095]
theorem flow_trimmed.tab1 : rtab .any (opsOf Tryd.f44 1) = flow_trimmed.T1 := by kernel_rfl
theorem flow_trimmed.bits1 : waitsOk flow_trimmed.T1.2 flow_trimmed.B1 = true := by kernel_rfl
set_option maxHeartbeats 8000000 in
set_option maxRecDepth 100000 in
theorem flow_trimmed.calls (k : Nat) (P0_ : Nat → Prop) (A0 : Option Addr) (c0 : Nat) (l0 : List (S60)) (r : List (S60)) (w : World) (hs0 : Kd.V k60 60 w w.heap.size (fun k_ => P0_ k_) (.slice A0 l0.length c0) l0) (h : flow_trimmed.f k l0 = some r) :
  Calls Tryd.prog 44 #[.slice A0 l0.length c0] w fun e w' => ∃ v0_ : Value, e = .returned (v0_) ∧ Kd.V k60 60 w' w.heap.size (fun k_ => (P0_ k_ ∨ w.heap.size ≤ k_)) v0_ r ∧ Below w.heap.size w w' := by
 have hu60 := Tryd.underlying60
 have HO0 := Aside0.mk (show Kd.V k60 60 w w.heap.size (fun k_ => (P0_ k_ ∨ w.heap.size ≤ k_)) (.slice A0 l0.length c0) l0 from Kd.V_mono hs0 (fun k_ hk => .inl hk))
 have HB := Aside0.mk (Below.refl w.heap.size w)
 have H : (flow_trimmed.l0 k l0) = some r := h
 clear h
 have H' := Aside0.mk H
 clear H
 go_enter Tryd.func44, Tryd.ntmps44
 go_wp2
 go_loopg [0] k (fun kq v0 w' => ∃ (x0_1 : List (S60)), Aside0 (flow_trimmed.l0 kq x0_1 = some r) ∧ Aside0 (kq ≤ k) ∧ Aside0 (Kd.V k60 60 w' w.heap.size (fun k_ => (P0_ k_ ∨ w.heap.size ≤ k_)) v0 x0_1) ∧ Aside0 (Below w.heap.size w w'))
 case atStart => exact ⟨(l0), H', ⟨Nat.le_refl _⟩, ⟨by (with_reducible repeat (first | apply Kd.V_alloc | apply Kd.V_drewN | apply Kd.V_drew)); exact HO0.out⟩, ⟨zb⟩⟩
 case round =>
  clear H'
  obtain ⟨x0_1, HA, HK1, HO_0, HB⟩ := hrel
  cases gk with
  | zero => exact absurd HA.out (by simp [flow_trimmed.l0])
  | succ k1 =>
   have H := HA.out
   clear HA
   simp only [flow_trimmed.l0] at H
   by_cases c2 : (x0_1.length : Int) > 0
   ·rw [if_pos c2] at H
    have c2b0 : decide (0 < (x0_1.length : Int)) = true := decide_eq_true c2
    have c2b1 : decide (0 < x0_1.length) = true := decide_eq_true (by omega)
    clear c2
    obtain ⟨ji3, hji3⟩ : ∃ j_ : Int, (wrap64 ((x0_1.length : Int) - 1)) = j_ := ⟨_, rfl⟩
    replace H : (if 0 ≤ (ji3) then (if (ji3) < (x0_1.length : Int) then ((flow_none.f).bind fun bt162 => (if ((((rd_T60 x0_1 (ji3)).f0).toList) == bt162.1.toList && (((rd_T60 x0_1 (ji3)).f1) == bt162.2.1 && ((((rd_T60 x0_1 (ji3)).f2.f0) == bt162.2.2.1 && (((rd_T60 x0_1 (ji3)).f2.f1) == bt162.2.2.2.1 && (((rd_T60 x0_1 (ji3)).f2.f2) == bt162.2.2.2.2)))))) = true then (if (ji3) ≤ (x0_1.length : Int) then (flow_trimmed.l0 k1 (x0_1.take ((ji3) : Int).toNat)) else (none)) else (some x0_1))) else (none)) else (none)) = some r := by first | (rw [hji3] at H; exact H) | (simp only [hji3] at H ⊢; exact H)
    have hji3w : (IntKind.i64.wrap ((x0_1.length : Int) - 1)) = ji3 := (i64_w _).trans hji3
    by_cases c4 : 0 ≤ (ji3)
    ·rw [if_pos c4] at H
     have c4b0 : decide (0 ≤ (ji3)) = true := decide_eq_true c4
     clear c4
     by_cases c5 : (ji3) < (x0_1.length : Int)
     ·rw [if_pos c5] at H
      have c5b0 : decide ((ji3) < (x0_1.length : Int)) = true := decide_eq_true c5
      clear c5
      replace H := Option.bind_eq_some_iff.mp H
      obtain ⟨⟨t162, t163, t164, t165, t166⟩, A60, H⟩ := H
      replace H : (if ((((rd_T60 x0_1 (ji3)).f0).toList) == t162.toList && (((rd_T60 x0_1 (ji3)).f1) == t163 && ((((rd_T60 x0_1 (ji3)).f2.f0) == t164 && (((rd_T60 x0_1 (ji3)).f2.f1) == t165 && (((rd_T60 x0_1 (ji3)).f2.f2) == t166)))))) = true then (if (ji3) ≤ (x0_1.length : Int) then (flow_trimmed.l0 k1 (x0_1.take ((ji3) : Int).toNat)) else (none)) else (some x0_1)) = some r := H
      have A6 := Aside0.mk A60
      clear A60
      by_cases c7 : ((((rd_T60 x0_1 (ji3)).f0).toList) == t162.toList && (((rd_T60 x0_1 (ji3)).f1) == t163 && ((((rd_T60 x0_1 (ji3)).f2.f0) == t164 && (((rd_T60 x0_1 (ji3)).f2.f1) == t165 && (((rd_T60 x0_1 (ji3)).f2.f2) == t166)))))) = true
      ·rw [if_pos c7] at H
       have c7b0 : ((((rd_T60 x0_1 (ji3)).f0).toList) == t162.toList && (((rd_T60 x0_1 (ji3)).f1) == t163 && ((((rd_T60 x0_1 (ji3)).f2.f0) == t164 && (((rd_T60 x0_1 (ji3)).f2.f1) == t165 && (((rd_T60 x0_1 (ji3)).f2.f2) == t166)))))) = true := c7
       (try (have c7b1 : decide ((((rd_T60 x0_1 (ji3)).f0).toList) = t162.toList && (((rd_T60 x0_1 (ji3)).f1) == t163 && ((((rd_T60 x0_1 (ji3)).f2.f0) == t164 && (((rd_T60 x0_1 (ji3)).f2.f1) == t165 && (((rd_T60 x0_1 (ji3)).f2.f2) == t166)))))) = true := by simpa using c7))
       (try (have c7b2 : ((((rd_T60 x0_1 (ji3)).f0).toList) == t162.toList && (((rd_T60 x0_1 (ji3)).f1) == t163 && ((((rd_T60 x0_1 (ji3)).f2.f0) == t164 && (((rd_T60 x0_1 (ji3)).f2.f1) == t165 && (((rd_T60 x0_1 (ji3)).f2.f2) == t166)))))) = true := by simpa using c7))
       clear c7
       have c8b0 := eq_true (of_decide_eq_true za : 0 ≤ (ji3))
       by_cases c9 : (ji3) ≤ (x0_1.length : Int)
       ·rw [if_pos c9] at H
        have c9b0 := eq_true c9
        have c9b1 : decide ((ji3) ≤ (x0_1.length : Int)) = true := decide_eq_true c9
        clear c9
        obtain ⟨y167, hy167⟩ : ∃ y_ : List (S60), y_ = (x0_1.take ((ji3) : Int).toNat) := ⟨_, rfl⟩
        replace H : (flow_trimmed.l0 k1 y167) = some r := by first | (rw [hy167]; with_reducible exact H) | (have H2_ := (Option.bind_some _ _).symm.trans H; rw [hy167]; with_reducible exact H2_) | (have H2_ := (Option.bind_some _ _).symm.trans H; with_reducible exact H2_) | with_reducible exact H | (rw [hy167]; exact H) | exact H
        have Ny167 := Aside0.mk hy167
        clear hy167
        have H' := Aside0.mk H
        clear H
        try go_wp2
        have n0_ := Aside0.mk (Kd.V_drew HO_0.out)
        have n1_ := Aside0.mk (below_drew1 HB.out)
        clear HO_0
        clear HB
        have HO_0 := n0_
        have HB := n1_
        clear n0_ n1_
        obtain ⟨Ao11, co11, eo11⟩ := Kd.V_slice HO_0.out
        (first | subst eo11 | (injection eo11 with f1_ f2_ f3_; have f4_ := f1_.symm; have f5_ := f3_.symm; clear f1_ f2_ f3_; subst f4_; subst f5_))
        have p161 : 0 ≤ ((ji3) : Int) := of_decide_eq_true za
        have q161 : (ji3) < (x0_1.length : Int) := of_decide_eq_true za
        obtain ⟨ad161, e161, hx161_0, hx161_1, hx161_2, hx161_3, hx161_4⟩ := at_T60 (Kd.V_reads' HO_0.out).2.2 (ji3) p161 q161
        cases e161
        replace p161 := eq_true p161
        replace q161 := eq_true q161
        refine start_ (n := 13) (S := fun w' => w'.cell? (ad161.add (((ji3)).toNat * 5)) = some (.string ((rd_T60 x0_1 (ji3)).f0)) ∧ w'.cell? ⟨(ad161.add (((ji3)).toNat * 5)).block, (ad161.add (((ji3)).toNat * 5)).off + 1, none⟩ = some (.int .i64 ((rd_T60 x0_1 (ji3)).f1)) ∧ w'.cell? ⟨(ad161.add (((ji3)).toNat * 5)).block, (ad161.add (((ji3)).toNat * 5)).off + 2, none⟩ = some (.int .i64 ((rd_T60 x0_1 (ji3)).f2.f0)) ∧ w'.cell? ⟨(ad161.add (((ji3)).toNat * 5)).block, (ad161.add (((ji3)).toNat * 5)).off + 3, none⟩ = some (.int .i64 ((rd_T60 x0_1 (ji3)).f2.f1)) ∧ w'.cell? ⟨(ad161.add (((ji3)).toNat * 5)).block, (ad161.add (((ji3)).toNat * 5)).off + 4, none⟩ = some (.int .i64 ((rd_T60 x0_1 (ji3)).f2.f2))) (ds := []) #[false, false, false, false, false, false, false, false, false, false, false, false, false] (by kernel_rfl) rfl rfl ⟨hx161_0, hx161_1, hx161_2, hx161_3, hx161_4⟩ (fun hHeld => ?_); refine with_tabW flow_trimmed.tab1 flow_trimmed.bits1 (fun HT_ HW_ => ?_)
        generalize wr.drew = w10 at HO_0 HB hx161_0 hx161_1 hx161_2 hx161_3 hx161_4 hHeld ⊢
        refine pure_ (i := 0) (N := some 3) (v := ?_) (a' := ?_) #[true, false, false, false, false, false, false, false, false, false, false, false, false] rfl rfl (any_of HT_.out (by kernel_rfl)) (fun _ _ _ h => h) (Or.inl ⟨by rfl, ?_⟩) ?_ ?_
        rotate_left
        ·intro w'
         go_simp
         with_reducible rfl
        rotate_left
        ·exact zr
        refine pure_ (i := 1) (N := some 4) (v := ?_) (a' := ?_) #[true, true, false, false, false, false, false, false, false, false, false, false, false] rfl rfl (any_of HT_.out (by kernel_rfl)) (fun _ _ _ h => h) (Or.inl ⟨by rfl, ?_⟩) ?_ ?_
        rotate_left
        ·intro w'
         go_simp
         with_reducible rfl
        rotate_left
        ·exact zr
        refine pure_ (i := 2) (N := some 5) (v := ?_) (a' := ?_) #[true, true, true, false, false, false, false, false, false, false, false, false, false] rfl rfl (any_of HT_.out (by kernel_rfl)) (fun _ _ _ h => h) (Or.inl ⟨by rfl, ?_⟩) ?_ ?_
        rotate_left
        ·intro w'
         go_simp
         with_reducible rfl
        rotate_left
        ·exact zr
        refine pure_ (i := 3) (N := some 6) (v := ?_) (a' := ?_) #[true, true, true, true, false, false, false, false, false, false, false, false, false] rfl rfl (any_of HT_.out (by kernel_rfl)) (fun _ _ _ h => h) (Or.inl ⟨by rfl, ?_⟩) ?_ ?_
        rotate_left
        ·intro w'
         go_simp
         with_reducible rfl
        rotate_left
        ·exact zr
        refine pure_ (i := 4) (N := some 7) (v := ?_) (a' := ?_) #[true, true, true, true, true, false, false, false, false, false, false, false, false] rfl rfl (any_of HT_.out (by kernel_rfl)) (fun _ _ _ h => h) (Or.inl ⟨by rfl, ?_⟩) ?_ ?_
        rotate_left
        ·intro w'
         go_simp
         with_reducible rfl
        rotate_left
        ·exact zr
        refine pure_ (i := 5) (N := some 8) (v := ?_) (a' := ?_) #[true, true, true, true, true, true, false, false, false, false, false, false, false] rfl rfl (any_of HT_.out (by kernel_rfl)) (fun _ _ _ h => h) (Or.inl ⟨by rfl, ?_⟩) ?_ ?_
        rotate_left
        ·intro w'
         go_simp
         with_reducible rfl
        rotate_left
        ·exact zr
        refine pure_ (i := 6) (N := some 9) (v := ?_) (a' := ?_) #[true, true, true, true, true, true, true, false, false, false, false, false, false] rfl rfl (any_of HT_.out (by kernel_rfl)) (fun _ _ _ h => h) (Or.inl ⟨by rfl, ?_⟩) ?_ ?_
        rotate_left
        ·intro w'
         go_simp
         with_reducible rfl
        rotate_left
        ·exact zr
        refine pure_ (i := 7) (N := some 10) (v := ?_) (a' := ?_) #[true, true, true, true, true, true, true, true, false, false, false, false, false] rfl rfl (any_of HT_.out (by kernel_rfl)) (fun _ _ _ h => h) (Or.inl ⟨by rfl, ?_⟩) ?_ ?_
        rotate_left
        ·intro w'
         go_simp
         with_reducible rfl
        rotate_left
        ·exact zr
        refine pure_ (i := 8) (N := some 11) (v := ?_) (a' := ?_) #[true, true, true, true, true, true, true, true, true, false, false, false, false] rfl rfl (any_of HT_.out (by kernel_rfl)) (fun _ _ _ h => h) (Or.inl ⟨by rfl, ?_⟩) ?_ ?_
        rotate_left
        ·intro w'
         go_simp
         with_reducible rfl
        rotate_left
        ·exact zr
        refine take_ (i := 9) (N := some 12) (v := ?_) (a' := ?_) #[true, true, true, true, true, true, true, true, true, true, false, false, false] rfl rfl (take_ofW HT_.out HW_.out (by kernel_rfl)) (fun _ _ _ h => h) (Or.inl ⟨by rfl, ?_⟩) hHeld ?_ ?_
        rotate_left
        ·rintro w' ⟨s0, s1, s2, s3, s4⟩
         go_simp
         with_reducible rfl
        rotate_left
        ·exact zr
        refine one_ (i := 10) (N := some 13) #[true, true, true, true, true, true, true, true, true, true, true, false, false] rfl rfl (one_of HT_.out (by kernel_rfl)) (by decide) (fun K hK => ?_)
        refine goes_ Tryd.func67 (by kernel_rfl) rfl #[] (by rfl) rfl rfl zl ?_
        with_reducible refine (flow_none.calls  t162 t163 t164 t165 t166 _ A6.out).mono ?_
        rintro e w12 ⟨rfl, hb⟩
        have HS0_ := (hb.cell (World.block_lt_of_cell? _ _ (hHeld.1))).trans (hHeld.1)
        have HS1_ := (hb.cell (World.block_lt_of_cell? _ _ (hHeld.2.1))).trans (hHeld.2.1)
        have HS2_ := (hb.cell (World.block_lt_of_cell? _ _ (hHeld.2.2.1))).trans (hHeld.2.2.1)
        have HS3_ := (hb.cell (World.block_lt_of_cell? _ _ (hHeld.2.2.2.1))).trans (hHeld.2.2.2.1)
        have HS4_ := (hb.cell (World.block_lt_of_cell? _ _ (hHeld.2.2.2.2))).trans (hHeld.2.2.2.2)
        refine ⟨_, rfl, ?_⟩
        have n0_ := Aside0.mk (Kd.V_below (by (with_reducible repeat (first | apply Kd.V_alloc | apply Kd.V_drewN | apply Kd.V_drew)); exact HO_0.out) hb)
        have n1_ := (zs HB hb)
        clear HO_0
        clear HB
        have HO_0 := n0_
        have HB := n1_
        clear n0_ n1_
        (try clear hb)
        (try clear hb2)
        (try clear hk)
        (try clear hi)
        refine hK.out _ _ ⟨HS0_, HS1_, HS2_, HS3_, HS4_⟩ (fun hHeld => ?_)
        clear hK K
        refine norm_ (a' := ?_) ?_ ?_
        rotate_left
        ·show Act.put _ (some 13) _ = _
         simp only [Act.put, List.setIfInBounds_toArray, List.set_cons_zero, List.set_cons_succ, i64_w, i32_w]
         rfl
        refine pure_ (i := 11) (N := some 14) (v := ?_) (a' := ?_) #[true, true, true, true, true, true, true, true, true, true, true, true, false] rfl rfl (any_of HT_.out (by kernel_rfl)) (fun _ _ _ h => h) (Or.inl ⟨by rfl, ?_⟩) ?_ ?_
        rotate_left
        ·intro w'
         go_simp
         with_reducible rfl
        rotate_left
        ·exact zr
        refine pure_ (i := 12) (N := some 15) (v := ?_) (a' := ?_) #[true, true, true, true, true, true, true, true, true, true, true, true, true] rfl rfl (any_of HT_.out (by kernel_rfl)) (fun _ _ _ h => h) (Or.inl ⟨by rfl, ?_⟩) ?_ ?_
        rotate_left
        ·intro w'
         go_simp
         with_reducible rfl
        rotate_left
        ·exact zr
        refine done_ (done_of HT_.out (by kernel_rfl)) ?_
        have q13 : ((ji3) : Int) ≤ ((x0_1.length : Int) : Int) := of_decide_eq_true za
        obtain ⟨i013, hi013, _, hsz13, _⟩ := info_parts info60
        have hroom13 : x0_1.length ≤ co11 := (Kd.V_reads' HO_0.out).2.1
        have hC13 : Kd.F k60 _ _ (some ad161) x0_1.length x0_1 := (Kd.V_at (base := w.heap.size) HO_0.out).2.2
        have hcut13 := cut_to (P := Tryd.prog) 36 60 .i64 Tryd.underlying36 hi013 (some ad161) x0_1.length co11 (ji3) (of_decide_eq_true za) q13 hroom13
        have hr13 := Kd.F_take (m := ((ji3) : Int).toNat) hC13 (by omega)
        have hy13 : y167.length = ((ji3) : Int).toNat := (by rw [Ny167.out, List.length_take]; omega)
        rw [← Ny167.out] at hr13
        rw [← hy13] at hcut13
        have HO171 := Aside0.mk (show Kd.V k60 60 _ w.heap.size _ (.slice (some ad161) y167.length co11) y167 from Kd.V_mk (by omega) hr13)
        have HC171 := Aside0.mk (show y167.length ≤ co11 from by omega)
        clear hr13 hC13 hroom13 hi013 hsz13
        have KY13 := Aside0.mk hy13
        clear hy13
        replace q13 := eq_true q13
        try go_wp2
        go_roundg k1
        case measure => have := HK1.out; omega
        case rel => exact ⟨(y167), H', ⟨by have := HK1.out; omega⟩, ⟨by (with_reducible repeat (first | apply Kd.V_alloc | apply Kd.V_drewN | apply Kd.V_drew)); exact HO171.out⟩, ⟨zb⟩⟩
       ·rw [if_neg c9] at H
        exact absurd H (by simp)
      ·rw [if_neg c7] at H
       have c7b0 : ((((rd_T60 x0_1 (ji3)).f0).toList) == t162.toList && (((rd_T60 x0_1 (ji3)).f1) == t163 && ((((rd_T60 x0_1 (ji3)).f2.f0) == t164 && (((rd_T60 x0_1 (ji3)).f2.f1) == t165 && (((rd_T60 x0_1 (ji3)).f2.f2) == t166)))))) = false := by simpa using c7
       (try (have c7b1 : decide ((((rd_T60 x0_1 (ji3)).f0).toList) = t162.toList && (((rd_T60 x0_1 (ji3)).f1) == t163 && ((((rd_T60 x0_1 (ji3)).f2.f0) == t164 && (((rd_T60 x0_1 (ji3)).f2.f1) == t165 && (((rd_T60 x0_1 (ji3)).f2.f2) == t166)))))) = false := by simpa using c7))
       (try (have c7b2 : ((((rd_T60 x0_1 (ji3)).f0).toList) == t162.toList && (((rd_T60 x0_1 (ji3)).f1) == t163 && ((((rd_T60 x0_1 (ji3)).f2.f0) == t164 && (((rd_T60 x0_1 (ji3)).f2.f1) == t165 && (((rd_T60 x0_1 (ji3)).f2.f2) == t166)))))) = false := by simpa using c7))
       (try (have c7b3 : ¬ ((((rd_T60 x0_1 (ji3)).f0).toList) = t162.toList && (((rd_T60 x0_1 (ji3)).f1) == t163 && ((((rd_T60 x0_1 (ji3)).f2.f0) == t164 && (((rd_T60 x0_1 (ji3)).f2.f1) == t165 && (((rd_T60 x0_1 (ji3)).f2.f2) == t166)))))) := by simpa using c7))
       clear c7
       obtain rfl := Option.some.inj H
       try go_wp2
       have n0_ := Aside0.mk (Kd.V_drew HO_0.out)
       have n1_ := Aside0.mk (below_drew1 HB.out)
       clear HO_0
       clear HB
       have HO_0 := n0_
       have HB := n1_
       clear n0_ n1_
       obtain ⟨Ao15, co15, eo15⟩ := Kd.V_slice HO_0.out
       (first | subst eo15 | (injection eo15 with f1_ f2_ f3_; have f4_ := f1_.symm; have f5_ := f3_.symm; clear f1_ f2_ f3_; subst f4_; subst f5_))
       have p161 : 0 ≤ ((ji3) : Int) := of_decide_eq_true za
       have q161 : (ji3) < (x0_1.length : Int) := of_decide_eq_true za
       obtain ⟨ad161, e161, hx161_0, hx161_1, hx161_2, hx161_3, hx161_4⟩ := at_T60 (Kd.V_reads' HO_0.out).2.2 (ji3) p161 q161
       cases e161
       replace p161 := eq_true p161
       replace q161 := eq_true q161
       refine start_ (n := 13) (S := fun w' => w'.cell? (ad161.add (((ji3)).toNat * 5)) = some (.string ((rd_T60 x0_1 (ji3)).f0)) ∧ w'.cell? ⟨(ad161.add (((ji3)).toNat * 5)).block, (ad161.add (((ji3)).toNat * 5)).off + 1, none⟩ = some (.int .i64 ((rd_T60 x0_1 (ji3)).f1)) ∧ w'.cell? ⟨(ad161.add (((ji3)).toNat * 5)).block, (ad161.add (((ji3)).toNat * 5)).off + 2, none⟩ = some (.int .i64 ((rd_T60 x0_1 (ji3)).f2.f0)) ∧ w'.cell? ⟨(ad161.add (((ji3)).toNat * 5)).block, (ad161.add (((ji3)).toNat * 5)).off + 3, none⟩ = some (.int .i64 ((rd_T60 x0_1 (ji3)).f2.f1)) ∧ w'.cell? ⟨(ad161.add (((ji3)).toNat * 5)).block, (ad161.add (((ji3)).toNat * 5)).off + 4, none⟩ = some (.int .i64 ((rd_T60 x0_1 (ji3)).f2.f2))) (ds := []) #[false, false, false, false, false, false, false, false, false, false, false, false, false] (by kernel_rfl) rfl rfl ⟨hx161_0, hx161_1, hx161_2, hx161_3, hx161_4⟩ (fun hHeld => ?_); refine with_tabW flow_trimmed.tab1 flow_trimmed.bits1 (fun HT_ HW_ => ?_)
       generalize wr.drew = w14 at HO_0 HB hx161_0 hx161_1 hx161_2 hx161_3 hx161_4 hHeld ⊢
       refine pure_ (i := 0) (N := some 3) (v := ?_) (a' := ?_) #[true, false, false, false, false, false, false, false, false, false, false, false, false] rfl rfl (any_of HT_.out (by kernel_rfl)) (fun _ _ _ h => h) (Or.inl ⟨by rfl, ?_⟩) ?_ ?_
       rotate_left
       ·intro w'
        go_simp
        with_reducible rfl
       rotate_left
       ·exact zr
       refine pure_ (i := 1) (N := some 4) (v := ?_) (a' := ?_) #[true, true, false, false, false, false, false, false, false, false, false, false, false] rfl rfl (any_of HT_.out (by kernel_rfl)) (fun _ _ _ h => h) (Or.inl ⟨by rfl, ?_⟩) ?_ ?_
       rotate_left
       ·intro w'
        go_simp
        with_reducible rfl
       rotate_left
       ·exact zr
       refine pure_ (i := 2) (N := some 5) (v := ?_) (a' := ?_) #[true, true, true, false, false, false, false, false, false, false, false, false, false] rfl rfl (any_of HT_.out (by kernel_rfl)) (fun _ _ _ h => h) (Or.inl ⟨by rfl, ?_⟩) ?_ ?_
       rotate_left
       ·intro w'
        go_simp
        with_reducible rfl
       rotate_left
       ·exact zr
       refine pure_ (i := 3) (N := some 6) (v := ?_) (a' := ?_) #[true, true, true, true, false, false, false, false, false, false, false, false, false] rfl rfl (any_of HT_.out (by kernel_rfl)) (fun _ _ _ h => h) (Or.inl ⟨by rfl, ?_⟩) ?_ ?_
       rotate_left
       ·intro w'
        go_simp
        with_reducible rfl
       rotate_left
       ·exact zr
       refine pure_ (i := 4) (N := some 7) (v := ?_) (a' := ?_) #[true, true, true, true, true, false, false, false, false, false, false, false, false] rfl rfl (any_of HT_.out (by kernel_rfl)) (fun _ _ _ h => h) (Or.inl ⟨by rfl, ?_⟩) ?_ ?_
       rotate_left
       ·intro w'
        go_simp
        with_reducible rfl
       rotate_left
       ·exact zr
       refine pure_ (i := 5) (N := some 8) (v := ?_) (a' := ?_) #[true, true, true, true, true, true, false, false, false, false, false, false, false] rfl rfl (any_of HT_.out (by kernel_rfl)) (fun _ _ _ h => h) (Or.inl ⟨by rfl, ?_⟩) ?_ ?_
       rotate_left
       ·intro w'
        go_simp
        with_reducible rfl
       rotate_left
       ·exact zr
       refine pure_ (i := 6) (N := some 9) (v := ?_) (a' := ?_) #[true, true, true, true, true, true, true, false, false, false, false, false, false] rfl rfl (any_of HT_.out (by kernel_rfl)) (fun _ _ _ h => h) (Or.inl ⟨by rfl, ?_⟩) ?_ ?_
       rotate_left
       ·intro w'
        go_simp
        with_reducible rfl
       rotate_left
       ·exact zr
       refine pure_ (i := 7) (N := some 10) (v := ?_) (a' := ?_) #[true, true, true, true, true, true, true, true, false, false, false, false, false] rfl rfl (any_of HT_.out (by kernel_rfl)) (fun _ _ _ h => h) (Or.inl ⟨by rfl, ?_⟩) ?_ ?_
       rotate_left
       ·intro w'
        go_simp
        with_reducible rfl
       rotate_left
       ·exact zr
       refine pure_ (i := 8) (N := some 11) (v := ?_) (a' := ?_) #[true, true, true, true, true, true, true, true, true, false, false, false, false] rfl rfl (any_of HT_.out (by kernel_rfl)) (fun _ _ _ h => h) (Or.inl ⟨by rfl, ?_⟩) ?_ ?_
       rotate_left
       ·intro w'
        go_simp
        with_reducible rfl
       rotate_left
       ·exact zr
       refine take_ (i := 9) (N := some 12) (v := ?_) (a' := ?_) #[true, true, true, true, true, true, true, true, true, true, false, false, false] rfl rfl (take_ofW HT_.out HW_.out (by kernel_rfl)) (fun _ _ _ h => h) (Or.inl ⟨by rfl, ?_⟩) hHeld ?_ ?_
       rotate_left
       ·rintro w' ⟨s0, s1, s2, s3, s4⟩
        go_simp
        with_reducible rfl
       rotate_left
       ·exact zr
       refine one_ (i := 10) (N := some 13) #[true, true, true, true, true, true, true, true, true, true, true, false, false] rfl rfl (one_of HT_.out (by kernel_rfl)) (by decide) (fun K hK => ?_)
       refine goes_ Tryd.func67 (by kernel_rfl) rfl #[] (by rfl) rfl rfl zl ?_
       with_reducible refine (flow_none.calls  t162 t163 t164 t165 t166 _ A6.out).mono ?_
       rintro e w16 ⟨rfl, hb⟩
       have HS0_ := (hb.cell (World.block_lt_of_cell? _ _ (hHeld.1))).trans (hHeld.1)
       have HS1_ := (hb.cell (World.block_lt_of_cell? _ _ (hHeld.2.1))).trans (hHeld.2.1)
       have HS2_ := (hb.cell (World.block_lt_of_cell? _ _ (hHeld.2.2.1))).trans (hHeld.2.2.1)
       have HS3_ := (hb.cell (World.block_lt_of_cell? _ _ (hHeld.2.2.2.1))).trans (hHeld.2.2.2.1)
       have HS4_ := (hb.cell (World.block_lt_of_cell? _ _ (hHeld.2.2.2.2))).trans (hHeld.2.2.2.2)
       refine ⟨_, rfl, ?_⟩
       have n0_ := Aside0.mk (Kd.V_below (by (with_reducible repeat (first | apply Kd.V_alloc | apply Kd.V_drewN | apply Kd.V_drew)); exact HO_0.out) hb)
       have n1_ := (zs HB hb)
       clear HO_0
       clear HB
       have HO_0 := n0_
       have HB := n1_
       clear n0_ n1_
       (try clear hb)
       (try clear hb2)
       (try clear hk)
       (try clear hi)
       refine hK.out _ _ ⟨HS0_, HS1_, HS2_, HS3_, HS4_⟩ (fun hHeld => ?_)
       clear hK K
       refine norm_ (a' := ?_) ?_ ?_
       rotate_left
       ·show Act.put _ (some 13) _ = _
        simp only [Act.put, List.setIfInBounds_toArray, List.set_cons_zero, List.set_cons_succ, i64_w, i32_w]
        rfl
       refine pure_ (i := 11) (N := some 14) (v := ?_) (a' := ?_) #[true, true, true, true, true, true, true, true, true, true, true, true, false] rfl rfl (any_of HT_.out (by kernel_rfl)) (fun _ _ _ h => h) (Or.inl ⟨by rfl, ?_⟩) ?_ ?_
       rotate_left
       ·intro w'
        go_simp
        with_reducible rfl
       rotate_left
       ·exact zr
       refine pure_ (i := 12) (N := some 15) (v := ?_) (a' := ?_) #[true, true, true, true, true, true, true, true, true, true, true, true, true] rfl rfl (any_of HT_.out (by kernel_rfl)) (fun _ _ _ h => h) (Or.inl ⟨by rfl, ?_⟩) ?_ ?_
       rotate_left
       ·intro w'
        go_simp
        with_reducible rfl
       rotate_left
       ·exact zr
       refine done_ (done_of HT_.out (by kernel_rfl)) ?_
       try go_wp2
       go_ret
       exact ⟨_, by first | rfl | (simp [errW_none, errW_some] <;> rfl) | (simp only [← hji3]; first | rfl | (simp [errW_none, errW_some] <;> rfl)) | (simp [*, errW_none, errW_some] <;> rfl), by (with_reducible repeat (first | apply Kd.V_alloc | apply Kd.V_drewN | apply Kd.V_drew)); exact HO_0.out, zb⟩
     ·rw [if_neg c5] at H
      exact absurd H (by simp)
    ·rw [if_neg c4] at H
     exact absurd H (by simp)
   ·rw [if_neg c2] at H
    have c2b0 : decide (0 < (x0_1.length : Int)) = false := decide_eq_false c2
    have c2b1 : decide (0 < x0_1.length) = false := decide_eq_false (by omega)
    clear c2
    obtain rfl := Option.some.inj H
    try go_wp2
    have n0_ := Aside0.mk (Kd.V_drew HO_0.out)
    have n1_ := Aside0.mk (below_drew1 HB.out)
    clear HO_0
    clear HB
    have HO_0 := n0_
    have HB := n1_
    clear n0_ n1_
    obtain ⟨Ao18, co18, eo18⟩ := Kd.V_slice HO_0.out
    (first | subst eo18 | (injection eo18 with f1_ f2_ f3_; have f4_ := f1_.symm; have f5_ := f3_.symm; clear f1_ f2_ f3_; subst f4_; subst f5_))
    refine start_ (n := 13) (S := fun w' => True) (ds := []) #[false, false, false, false, false, false, false, false, false, false, false, false, false] (by kernel_rfl) rfl rfl trivial (fun hHeld => ?_); refine with_tabW flow_trimmed.tab1 flow_trimmed.bits1 (fun HT_ HW_ => ?_)
    generalize wr.drew = w17 at HO_0 HB hHeld ⊢
    refine pure_ (i := 0) (N := some 3) (v := ?_) (a' := ?_) #[true, false, false, false, false, false, false, false, false, false, false, false, false] rfl rfl (any_of HT_.out (by kernel_rfl)) (fun _ _ _ h => h) (Or.inl ⟨by rfl, ?_⟩) ?_ ?_
    rotate_left
    ·intro w'
     go_simp
     with_reducible rfl
    rotate_left
    ·exact zr
    refine pure_ (i := 1) (N := some 4) (v := ?_) (a' := ?_) #[true, true, false, false, false, false, false, false, false, false, false, false, false] rfl rfl (any_of HT_.out (by kernel_rfl)) (fun _ _ _ h => h) (Or.inl ⟨by rfl, ?_⟩) ?_ ?_
    rotate_left
    ·intro w'
     go_simp
     with_reducible rfl
    rotate_left
    ·exact zr
    refine pure_ (i := 2) (N := some 5) (v := ?_) (a' := ?_) #[true, true, true, false, false, false, false, false, false, false, false, false, false] rfl rfl (any_of HT_.out (by kernel_rfl)) (fun _ _ _ h => h) (Or.inl ⟨by rfl, ?_⟩) ?_ ?_
    rotate_left
    ·intro w'
     go_simp
     with_reducible rfl
    rotate_left
    ·exact zr
    refine pure_ (i := 3) (N := some 6) (v := ?_) (a' := ?_) #[true, true, true, true, false, false, false, false, false, false, false, false, false] rfl rfl (any_of HT_.out (by kernel_rfl)) (fun _ _ _ h => h) (Or.inl ⟨by rfl, ?_⟩) ?_ ?_
    rotate_left
    ·intro w'
     go_simp
     with_reducible rfl
    rotate_left
    ·exact zr
    refine pure_ (i := 4) (N := some 7) (v := undef) (a' := ?_) #[true, true, true, true, true, false, false, false, false, false, false, false, false] rfl rfl (any_of HT_.out (by kernel_rfl)) (fun _ _ _ h => h) (Or.inr ⟨by rfl, rfl⟩) ?_ ?_
    rotate_left
    ·exact zr
    refine pure_ (i := 5) (N := some 8) (v := undef) (a' := ?_) #[true, true, true, true, true, true, false, false, false, false, false, false, false] rfl rfl (any_of HT_.out (by kernel_rfl)) (fun _ _ _ h => h) (Or.inr ⟨by rfl, rfl⟩) ?_ ?_
    rotate_left
    ·exact zr
    refine pure_ (i := 6) (N := some 9) (v := undef) (a' := ?_) #[true, true, true, true, true, true, true, false, false, false, false, false, false] rfl rfl (any_of HT_.out (by kernel_rfl)) (fun _ _ _ h => h) (Or.inr ⟨by rfl, rfl⟩) ?_ ?_
    rotate_left
    ·exact zr
    refine pure_ (i := 7) (N := some 10) (v := undef) (a' := ?_) #[true, true, true, true, true, true, true, true, false, false, false, false, false] rfl rfl (any_of HT_.out (by kernel_rfl)) (fun _ _ _ h => h) (Or.inr ⟨by rfl, rfl⟩) ?_ ?_
    rotate_left
    ·exact zr
    refine pure_ (i := 8) (N := some 11) (v := undef) (a' := ?_) #[true, true, true, true, true, true, true, true, true, false, false, false, false] rfl rfl (any_of HT_.out (by kernel_rfl)) (fun _ _ _ h => h) (Or.inr ⟨by rfl, rfl⟩) ?_ ?_
    rotate_left
    ·exact zr
    refine pure_ (i := 9) (N := some 12) (v := undef) (a' := ?_) #[true, true, true, true, true, true, true, true, true, true, false, false, false] rfl rfl (any_of HT_.out (by kernel_rfl)) (fun _ _ _ h => h) (Or.inr ⟨by rfl, rfl⟩) ?_ ?_
    rotate_left
    ·exact zr
    refine pure_ (i := 10) (N := some 13) (v := undef) (a' := ?_) #[true, true, true, true, true, true, true, true, true, true, true, false, false] rfl rfl (any_of HT_.out (by kernel_rfl)) (fun _ _ _ h => h) (Or.inr ⟨by rfl, rfl⟩) ?_ ?_
    rotate_left
    ·exact zr
    refine pure_ (i := 11) (N := some 14) (v := undef) (a' := ?_) #[true, true, true, true, true, true, true, true, true, true, true, true, false] rfl rfl (any_of HT_.out (by kernel_rfl)) (fun _ _ _ h => h) (Or.inr ⟨by rfl, rfl⟩) ?_ ?_
    rotate_left
    ·exact zr
    refine pure_ (i := 12) (N := some 15) (v := ?_) (a' := ?_) #[true, true, true, true, true, true, true, true, true, true, true, true, true] rfl rfl (any_of HT_.out (by kernel_rfl)) (fun _ _ _ h => h) (Or.inl ⟨by rfl, ?_⟩) ?_ ?_
    rotate_left
    ·intro w'
     go_simp
     with_reducible rfl
    rotate_left
    ·exact zr
    refine done_ (done_of HT_.out (by kernel_rfl)) ?_
    try go_wp2
    go_ret
    exact ⟨_, ze, by (with_reducible repeat (first | apply Kd.V_alloc | apply Kd.V_drewN | apply Kd.V_drew)); exact HO_0.out, zb⟩
end Go.Proofs.YtckkdaehmccjlaaDoor.P
namespace Go.Proofs.YtckkdaehmccjlaaDoor.P
open Go.RowKit Go.Proofs.YtckkdaehmccjlaaDoorW.PrintWords Go.Proofs.YtckkdaehmccjlaaDoorW.PrintLast Go.Proofs.YtckkdaehmccjlaaDoorW.PrintMore
attribute [local go_sem] max2_int min2_int max_two min_two max_three min_three max_four min_four   -- for this text's walks alone
set_option linter.unusedVariables false
set_option linter.unusedSimpArgs false
def back_odd.f (k : Nat) (l0_0 : List (S60)) (a0_1 : Bool) : Option (Bool) := if (l0_0.length : Int) < 1 then (some true) else (if (l0_0.length : Int) > 80 then (some true) else ((grid_Fits.f k l0_0 a0_1 (l0_0.length : Int)).bind fun t152 => (some (!t152))))
set_option maxHeartbeats 8000000 in
set_option maxRecDepth 100000 in
theorem back_odd.calls (k : Nat) (A0_0 : Option Addr) (c0_0 : Nat) (l0_0 : List (S60)) (a0_1 : Bool) (r : Bool) (w : World) (hr0_0 : Kd.C k60 w A0_0 l0_0.length l0_0) (hc0_0 : l0_0.length ≤ c0_0) (h : back_odd.f k l0_0 a0_1 = some r) (hT : Tabs w := by first | exact Aside0.out (by with_reducible assumption) | exact Tabs.keepA (by with_reducible assumption) (by repeat (first | (with_reducible exact Aside0.out (by with_reducible assumption)) | (with_reducible apply below_alloc) | (with_reducible apply pw_below_drewN) | (with_reducible apply below_drew1) | (with_reducible refine below_set ?_ (Aside0.out (by with_reducible assumption)))))) :
  Calls Tryd.prog 80 #[.agg #[.slice A0_0 l0_0.length c0_0, .bool a0_1]] w fun e w' => e = .returned (.bool r) ∧ Below w.heap.size w w' := by
 have HT := Aside0.mk (show Tabs w from hT)
 clear hT
 have hu38 := Tryd.underlying38
 have HR0_0 := Aside0.mk hr0_0
 have HC0_0 := Aside0.mk hc0_0
 clear hr0_0 hc0_0
 have HB := Aside0.mk (Below.refl w.heap.size w)
 have H : (if (l0_0.length : Int) < 1 then (some true) else (if (l0_0.length : Int) > 80 then (some true) else ((grid_Fits.f k l0_0 a0_1 (l0_0.length : Int)).bind fun t152 => (some (!t152))))) = some r := h
 clear h
 by_cases c2 : (l0_0.length : Int) < 1
 ·rw [if_pos c2] at H
  have c2b0 : decide ((l0_0.length : Int) < 1) = true := decide_eq_true c2
  have c2b1 : decide (l0_0.length < 1) = true := decide_eq_true (by omega)
  clear c2
  obtain rfl := Option.some.inj H
  go_enter Tryd.func80, Tryd.ntmps80
  go_wp2_with (first | ((with_reducible refine gate_dst (N := 1) rfl ?_); refine box_event ?hg (N := 1) ?hd (cs := #[.slice A0_0 l0_0.length c0_0, .bool a0_1]) (t := 38) ?hr ?_; (case hd => rfl); (case hg => rfl); (case hr => exact zo); intro gb151 hg w3 hbox hb; have BK151 := Aside0.mk (hbox); have GW151 := Aside0.mk ((zg hg : w.heap.size ≤ gb151)); have GE151 := Aside0.mk ((zg hg : w.heap.size ≤ gb151)); replace HB := (zs HB hb); clear hb hbox hg; obtain ⟨hcz4_0, hcz4_1, hfz4_0, hfz4_1⟩ := zq2 (w := w3) BK151))
  go_ret
  exact ⟨ze, zb⟩
 ·rw [if_neg c2] at H
  have c2b0 : decide ((l0_0.length : Int) < 1) = false := decide_eq_false c2
  have c2b1 : decide (l0_0.length < 1) = false := decide_eq_false (by omega)
  clear c2
  by_cases c5 : (l0_0.length : Int) > 80
  ·rw [if_pos c5] at H
   have c5b0 : decide (80 < (l0_0.length : Int)) = true := decide_eq_true c5
   have c5b1 : decide (80 < l0_0.length) = true := decide_eq_true (by omega)
   clear c5
   obtain rfl := Option.some.inj H
   go_enter Tryd.func80, Tryd.ntmps80
   go_wp2_with (first | ((with_reducible refine gate_dst (N := 1) rfl ?_); refine box_event ?hg (N := 1) ?hd (cs := #[.slice A0_0 l0_0.length c0_0, .bool a0_1]) (t := 38) ?hr ?_; (case hd => rfl); (case hg => rfl); (case hr => exact zo); intro gb151 hg w6 hbox hb; have BK151 := Aside0.mk (hbox); have GW151 := Aside0.mk ((zg hg : w.heap.size ≤ gb151)); have GE151 := Aside0.mk ((zg hg : w.heap.size ≤ gb151)); replace HB := (zs HB hb); clear hb hbox hg; obtain ⟨hcz7_0, hcz7_1, hfz7_0, hfz7_1⟩ := zq2 (w := w6) BK151))
   go_ret
   exact ⟨ze, zb⟩
  ·rw [if_neg c5] at H
   have c5b0 : decide (80 < (l0_0.length : Int)) = false := decide_eq_false c5
   have c5b1 : decide (80 < l0_0.length) = false := decide_eq_false (by omega)
   clear c5
   replace H := Option.bind_eq_some_iff.mp H
   obtain ⟨t152, A80, H⟩ := H
   replace H : (some (!t152)) = some r := H
   have A8 := Aside0.mk A80
   clear A80
   obtain rfl := Option.some.inj H
   go_enter Tryd.func80, Tryd.ntmps80
   go_wp2_with (first | ((with_reducible refine gate_dst (N := 1) rfl ?_); refine box_event ?hg (N := 1) ?hd (cs := #[.slice A0_0 l0_0.length c0_0, .bool a0_1]) (t := 38) ?hr ?_; (case hd => rfl); (case hg => rfl); (case hr => exact zo); intro gb151 hg w9 hbox hb; have BK151 := Aside0.mk (hbox); have GW151 := Aside0.mk ((zg hg : w.heap.size ≤ gb151)); have GE151 := Aside0.mk ((zg hg : w.heap.size ≤ gb151)); replace HB := (zs HB hb); clear hb hbox hg; obtain ⟨hcz10_0, hcz10_1, hfz10_0, hfz10_1⟩ := zq2 (w := w9) BK151) | (go_at_call 51; (with_reducible refine (grid_Fits.calls k _ _ l0_0 a0_1 (l0_0.length : Int) t152 _ ?side1 ?side2 A8.out).mono ?_); (case side1 => repeat (first | exact (Kd.C_below HR0_0.out HB.out) | (with_reducible refine Kd.C_alloc ?_ _) | (with_reducible refine Kd.C_drewN ?_ _) | (with_reducible refine Kd.C_drew ?_))); (case side2 => exact HC0_0.out); rintro e w11 ⟨rfl, hb⟩; replace BK151 := (zk BK151 hb); replace HB := (zs HB hb); (try clear hb)))
   go_ret
   exact ⟨ze, zb⟩
end Go.Proofs.YtckkdaehmccjlaaDoor.P
namespace Go.Proofs.YtckkdaehmccjlaaDoor.P
open Go.RowKit Go.Proofs.YtckkdaehmccjlaaDoorW.PrintWords Go.Proofs.YtckkdaehmccjlaaDoorW.PrintLast Go.Proofs.YtckkdaehmccjlaaDoorW.PrintMore
set_option linter.unusedVariables false
set_option linter.unusedSimpArgs false
def oddIn (k : Nat) : List S38 → Option Bool
 | [] => some false
 | x :: t => (back_odd.f k x.f0 x.f1).bind fun b => if b = true then some true else oddIn k t
def back_Right.f (k : Nat) (a0_0 : Int) (l0_1 : List S38) : Option Bool :=
 if a0_0 ≥ 0 then if a0_0 ≤ 40 then if (l0_1.length : Int) ≤ a0_0 then (oddIn k l0_1).bind fun t => some (!t) else some false else some false else some false
def LinesPost (r : Bool) (w : World) (e : Ending) (w' : World) : Prop := ∃ v : Int, e = .returned (.int .i64 v) ∧ decide (0 ≤ v) = r ∧ Below w.heap.size w w'
set_option maxHeartbeats 4000000 in
set_option maxRecDepth 100000 in
theorem lines_index (k : Nat) (A : Option Addr) (c : Nat) (l : List S38) (r : Bool) (w : World) (hr : Kd.C k38 w A l.length l) (hc : l.length ≤ c) (h : oddIn k l = some r) (hT : Tabs w) :
  Calls Tryd.prog 101 #[.slice A l.length c, .func (.func 80) #[] #[]] w (LinesPost r w) := by
 have HR0 := Aside0.mk hr
 have HC0 := Aside0.mk hc
 have HT := Aside0.mk hT
 have H0 := Aside0.mk h
 have hm : l.length ≤ 9223372036854775807 := Kd.C_max hr
 clear hr hc hT h
 go_enter Tryd.func101, Tryd.ntmps101
 go_wp2
 go_loopw [8] (fun i wr => ∃ j : Nat, j ≤ l.length ∧ i = .int .i64 j ∧ Aside0 (oddIn k (l.drop j) = some r) ∧ Aside0 (Below w.heap.size w wr)) (fun i _ => l.length - (intOf i).toNat)
 case atStart => exact ⟨0, Nat.zero_le _, rfl, ⟨H0.out⟩, ⟨Below.refl _ _⟩⟩
 case round =>
  obtain ⟨j, hj, rfl, HA, HB⟩ := hrel
  by_cases hlt : j < l.length
  ·obtain ⟨b, hb0, hb1⟩ : ∃ b, back_odd.f k (rd_T38 l j).f0 (rd_T38 l j).f1 = some b ∧ (if b = true then some true else oddIn k (l.drop (j + 1))) = some r := by
    have h0 := HA.out
    rw [List.drop_eq_getElem_cons hlt] at h0
    unfold oddIn at h0
    obtain ⟨b, hb, h1⟩ := Option.bind_eq_some_iff.1 h0
    have e : rd_T38 l j = l[j] := by unfold rd_T38; simp [List.getD_eq_getElem?_getD, hlt]
    exact ⟨b, by rw [e]; exact hb, h1⟩
   obtain ⟨ad, A0, c0, e0, hx0, hx1, hl0, hi0⟩ := at_T38 HR0.out j (by omega) (by omega)
   cases e0
   replace hx0 := zc HB hx0
   replace hx1 := zc HB hx1
   simp only [Int.toNat_natCast] at hx0 hx1
   have HI := Aside0.mk hi0
   have HL := Aside0.mk hl0
   have HB0 := Aside0.mk hb0
   have HB1 := Aside0.mk hb1
   clear hi0 hl0 hb0 hb1
   go_wp2_with (go_at_call 80; (with_reducible refine (back_odd.calls k _ _ _ _ b _ (Kd.C_below HI.out HB.out) HL.out HB0.out).mono ?_); rintro e w1 ⟨rfl, hb⟩)
   ·have hy : b = true := by assumption
    subst hy
    go_ret
    exact ⟨j, rfl, by have := Option.some.inj (HB1.out : some true = some r); rw [← this]; exact decide_eq_true (by omega), below_step HB.out hb⟩
   ·have hy : b = false := by assumption
    subst hy
    go_roundw
    case rel => exact ⟨j + 1, by omega, by go_num, ⟨HB1.out⟩, ⟨below_step HB.out hb⟩⟩
    case measure => simp [intOf]; omega
  ·have HE : Aside0 (r = false) := ⟨by
    have h0 := HA.out
    rw [List.drop_eq_nil_of_le (by omega)] at h0
    exact (Option.some.inj h0).symm⟩
   go_wp2
   go_ret
   exact ⟨-1, rfl, by rw [HE.out]; rfl, HB.out⟩
set_option maxHeartbeats 1000000 in
theorem lines_contains (k : Nat) (A : Option Addr) (c : Nat) (l : List S38) (r : Bool) (w : World) (hr : Kd.C k38 w A l.length l) (hc : l.length ≤ c) (h : oddIn k l = some r) (hT : Tabs w) :
  Calls Tryd.prog 79 #[.slice A l.length c, .func (.func 80) #[] #[]] w fun e w' => e = .returned (.bool r) ∧ Below w.heap.size w w' := by
 have cI := lines_index k A c l r w hr hc h hT
 clear hr hc h hT
 go_enter Tryd.func79, Tryd.ntmps79
 go_wp2_with (go_at_call 101; refine cI.mono ?_; rintro e w' ⟨v, rfl, hv, hb⟩; have HV := Aside0.mk hv; clear hv)
 go_ret
 exact ⟨by rw [← HV.out]; rfl, hb⟩
set_option maxHeartbeats 4000000 in
set_option maxRecDepth 100000 in
theorem back_Right.calls (k : Nat) (a0_0 : Int) (A0_1 : Option Addr) (c0_1 : Nat) (l0_1 : List S38) (r : Bool) (w : World) (hr0_1 : Kd.C k38 w A0_1 l0_1.length l0_1) (hc0_1 : l0_1.length ≤ c0_1) (h : back_Right.f k a0_0 l0_1 = some r) (hT : Tabs w := by first | exact Aside0.out (by with_reducible assumption) | exact Tabs.keepA (by with_reducible assumption) (by repeat (first | (with_reducible exact Aside0.out (by with_reducible assumption)) | (with_reducible apply below_alloc) | (with_reducible apply pw_below_drewN) | (with_reducible apply below_drew1) | (with_reducible refine below_set ?_ (Aside0.out (by with_reducible assumption)))))) :
  Calls Tryd.prog 66 #[.agg #[.int .i64 a0_0, .slice A0_1 l0_1.length c0_1]] w fun e w' => e = .returned (.bool r) ∧ Below w.heap.size w w' := by
 have hm : l0_1.length ≤ 9223372036854775807 := Kd.C_max hr0_1
 unfold back_Right.f at h
 by_cases h1 : a0_0 ≥ 0
 ·rw [if_pos h1] at h
  by_cases h2 : a0_0 ≤ 40
  ·rw [if_pos h2] at h
   by_cases h3 : (l0_1.length : Int) ≤ a0_0
   ·rw [if_pos h3] at h
    obtain ⟨t, ht, h⟩ := Option.bind_eq_some_iff.1 h
    obtain rfl := Option.some.inj h
    have cI := fun W (hb : Below w.heap.size w W) => lines_contains k A0_1 c0_1 l0_1 t W (Kd.C_below hr0_1 hb) hc0_1 ht (hT.below hb)
    have CI := Aside0.mk cI
    clear h ht hr0_1 hT cI
    go_enter Tryd.func66, Tryd.ntmps66
    go_wp2_with (go_at_call 79; (with_reducible refine (CI.out _ (below_alloc (Below.refl _ _) _)).mono ?_); rintro e w' ⟨rfl, hb⟩)
    go_ret
    exact ⟨rfl, below_step (below_alloc (Below.refl _ _) _) hb⟩
   ·rw [if_neg h3] at h
    obtain rfl := Option.some.inj h
    clear h hr0_1 hT
    go_enter Tryd.func66, Tryd.ntmps66
    go_wp2
    go_ret
    exact ⟨rfl, below_alloc (Below.refl _ _) _⟩
  ·rw [if_neg h2] at h
   obtain rfl := Option.some.inj h
   clear h hr0_1 hT
   go_enter Tryd.func66, Tryd.ntmps66
   go_wp2
   go_ret
   exact ⟨rfl, below_alloc (Below.refl _ _) _⟩
 ·rw [if_neg h1] at h
  obtain rfl := Option.some.inj h
  clear h hr0_1 hT
  go_enter Tryd.func66, Tryd.ntmps66
  go_wp2
  go_ret
  exact ⟨rfl, below_alloc (Below.refl _ _) _⟩
end Go.Proofs.YtckkdaehmccjlaaDoor.P
namespace Go.Proofs.YtckkdaehmccjlaaDoor.P
open Go.RowKit Go.Proofs.YtckkdaehmccjlaaDoorW.PrintWords Go.Proofs.YtckkdaehmccjlaaDoorW.PrintLast Go.Proofs.YtckkdaehmccjlaaDoorW.PrintMore
attribute [local go_sem] Oper.semAt_some
set_option linter.unusedVariables false
set_option linter.unusedSimpArgs false
def piece (l : List S38) (j : Nat) : List S38 := (l.drop (40 * j)).take 40
def pieces (l : List S38) : Nat := (l.length + 39) / 40
def askN (k : Nat) (l : List S38) : Nat → Option Bool
 | 0 => some true
 | j + 1 => (askN k l j).bind fun a => (back_Right.f k 40 (piece l j)).bind fun b => some (a && b)
def flow_may.f (k : Nat) (l0 : List S38) : Option Bool := if l0.length ≤ 1000000000000 then (askN k l0 (pieces l0)).bind fun a => some (a && decide (l0.length ≤ 200)) else none
theorem askN_each {k : Nat} {l : List S38} : ∀ {n : Nat} {r : Bool}, askN k l n = some r → ∀ j, j < n → ∃ b, back_Right.f k 40 (piece l j) = some b
 | n + 1, r, h, j, hj => by
  obtain ⟨a, ha, h⟩ := Option.bind_eq_some_iff.1 h
  obtain ⟨b, hb, h⟩ := Option.bind_eq_some_iff.1 h
  by_cases e : j = n
  ·subst e; exact ⟨b, hb⟩
  ·exact askN_each ha j (by omega)
theorem askN_true {k : Nat} {l : List S38} : ∀ {n : Nat} {r : Bool}, askN k l n = some r → (∀ j, j < n → back_Right.f k 40 (piece l j) = some true) → r = true
 | 0, r, h, _ => (Option.some.inj h).symm
 | n + 1, r, h, hj => by
  obtain ⟨a, ha, h⟩ := Option.bind_eq_some_iff.1 h
  obtain ⟨b, hb, h⟩ := Option.bind_eq_some_iff.1 h
  rw [hj n (by omega)] at hb
  have := askN_true ha (fun j h => hj j (by omega))
  cases hb; subst this; exact (Option.some.inj h).symm
theorem askN_false {k : Nat} {l : List S38} : ∀ {n : Nat} {r : Bool}, askN k l n = some r → ∀ j, j < n → back_Right.f k 40 (piece l j) = some false → r = false
 | n + 1, r, h, j, hj, hf => by
  obtain ⟨a, ha, h⟩ := Option.bind_eq_some_iff.1 h
  obtain ⟨b, hb, h⟩ := Option.bind_eq_some_iff.1 h
  by_cases e : j = n
  ·subst e; rw [hf] at hb; cases hb; rw [← Option.some.inj h]; simp
  ·have := askN_false ha j (by omega) hf
   subst this; exact (Option.some.inj h).symm
theorem chunk_calls (A : Option Addr) (n c : Nat) (w : World) :
  Calls Tryd.prog 65 #[.slice A n c, .int .i64 40] w fun e w' => e = .returned (.func (.func 78) #[] #[.pointer (some ⟨w.heap.size, 0, none⟩), .pointer (some ⟨w.heap.size + 1, 0, none⟩)]) ∧ w' = (w.alloc (.cells #[.slice A n c] 22)).alloc (.cells #[.int .i64 40] 3) := by
 go_enter Tryd.func65, Tryd.ntmps65
 go_wp2
 go_ret
 exact ⟨rfl, rfl⟩
set_option maxRecDepth 100000 in
set_option maxHeartbeats 4000000 in
theorem chunk_iter (n : Nat) (hn : 1 ≤ n) (l Bs Bn n₀ len cap m : Nat) (A : Option Addr) (hcap : len ≤ cap) (hA : 0 < len → ∃ ad, A = some ad) (hlen : len ≤ 1000000000000) (hm : m = (len + 39) / 40) (hBs0 : Bs < n₀) (hBn0 : Bn < n₀)
  (J Jx : List { j : Nat // j < m } → World → Prop)
  (hJd : ∀ pre W q, J pre W → J pre (W.drewN q))
  (hY : ∀ pre (x : { j : Nat // j < m }) W, J pre W → pre.length < m → YieldAt Fence.wide (n - 1) Tryd.prog l #[.slice (A.map (·.add (40 * x.1 * 2))) (min 40 (len - 40 * x.1)) (min 40 (len - 40 * x.1))] W fun e W' =>
   (e = .returned (.bool true) ∧ J (pre ++ [x]) W' ∧ Below n₀ W W') ∨ (e = .returned (.bool false) ∧ Jx (pre ++ [x]) W'))
  (W : World) (hBs : W.cell? ⟨Bs, 0, none⟩ = some (.slice A len cap)) (hBn : W.cell? ⟨Bn, 0, none⟩ = some (.int .i64 40)) (h0 : J [] W) :
  CallsIn Fence.wide n Tryd.prog 78 #[.func (.yield l) #[] #[], .pointer (some ⟨Bs, 0, none⟩), .pointer (some ⟨Bn, 0, none⟩)] W fun e W' => (∃ v, e = .returned v) ∧
   ((∃ ys, ys.map (·.1) = List.range m ∧ J ys W') ∨ (∃ pre, (∃ k, k ≤ m ∧ pre.map (·.1) = List.range k) ∧ Jx pre W')) := by
 refine callsIn_of_wp Tryd.func78 rfl trivial ?_ rfl
 simp only [Tryd.ntmps78, List.size_toArray, List.length_cons, List.length_nil, Nat.reduceAdd, Nat.reduceSub, Array.replicate_succ, Array.replicate_zero, List.push_toArray, List.append_toArray, List.nil_append, List.cons_append]
 gi_wp2
 gi_loopw [4] (fun i wr => ∃ (k : Nat) (pre : List { j : Nat // j < m }), k ≤ m ∧ i = .int .i64 ((40 * k : Nat) : Int) ∧ Aside0 (pre.map (·.1) = List.range k) ∧ Aside0 (J pre wr) ∧ Aside0 (Below n₀ W wr))
  (fun i _ => 40 * m - (intOf i).toNat)
 case atStart => exact ⟨0, [], Nat.zero_le _, rfl, ⟨rfl⟩, ⟨h0⟩, ⟨Below.refl _ _⟩⟩
 case round =>
  obtain ⟨k, pre, hk, rfl, HP, HJ, HB⟩ := hrel
  have hxs := (HB.out.cell (p := ⟨Bs, 0, none⟩) hBs0).trans hBs
  have hxn := (HB.out.cell (p := ⟨Bn, 0, none⟩) hBn0).trans hBn
  by_cases hlt : 40 * k < len
  ·obtain ⟨ad, rfl⟩ := hA (by omega)
   have hkm : k < m := by omega
   have hmn : min (40 : Int) ((len : Int) - (40 * k : Nat)) = ((min 40 (len - 40 * k) : Nat) : Int) := by omega
   have h0 : (0 : Int) ≤ ((40 * k : Nat) : Int) := by omega
   have hle : ((40 * k : Nat) : Int) ≤ (len : Int) := by omega
   gi_wp2
   refine wpIn_wide.2 ?_
   go_quiet (fail)
   gi_wp2
   obtain ⟨fn, tmps, assign, body, hy, hR⟩ := hY pre ⟨k, hkm⟩ (wr.drewN nq) (hJd _ _ _ HJ.out) (by have := congrArg List.length HP.out; simp at this; omega)
   simp only [Option.map_some] at hy
   have hq : (40 * (k : Int) + min 40 ((len - 40 * k : Nat) : Int)).toNat - 40 * k = min 40 (len - 40 * k) := by omega
   rw [hq, hy]
   refine ⟨fun _ => hn, hR.mono ?_⟩
   rintro e W3 (⟨rfl, hJ3, hk3⟩ | ⟨rfl, hJx3⟩)
   ·have hn3 := (hk3.cell (p := ⟨Bn, 0, none⟩) hBn0).trans (show (wr.drewN nq).cell? ⟨Bn, 0, none⟩ = some (.int .i64 40) from hxn)
    have HK3 := Aside0.mk hk3
    clear hk3
    gi_wp2
    go_roundw
    case rel => exact ⟨k + 1, pre ++ [⟨k, hkm⟩], by omega, by go_num, ⟨by rw [List.map_append, HP.out, List.range_succ]; rfl⟩, ⟨hJ3⟩, ⟨(pw_below_drewN HB.out nq).trans HK3.out⟩⟩
    case measure => simp [intOf]; omega
   ·gi_wp2
    refine bodyPost_ret (results_none rfl _ _ _) rfl ?_
    exact ⟨⟨_, rfl⟩, .inr ⟨pre ++ [⟨k, hkm⟩], ⟨k + 1, by omega, by rw [List.map_append, HP.out, List.range_succ]; rfl⟩, hJx3⟩⟩
  ·gi_wp2
   go_end0
   exact ⟨⟨_, rfl⟩, .inl ⟨pre, by rw [HP.out, show k = m by omega], HJ.out⟩⟩
theorem chunk_stops (n : Nat) (hn : 1 ≤ n) (Bs Bn n₀ len cap m : Nat) (A : Option Addr) (hcap : len ≤ cap) (hA : 0 < len → ∃ ad, A = some ad) (hlen : len ≤ 1000000000000) (hm : m = (len + 39) / 40) (hBs0 : Bs < n₀) (hBn0 : Bn < n₀) (w : World) (hn₀ : n₀ ≤ w.heap.size)
  (hBs : w.cell? ⟨Bs, 0, none⟩ = some (.slice A len cap)) (hBn : w.cell? ⟨Bn, 0, none⟩ = some (.int .i64 40)) :
  SeqStopsK Fence.wide n Tryd.prog 78 #[.pointer (some ⟨Bs, 0, none⟩), .pointer (some ⟨Bn, 0, none⟩)] (fun x : { j : Nat // j < m } => #[.slice (A.map (·.add (40 * x.1 * 2))) (min 40 (len - 40 * x.1)) (min 40 (len - 40 * x.1))]) (Below n₀)
   (fun xs => xs.map (·.1) = List.range m) (fun pre => ∃ k, k ≤ m ∧ pre.map (·.1) = List.range k) m w := fun l J Jx W hW hJ _ hY h0 =>
 chunk_iter n hn l Bs Bn n₀ len cap m A hcap hA hlen hm hBs0 hBn0 J Jx (fun pre W q h => hJ _ _ _ none h ⟨rfl, rfl, rfl, Nat.le_refl _, fun _ _ _ => rfl⟩ (fun r e => by cases e)) hY W
  ((hW.cell (p := ⟨Bs, 0, none⟩) (show Bs < _ by omega)).trans hBs) ((hW.cell (p := ⟨Bn, 0, none⟩) (show Bn < _ by omega)).trans hBn) h0
set_option maxRecDepth 100000 in
set_option maxHeartbeats 4000000 in
theorem flow_may.calls (k : Nat) (A0 : Option Addr) (c0 : Nat) (l0 : List S38) (r : Bool) (w : World) (hr0 : Kd.C k38 w A0 l0.length l0) (hc0 : l0.length ≤ c0) (h : flow_may.f k l0 = some r) (hT : Tabs w := by first | exact Aside0.out (by with_reducible assumption) | exact Tabs.keepA (by with_reducible assumption) (by repeat (first | (with_reducible exact Aside0.out (by with_reducible assumption)) | (with_reducible apply below_alloc) | (with_reducible apply pw_below_drewN) | (with_reducible apply below_drew1) | (with_reducible refine below_set ?_ (Aside0.out (by with_reducible assumption)))))) :
  Calls Tryd.prog 43 #[.slice A0 l0.length c0] w fun e w' => e = .returned (.bool r) ∧ Below w.heap.size w w' := by
 unfold flow_may.f at h
 by_cases hlen : l0.length ≤ 1000000000000
 rotate_left
 ·rw [if_neg hlen] at h; cases h
 rw [if_pos hlen] at h
 obtain ⟨a, ha, h⟩ := Option.bind_eq_some_iff.1 h
 obtain rfl := Option.some.inj h
 clear h
 have hA : 0 < l0.length → ∃ ad, A0 = some ad := fun hp => by obtain ⟨ad, e, _⟩ := hr0.2.2 hp; exact ⟨ad, e⟩
 have cB : ∀ (x : Nat) (b : Bool), x < pieces l0 → back_Right.f k 40 (piece l0 x) = some b → ∀ W : World, Below w.heap.size w W → Calls Tryd.prog 66 #[.agg #[.int .i64 40, .slice (A0.map (·.add (40 * x * 2))) (min 40 (l0.length - 40 * x)) (min 40 (l0.length - 40 * x))]] W fun e w' => e = .returned (.bool b) ∧ Below W.heap.size W w' := fun x b hx hb W hW => by
  have hxl : 40 * x < l0.length := by unfold pieces at hx; omega
  have hC := Kd.C_drop (m := 40 * x) (Kd.C_below hr0 hW) (by omega) hc0
  rw [if_neg (by omega), show k38.sz = 2 from rfl] at hC
  have hC2 := Kd.C_take (m := min 40 (l0.length - 40 * x)) hC (by rw [List.length_drop]; omega)
  have hp : (l0.drop (40 * x)).take (min 40 (l0.length - 40 * x)) = piece l0 x := by
   unfold piece
   rcases Nat.le_total 40 (l0.length - 40 * x) with h' | h'
   ·rw [Nat.min_eq_left h']
   ·rw [Nat.min_eq_right h', List.take_of_length_le (by rw [List.length_drop]; omega), List.take_of_length_le (by rw [List.length_drop]; omega)]
  rw [hp] at hC2
  have hpl : (piece l0 x).length = min 40 (l0.length - 40 * x) := by rw [← hp, List.length_take, List.length_drop]; omega
  have := back_Right.calls k 40 (A0.map (·.add (40 * x * 2))) (min 40 (l0.length - 40 * x)) (piece l0 x) b W hC2 (by omega) hb (hT.below hW)
  rwa [hpl] at this
 have HCB := Aside0.mk cB
 have hea := fun j hj => askN_each ha j hj
 have HEA := Aside0.mk hea
 have HAT := Aside0.mk (fun h => askN_true ha h)
 have HAF := Aside0.mk (fun j hj h => askN_false ha j hj h)
 have hpc : pieces l0 = (l0.length + 39) / 40 := rfl
 have HPC := Aside0.mk hpc
 clear cB hr0 hT hea ha hpc
 refine (callsIn_wide (n := 6)).1 ?_
 refine callsIn_of_wp_marks Tryd.func43 rfl trivial ?_ rfl
 simp only [Tryd.ntmps43, List.size_toArray, List.length_cons, List.length_nil, Nat.reduceAdd, Nat.reduceSub, Array.replicate_succ, Array.replicate_zero, List.push_toArray, List.append_toArray, List.nil_append, List.cons_append]
 gi_wp2_with (refine ⟨trivial, ?_⟩; gi_at_call 65; refine (callsIn_wide.2 (chunk_calls _ _ _ _)).mono ?_; rintro e w' ⟨rfl, rfl⟩)
 have hs1 : (((w.alloc (.cells #[.bool false] 4)).alloc (.cells #[.slice A0 l0.length c0] 22)).alloc (.cells #[.int .i64 40] 3)).heap.size = w.heap.size + 3 := by simp
 have hbw : Below w.heap.size w (((w.alloc (.cells #[.bool false] 4)).alloc (.cells #[.slice A0 l0.length c0] 22)).alloc (.cells #[.int .i64 40] 3)) := below_alloc (below_alloc (below_alloc (Below.refl _ _) _) _) _
 have hbx : (((w.alloc (.cells #[.bool false] 4)).alloc (.cells #[.slice A0 l0.length c0] 22)).alloc (.cells #[.int .i64 40] 3)).heap[w.heap.size]? = some (.cells #[.bool false] 4 (0, 0)) := by
  rw [Below.heap_alloc _ _ _ (by simp only [World.size_alloc]; omega), Below.heap_alloc _ _ _ (by simp only [World.size_alloc]; omega)]; exact World.alloc_heap_new w _
 have hc1 : (((w.alloc (.cells #[.bool false] 4)).alloc (.cells #[.slice A0 l0.length c0] 22)).alloc (.cells #[.int .i64 40] 3)).cell? ⟨w.heap.size + 1, 0, none⟩ = some (.slice A0 l0.length c0) := by go_simp
 have hc2 : (((w.alloc (.cells #[.bool false] 4)).alloc (.cells #[.slice A0 l0.length c0] 22)).alloc (.cells #[.int .i64 40] 3)).cell? ⟨w.heap.size + 1 + 1, 0, none⟩ = some (.int .i64 40) := by go_simp
 refine wpIn_rangeFunc_ownF rfl (by decide) (gf := 78) (lb := #[.pointer (some ⟨w.heap.size + 1, 0, none⟩), .pointer (some ⟨w.heap.size + 1 + 1, 0, none⟩)]) rfl trivial (enters_of Tryd.func78 (by kernel_rfl) rfl)
  (chunk_stops 5 (by decide) (w.heap.size + 1) (w.heap.size + 1 + 1) (w.heap.size + 3) l0.length c0 (pieces l0) A0 hc0 hA hlen rfl (by omega) (by omega) _ (by rw [hs1]; exact Nat.le_refl _) hc1 hc2) belowK_t (belowK_b (by rw [hs1]; exact Nat.le_refl _)) (Below.refl _ _) (fun _ => rfl)
  (fun pre W => ((∀ x ∈ pre, back_Right.f k 40 (piece l0 x.1) = some true) ∧ (W.heap[w.heap.size]? = some (.cells #[.bool false] 4 (0, 0)) ∧ w.heap.size + 3 ≤ W.heap.size)) ∧ Below w.heap.size w W)
  (fun c pre W => (c = .ret ∧ (∃ x ∈ pre, back_Right.f k 40 (piece l0 x.1) = some false) ∧ (W.heap[w.heap.size]? = some (.cells #[.bool false] 4 (0, 0)) ∧ w.heap.size + 3 ≤ W.heap.size)) ∧ Below w.heap.size w W)
  ?hI ?hIx ⟨⟨fun x hx => by (cases hx), hbx, by rw [hs1]; exact Nat.le_refl _⟩, hbw⟩
  (fun x => { tmps := #[.slice A0 l0.length c0, undef, .pointer (some ⟨w.heap.size, 0, none⟩), .slice (A0.map (·.add (40 * x.1 * 2))) (min 40 (l0.length - 40 * x.1)) (min 40 (l0.length - 40 * x.1)), .slice A0 l0.length c0, .func (.func 78) #[] #[.pointer (some ⟨w.heap.size + 1, 0, none⟩), .pointer (some ⟨w.heap.size + 1 + 1, 0, none⟩)], .slice (A0.map (·.add (40 * x.1 * 2))) (min 40 (l0.length - 40 * x.1)) (min 40 (l0.length - 40 * x.1)), undef, undef, undef, undef, undef, undef, undef], defers := [] }) ?assign ?body ?done ?stop
 case hI =>
  refine OwnFrom.and (fun s W W' row hs hg hr => ⟨hs.1, ?_, Nat.le_trans hs.2.2 hg.size⟩) (ownFrom_below (Nat.le_refl _) (by rw [hs1]; omega))
  rw [hg.block _ (blk_lt hs.2.1) (fun e => by have := (hr _ e.symm).1; rw [hs1] at this; omega)]; exact hs.2.1
 case hIx =>
  intro c
  refine OwnFrom.and (fun s W W' row hs hg hr => ⟨hs.1, hs.2.1, ?_, Nat.le_trans hs.2.2.2 hg.size⟩) (ownFrom_below (Nat.le_refl _) (by rw [hs1]; omega))
  rw [hg.block _ (blk_lt hs.2.2.1) (fun e => by have := (hr _ e.symm).1; rw [hs1] at this; omega)]; exact hs.2.2.1
 case assign =>
  intro l x W K hK
  gi_wp2
  exact hK
 case body =>
  rintro l pre x W ⟨⟨hall, hblk, hsz⟩, hB⟩ _
  obtain ⟨b, hb⟩ := HEA.out x.1 x.2
  have cR := HCB.out x.1 b x.2 hb W hB
  have HALL := Aside0.mk hall
  have HBL := Aside0.mk hblk
  have HB := Aside0.mk hB
  have HBB := Aside0.mk hb
  clear hall hblk hB hb hbx hbw hc1 hc2
  cases b with
  | true =>
   gi_wp2_with (refine ⟨trivial, ?_⟩; gi_at_call 66; refine (CallsIn.inRound l (callsIn_wide.2 cR)).mono ?_; rintro e w1 ⟨rfl, hb1⟩; have HB1 := Aside0.mk hb1; clear hb1)
   refine ⟨KeepsOthers.of_grownBy (grown_of_below HB1.out none) (fun j o e => by cases e), HB1.out.mono hsz, ⟨fun y hy => ?_, ?_, Nat.le_trans hsz HB1.out.size⟩, below_step HB.out HB1.out⟩
   ·rcases List.mem_append.1 hy with h | h
    ·exact HALL.out y h
    ·rw [List.mem_singleton.1 h]; exact HBB.out
   ·exact (HB1.out.block _ (blk_lt HBL.out)).trans HBL.out
  | false =>
   gi_wp2_with (refine ⟨trivial, ?_⟩; gi_at_call 66; refine (CallsIn.inRound l (callsIn_wide.2 cR)).mono ?_; rintro e w1 ⟨rfl, hb1⟩; have hbl1 := (hb1.block _ (blk_lt HBL.out)).trans HBL.out; have hcz : w1.cell? ⟨w.heap.size, 0, none⟩ = some (.bool false) := (blk_cell hbl1 0).trans rfl; have hfz := blk_frozen hbl1 0; have HBL1 := Aside0.mk hbl1; have HB1 := Aside0.mk hb1; clear hb1 hbl1)
   refine ⟨(KeepsOthers.of_grownBy (grown_of_below HB1.out none) (fun j o e => by cases e)).trans (KeepsOthers.setCell _ _ _), ⟨rfl, ⟨x, by simp, HBB.out⟩, ?_, by rw [World.size_setCell]; exact Nat.le_trans hsz HB1.out.size⟩, (below_step HB.out HB1.out).setCell (p := ⟨w.heap.size, 0, none⟩) (Nat.le_refl _) _⟩
   exact blk_put (cs := #[.bool false]) HBL1.out 0 (.bool false) rfl
 case done =>
  rintro D xs W hD hxs ⟨⟨hall, hblk, hsz⟩, hB⟩ hK
  have HE : Aside0 (a = true) := ⟨HAT.out (fun j hj => by
   have hm : j ∈ xs.map (·.1) := by rw [hxs]; exact List.mem_range.2 hj
   obtain ⟨x, hx, rfl⟩ := List.mem_map.1 hm
   exact hall x hx)⟩
  have hcz : W.cell? ⟨w.heap.size, 0, none⟩ = some (.bool false) := (blk_cell hblk 0).trans rfl
  have hfz := blk_frozen hblk 0
  have HK := Aside0.mk hK
  have HBL := Aside0.mk hblk
  have HB := Aside0.mk hB
  clear hxs hall hblk hB hK hbx hbw hc1 hc2
  gi_wp2
  have hK2 := (KeepsOthers.setCell W ⟨w.heap.size, 0, none⟩ (.bool (decide ((l0.length : Int) ≤ 200)))).same D _ HK.out rfl
  have hb2 := blk_put (cs := #[.bool false]) HBL.out 0 (.bool (decide ((l0.length : Int) ≤ 200))) rfl
  have hc2 := cell_kept ((blk_cell hb2 0).trans rfl) (grownBy_putObj' _ D (.deferred none)) (fun r e => by cases e; exact ⟨_, hK2, rfl⟩)
  refine ⟨by simp, .inl ⟨_, _, rfl, run_takeDeferred hK2, ?_⟩⟩
  refine ⟨.bool (decide ((l0.length : Int) ≤ 200)), by simp [results, Tryd.results43, go_sem, hc2], by rw [HE.out, Bool.true_and]; congr 2; rw [decide_eq_decide]; omega, ?_⟩
  exact (HB.out.setCell (p := ⟨w.heap.size, 0, none⟩) (Nat.le_refl _) _).trans (belowK_b (w := w) (Nat.le_refl _) _ D _ _ (by rw [hs1] at hD; omega) hK2 rfl rfl)
 case stop =>
  rintro D c pre W hD ⟨q, hq, hpre⟩ ⟨⟨rfl, ⟨x, hx, hf⟩, hblk, hsz⟩, hB⟩ hK
  have HE : Aside0 (a = false) := ⟨HAF.out x.1 x.2 hf⟩
  gi_wp2
  have hc2 := cell_kept ((blk_cell hblk 0).trans rfl) (grownBy_putObj' _ D (.deferred none)) (fun r e => by cases e; exact ⟨_, hK, rfl⟩)
  refine ⟨by simp, .inl ⟨_, _, rfl, run_takeDeferred hK, ?_⟩⟩
  refine ⟨.bool false, by simp [results, Tryd.results43, go_sem, hc2], by rw [HE.out]; rfl, ?_⟩
  exact hB.trans (belowK_b (w := w) (Nat.le_refl _) _ D _ _ (by rw [hs1] at hD; omega) hK rfl rfl)
end Go.Proofs.YtckkdaehmccjlaaDoor.P
namespace Go.Proofs.YtckkdaehmccjlaaDoor.P
open Go.RowKit Go.Proofs.YtckkdaehmccjlaaDoorW.PrintWords Go.Proofs.YtckkdaehmccjlaaDoorW.PrintLast Go.Proofs.YtckkdaehmccjlaaDoorW.PrintMore
attribute [local go_sem] max2_int min2_int max_two min_two max_three min_three max_four min_four   -- for this text's walks alone
set_option linter.unusedVariables false
set_option linter.unusedSimpArgs false
def flow_Join.l0 : Nat → List (S38) → List (List (S60)) → List (S60) → List (S38) → Int → Int → Option ((List (List (S60))) × Int)
 | 0, _, _, _, _, _, _ => none
 | k + 1, x0, x4, x5, x11, x12, x13 => if x13 < x12 then (if 0 ≤ x13 then (if x13 < (x11.length : Int) then (if x5.length + ((rd_T38 x11 x13).f0).length < 2932031007402 then ((some (x5 ++ ((rd_T38 x11 x13).f0) : List (S60))).bind fun y175 => (if ((rd_T38 x11 x13).f1 = true) then (if x13 = (wrap64 ((x0.length : Int) - 1)) then ((flow_trimmed.f k y175).bind fun t178 => (if x4.length < 5864062014805 then (flow_Join.l0 k x0 (x4 ++ [t178]) ([] : List (S60)) x11 x12 (wrap64 (x13 + 1))) else (none))) else (flow_Join.l0 k x0 x4 y175 x11 x12 (wrap64 (x13 + 1)))) else ((flow_trimmed.f k y175).bind fun t184 => (if x4.length < 5864062014805 then (flow_Join.l0 k x0 (x4 ++ [t184]) ([] : List (S60)) x11 x12 (wrap64 (x13 + 1))) else (none))))) else (none)) else (none)) else (none)) else (some (x4, 0))
def flow_Join.f (k : Nat) (l0 : List (S38)) : Option ((List (List (S60))) × Int) := (flow_may.f k l0).bind fun t172 => (if t172 = true then (flow_Join.l0 k l0 ([] : List (List (S60))) ([] : List (S60)) l0 (l0.length : Int) 0) else (some (([] : List (List (S60))), 1)))
set_option maxHeartbeats 8000000 in
set_option maxRecDepth 100000 in
theorem flow_Join.calls (k : Nat) (A0 : Option Addr) (c0 : Nat) (l0 : List (S38)) (r1 : List (List (S60))) (r2 : Int) (w : World) (hr0 : Kd.C k38 w A0 l0.length l0) (hc0 : l0.length ≤ c0) (h : flow_Join.f k l0 = some (r1, r2)) (hT : Tabs w := by first | exact Aside0.out (by with_reducible assumption) | exact Tabs.keepA (by with_reducible assumption) (by repeat (first | (with_reducible exact Aside0.out (by with_reducible assumption)) | (with_reducible apply below_alloc) | (with_reducible apply pw_below_drewN) | (with_reducible apply below_drew1) | (with_reducible refine below_set ?_ (Aside0.out (by with_reducible assumption)))))) :
  Calls Tryd.prog 18 #[.slice A0 l0.length c0] w fun e w' => ∃ v0_ : Value, e = .returned (.tuple #[v0_, .int .i64 r2]) ∧ Kd.N (Kd.slice 60 k60) 36 w' w.heap.size (fun k_ => (w.heap.size ≤ k_)) v0_ r1 ∧ Below w.heap.size w w' := by
 have HT := Aside0.mk (show Tabs w from hT)
 clear hT
 have hu38 := Tryd.underlying38
 have HR0 := Aside0.mk hr0
 have HC0 := Aside0.mk hc0
 clear hr0 hc0
 have HB := Aside0.mk (Below.refl w.heap.size w)
 have H : ((flow_may.f k l0).bind fun t172 => (if t172 = true then (flow_Join.l0 k l0 ([] : List (List (S60))) ([] : List (S60)) l0 (l0.length : Int) 0) else (some (([] : List (List (S60))), 1)))) = some (r1, r2) := h
 clear h
 replace H := Option.bind_eq_some_iff.mp H
 obtain ⟨t172, A20, H⟩ := H
 replace H : (if t172 = true then (flow_Join.l0 k l0 ([] : List (List (S60))) ([] : List (S60)) l0 (l0.length : Int) 0) else (some (([] : List (List (S60))), 1))) = some (r1, r2) := H
 have A2 := Aside0.mk A20
 clear A20
 by_cases c3 : t172 = true
 ·subst c3
  have H1 : (flow_Join.l0 k l0 ([] : List (List (S60))) ([] : List (S60)) l0 (l0.length : Int) 0) = some (r1, r2) := by rw [if_pos rfl] at H; exact H
  clear H
  have H := H1
  clear H1
  have H' := Aside0.mk H
  clear H
  go_enter Tryd.func18, Tryd.ntmps18
  go_wp2_with (first | ((with_reducible refine gate_callee (f := 43) rfl ?_); refine goesL_ (some 9) rfl rfl Tryd.func43 (by kernel_rfl) rfl #[.slice A0 l0.length c0] rfl zl ?_; (with_reducible refine (flow_may.calls k _ _ l0 true _ ?side1 ?side2 A2.out).mono ?_); (case side1 => repeat (first | exact HR0.out | (with_reducible refine Kd.C_alloc ?_ _) | (with_reducible refine Kd.C_drewN ?_ _) | (with_reducible refine Kd.C_drew ?_))); (case side2 => exact HC0.out); rintro e w4 ⟨rfl, hb⟩; refine ⟨_, rfl, ?_⟩; replace HB := (zs HB hb); (try clear hb)))
  go_loopg [4, 5, 13] k (fun kq v4 v5 v13 w' => ∃ (x4_1 : List (List (S60))) (x5_1 : List (S60)) (x13_1 : Int), v13 = .int .i64 x13_1 ∧ Aside0 (flow_Join.l0 kq l0 x4_1 x5_1 l0 (l0.length : Int) x13_1 = some (r1, r2)) ∧ Aside0 (kq ≤ k) ∧ Aside0 (Kd.N (Kd.slice 60 k60) 36 w' w.heap.size (fun k_ => (w.heap.size ≤ k_) ∧ some k_ ≠ (v5 : Value).ownBlock) v4 x4_1) ∧ Aside0 (Kd.R k60 60 w' w.heap.size (fun k_ => (w.heap.size ≤ k_)) v5 x5_1) ∧ Aside0 (Below w.heap.size w w'))
  case atStart => exact ⟨(([] : List (List (S60)))), (([] : List (S60))), (0), zf, H', ⟨Nat.le_refl _⟩, ⟨by first | exact Kd.S_nil _ _ _ _ _ | exact Kd.N_nil _ _ _ _ _ | exact Kd.V_nil _ _ _ _ _ | exact Kd.Q_nil _ _ _ _ _ | exact Kd.R_nil _ _ _ _ _⟩, ⟨by first | exact Kd.R_nil _ _ _ _ _ | exact Kd.N_nil _ _ _ _ _ | exact Kd.V_nil _ _ _ _ _ | exact Kd.Q_nil _ _ _ _ _ | exact Kd.S_nil _ _ _ _ _⟩, ⟨zb⟩⟩
  case round =>
   clear H'
   try clear c3
   obtain ⟨x4_1, x5_1, x13_1, rfl, HA, HK1, HO_4, HO_5, HB⟩ := hrel
   cases gk with
   | zero => exact absurd HA.out (by simp [flow_Join.l0])
   | succ k1 =>
    have H := HA.out
    clear HA
    simp only [flow_Join.l0] at H
    by_cases c5 : x13_1 < (l0.length : Int)
    ·rw [if_pos c5] at H
     have c5b0 : decide (x13_1 < (l0.length : Int)) = true := decide_eq_true c5
     clear c5
     by_cases c6 : 0 ≤ x13_1
     ·rw [if_pos c6] at H
      have c6b0 : decide (0 ≤ x13_1) = true := decide_eq_true c6
      clear c6
      by_cases c7 : x13_1 < (l0.length : Int)
      ·rw [if_pos c7] at H
       have c7b0 : decide (x13_1 < (l0.length : Int)) = true := decide_eq_true c7
       clear c7
       by_cases c8 : x5_1.length + ((rd_T38 l0 x13_1).f0).length < 2932031007402
       ·rw [if_pos c8] at H
        have LMc8 := Aside0.mk c8
        clear c8
        obtain ⟨y175, hy175⟩ : ∃ y_ : List (S60), y_ = (x5_1 ++ ((rd_T38 l0 x13_1).f0)) := ⟨_, rfl⟩
        replace H : (if ((rd_T38 l0 x13_1).f1 = true) then (if x13_1 = (wrap64 ((l0.length : Int) - 1)) then ((flow_trimmed.f k1 y175).bind fun t178 => (if x4_1.length < 5864062014805 then (flow_Join.l0 k1 l0 (x4_1 ++ [t178]) ([] : List (S60)) l0 (l0.length : Int) (wrap64 (x13_1 + 1))) else (none))) else (flow_Join.l0 k1 l0 x4_1 y175 l0 (l0.length : Int) (wrap64 (x13_1 + 1)))) else ((flow_trimmed.f k1 y175).bind fun t184 => (if x4_1.length < 5864062014805 then (flow_Join.l0 k1 l0 (x4_1 ++ [t184]) ([] : List (S60)) l0 (l0.length : Int) (wrap64 (x13_1 + 1))) else (none)))) = some (r1, r2) := by first | (rw [hy175]; with_reducible exact H) | (have H2_ := (Option.bind_some _ _).symm.trans H; rw [hy175]; with_reducible exact H2_) | (have H2_ := (Option.bind_some _ _).symm.trans H; with_reducible exact H2_) | with_reducible exact H | (rw [hy175]; exact H) | exact H
        have Ny175 := Aside0.mk hy175
        clear hy175
        obtain ⟨bq9, hbq9⟩ : ∃ b_ : Bool, b_ = ((rd_T38 l0 x13_1).f1) := ⟨_, rfl⟩
        replace H : (if (bq9 = true) then (if x13_1 = (wrap64 ((l0.length : Int) - 1)) then ((flow_trimmed.f k1 y175).bind fun t178 => (if x4_1.length < 5864062014805 then (flow_Join.l0 k1 l0 (x4_1 ++ [t178]) ([] : List (S60)) l0 (l0.length : Int) (wrap64 (x13_1 + 1))) else (none))) else (flow_Join.l0 k1 l0 x4_1 y175 l0 (l0.length : Int) (wrap64 (x13_1 + 1)))) else ((flow_trimmed.f k1 y175).bind fun t184 => (if x4_1.length < 5864062014805 then (flow_Join.l0 k1 l0 (x4_1 ++ [t184]) ([] : List (S60)) l0 (l0.length : Int) (wrap64 (x13_1 + 1))) else (none)))) = some (r1, r2) := by rw [← hbq9] at H; exact H
        have Nbq9 := Aside0.mk hbq9
        clear hbq9
        by_cases c10 : (bq9 = true)
        ·subst c10
         have H1 : (if x13_1 = (wrap64 ((l0.length : Int) - 1)) then ((flow_trimmed.f k1 y175).bind fun t178 => (if x4_1.length < 5864062014805 then (flow_Join.l0 k1 l0 (x4_1 ++ [t178]) ([] : List (S60)) l0 (l0.length : Int) (wrap64 (x13_1 + 1))) else (none))) else (flow_Join.l0 k1 l0 x4_1 y175 l0 (l0.length : Int) (wrap64 (x13_1 + 1)))) = some (r1, r2) := by rw [if_pos rfl] at H; exact H
         clear H
         have H := H1
         clear H1
         by_cases c11 : x13_1 = (wrap64 ((l0.length : Int) - 1))
         ·rw [if_pos c11] at H
          have c11b0 : (x13_1 == (wrap64 ((l0.length : Int) - 1))) = true := beq_iff_eq.mpr c11
          have c11b1 : (x13_1 != (wrap64 ((l0.length : Int) - 1))) = false := bne_eq_false_iff_eq.mpr c11
          clear c11
          replace H := Option.bind_eq_some_iff.mp H
          obtain ⟨t178, A120, H⟩ := H
          replace H : (if x4_1.length < 5864062014805 then (flow_Join.l0 k1 l0 (x4_1 ++ [t178]) ([] : List (S60)) l0 (l0.length : Int) (wrap64 (x13_1 + 1))) else (none)) = some (r1, r2) := H
          have A12 := Aside0.mk A120
          clear A120
          by_cases c13 : x4_1.length < 5864062014805
          ·rw [if_pos c13] at H
           have LMc13 := Aside0.mk c13
           clear c13
           obtain ⟨y181, hy181⟩ : ∃ y_ : List (List (S60)), y_ = (x4_1 ++ [t178]) := ⟨_, rfl⟩
           replace H : (flow_Join.l0 k1 l0 y181 ([] : List (S60)) l0 (l0.length : Int) (wrap64 (x13_1 + 1))) = some (r1, r2) := by first | (rw [hy181]; with_reducible exact H) | (have H2_ := (Option.bind_some _ _).symm.trans H; rw [hy181]; with_reducible exact H2_) | (have H2_ := (Option.bind_some _ _).symm.trans H; with_reducible exact H2_) | with_reducible exact H | (rw [hy181]; exact H) | exact H
           have Ny181 := Aside0.mk hy181
           clear hy181
           have H' := Aside0.mk H
           clear H
           have p173 : 0 ≤ (x13_1 : Int) := of_decide_eq_true za
           have q173 : x13_1 < (l0.length : Int) := of_decide_eq_true za
           obtain ⟨ad173, A173_0, c173_0, e173, hx173_0, hx173_1, hl173_0, hi173_0⟩ := at_T38 HR0.out x13_1 p173 q173
           (try rw [← Nbq9.out] at hx173_1)
           cases e173
           replace hx173_0 := zc HB hx173_0
           replace hx173_1 := zc HB hx173_1
           have HR173_0 := Aside0.mk hi173_0
           have HC173_0 := Aside0.mk hl173_0
           clear hi173_0 hl173_0
           replace p173 := eq_true p173
           replace q173 := eq_true q173
           go_wp2_with (first | ((with_reducible refine gate_dst (N := 7) rfl ?_); (try (refine gate_guard (by rfl) ?_; dsimp only)); refine box_event ?hg (N := 7) ?hd (cs := #[.slice none 0 0, .bool false]) (t := 38) ?hr ?_; (case hd => rfl); (case hg => rfl); (case hr => exact zo); intro gb174 hg w14 hbox hb; replace HO_4 := Aside0.mk (Kd.N_below (Kd.N_elderB (zNa HO_4) gb174 (Nat.le_of_eq hg.symm)) hb); replace HO_5 := (zR HO_5 hb); have BK174 := Aside0.mk (hbox); have GW174 := Aside0.mk ((zg hg : w.heap.size ≤ gb174)); have GE174 := Aside0.mk ((zg hg : w.heap.size ≤ gb174)); replace HB := (zs HB hb); clear hb hbox hg; obtain ⟨hcz15_0, hcz15_1, hfz15_0, hfz15_1⟩ := zq2 (w := w14) BK174) | ((with_reducible refine gate_builtin (b := .append) (xs := #[.tmp 18, .tmp 20]) rfl ?_); (try (refine gate_guard (by rfl) ?_; dsimp only)); at_builtin; refine Kd.R_append_rows k60 (w0 := w) w.heap.size rfl (.tmp 18) (.tmp 20) 36 60 (.agg #[(.string ⟨#[]⟩), (.int .i64 0), (.int .i64 0), (.int .i64 0), (.int .i64 0)]) 48 rfl Tryd.underlying36 info60 rfl (by decide) (by omega) u5 x5_1 ((rd_T38 l0 x13_1).f0) _ _ _ (fun k_ => (w.heap.size ≤ k_)) (fun _ => False) rfl rfl ?aO ?aR (fun _ _ h => h) (fun _ h => h.elim) ?aF ?aB ?aS ?aL ?_; (case aR => exact Kd.C_below HR173_0.out zb); (case aB => exact zb); (case aF => exact (fun k_ hk => (Nat.le_trans (below_size zb) hk))); (case aO => exact (by (with_reducible repeat (first | apply Kd.R_alloc | apply Kd.R_drewN | apply Kd.R_drew)); exact Kd.R_mono (Kd.R_far (p := ⟨gb174, 1, none⟩) (Kd.R_far (p := ⟨gb174, 0, none⟩) (Kd.R_types HO_5.out BK174.out (by decide)) (fun _ hk => hk.2) (.slice A173_0 ((rd_T38 l0 x13_1).f0).length c173_0)) (fun _ hk => hk.2) (.bool true)) (fun _ hk => hk.1))); (case aS => exact (below_size zb)); (case aL => have := LMc8.out; omega); intro v176 w16 ho hb hg hat; rw [← Ny175.out] at ho; have n0_ := Aside0.mk (Kd.N_afterv (ok := (fun k_ => (w.heap.size ≤ k_) ∧ k_ ≠ gb174)) (by (with_reducible repeat (first | apply Kd.N_alloc | apply Kd.N_drewN | apply Kd.N_drew)); exact Kd.N_mono (Kd.N_far (p := ⟨gb174, 1, none⟩) (Kd.N_far (p := ⟨gb174, 0, none⟩) (Kd.N_mono HO_4.out (fun k_ hk => (⟨hk, hk.2⟩ : _ ∧ k_ ≠ gb174))) (fun _ hk => hk.2) (.slice A173_0 ((rd_T38 l0 x13_1).f0).length c173_0)) (fun _ hk => hk.2) (.bool true)) (fun _ hk => ⟨⟨hk.1.1.1, hk.1.2⟩, hk.1.1.2⟩)) hg hat); have n1_ := Aside0.mk (blk_grown (g := gb174) (o := .cells #[.slice A173_0 ((rd_T38 l0 x13_1).f0).length c173_0, .bool true] 38 (0, 0)) (by refine blk_put (cs := #[.slice A173_0 ((rd_T38 l0 x13_1).f0).length c173_0, .bool false]) ?_ 1 _ rfl; refine blk_put (cs := #[.slice none 0 0, .bool false]) ?_ 0 _ rfl; exact BK174.out) hg (Kd.R_ne HO_5.out BK174.out (by decide))); have n2_ := Aside0.mk (hb); have n3_ := Aside0.mk (ho); clear HO_4; clear BK174; clear HB; clear HO_5; have HO_4 := n0_; have BK174 := n1_; have HB := n2_; have HO177 := n3_; clear n0_ n1_ n2_ n3_; clear ho hb hg hat; obtain ⟨hcz17_0, hcz17_1, hfz17_0, hfz17_1⟩ := zq2 (w := w16) BK174; obtain ⟨Ao18, co18, eo18⟩ := Kd.R_slice HO177.out; subst eo18) | ((with_reducible refine gate_callee (f := 44) rfl ?_); refine goesL_ (some 34) rfl rfl Tryd.func44 (by kernel_rfl) rfl #[.slice Ao18 y175.length co18] rfl zl ?_; (with_reducible refine (flow_trimmed.calls k1 (fun k_ => some k_ = (.slice Ao18 y175.length co18 : Value).ownBlock) _ _ y175 t178 _ ?side1 A12.out).mono ?_); (case side1 => exact Kd.R_V (Kd.R_tight rfl (Kd.R_types (Kd.R_apart' (HO177.out) (Kd.N_typed HO_4.out) (by decide)) BK174.out (by decide)))); rintro e w19 ⟨v179, rfl, ho0, hb⟩; refine ⟨_, rfl, ?_⟩; have n0_ := (zN HO_4 hb); have n1_ := (zR HO177 hb); have n2_ := Aside0.mk (Kd.V_lower (Kd.V_mono (ok' := fun k_ => (w.heap.size ≤ k_) ∧ some k_ ≠ (u4 : Value).ownBlock ∧ k_ ≠ gb174) ho0 (fun k_ hk_ => ⟨Or.elim hk_ (fun hs_ => ((Kd.R_types (Kd.R_apart' (HO177.out) (Kd.N_typed HO_4.out) (by decide)) BK174.out (by decide)).1 k_ hs_.symm).1.1) (fun hn_ => (Nat.le_trans (below_size zb) hn_)), Or.elim hk_ (fun hs_ => ((Kd.R_types (Kd.R_apart' (HO177.out) (Kd.N_typed HO_4.out) (by decide)) BK174.out (by decide)).1 k_ hs_.symm).1.2) (fun hn_ => (Kd.fresh' (Kd.N_lt (zNa HO_4)) k_ hn_)), Or.elim hk_ (fun hs_ => ((Kd.R_types (Kd.R_apart' (HO177.out) (Kd.N_typed HO_4.out) (by decide)) BK174.out (by decide)).1 k_ hs_.symm).2) (fun hn_ => (Kd.freshB (g := gb174) (o := .cells #[.slice A173_0 ((rd_T38 l0 x13_1).f0).length c173_0, .bool true] 38 (0, 0)) (by exact BK174.out) k_ hn_))⟩)) (below_size zb)); have n3_ := (zk BK174 hb); have n4_ := (zs HB hb); clear HO_4; clear HO177; clear BK174; clear HB; have HO_4 := n0_; have HO177 := n1_; have HO180 := n2_; have BK174 := n3_; have HB := n4_; clear n0_ n1_ n2_ n3_ n4_; (try clear hb); (try clear hk); (try clear ho0); obtain ⟨Ao21, co21, eo21⟩ := Kd.V_slice HO180.out; subst eo21) | ((with_reducible refine gate_builtin (b := .append) (xs := #[.tmp 32, .tmp 35]) rfl ?_); (try (refine gate_guard (by rfl) ?_; dsimp only)); at_builtin; refine Kd.N_append (Kd.slice 60 k60) (w0 := w) w.heap.size rfl (.tmp 32) (.tmp 35) 39 36 (.slice none 0 0) 24 rfl Tryd.underlying39 info36 rfl (by decide) (by omega) u4 x4_1 t178 [.slice Ao21 t178.length co21] (fun k_ => (w.heap.size ≤ k_) ∧ k_ ≠ gb174) (fun k_ => ((fun k_ => (w.heap.size ≤ k_) ∧ k_ ≠ gb174)) k_ ∧ some k_ ≠ (u4 : Value).ownBlock) rfl rfl ?aP (fun _ hk => hk) ?aF ?aO ?aB ?aS ?aL ?_; (case aP => exact (Kd.FK_slice_mk (Kd.V_reads' (Kd.V_mono (ok' := (fun k_ => ((fun k_ => (w.heap.size ≤ k_) ∧ k_ ≠ gb174)) k_ ∧ some k_ ≠ (u4 : Value).ownBlock)) (HO180.out) (fun k_ hk => ⟨⟨hk.1, hk.2.2⟩, hk.2.1⟩))).2.1 (Kd.V_F (Kd.V_mono (ok' := (fun k_ => ((fun k_ => (w.heap.size ≤ k_) ∧ k_ ≠ gb174)) k_ ∧ some k_ ≠ (u4 : Value).ownBlock)) (HO180.out) (fun k_ hk => ⟨⟨hk.1, hk.2.2⟩, hk.2.1⟩))))); (case aB => exact zb); (case aF => exact (fun k_ hk => ⟨(Nat.le_trans (below_size zb) hk), Kd.freshB (g := gb174) (o := .cells #[.slice A173_0 ((rd_T38 l0 x13_1).f0).length c173_0, .bool true] 38 (0, 0)) (by exact BK174.out) k_ hk⟩)); (case aO => exact (by (with_reducible repeat (first | apply Kd.N_alloc | apply Kd.N_drewN | apply Kd.N_drew)); exact Kd.N_mono HO_4.out (fun _ hk => ⟨hk.1.1, hk.1.2⟩))); (case aS => exact (below_size zb)); (case aL => have := LMc13.out; omega); intro v182 w20 ho hb hg hat; rw [← Ny181.out] at ho; have n0_ := Aside0.mk (blk_grown (g := gb174) (o := .cells #[.slice A173_0 ((rd_T38 l0 x13_1).f0).length c173_0, .bool true] 38 (0, 0)) (by exact BK174.out) hg (Kd.N_ne HO_4.out BK174.out (by decide))); have n1_ := Aside0.mk (Kd.R_over' (zRa HO177) (Kd.N_typed (zNa HO_4)) (by decide) hg); have n2_ := Aside0.mk (Kd.V_afterv (ok := (fun k_ => (w.heap.size ≤ k_) ∧ k_ ≠ gb174)) (by (with_reducible repeat (first | apply Kd.V_alloc | apply Kd.V_drewN | apply Kd.V_drew)); exact Kd.V_mono HO180.out (fun _ hk => ⟨⟨hk.1, hk.2.2⟩, hk.2.1⟩)) hg hat); have n3_ := Aside0.mk (hb); have n4_ := Aside0.mk (ho); clear BK174; clear HO177; clear HO180; clear HB; clear HO_4; have BK174 := n0_; have HO177 := n1_; have HO180 := n2_; have HB := n3_; have HO183 := n4_; clear n0_ n1_ n2_ n3_ n4_; clear ho hb hg hat))
           go_roundg k1
           case measure => have := HK1.out; omega
           case rel => exact ⟨(y181), (([] : List (S60))), (wrap64 (x13_1 + 1)), zf, H', ⟨by have := HK1.out; omega⟩, ⟨by (with_reducible repeat (first | apply Kd.N_alloc | apply Kd.N_drewN | apply Kd.N_drew)); exact Kd.N_mono HO183.out (fun _ hk => ⟨hk.1, (by simp [Value.ownBlock])⟩)⟩, ⟨by first | exact Kd.R_nil _ _ _ _ _ | exact Kd.N_nil _ _ _ _ _ | exact Kd.V_nil _ _ _ _ _ | exact Kd.Q_nil _ _ _ _ _ | exact Kd.S_nil _ _ _ _ _⟩, ⟨zb⟩⟩
          ·rw [if_neg c13] at H
           exact absurd H (by simp)
         ·rw [if_neg c11] at H
          have c11b0 : (x13_1 == (wrap64 ((l0.length : Int) - 1))) = false := beq_eq_false_iff_ne.mpr c11
          have c11b1 : (x13_1 != (wrap64 ((l0.length : Int) - 1))) = true := bne_iff_ne.mpr c11
          have H' := Aside0.mk H
          clear H
          have p173 : 0 ≤ (x13_1 : Int) := of_decide_eq_true za
          have q173 : x13_1 < (l0.length : Int) := of_decide_eq_true za
          obtain ⟨ad173, A173_0, c173_0, e173, hx173_0, hx173_1, hl173_0, hi173_0⟩ := at_T38 HR0.out x13_1 p173 q173
          (try rw [← Nbq9.out] at hx173_1)
          cases e173
          replace hx173_0 := zc HB hx173_0
          replace hx173_1 := zc HB hx173_1
          have HR173_0 := Aside0.mk hi173_0
          have HC173_0 := Aside0.mk hl173_0
          clear hi173_0 hl173_0
          replace p173 := eq_true p173
          replace q173 := eq_true q173
          go_wp2_with (first | ((with_reducible refine gate_dst (N := 7) rfl ?_); (try (refine gate_guard (by rfl) ?_; dsimp only)); refine box_event ?hg (N := 7) ?hd (cs := #[.slice none 0 0, .bool false]) (t := 38) ?hr ?_; (case hd => rfl); (case hg => rfl); (case hr => exact zo); intro gb174 hg w22 hbox hb; replace HO_4 := Aside0.mk (Kd.N_below (Kd.N_elderB (zNa HO_4) gb174 (Nat.le_of_eq hg.symm)) hb); replace HO_5 := (zR HO_5 hb); have BK174 := Aside0.mk (hbox); have GW174 := Aside0.mk ((zg hg : w.heap.size ≤ gb174)); have GE174 := Aside0.mk ((zg hg : w.heap.size ≤ gb174)); replace HB := (zs HB hb); clear hb hbox hg; obtain ⟨hcz23_0, hcz23_1, hfz23_0, hfz23_1⟩ := zq2 (w := w22) BK174) | ((with_reducible refine gate_builtin (b := .append) (xs := #[.tmp 18, .tmp 20]) rfl ?_); (try (refine gate_guard (by rfl) ?_; dsimp only)); at_builtin; refine Kd.R_append_rows k60 (w0 := w) w.heap.size rfl (.tmp 18) (.tmp 20) 36 60 (.agg #[(.string ⟨#[]⟩), (.int .i64 0), (.int .i64 0), (.int .i64 0), (.int .i64 0)]) 48 rfl Tryd.underlying36 info60 rfl (by decide) (by omega) u5 x5_1 ((rd_T38 l0 x13_1).f0) _ _ _ (fun k_ => (w.heap.size ≤ k_)) (fun _ => False) rfl rfl ?aO ?aR (fun _ _ h => h) (fun _ h => h.elim) ?aF ?aB ?aS ?aL ?_; (case aR => exact Kd.C_below HR173_0.out zb); (case aB => exact zb); (case aF => exact (fun k_ hk => (Nat.le_trans (below_size zb) hk))); (case aO => exact (by (with_reducible repeat (first | apply Kd.R_alloc | apply Kd.R_drewN | apply Kd.R_drew)); exact Kd.R_mono (Kd.R_far (p := ⟨gb174, 1, none⟩) (Kd.R_far (p := ⟨gb174, 0, none⟩) (Kd.R_types HO_5.out BK174.out (by decide)) (fun _ hk => hk.2) (.slice A173_0 ((rd_T38 l0 x13_1).f0).length c173_0)) (fun _ hk => hk.2) (.bool true)) (fun _ hk => hk.1))); (case aS => exact (below_size zb)); (case aL => have := LMc8.out; omega); intro v176 w24 ho hb hg hat; rw [← Ny175.out] at ho; have n0_ := Aside0.mk (Kd.N_afterv (ok := (fun k_ => (w.heap.size ≤ k_) ∧ k_ ≠ gb174)) (by (with_reducible repeat (first | apply Kd.N_alloc | apply Kd.N_drewN | apply Kd.N_drew)); exact Kd.N_mono (Kd.N_far (p := ⟨gb174, 1, none⟩) (Kd.N_far (p := ⟨gb174, 0, none⟩) (Kd.N_mono HO_4.out (fun k_ hk => (⟨hk, hk.2⟩ : _ ∧ k_ ≠ gb174))) (fun _ hk => hk.2) (.slice A173_0 ((rd_T38 l0 x13_1).f0).length c173_0)) (fun _ hk => hk.2) (.bool true)) (fun _ hk => ⟨⟨hk.1.1.1, hk.1.2⟩, hk.1.1.2⟩)) hg hat); have n1_ := Aside0.mk (blk_grown (g := gb174) (o := .cells #[.slice A173_0 ((rd_T38 l0 x13_1).f0).length c173_0, .bool true] 38 (0, 0)) (by refine blk_put (cs := #[.slice A173_0 ((rd_T38 l0 x13_1).f0).length c173_0, .bool false]) ?_ 1 _ rfl; refine blk_put (cs := #[.slice none 0 0, .bool false]) ?_ 0 _ rfl; exact BK174.out) hg (Kd.R_ne HO_5.out BK174.out (by decide))); have n2_ := Aside0.mk (hb); have n3_ := Aside0.mk (ho); clear HO_4; clear BK174; clear HB; clear HO_5; have HO_4 := n0_; have BK174 := n1_; have HB := n2_; have HO177 := n3_; clear n0_ n1_ n2_ n3_; clear ho hb hg hat; obtain ⟨hcz25_0, hcz25_1, hfz25_0, hfz25_1⟩ := zq2 (w := w24) BK174))
          go_roundg k1
          case measure => have := HK1.out; omega
          case rel => exact ⟨(x4_1), (y175), (wrap64 (x13_1 + 1)), zf, H', ⟨by have := HK1.out; omega⟩, ⟨by (with_reducible repeat (first | apply Kd.N_alloc | apply Kd.N_drewN | apply Kd.N_drew)); exact Kd.N_mono HO_4.out (fun _ hk => ⟨hk.1.1, hk.2⟩)⟩, ⟨by (with_reducible repeat (first | apply Kd.R_alloc | apply Kd.R_drewN | apply Kd.R_drew)); exact HO177.out⟩, ⟨zb⟩⟩
        ·replace c10 := Bool.eq_false_iff.mpr c10
         subst c10
         have H1 : ((flow_trimmed.f k1 y175).bind fun t184 => (if x4_1.length < 5864062014805 then (flow_Join.l0 k1 l0 (x4_1 ++ [t184]) ([] : List (S60)) l0 (l0.length : Int) (wrap64 (x13_1 + 1))) else (none))) = some (r1, r2) := by rw [if_neg (show ¬ (false = true) by decide)] at H; exact H
         clear H
         have H := H1
         clear H1
         replace H := Option.bind_eq_some_iff.mp H
         obtain ⟨t184, A260, H⟩ := H
         replace H : (if x4_1.length < 5864062014805 then (flow_Join.l0 k1 l0 (x4_1 ++ [t184]) ([] : List (S60)) l0 (l0.length : Int) (wrap64 (x13_1 + 1))) else (none)) = some (r1, r2) := H
         have A26 := Aside0.mk A260
         clear A260
         by_cases c27 : x4_1.length < 5864062014805
         ·rw [if_pos c27] at H
          have LMc27 := Aside0.mk c27
          clear c27
          obtain ⟨y187, hy187⟩ : ∃ y_ : List (List (S60)), y_ = (x4_1 ++ [t184]) := ⟨_, rfl⟩
          replace H : (flow_Join.l0 k1 l0 y187 ([] : List (S60)) l0 (l0.length : Int) (wrap64 (x13_1 + 1))) = some (r1, r2) := by first | (rw [hy187]; with_reducible exact H) | (have H2_ := (Option.bind_some _ _).symm.trans H; rw [hy187]; with_reducible exact H2_) | (have H2_ := (Option.bind_some _ _).symm.trans H; with_reducible exact H2_) | with_reducible exact H | (rw [hy187]; exact H) | exact H
          have Ny187 := Aside0.mk hy187
          clear hy187
          have H' := Aside0.mk H
          clear H
          have p173 : 0 ≤ (x13_1 : Int) := of_decide_eq_true za
          have q173 : x13_1 < (l0.length : Int) := of_decide_eq_true za
          obtain ⟨ad173, A173_0, c173_0, e173, hx173_0, hx173_1, hl173_0, hi173_0⟩ := at_T38 HR0.out x13_1 p173 q173
          (try rw [← Nbq9.out] at hx173_1)
          cases e173
          replace hx173_0 := zc HB hx173_0
          replace hx173_1 := zc HB hx173_1
          have HR173_0 := Aside0.mk hi173_0
          have HC173_0 := Aside0.mk hl173_0
          clear hi173_0 hl173_0
          replace p173 := eq_true p173
          replace q173 := eq_true q173
          go_wp2_with (first | ((with_reducible refine gate_dst (N := 7) rfl ?_); (try (refine gate_guard (by rfl) ?_; dsimp only)); refine box_event ?hg (N := 7) ?hd (cs := #[.slice none 0 0, .bool false]) (t := 38) ?hr ?_; (case hd => rfl); (case hg => rfl); (case hr => exact zo); intro gb174 hg w28 hbox hb; replace HO_4 := Aside0.mk (Kd.N_below (Kd.N_elderB (zNa HO_4) gb174 (Nat.le_of_eq hg.symm)) hb); replace HO_5 := (zR HO_5 hb); have BK174 := Aside0.mk (hbox); have GW174 := Aside0.mk ((zg hg : w.heap.size ≤ gb174)); have GE174 := Aside0.mk ((zg hg : w.heap.size ≤ gb174)); replace HB := (zs HB hb); clear hb hbox hg; obtain ⟨hcz29_0, hcz29_1, hfz29_0, hfz29_1⟩ := zq2 (w := w28) BK174) | ((with_reducible refine gate_builtin (b := .append) (xs := #[.tmp 18, .tmp 20]) rfl ?_); (try (refine gate_guard (by rfl) ?_; dsimp only)); at_builtin; refine Kd.R_append_rows k60 (w0 := w) w.heap.size rfl (.tmp 18) (.tmp 20) 36 60 (.agg #[(.string ⟨#[]⟩), (.int .i64 0), (.int .i64 0), (.int .i64 0), (.int .i64 0)]) 48 rfl Tryd.underlying36 info60 rfl (by decide) (by omega) u5 x5_1 ((rd_T38 l0 x13_1).f0) _ _ _ (fun k_ => (w.heap.size ≤ k_)) (fun _ => False) rfl rfl ?aO ?aR (fun _ _ h => h) (fun _ h => h.elim) ?aF ?aB ?aS ?aL ?_; (case aR => exact Kd.C_below HR173_0.out zb); (case aB => exact zb); (case aF => exact (fun k_ hk => (Nat.le_trans (below_size zb) hk))); (case aO => exact (by (with_reducible repeat (first | apply Kd.R_alloc | apply Kd.R_drewN | apply Kd.R_drew)); exact Kd.R_mono (Kd.R_far (p := ⟨gb174, 1, none⟩) (Kd.R_far (p := ⟨gb174, 0, none⟩) (Kd.R_types HO_5.out BK174.out (by decide)) (fun _ hk => hk.2) (.slice A173_0 ((rd_T38 l0 x13_1).f0).length c173_0)) (fun _ hk => hk.2) (.bool false)) (fun _ hk => hk.1))); (case aS => exact (below_size zb)); (case aL => have := LMc8.out; omega); intro v176 w30 ho hb hg hat; rw [← Ny175.out] at ho; have n0_ := Aside0.mk (Kd.N_afterv (ok := (fun k_ => (w.heap.size ≤ k_) ∧ k_ ≠ gb174)) (by (with_reducible repeat (first | apply Kd.N_alloc | apply Kd.N_drewN | apply Kd.N_drew)); exact Kd.N_mono (Kd.N_far (p := ⟨gb174, 1, none⟩) (Kd.N_far (p := ⟨gb174, 0, none⟩) (Kd.N_mono HO_4.out (fun k_ hk => (⟨hk, hk.2⟩ : _ ∧ k_ ≠ gb174))) (fun _ hk => hk.2) (.slice A173_0 ((rd_T38 l0 x13_1).f0).length c173_0)) (fun _ hk => hk.2) (.bool false)) (fun _ hk => ⟨⟨hk.1.1.1, hk.1.2⟩, hk.1.1.2⟩)) hg hat); have n1_ := Aside0.mk (blk_grown (g := gb174) (o := .cells #[.slice A173_0 ((rd_T38 l0 x13_1).f0).length c173_0, .bool false] 38 (0, 0)) (by refine blk_put (cs := #[.slice A173_0 ((rd_T38 l0 x13_1).f0).length c173_0, .bool false]) ?_ 1 _ rfl; refine blk_put (cs := #[.slice none 0 0, .bool false]) ?_ 0 _ rfl; exact BK174.out) hg (Kd.R_ne HO_5.out BK174.out (by decide))); have n2_ := Aside0.mk (hb); have n3_ := Aside0.mk (ho); clear HO_4; clear BK174; clear HB; clear HO_5; have HO_4 := n0_; have BK174 := n1_; have HB := n2_; have HO177 := n3_; clear n0_ n1_ n2_ n3_; clear ho hb hg hat; obtain ⟨hcz31_0, hcz31_1, hfz31_0, hfz31_1⟩ := zq2 (w := w30) BK174; obtain ⟨Ao32, co32, eo32⟩ := Kd.R_slice HO177.out; subst eo32) | ((with_reducible refine gate_callee (f := 44) rfl ?_); refine goesL_ (some 34) rfl rfl Tryd.func44 (by kernel_rfl) rfl #[.slice Ao32 y175.length co32] rfl zl ?_; (with_reducible refine (flow_trimmed.calls k1 (fun k_ => some k_ = (.slice Ao32 y175.length co32 : Value).ownBlock) _ _ y175 t184 _ ?side1 A26.out).mono ?_); (case side1 => exact Kd.R_V (Kd.R_tight rfl (Kd.R_types (Kd.R_apart' (HO177.out) (Kd.N_typed HO_4.out) (by decide)) BK174.out (by decide)))); rintro e w33 ⟨v185, rfl, ho0, hb⟩; refine ⟨_, rfl, ?_⟩; have n0_ := (zN HO_4 hb); have n1_ := (zR HO177 hb); have n2_ := Aside0.mk (Kd.V_lower (Kd.V_mono (ok' := fun k_ => (w.heap.size ≤ k_) ∧ some k_ ≠ (u4 : Value).ownBlock ∧ k_ ≠ gb174) ho0 (fun k_ hk_ => ⟨Or.elim hk_ (fun hs_ => ((Kd.R_types (Kd.R_apart' (HO177.out) (Kd.N_typed HO_4.out) (by decide)) BK174.out (by decide)).1 k_ hs_.symm).1.1) (fun hn_ => (Nat.le_trans (below_size zb) hn_)), Or.elim hk_ (fun hs_ => ((Kd.R_types (Kd.R_apart' (HO177.out) (Kd.N_typed HO_4.out) (by decide)) BK174.out (by decide)).1 k_ hs_.symm).1.2) (fun hn_ => (Kd.fresh' (Kd.N_lt (zNa HO_4)) k_ hn_)), Or.elim hk_ (fun hs_ => ((Kd.R_types (Kd.R_apart' (HO177.out) (Kd.N_typed HO_4.out) (by decide)) BK174.out (by decide)).1 k_ hs_.symm).2) (fun hn_ => (Kd.freshB (g := gb174) (o := .cells #[.slice A173_0 ((rd_T38 l0 x13_1).f0).length c173_0, .bool false] 38 (0, 0)) (by exact BK174.out) k_ hn_))⟩)) (below_size zb)); have n3_ := (zk BK174 hb); have n4_ := (zs HB hb); clear HO_4; clear HO177; clear BK174; clear HB; have HO_4 := n0_; have HO177 := n1_; have HO186 := n2_; have BK174 := n3_; have HB := n4_; clear n0_ n1_ n2_ n3_ n4_; (try clear hb); (try clear hk); (try clear ho0); obtain ⟨Ao35, co35, eo35⟩ := Kd.V_slice HO186.out; subst eo35) | ((with_reducible refine gate_builtin (b := .append) (xs := #[.tmp 32, .tmp 35]) rfl ?_); (try (refine gate_guard (by rfl) ?_; dsimp only)); at_builtin; refine Kd.N_append (Kd.slice 60 k60) (w0 := w) w.heap.size rfl (.tmp 32) (.tmp 35) 39 36 (.slice none 0 0) 24 rfl Tryd.underlying39 info36 rfl (by decide) (by omega) u4 x4_1 t184 [.slice Ao35 t184.length co35] (fun k_ => (w.heap.size ≤ k_) ∧ k_ ≠ gb174) (fun k_ => ((fun k_ => (w.heap.size ≤ k_) ∧ k_ ≠ gb174)) k_ ∧ some k_ ≠ (u4 : Value).ownBlock) rfl rfl ?aP (fun _ hk => hk) ?aF ?aO ?aB ?aS ?aL ?_; (case aP => exact (Kd.FK_slice_mk (Kd.V_reads' (Kd.V_mono (ok' := (fun k_ => ((fun k_ => (w.heap.size ≤ k_) ∧ k_ ≠ gb174)) k_ ∧ some k_ ≠ (u4 : Value).ownBlock)) (HO186.out) (fun k_ hk => ⟨⟨hk.1, hk.2.2⟩, hk.2.1⟩))).2.1 (Kd.V_F (Kd.V_mono (ok' := (fun k_ => ((fun k_ => (w.heap.size ≤ k_) ∧ k_ ≠ gb174)) k_ ∧ some k_ ≠ (u4 : Value).ownBlock)) (HO186.out) (fun k_ hk => ⟨⟨hk.1, hk.2.2⟩, hk.2.1⟩))))); (case aB => exact zb); (case aF => exact (fun k_ hk => ⟨(Nat.le_trans (below_size zb) hk), Kd.freshB (g := gb174) (o := .cells #[.slice A173_0 ((rd_T38 l0 x13_1).f0).length c173_0, .bool false] 38 (0, 0)) (by exact BK174.out) k_ hk⟩)); (case aO => exact (by (with_reducible repeat (first | apply Kd.N_alloc | apply Kd.N_drewN | apply Kd.N_drew)); exact Kd.N_mono HO_4.out (fun _ hk => ⟨hk.1.1, hk.1.2⟩))); (case aS => exact (below_size zb)); (case aL => have := LMc27.out; omega); intro v188 w34 ho hb hg hat; rw [← Ny187.out] at ho; have n0_ := Aside0.mk (blk_grown (g := gb174) (o := .cells #[.slice A173_0 ((rd_T38 l0 x13_1).f0).length c173_0, .bool false] 38 (0, 0)) (by exact BK174.out) hg (Kd.N_ne HO_4.out BK174.out (by decide))); have n1_ := Aside0.mk (Kd.R_over' (zRa HO177) (Kd.N_typed (zNa HO_4)) (by decide) hg); have n2_ := Aside0.mk (Kd.V_afterv (ok := (fun k_ => (w.heap.size ≤ k_) ∧ k_ ≠ gb174)) (by (with_reducible repeat (first | apply Kd.V_alloc | apply Kd.V_drewN | apply Kd.V_drew)); exact Kd.V_mono HO186.out (fun _ hk => ⟨⟨hk.1, hk.2.2⟩, hk.2.1⟩)) hg hat); have n3_ := Aside0.mk (hb); have n4_ := Aside0.mk (ho); clear BK174; clear HO177; clear HO186; clear HB; clear HO_4; have BK174 := n0_; have HO177 := n1_; have HO186 := n2_; have HB := n3_; have HO189 := n4_; clear n0_ n1_ n2_ n3_ n4_; clear ho hb hg hat))
          go_roundg k1
          case measure => have := HK1.out; omega
          case rel => exact ⟨(y187), (([] : List (S60))), (wrap64 (x13_1 + 1)), zf, H', ⟨by have := HK1.out; omega⟩, ⟨by (with_reducible repeat (first | apply Kd.N_alloc | apply Kd.N_drewN | apply Kd.N_drew)); exact Kd.N_mono HO189.out (fun _ hk => ⟨hk.1, (by simp [Value.ownBlock])⟩)⟩, ⟨by first | exact Kd.R_nil _ _ _ _ _ | exact Kd.N_nil _ _ _ _ _ | exact Kd.V_nil _ _ _ _ _ | exact Kd.Q_nil _ _ _ _ _ | exact Kd.S_nil _ _ _ _ _⟩, ⟨zb⟩⟩
         ·rw [if_neg c27] at H
          exact absurd H (by simp)
       ·rw [if_neg c8] at H
        exact absurd H (by simp)
      ·rw [if_neg c7] at H
       exact absurd H (by simp)
     ·rw [if_neg c6] at H
      exact absurd H (by simp)
    ·rw [if_neg c5] at H
     have c5b0 : decide (x13_1 < (l0.length : Int)) = false := decide_eq_false c5
     clear c5
     simp only [Option.some.injEq, Prod.mk.injEq] at H
     obtain ⟨rfl, rfl⟩ := H
     go_wp2
     go_ret2
     exact ⟨_, ze, by (with_reducible repeat (first | apply Kd.N_alloc | apply Kd.N_drewN | apply Kd.N_drew)); exact Kd.N_mono HO_4.out (fun _ hk => hk.1), zb⟩
 ·replace c3 := Bool.eq_false_iff.mpr c3
  subst c3
  have H1 : (some (([] : List (List (S60))), 1)) = some (r1, r2) := by rw [if_neg (show ¬ (false = true) by decide)] at H; exact H
  clear H
  have H := H1
  clear H1
  simp only [Option.some.injEq, Prod.mk.injEq] at H
  obtain ⟨rfl, rfl⟩ := H
  go_enter Tryd.func18, Tryd.ntmps18
  go_wp2_with (first | ((with_reducible refine gate_callee (f := 43) rfl ?_); refine goesL_ (some 9) rfl rfl Tryd.func43 (by kernel_rfl) rfl #[.slice A0 l0.length c0] rfl zl ?_; (with_reducible refine (flow_may.calls k _ _ l0 false _ ?side1 ?side2 A2.out).mono ?_); (case side1 => repeat (first | exact HR0.out | (with_reducible refine Kd.C_alloc ?_ _) | (with_reducible refine Kd.C_drewN ?_ _) | (with_reducible refine Kd.C_drew ?_))); (case side2 => exact HC0.out); rintro e w36 ⟨rfl, hb⟩; refine ⟨_, rfl, ?_⟩; replace HB := (zs HB hb); (try clear hb)))
  go_ret2
  exact ⟨_, ze, by first | exact Kd.S_nil _ _ _ _ _ | exact Kd.N_nil _ _ _ _ _ | exact Kd.V_nil _ _ _ _ _ | exact Kd.Q_nil _ _ _ _ _ | exact Kd.R_nil _ _ _ _ _, zb⟩
end Go.Proofs.YtckkdaehmccjlaaDoor.P
namespace Go.Proofs.YtckkdaehmccjlaaDoor.P
open Go.RowKit Go.Proofs.YtckkdaehmccjlaaDoorW.PrintWords Go.Proofs.YtckkdaehmccjlaaDoorW.PrintLast Go.Proofs.YtckkdaehmccjlaaDoorW.PrintMore
attribute [local go_sem] Oper.semAt_some
set_option linter.unusedVariables false
set_option linter.unusedSimpArgs false
def letT (s : ByteArray) : List UInt8 := s.data.toList ++ (if s.toList = ([] : List UInt8) then [32] else [])
def letC (c : S60) : List UInt8 := letT c.f0
def letG (l : List S60) (gs : List (Nat × Nat)) : List UInt8 := gs.flatMap fun g => letC (rd_T60 l (g.1 : Nat))
def rowO (l : List S60) : Option ByteArray := (grpO l).bind fun gs => if (letG l gs).length ≤ 140737488355328 then some ⟨(letG l gs).toArray⟩ else none
def rowsO : List (List S60) → Option (List ByteArray)
 | [] => some []
 | r :: t => (rowO r).bind fun s => (rowsO t).bind fun u => some (s :: u)
def flow_Letters.f (k : Nat) (l0 : List S38) : Option (List ByteArray × Int) :=
 (flow_Join.f k l0).bind fun b => if b.2 = 0 then if b.1.length ≤ 1000000000000 then (rowsO b.1).bind fun u => some (u, 0) else none else some ([], b.2)
theorem rowsO_at : ∀ {rs : List (List S60)} {u}, rowsO rs = some u → u.length = rs.length ∧ ∀ (i : Nat) (h : i < rs.length), ∃ s, rowO rs[i] = some s ∧ u.take (i + 1) = u.take i ++ [s]
 | [], u, h => by cases h; exact ⟨rfl, fun i h => by cases h⟩
 | r :: t, u, h => by
  unfold rowsO at h
  obtain ⟨s, hs, h⟩ := Option.bind_eq_some_iff.1 h
  obtain ⟨v, hv, h⟩ := Option.bind_eq_some_iff.1 h
  cases h
  obtain ⟨h1, h2⟩ := rowsO_at hv
  refine ⟨by simp [h1], fun i hi => ?_⟩
  cases i with
  | zero => exact ⟨s, hs, by simp⟩
  | succ i =>
   obtain ⟨s', hs', ht⟩ := h2 i (by simpa using hi)
   exact ⟨s', hs', by simp [List.take_succ_cons, ht]⟩
def Marks (B : Nat) : List Deferred → World → Prop
 | [], _ => True
 | d :: ds, w => (∃ D, B ≤ D ∧ d = { target := .collected D, args := #[] } ∧ w.heap[D]? = some (.deferred (some [])) ∧ ∀ d' ∈ ds, ∃ D', d' = { target := .collected D', args := #[] } ∧ D' < D) ∧ Marks B ds w
theorem Marks.keep {B : Nat} {w w' : World} (hk : ∀ D, B ≤ D → w.heap[D]? = some (.deferred (some [])) → w'.heap[D]? = some (.deferred (some []))) : ∀ {ds : List Deferred}, Marks B ds w → Marks B ds w'
 | [], _ => trivial
 | _ :: _, ⟨⟨D, h1, h2, h3, h4⟩, h5⟩ => ⟨⟨D, h1, h2, hk D h1 h3, h4⟩, Marks.keep hk h5⟩
theorem Marks.below {B : Nat} {w w' : World} {ds : List Deferred} (h : Marks B ds w) (hb : Below w.heap.size w w') : Marks B ds w' := h.keep fun D _ hD => (hb.block D (Array.getElem?_eq_some_iff.1 hD).1).trans hD
theorem Marks.lt {B : Nat} {w : World} : ∀ {ds : List Deferred}, Marks B ds w → ∀ d ∈ ds, ∃ D, d = { target := .collected D, args := #[] } ∧ D < w.heap.size
 | [], _, _, hd => by cases hd
 | _ :: _, ⟨⟨D, h1, h2, h3, h4⟩, h5⟩, d, hd => by
  rcases List.mem_cons.1 hd with rfl | hd
  ·exact ⟨D, h2, (Array.getElem?_eq_some_iff.1 h3).1⟩
  ·exact Marks.lt h5 d hd
theorem leaves_marks {F : Fence} {n : Nat} {P : Program} {fn : Func} {tmps : Array Value} {R : Ending → World → Prop} {B : Nat} {P0 : World → Prop}
  (hput : ∀ W D, B ≤ D → W.heap[D]? = some (.deferred (some [])) → P0 W → P0 (W.putObj D (.deferred none)))
  (hend : ∀ W, P0 W → LeavesInM F n P fn tmps R [] .returning W) : ∀ (ds : List Deferred) (W : World), Marks B ds W → P0 W → LeavesInM F n P fn tmps R ds .returning W
 | [], W, _, h => hend W h
 | d :: ds, W, ⟨⟨D, h1, h2, h3, h4⟩, h5⟩, h => by
  subst h2
  refine ⟨by simp, .inl ⟨D, _, rfl, run_takeDeferred h3, leaves_marks hput hend ds _ ?_ (hput W D h1 h3 h)⟩⟩
  have key : ∀ {es : List Deferred}, (∀ d' ∈ es, ∃ D', d' = { target := .collected D', args := #[] } ∧ D' < D) → Marks B es W → Marks B es (W.putObj D (.deferred none)) := by
   intro es
   induction es with
   | nil => exact fun _ _ => trivial
   | cons e es ih =>
    rintro hlt ⟨⟨D', g1, g2, g3, g4⟩, g5⟩
    obtain ⟨D2, e2, hD2⟩ := hlt e (by simp)
    rw [g2] at e2
    cases e2
    exact ⟨⟨D', g1, g2, (World.putObj_heap_other (by omega)).trans g3, g4⟩, ih (fun d' hd' => hlt d' (by simp [hd'])) g5⟩
  exact key h4 h5
theorem builderAt_grown {T e : TypeId} {B b : Nat} {q : Value} {bs : List Value} {W W' : World} {row : Option Nat} (h : Lib.BuilderAtF T e B b q bs W) (hg : W.grownBy W' row) (hb : row ≠ some b) (hr : ∀ r, row = some r → ∀ c fz, W.heap[r]? ≠ some (.cells c e fz)) : Lib.BuilderAtF T e B b q bs W' := by
 have hlt := h.lt
 obtain ⟨hB, v, hv, hown, hne⟩ := h
 refine ⟨hB, v, (hg.block b hlt (fun e => hb e.symm)).trans hv, hown.kept hg ?_, hne⟩
 rcases hown.2 with ⟨rfl, _⟩ | ⟨g, cap, cur, fz, rfl, _, hh, _⟩
 ·exact .inl rfl
 ·exact .inr (fun e => hr g e.symm cur fz hh)
theorem builder_grown {T e : TypeId} {B b : Nat} {bs : List Value} {W W' : World} {row : Option Nat} (h : Lib.IsBuilderF T e B b bs W) (hg : W.grownBy W' row) (hb : row ≠ some b) (hr : ∀ r, row = some r → ∀ c fz, W.heap[r]? ≠ some (.cells c e fz)) : Lib.IsBuilderF T e B b bs W' :=
 h.elim (fun x => .inl (builderAt_grown x hg hb hr)) (fun x => .inr (builderAt_grown x hg hb hr))
theorem builder_block {T e : TypeId} {B b : Nat} {bs : List Value} {W : World} (h : Lib.IsBuilderF T e B b bs W) : ∃ c, W.heap[b]? = some (.cells c T (0, 0)) := by
 rcases h with ⟨_, v, hv, _⟩ | ⟨_, v, hv, _⟩ <;> exact ⟨_, hv⟩
theorem keeps_of_others {e : TypeId} {b : Nat} {c : Array Value} {T : TypeId} {fz : Nat × Nat} {W W' : World} (h : Lib.OthersKept e (some b) W W') (hs : W.heap.size ≤ W'.heap.size) (hb : W.heap[b]? = some (.cells c T fz)) : KeepsOthers W W' :=
 ⟨hs, fun k o hk ho => h k o hk (fun he => by cases he; rw [hb] at hk; cases hk; cases ho) (fun c fz he => by subst he; cases ho)⟩
theorem grpF_in : ∀ {f off : Nat} {l : List S60} {gs}, grpF f off l = some gs → ∀ x ∈ gs, off ≤ x.1 ∧ 1 ≤ x.2 ∧ x.1 + x.2 ≤ off + l.length
 | 0, off, [], gs, h, x, hx => by cases h; cases hx
 | f + 1, off, [], gs, h, x, hx => by cases h; cases hx
 | 0, off, _ :: _, gs, h, x, hx => by cases h
 | f + 1, off, c :: t, gs, h, x, hx => by
  unfold grpF at h
  split at h
  ·rename_i hle
   obtain ⟨ys, hy, rfl⟩ := Option.map_eq_some_iff.1 h
   have h1 : 1 ≤ (mx c.f1 1).toNat := by unfold mx; omega
   rcases List.mem_cons.1 hx with rfl | hx
   ·exact ⟨Nat.le_refl _, h1, by simp only [List.length_cons]; omega⟩
   ·have := grpF_in hy x hx
    simp only [List.length_drop, List.length_cons] at this ⊢
    omega
  ·cases h
theorem Tryd.str9 : (Tryd.prog.info? 9).map (fun i => (i.zero, i.size, i.bytes)) = some (some (.string ⟨#[]⟩), 1, 16) := by kernel_rfl
set_option maxHeartbeats 4000000 in
set_option maxRecDepth 100000 in
theorem flow_Letters.calls (k : Nat) (A0 : Option Addr) (c0 : Nat) (l0 : List S38) (r1 : List ByteArray) (r2 : Int) (w : World) (hr0 : Kd.C k38 w A0 l0.length l0) (hc0 : l0.length ≤ c0) (h : flow_Letters.f k l0 = some (r1, r2)) (hT : Tabs w := by first | exact Aside0.out (by with_reducible assumption) | exact Tabs.keepA (by with_reducible assumption) (by repeat (first | (with_reducible exact Aside0.out (by with_reducible assumption)) | (with_reducible apply below_alloc) | (with_reducible apply pw_below_drewN) | (with_reducible apply below_drew1) | (with_reducible refine below_set ?_ (Aside0.out (by with_reducible assumption)))))) :
  Calls Tryd.prog 19 #[.slice A0 l0.length c0] w fun e w' => ∃ v0_ : Value, e = .returned (.tuple #[v0_, .int .i64 r2]) ∧ Kd.R Kd.string 9 w' w.heap.size (fun _ => True) v0_ r1 ∧ Below w.heap.size w w' := by
 unfold flow_Letters.f at h
 obtain ⟨b, hb, h⟩ := Option.bind_eq_some_iff.1 h
 obtain ⟨rows, e2⟩ := b
 have cJ := flow_Join.calls k A0 c0 l0 rows e2 w hr0 hc0 hb hT
 have CJ := Aside0.mk cJ
 clear cJ hr0 hc0 hb hT
 refine (callsIn_wide (n := 6)).1 ?_
 refine callsIn_of_wp_marks Tryd.func19 rfl trivial ?_ rfl
 simp only [Tryd.ntmps19, List.size_toArray, List.length_cons, List.length_nil, Nat.reduceAdd, Nat.reduceSub, Array.replicate_succ, Array.replicate_zero, List.push_toArray, List.append_toArray, List.nil_append, List.cons_append]
 by_cases he : e2 = 0
 ·subst he
  rw [if_pos rfl] at h
  gi_wp2_with (refine ⟨trivial, ?_⟩; gi_at_call 18; refine (callsIn_wide.2 CJ.out).mono ?_; rintro e w1 ⟨v, rfl, hN, hb⟩; obtain ⟨Av, cv, rfl, hlv, hCv⟩ := Kd.N_reads hN; have HV := Aside0.mk hCv; have HL := Aside0.mk hlv; have HB := Aside0.mk hb; have hmv := Kd.C_max hCv; clear hN hCv hlv hb)
  by_cases hrl : rows.length ≤ 1000000000000
  rotate_left
  ·rw [if_neg hrl] at h; cases h
  rw [if_pos hrl] at h
  obtain ⟨u, hu, h⟩ := Option.bind_eq_some_iff.1 h
  cases h
  obtain ⟨hul, hua⟩ := rowsO_at hu
  have HUA := Aside0.mk hua
  have HUL := Aside0.mk hul
  obtain ⟨i0, hi0, hz0, hz1, hz2⟩ := info_parts Tryd.str9
  have HI0 := Aside0.mk hi0
  have HZ0 := Aside0.mk hz0
  have HZ1 := Aside0.mk hz1
  have HZ2 := Aside0.mk hz2
  clear hu hua hul hi0 hz0 hz1 hz2
  refine wpIn_loop (fun a W => ∃ (i : Nat) (v u8 u9 u22 u23 u24 u25 u26 u39 u40 u41 u42 u43 : Value) (ds : List Deferred), i ≤ rows.length ∧ a = { tmps := #[.slice A0 l0.length c0, undef, .slice none 0 0, .int .i64 0, .slice Av rows.length cv, .int .i64 0, v, undef, u8, u9, undef, .tuple #[.slice Av rows.length cv, .int .i64 0], .slice A0 l0.length c0, .tuple #[.slice Av rows.length cv, .int .i64 0], .slice Av rows.length cv, .int .i64 0, .int .i64 0, .bool false, undef, .slice Av rows.length cv, .int .i64 rows.length, .int .i64 i, u22, u23, u24, u25, u26, undef, undef, undef, undef, undef, undef, undef, undef, undef, undef, undef, undef, u39, u40, u41, u42, u43, undef], defers := ds } ∧
    Aside0 (W.ownsRow w1.heap.size 9 1 v i (encs Value.string (r1.take i))) ∧ Aside0 (Marks w1.heap.size ds W) ∧ Aside0 (Below w1.heap.size w1 W)) (fun a _ => rows.length - (intOf (a.tmps.getD 21 undef)).toNat) ⟨0, _, _, _, _, _, _, _, _, _, _, _, _, _, [], Nat.zero_le _, rfl, ⟨World.ownsRow_nil _ _ _ _⟩, ⟨trivial⟩, ⟨Below.refl _ _⟩⟩ ?_
  rintro a wr ⟨i, v, u8, u9, u22, u23, u24, u25, u26, u39, u40, u41, u42, u43, ds, hi, rfl, HO, HM, HB1⟩
  by_cases hlt : i < rows.length
  ·obtain ⟨ad, Ar, cr, e0, hx0, hlr, hCr⟩ := at_L4 (Kd.C_below HV.out HB1.out) (i : Nat) (by omega) (by omega)
   subst e0
   simp only [Int.toNat_natCast] at hx0
   have hrd : rd_L4 rows (i : Nat) = rows[i] := by unfold rd_L4; simp [List.getD_eq_getElem?_getD, hlt]
   rw [hrd] at hx0 hlr hCr
   obtain ⟨s, hs, htk⟩ := HUA.out i hlt
   have HTK := Aside0.mk htk
   obtain ⟨gs, hgs, hs⟩ := Option.bind_eq_some_iff.1 hs
   by_cases hlen : (letG rows[i] gs).length ≤ 140737488355328
   rotate_left
   ·rw [if_neg hlen] at hs; cases hs
   rw [if_pos hlen] at hs
   obtain rfl := Option.some.inj hs
   clear hs htk hrd
   have HG := Aside0.mk hgs
   have HLEN := Aside0.mk hlen
   have HCR := Aside0.mk hCr
   have HLR := Aside0.mk hlr
   clear hgs hlen hCr hlr
   generalize hrow : rows[i] = row at *
   gi_wp2_with (refine ⟨trivial, ?_⟩; gi_at_call 45; refine (callsIn_wide.2 (letters_calls _ _ _ _)).mono ?_; rintro e w2 ⟨rfl, rfl⟩)
   have hbi : Lib.IsBuilderF 77 5 wr.heap.size wr.heap.size (Lib.byteCells (letG row [])) ((wr.alloc (.cells #[.pointer none, .slice none 0 0] 77)).alloc (.cells #[.slice Ar row.length cr] 36)) := Lib.IsBuilderF.belowX (Lib.IsBuilderF.of (Lib.fresh_isBuilder _ _ wr)) (below_alloc (Below.refl _ _) _)
   have hbl : ((wr.alloc (.cells #[.pointer none, .slice none 0 0] 77)).alloc (.cells #[.slice Ar row.length cr] 36)).heap[wr.heap.size + 1]? = some (.cells #[.slice Ar row.length cr] 36 (0, 0)) := by
    have := blk_new (wr.alloc (.cells #[.pointer none, .slice none 0 0] 77)) (.cells #[.slice Ar row.length cr] 36)
    rwa [World.size_alloc] at this
   have hbs : Below wr.heap.size wr ((wr.alloc (.cells #[.pointer none, .slice none 0 0] 77)).alloc (.cells #[.slice Ar row.length cr] 36)) := below_alloc (below_alloc (Below.refl _ _) _) _
   have hsz : ((wr.alloc (.cells #[.pointer none, .slice none 0 0] 77)).alloc (.cells #[.slice Ar row.length cr] 36)).heap.size = wr.heap.size + 2 := by simp only [World.size_alloc]
   generalize ((wr.alloc (.cells #[.pointer none, .slice none 0 0] 77)).alloc (.cells #[.slice Ar row.length cr] 36)) = ws at *
   have HBS := Aside0.mk hbs
   have HBL := Aside0.mk hbl
   clear hbs hx0
   refine wpIn_rangeFunc_box rfl (by decide) (gf := 68) (lb := #[.pointer (some ⟨wr.heap.size + 1, 0, none⟩)]) rfl trivial (enters_of Tryd.func68 (by kernel_rfl) rfl)
    (encs := fun x : Nat × Nat => #[.slice (Ar.map (·.add (x.1 * 5))) x.2 (cr - x.1)]) (Kp := fun A B => Below wr.heap.size A B ∧ B.heap[wr.heap.size + 1]? = A.heap[wr.heap.size + 1]?) (Bl := wr.heap.size + 1) (xs := gs)
    (fun l J W hW hJ hY h0 => letters_iter 5 (by decide) l (wr.heap.size + 1) cr Ar row gs wr HG.out HLR.out HCR.out (Nat.le_succ _) J hJ hY W (HBS.out.trans (hW.mono (by omega))) ((hW.block _ (by omega)).trans HBL.out) h0)
    (fun h k => ⟨h.1.trans k.1, k.2.trans h.2⟩) ?hKb (by omega) (fun _ => rfl)
    (fun pre W => (∃ u, W.heap[wr.heap.size + 1]? = some (.cells #[u] 36 (0, 0))) ∧ Lib.IsBuilderF 77 5 wr.heap.size wr.heap.size (Lib.byteCells (letG row pre)) W ∧ Below wr.heap.size wr W)
    ?hI ?hIs ⟨⟨_, hbl⟩, hbi, HBS.out⟩ ?a1 ?assign ?body ?done
   case assign =>
    intro l x W K hK
    gi_wp2
    exact hK
   case hKb =>
    intro W l o o' hl hW ho
    exact ⟨(Below.refl wr.heap.size W).grown (grownBy_putObj' W l o') (by have := (Array.getElem?_eq_some_iff.1 hW).1; omega) (fun k e => by cases e; omega), World.putObj_heap_other (by omega)⟩
   case hI =>
    refine fun pre W W' row' hs hg hr => ⟨?_, ?_, ?_⟩
    ·obtain ⟨u, hu⟩ := hs.1
     exact ⟨u, (hg.block _ (blk_lt hu) (fun e => by have := (hr _ e.symm).1; omega)).trans hu⟩
    ·refine builder_grown hs.2.1 hg (fun e => by have := (hr _ e).1; omega) (fun r e c fz hc => ?_)
     obtain ⟨_, o, ho, hc'⟩ := hr r e
     rw [hc] at ho
     cases ho
     cases hc'
    ·exact hs.2.2.grown hg hs.2.2.size (fun r e => by have := (hr r e).1; omega)
   case hIs =>
    rintro pre W v' ⟨⟨u, hu⟩, hI, hB⟩
    refine ⟨⟨v', blk_put (cs := #[u]) hu 0 _ rfl⟩, ?_, hB.setCell (p := ⟨wr.heap.size + 1, 0, none⟩) (Nat.le_succ _) _⟩
    refine builder_grown hI (grownBy_setCell' W (wr.heap.size + 1) v') (fun e => by have := Option.some.inj e; omega) (fun r e c fz hc => ?_)
    cases e
    rw [hu] at hc
    cases hc
   case body =>
    rintro l pre x rest W hx _ ⟨⟨u, hu⟩, hI, hB⟩
    have hin := grpF_in HG.out x (by rw [hx]; simp)
    obtain ⟨_, hx2, hx12⟩ := hin
    obtain ⟨adr, e0, hc00, _⟩ := at_T60 HCR.out (x.1 : Nat) (by omega) (by omega)
    subst e0
    simp only [Int.toNat_natCast] at hc00
    have HC00 := Aside0.mk hc00
    have hbd : (letG row pre).length + (letC (rd_T60 row (x.1 : Nat))).length ≤ 140737488355328 := by
     have := HLEN.out
     rw [hx] at this
     unfold letG at this ⊢
     simp only [List.flatMap_append, List.flatMap_cons, List.length_append] at this
     omega
    have HBD := Aside0.mk hbd
    have HI := Aside0.mk hI
    have HU := Aside0.mk hu
    have HB := Aside0.mk hB
    have HTX : Aside0 (letG row (pre ++ [x]) = letG row pre ++ letC (rd_T60 row (x.1 : Nat))) := ⟨by unfold letG; simp⟩
    have hlb := hB.size
    have hc0 := zc HB hc00
    have hx0 : 0 < x.2 := hx2
    clear hx hu hI hB hbd hc00 hx2 hx12
    unfold letC at HBD HTX
    generalize (rd_T60 row (x.1 : Nat)).f0 = ts at *
    have hts : ts.size = ts.data.toList.length := rfl
    have cW := Tryd.bWriteString wr.heap.size wr.heap.size _ ts W HI.out (by rw [Lib.byteCells_length]; have := HBD.out; unfold letT at this; rw [List.length_append] at this; omega) hlb
    have CW := Aside0.mk cW
    clear cW hts
    by_cases hE : ts.toList = ([] : List UInt8)
    ·have e1 : (ts.toList == ([] : List UInt8)) = true := beq_iff_eq.mpr hE
     have HE := Aside0.mk hE
     clear hE
     gi_wp2_with (refine ⟨trivial, ?_⟩; first | (gi_at_call 46; refine (CallsIn.inRound l (callsIn_wide.2 CW.out)).mono ?_; rintro e w3 ⟨rfl, hat, hb3, hk3⟩; have HAT := Aside0.mk hat; have HB3 := Aside0.mk hb3; have HK3 := Aside0.mk hk3; have HB4 : Aside0 (wr.heap.size ≤ _) := ⟨Nat.le_trans hlb hb3.size⟩; have hc3 := zc ⟨HB.out.trans hb3⟩ HC00.out; clear hat hb3 hk3) | (gi_at_call 47; refine (CallsIn.inRound l (callsIn_wide.2 (Tryd.bWriteByte wr.heap.size wr.heap.size _ 32 _ (Lib.IsBuilderF.usedX HAT.out) (by rw [List.length_append, Lib.byteCells_length, Lib.strCells_length]; have := HBD.out; unfold letT at this; rw [if_pos HE.out, List.length_append] at this; have hts : ts.size = ts.data.toList.length := rfl; simp only [List.length_cons, List.length_nil] at this; omega) HB4.out))).mono ?_; rintro e w4 ⟨rfl, hat4, hb4, hk4⟩))
     obtain ⟨c0_, hc0_⟩ := builder_block HI.out
     obtain ⟨c1_, hc1_⟩ := builder_block (Lib.IsBuilderF.usedX HAT.out)
     have hu3 := HK3.out _ _ HU.out (fun e => by have := Option.some.inj e; omega) (fun c fz e => by cases e)
     have hu4 := hk4 _ _ hu3 (fun e => by have := Option.some.inj e; omega) (fun c fz e => by cases e)
     refine ⟨(keeps_of_others HK3.out HB3.out.size hc0_).trans (keeps_of_others hk4 hb4.size hc1_), ⟨HB3.out.trans hb4, hu4.trans HU.out.symm⟩, ⟨_, hu4⟩, ?_, HB.out.trans (HB3.out.trans hb4)⟩
     rw [HTX.out]
     unfold letT
     rw [if_pos HE.out, Lib.byteCells_append, Lib.byteCells_append, ← List.append_assoc]
     exact Or.inr hat4
    ·have e1 : (ts.toList == ([] : List UInt8)) = false := beq_eq_false_iff_ne.mpr hE
     have HE := Aside0.mk hE
     clear hE
     gi_wp2_with (refine ⟨trivial, ?_⟩; gi_at_call 46; refine (CallsIn.inRound l (callsIn_wide.2 CW.out)).mono ?_; rintro e w3 ⟨rfl, hat, hb3, hk3⟩; have HAT := Aside0.mk hat; have HB3 := Aside0.mk hb3; have HK3 := Aside0.mk hk3; have hc3 := zc ⟨HB.out.trans hb3⟩ HC00.out; clear hat hb3 hk3)
     obtain ⟨c0_, hc0_⟩ := builder_block HI.out
     have hu3 := HK3.out _ _ HU.out (fun e => by have := Option.some.inj e; omega) (fun c fz e => by cases e)
     refine ⟨keeps_of_others HK3.out HB3.out.size hc0_, ⟨HB3.out, hu3.trans HU.out.symm⟩, ⟨_, hu3⟩, ?_, HB.out.trans HB3.out⟩
     rw [HTX.out]
     unfold letT
     rw [if_neg HE.out, List.append_nil, Lib.byteCells_append]
     exact Or.inr HAT.out
   case done =>
    rintro D W hD0 _ ⟨_, hI, hB⟩ hK
    have hD : ws.heap.size ≤ D := by omega
    clear hD0
    have HI := Aside0.mk hI
    have HB := Aside0.mk hB
    have HK := Aside0.mk hK
    clear hI hB hK
    have cS := Tryd.Builder_String_any_k wr.heap.size wr.heap.size _ W HI.out HB.out.size
    have CS := Aside0.mk cS
    clear cS
    gi_wp2_with (first | (gi_at_builtin; refine wpListIn_append_own _ rfl _ _ 42 rfl w1.heap.size 9 i0 (.string ⟨#[]⟩) 1 16 Tryd.underlying42 HI0.out HZ0.out HZ1.out HZ2.out rfl (by decide) v i _ rfl (HO5.out _) ⟨w5.heap.size, 0, none⟩ 1 1 [.string ⟨(letG row gs).toArray⟩] rfl rfl ?c1 ?c2 ?c3 ?c4 ?c5 ?_; (case c1 => (intro j y hj; cases j with | zero => (cases hj; rw [Addr.add_zero']; exact (blk_cell (blk_new w5 _) 0).trans rfl) | succ j => cases hj)); (case c2 => (intro y hy; rw [List.mem_singleton.1 hy]; rfl)); (case c3 => (unfold maxLen; omega)); (case c4 => omega); (case c5 => (rw [World.size_alloc]; exact Nat.le_succ_of_le HS5.out)); intro v' w6 hown hgr _; have HOWN := Aside0.mk hown; have HGR := Aside0.mk hgr; clear hown hgr) | (refine ⟨trivial, ?_⟩; gi_at_call 48; refine (callsIn_wide.2 CS.out).mono ?_; rintro e w5 ⟨rfl, hi5, hb5, hk5⟩; have HB5 := Aside0.mk hb5; have HK5 := Aside0.mk hk5; clear hi5 hb5 hk5; have HO5 : Aside0 (∀ o : Obj, (w5.alloc o).ownsRow w1.heap.size 9 1 v i (encs Value.string (r1.take i))) := ⟨fun o => by have bt := (HB.out.trans HB5.out).alloc (Nat.le_trans HB.out.size HB5.out.size) o; exact HO.out.kept (row := none) ⟨bt.os, bt.tape, bt.output, bt.size, fun k hk _ => bt.block k hk⟩ (Classical.em _)⟩; have HS5 : Aside0 (w1.heap.size ≤ w5.heap.size) := ⟨Nat.le_trans HB1.out.size (Nat.le_trans HB.out.size HB5.out.size)⟩))
    have kp : ∀ D' : Nat, W.heap[D']? = some (Obj.deferred (some [])) → w6.heap[D']? = some (Obj.deferred (some [])) := fun D' hD' => by
     obtain ⟨c_, hc_⟩ := builder_block HI.out
     have h5 := HK5.out _ _ hD' (fun e => by cases e; rw [hc_] at hD'; cases hD') (fun c fz e => by cases e)
     have ha := (Below.heap_alloc w5 (.cells #[.string ⟨(letG row gs).toArray⟩] 9 (0, 0)) _ (Array.getElem?_eq_some_iff.1 h5).1).trans h5
     refine (HGR.out.block _ (Array.getElem?_eq_some_iff.1 ha).1 (fun e => ?_)).trans ha
     obtain ⟨c2, hc2⟩ := own_typed (HO5.out _) D' e.symm
     rw [ha] at hc2
     cases hc2
    refine ⟨⟨i + 1, v', _, _, _, _, _, _, _, _, _, _, _, _, _, by omega, rfl, ⟨by rw [HTK.out]; unfold encs at *; rw [List.map_append]; exact HOWN.out⟩, ⟨⟨D, by have := HB1.out.size; omega, rfl, kp D HK.out, fun d' hd' => ?_⟩, (HM.out.below HB.out).keep fun D' _ h' => kp D' h'⟩, ⟨?_⟩⟩, ?_⟩
    ·obtain ⟨D', e, hlt'⟩ := HM.out.lt d' hd'
     exact ⟨D', e, by omega⟩
    ·refine (HB1.out.trans (((HB.out.trans HB5.out).alloc (Nat.le_trans HB.out.size HB5.out.size) _).mono HB1.out.size)).grown HGR.out (by rw [World.size_alloc]; exact Nat.le_succ_of_le HS5.out) (fun r e => ?_)
     rcases (HO5.out (.cells #[.string ⟨(letG row gs).toArray⟩] 9 (0, 0))).2 with ⟨h1, _⟩ | ⟨g, cap, cur, h1, hg, _⟩
     ·rw [h1] at e; cases e
     ·rw [h1] at e; cases e; exact hg
    ·simp [intOf]; omega
  ·obtain rfl : i = rows.length := by omega
   have hou := HO.out
   rw [List.take_of_length_le (by rw [HUL.out]; exact Nat.le_refl _), ← HUL.out] at hou
   have HOU := Aside0.mk hou
   clear hou
   gi_wp2
   refine leaves_marks (B := w1.heap.size) (P0 := fun W => W.ownsRow w1.heap.size 9 1 v r1.length (encs Value.string r1) ∧ Below w1.heap.size w1 W) ?_ ?_ ds wr HM.out ⟨HOU.out, HB1.out⟩
   ·rintro W D hD hk ⟨ho, hb⟩
    refine ⟨ho.kept (grownBy_putObj' W D _) (.inr (fun e => ?_)), hb.grown (grownBy_putObj' W D _) hb.size (fun r e => by cases e; exact hD)⟩
    obtain ⟨c, hc⟩ := own_typed ho D e
    rw [hk] at hc
    cases hc
   ·rintro W ⟨ho, hb⟩
    exact ⟨.tuple #[v, .int .i64 0], by simp [results, Tryd.results19, go_sem], v, rfl, Kd.R_lower (Kd.R_of_own ho (fun _ _ => trivial)) HB.out.size, HB.out.trans (hb.mono HB.out.size)⟩
 ·rw [if_neg he] at h
  cases h
  gi_wp2_with (refine ⟨trivial, ?_⟩; gi_at_call 18; refine (callsIn_wide.2 CJ.out).mono ?_; rintro e w1 ⟨v, rfl, hN, hb⟩; obtain ⟨Av, cv, rfl, hlv, hCv⟩ := Kd.N_reads hN; have HV := Aside0.mk hCv; have HL := Aside0.mk hlv; have HB := Aside0.mk hb; have hmv := Kd.C_max hCv; clear hN hCv hlv hb)
  exact ⟨.tuple #[.slice none 0 0, .int .i64 e2], by simp [results, Tryd.results19, go_sem], _, rfl, Kd.R_of_own (World.ownsRow_nil _ _ _ _) (fun _ _ => trivial), HB.out⟩
def cellsOf (l : List S60) (x : Nat × Nat) : List S60 := (l.drop x.1).take x.2
def stepS (m : Nat) (l : List S60) (s : List S38 × List S60) (x : Nat × Nat) : List S38 × List S60 :=
 if m < x.2 then s else if m < s.2.length + x.2 then (s.1 ++ [⟨fillL s.2 m, true⟩], cellsOf l x) else (s.1, s.2 ++ cellsOf l x)
def foldS (m : Nat) (l : List S60) (gs : List (Nat × Nat)) : List S38 × List S60 := gs.foldl (stepS m l) ([], [])
def flow_fold.f (l0 : List S60) (a1 : Int) : Option (List S38) :=
 if 1 ≤ a1 ∧ a1 ≤ 1000000 ∧ l0.length ≤ 1000000000 then (grpO l0).bind fun gs => some ((foldS a1.toNat l0 gs).1 ++ [⟨fillL (foldS a1.toNat l0 gs).2 a1.toNat, false⟩]) else none
theorem foldS_snoc (m : Nat) (l : List S60) (pre : List (Nat × Nat)) (x : Nat × Nat) : foldS m l (pre ++ [x]) = stepS m l (foldS m l pre) x := by unfold foldS; rw [List.foldl_append]; rfl
theorem cellsOf_length {l : List S60} {x : Nat × Nat} (h : x.1 + x.2 ≤ l.length) : (cellsOf l x).length = x.2 := by unfold cellsOf; rw [List.length_take, List.length_drop]; omega
theorem foldl_S (m : Nat) (l : List S60) : ∀ (gs : List (Nat × Nat)) (s : List S38 × List S60), (∀ x ∈ gs, x.1 + x.2 ≤ l.length) → s.2.length ≤ m → ((gs.foldl (stepS m l) s).2.length ≤ m ∧ (gs.foldl (stepS m l) s).1.length ≤ s.1.length + gs.length)
 | [], s, _, h => ⟨h, Nat.le_refl _⟩
 | x :: gs, s, hx, h => by
  have h1 := cellsOf_length (hx x (by simp))
  have h2 : (stepS m l s x).2.length ≤ m ∧ (stepS m l s x).1.length ≤ s.1.length + 1 := by
   unfold stepS
   split
   ·exact ⟨h, by omega⟩
   ·split
    ·exact ⟨by rw [h1]; omega, by simp⟩
    ·exact ⟨by rw [List.length_append, h1]; omega, by show s.1.length ≤ _; omega⟩
  obtain ⟨a, b⟩ := foldl_S m l gs (stepS m l s x) (fun y hy => hx y (by simp [hy])) h2.1
  exact ⟨a, by rw [List.foldl_cons, List.length_cons]; omega⟩
theorem grpF_length : ∀ {f off : Nat} {l : List S60} {gs}, grpF f off l = some gs → gs.length ≤ l.length
 | 0, off, [], gs, h => by cases h; exact Nat.le_refl _
 | f + 1, off, [], gs, h => by cases h; exact Nat.le_refl _
 | 0, off, _ :: _, gs, h => by cases h
 | f + 1, off, c :: t, gs, h => by
  unfold grpF at h
  split at h
  ·obtain ⟨ys, hy, rfl⟩ := Option.map_eq_some_iff.1 h
   have h1 : 1 ≤ (mx c.f1 1).toNat := by unfold mx; omega
   have := grpF_length hy
   simp only [List.length_drop, List.length_cons] at this ⊢
   omega
  ·cases h
theorem inR_ {P : Program} {l n : Nat} {ops : Array Oper} {Q : Exit → Act → World → Prop} {o : Oper} {rest : List Oper} {a : Act} {w : World} (N : Option Tmp) (hN : o.dst = N) (hno : ¬ LetsOut Q) (hd : ((o :: rest).all fun o => match o.op with | .defer _ => false | _ => true) = true)
  (h : wpList P ops Q (o :: rest) a w) : wpListIn (Fence.wide.inRound l) n P ops Q (o :: rest) a w := wpListIn_inRound hno _ hd a w h
theorem Tryd.lineInfo : (Tryd.prog.info? 38).map (fun i => (i.zero, i.size, i.bytes)) = some (some (.agg #[.slice none 0 0, .bool false]), k38.sz, 32) := by kernel_rfl
def ends (Q : Exit → Act → World → Prop) : Exit → Act → World → Prop
 | .normal, a, w => Q .normal a w
 | _, _, _ => False
theorem ends_normal {Q : Exit → Act → World → Prop} {a : Act} {w : World} (h : Q .normal a w) : ends Q .normal a w := h
theorem ends_imp {Q : Exit → Act → World → Prop} : ∀ e a w, ends Q e a w → Q e a w
 | .normal, _, _, h => h
 | .ret, _, _, h => h.elim
 | .exit _, _, _, h => h.elim
 | .goto _, _, _, h => h.elim
 | .panic _, _, _, h => h.elim
 | .outgrown, _, _, h => h.elim
structure FoldI (w : World) (B m : Nat) (out : List S38) (now : List S60) (vo vn : Value) (W : World) : Prop where
 b3 : W.heap[w.heap.size]? = some (.cells #[.int .i64 m] 3 (0, 0))
 b5 : W.heap[w.heap.size + 1]? = some (.cells #[vo] 22 (0, 0))
 b6 : W.heap[w.heap.size + 1 + 1]? = some (.cells #[vn] 36 (0, 0))
 bl : ∃ u, W.heap[w.heap.size + 1 + 1 + 1]? = some (.cells #[u] 36 (0, 0))
 out_ : Kd.N k38 38 W B (fun k => B ≤ k ∧ some k ≠ vn.ownBlock) vo out
 now_ : Kd.R k60 60 W B (fun k => B ≤ k) vn now
 below : Below w.heap.size w W
theorem FoldI.own2 {w : World} {B m : Nat} {out : List S38} {now : List S60} {vo vn : Value} {W W' : World} (h : FoldI w B m out now vo vn W) {row : Option Nat} (hg : W.grownBy W' row) (hr : ∀ r, row = some r → w.heap.size + 1 + 1 + 1 < r ∧ r < B) : FoldI w B m out now vo vn W' :=
 ⟨(hg.block _ (blk_lt h.b3) (fun e => by have := hr _ e.symm; omega)).trans h.b3, (hg.block _ (blk_lt h.b5) (fun e => by have := hr _ e.symm; omega)).trans h.b5, (hg.block _ (blk_lt h.b6) (fun e => by have := hr _ e.symm; omega)).trans h.b6,
  h.bl.elim fun u hu => ⟨u, (hg.block _ (blk_lt hu) (fun e => by have := hr _ e.symm; omega)).trans hu⟩,
  Kd.N_grown h.out_ hg (fun k hk e => by have := hr _ e.symm; omega), Kd.R_grown h.now_ hg (fun k hk e => by have := hr _ e.symm; omega), h.below.grown hg h.below.size (fun r e => by have := hr _ e; omega)⟩
theorem FoldI.place {w : World} {B m : Nat} {out : List S38} {now : List S60} {vo vn : Value} {W : World} (h : FoldI w B m out now vo vn W) (hB : w.heap.size + 1 + 1 + 1 < B) (v : Value) : FoldI w B m out now vo vn (W.setCell ⟨w.heap.size + 1 + 1 + 1, 0, none⟩ v) :=
 ⟨(Below.heap_setCell _ _ _ _ (by show w.heap.size ≠ w.heap.size + 1 + 1 + 1; omega)).trans h.b3, (Below.heap_setCell _ _ _ _ (by show w.heap.size + 1 ≠ w.heap.size + 1 + 1 + 1; omega)).trans h.b5, (Below.heap_setCell _ _ _ _ (by show w.heap.size + 1 + 1 ≠ w.heap.size + 1 + 1 + 1; omega)).trans h.b6,
  h.bl.elim fun u hu => ⟨v, blk_put (cs := #[u]) hu 0 _ rfl⟩,
  Kd.N_far h.out_ (fun k hk => by show k ≠ w.heap.size + 1 + 1 + 1; omega) v, Kd.R_far h.now_ (fun k hk => by show k ≠ w.heap.size + 1 + 1 + 1; omega) v, h.below.setCell (p := ⟨w.heap.size + 1 + 1 + 1, 0, none⟩) (by show w.heap.size ≤ w.heap.size + 1 + 1 + 1; omega) v⟩
theorem FoldI.put {w : World} {B m : Nat} {out : List S38} {now now1 : List S60} {vo vn v1 : Value} {W w1 : World} (h : FoldI w B m out now vo vn W) (hB : w.heap.size + 1 + 1 + 1 < B) (hr1 : Kd.R k60 60 w1 B (fun k => B ≤ k) v1 now1) (hg : W.grownBy w1 vn.ownBlock)
  (hat : v1.ownBlock = vn.ownBlock ∨ ∃ b, v1.ownBlock = some b ∧ W.heap.size ≤ b) : FoldI w B m out now1 vo v1 (w1.setCell ⟨w.heap.size + 1 + 1, 0, none⟩ v1) := by
 have hvb := Kd.R_base h.now_
 have hg' : ∀ (k : Nat) (o : Obj), W.heap[k]? = some o → k < B → w1.heap[k]? = some o := fun k o hk hlt => (hg.block _ (Array.getElem?_eq_some_iff.1 hk).1 (fun e => by have := hvb _ e.symm; omega)).trans hk
 obtain ⟨u, hu⟩ := h.bl
 refine ⟨(Below.heap_setCell _ _ _ _ (by show w.heap.size ≠ w.heap.size + 1 + 1; omega)).trans (hg' _ _ h.b3 (by omega)), (Below.heap_setCell _ _ _ _ (by show w.heap.size + 1 ≠ w.heap.size + 1 + 1; omega)).trans (hg' _ _ h.b5 (by omega)), blk_put (cs := #[vn]) (hg' _ _ h.b6 (by omega)) 0 _ rfl,
  ⟨u, (Below.heap_setCell _ _ _ _ (by show w.heap.size + 1 + 1 + 1 ≠ w.heap.size + 1 + 1; omega)).trans (hg' _ _ hu hB)⟩, ?_, Kd.R_far hr1 (fun k hk => by show k ≠ w.heap.size + 1 + 1; omega) v1, (h.below.grown hg h.below.size (fun r e => by have := hvb r e; omega)).setCell (p := ⟨w.heap.size + 1 + 1, 0, none⟩) (by show w.heap.size ≤ w.heap.size + 1 + 1; omega) v1⟩
 have h1 := Kd.N_grown (Kd.N_bound h.out_) hg (fun k hk => hk.1.2)
 refine Kd.N_far (Kd.N_mono h1 (fun k hk => ⟨hk.1.1, ?_⟩)) (fun k hk => by show k ≠ w.heap.size + 1 + 1; omega) v1
 rcases hat with e | ⟨b, e, hb⟩
 ·rw [e]; exact hk.1.2
 ·rw [e]; intro e'; have := Option.some.inj e'; omega
theorem FoldI.keeps {w : World} {B m : Nat} {out : List S38} {now : List S60} {vo vn : Value} {W w1 : World} (h : FoldI w B m out now vo vn W) (hg : W.grownBy w1 vn.ownBlock) : KeepsOthers W w1 :=
 KeepsOthers.of_grownBy hg (fun j o e ho => by obtain ⟨c, hc⟩ := Kd.R_typed h.now_ j e; rw [hc] at ho; cases ho; rfl)
theorem FoldI.flush {w : World} {B m : Nat} {out out1 : List S38} {now : List S60} {vo vn v1 : Value} {W w3 w5 : World} (h : FoldI w B m out now vo vn W) (hB : w.heap.size + 1 + 1 + 1 < B) (hb3 : Below W.heap.size W w3) (hg : w3.grownBy w5 vo.ownBlock) (hN : Kd.N k38 38 w5 B (fun k => B ≤ k) v1 out1) :
  (∀ (k : Nat) (o : Obj), W.heap[k]? = some o → k < B → w5.heap[k]? = some o) ∧ Below w.heap.size W w5 ∧ KeepsOthers W w5 ∧
  FoldI w B m out1 [] v1 (.slice none 0 0) ((w5.setCell ⟨w.heap.size + 1, 0, none⟩ v1).setCell ⟨w.heap.size + 1 + 1, 0, none⟩ (.slice none 0 0)) := by
 have hvb := Kd.N_base h.out_
 have hg' : ∀ (k : Nat) (o : Obj), W.heap[k]? = some o → k < B → w5.heap[k]? = some o := fun k o hk hlt => by
  have h3 := (hb3.block _ (Array.getElem?_eq_some_iff.1 hk).1).trans hk
  exact (hg.block _ (Array.getElem?_eq_some_iff.1 h3).1 (fun e => by have := hvb _ e.symm; omega)).trans h3
 have hbw : Below w.heap.size W w5 := (hb3.mono h.below.size).grown hg (Nat.le_trans h.below.size hb3.size) (fun r e => by have := hvb r e; omega)
 obtain ⟨u, hu⟩ := h.bl
 refine ⟨hg', hbw, (KeepsOthers.of_grownBy (grown_of_below hb3 none) (fun j o e => by cases e)).trans (KeepsOthers.of_grownBy hg (fun j o e ho => ?_)), ?_⟩
 ·obtain ⟨c, hc⟩ := Kd.N_typed (Kd.N_below h.out_ hb3) j e
  rw [hc] at ho; cases ho; rfl
 refine ⟨(Below.heap_setCell _ _ _ _ (by show w.heap.size ≠ w.heap.size + 1 + 1; omega)).trans ((Below.heap_setCell _ _ _ _ (by show w.heap.size ≠ w.heap.size + 1; omega)).trans (hg' _ _ h.b3 (by omega))),
  (Below.heap_setCell _ _ _ _ (by show w.heap.size + 1 ≠ w.heap.size + 1 + 1; omega)).trans (blk_put (cs := #[vo]) (hg' _ _ h.b5 (by omega)) 0 _ rfl),
  blk_put (cs := #[vn]) ((Below.heap_setCell _ _ _ _ (by show w.heap.size + 1 + 1 ≠ w.heap.size + 1; omega)).trans (hg' _ _ h.b6 (by omega))) 0 _ rfl,
  ⟨u, (Below.heap_setCell _ _ _ _ (by show w.heap.size + 1 + 1 + 1 ≠ w.heap.size + 1 + 1; omega)).trans ((Below.heap_setCell _ _ _ _ (by show w.heap.size + 1 + 1 + 1 ≠ w.heap.size + 1; omega)).trans (hg' _ _ hu hB))⟩, ?_, Kd.R_nil _ _ _ _ _,
  ((h.below.trans hbw).setCell (p := ⟨w.heap.size + 1, 0, none⟩) (by show w.heap.size ≤ w.heap.size + 1; omega) _).setCell (p := ⟨w.heap.size + 1 + 1, 0, none⟩) (by show w.heap.size ≤ w.heap.size + 1 + 1; omega) _⟩
 exact Kd.N_mono (Kd.N_far (p := ⟨w.heap.size + 1 + 1, 0, none⟩) (Kd.N_far (p := ⟨w.heap.size + 1, 0, none⟩) hN (fun k hk => by show k ≠ w.heap.size + 1; omega) _) (fun k hk => by show k ≠ w.heap.size + 1 + 1; omega) _) (fun k hk => ⟨hk, by simp [Value.ownBlock]⟩)
theorem FoldI.line {w : World} {B m : Nat} {out : List S38} {now : List S60} {vo vn : Value} {W w3 : World} {A3 : Option Addr} {c3 : Nat} (soft : Bool) (h : FoldI w B m out now vo vn W) (hBW : B ≤ W.heap.size) (hb3 : Below W.heap.size W w3) (hn : now.length ≤ m)
  (hc : m ≤ c3) (hF : Kd.F k60 w3 (fun k => some k = vn.ownBlock ∨ W.heap.size ≤ k) A3 m (fillL now m)) :
  Kd.FK k38 w3 (fun k => some k = vn.ownBlock ∨ W.heap.size ≤ k) ⟨fillL now m, soft⟩ [.slice A3 m c3, .bool soft] ∧ (∀ k, (some k = vn.ownBlock ∨ W.heap.size ≤ k) → B ≤ k ∧ some k ≠ vo.ownBlock) ∧ Kd.N k38 38 w3 B (fun k => B ≤ k) vo out := by
 have hl := fillL_length hn
 refine ⟨?_, fun k hk => ?_, Kd.N_mono (Kd.N_below h.out_ hb3) (fun k hk => hk.1)⟩
 ·have h1 := k38_mkF w3 (fun k => some k = vn.ownBlock ∨ W.heap.size ≤ k) ⟨fillL now m, soft⟩ (A0 := A3) (c0 := c3) (by show (fillL now m).length ≤ c3; omega) (by show Kd.F _ _ _ _ (fillL now m).length _; rw [hl]; exact hF)
  rw [show (⟨fillL now m, soft⟩ : S38).f0.length = m from hl] at h1
  exact h1
 ·rcases hk with hk | hk
  ·refine ⟨Kd.R_base h.now_ k hk.symm, fun e => ?_⟩
   obtain ⟨c1, h1⟩ := Kd.R_typed h.now_ k hk.symm
   obtain ⟨c2, h2⟩ := Kd.N_typed h.out_ k e.symm
   rw [h1] at h2; cases h2
  ·exact ⟨Nat.le_trans hBW hk, fun e => by have := Kd.N_lt h.out_ k e.symm; omega⟩
set_option maxHeartbeats 4000000 in
set_option maxRecDepth 100000 in
theorem flow_fold.calls (A0 : Option Addr) (c0 : Nat) (l0 : List S60) (a1 : Int) (r : List S38) (w : World) (hr0 : Kd.C k60 w A0 l0.length l0) (hc0 : l0.length ≤ c0) (h : flow_fold.f l0 a1 = some r) :
  Calls Tryd.prog 52 #[.slice A0 l0.length c0, .int .i64 a1] w fun e w' => ∃ v0_ : Value, e = .returned v0_ ∧ Kd.N k38 38 w' w.heap.size (fun k_ => w.heap.size ≤ k_) v0_ r ∧ Below w.heap.size w w' := by
 unfold flow_fold.f at h
 split at h
 rotate_left
 ·cases h
 rename_i hb
 obtain ⟨hb1, hb2, hb3⟩ := hb
 obtain ⟨m, rfl⟩ : ∃ m : Nat, a1 = m := ⟨a1.toNat, by omega⟩
 obtain ⟨gs, hgs, h⟩ := Option.bind_eq_some_iff.1 h
 simp only [Int.toNat_natCast] at h
 have hr := (Option.some.inj h).symm
 have hgin := grpF_in hgs
 have hglen := grpF_length hgs
 have HR := Aside0.mk hr
 have HG := Aside0.mk hgs
 have HGI := Aside0.mk hgin
 have HGL := Aside0.mk hglen
 have HC := Aside0.mk hr0
 clear hr0 h hgs hgin hglen
 clear hr
 refine (callsIn_wide (n := 6)).1 ?_
 refine callsIn_of_wp_marks Tryd.func52 rfl trivial ?_ rfl
 simp only [Tryd.ntmps52, List.size_toArray, List.length_cons, List.length_nil, Nat.reduceAdd, Nat.reduceSub, Array.replicate_succ, Array.replicate_zero, List.push_toArray, List.append_toArray, List.nil_append, List.cons_append]
 gi_wp2_with (refine ⟨trivial, ?_⟩; gi_at_call 45; refine (callsIn_wide.2 (letters_calls _ _ _ _)).mono ?_; rintro e w2 ⟨rfl, rfl⟩)
 have hsz : ((((w.alloc (.cells #[.int .i64 m] 3)).alloc (.cells #[.slice none 0 0] 22)).alloc (.cells #[.slice none 0 0] 36)).alloc (.cells #[.slice A0 l0.length c0] 36)).heap.size = w.heap.size + 1 + 1 + 1 + 1 := by simp only [World.size_alloc]
 have hI0 : FoldI w (w.heap.size + 1 + 1 + 1 + 1 + 2) m [] [] (.slice none 0 0) (.slice none 0 0) ((((w.alloc (.cells #[.int .i64 m] 3)).alloc (.cells #[.slice none 0 0] 22)).alloc (.cells #[.slice none 0 0] 36)).alloc (.cells #[.slice A0 l0.length c0] 36)) := by
  have g1 := blk_new w (.cells #[.int .i64 m] 3)
  have g2 := blk_new (w.alloc (.cells #[.int .i64 m] 3)) (.cells #[.slice none 0 0] 22)
  have g3 := blk_new ((w.alloc (.cells #[.int .i64 m] 3)).alloc (.cells #[.slice none 0 0] 22)) (.cells #[.slice none 0 0] 36)
  have g4 := blk_new (((w.alloc (.cells #[.int .i64 m] 3)).alloc (.cells #[.slice none 0 0] 22)).alloc (.cells #[.slice none 0 0] 36)) (.cells #[.slice A0 l0.length c0] 36)
  simp only [World.size_alloc] at g2 g3 g4
  exact ⟨blk_alloc (blk_alloc (blk_alloc g1 _) _) _, blk_alloc (blk_alloc g2 _) _, blk_alloc g3 _, ⟨_, g4⟩, Kd.N_nil _ _ _ _ _, Kd.R_nil _ _ _ _ _, below_alloc (below_alloc (below_alloc (below_alloc (Below.refl _ _) _) _) _) _⟩
 have hbl : ((((w.alloc (.cells #[.int .i64 m] 3)).alloc (.cells #[.slice none 0 0] 22)).alloc (.cells #[.slice none 0 0] 36)).alloc (.cells #[.slice A0 l0.length c0] 36)).heap[w.heap.size + 1 + 1 + 1]? = some (.cells #[.slice A0 l0.length c0] 36 (0, 0)) := by
  have g4 := blk_new (((w.alloc (.cells #[.int .i64 m] 3)).alloc (.cells #[.slice none 0 0] 22)).alloc (.cells #[.slice none 0 0] 36)) (.cells #[.slice A0 l0.length c0] 36)
  simp only [World.size_alloc] at g4
  exact g4
 generalize ((((w.alloc (.cells #[.int .i64 m] 3)).alloc (.cells #[.slice none 0 0] 22)).alloc (.cells #[.slice none 0 0] 36)).alloc (.cells #[.slice A0 l0.length c0] 36)) = ws at *
 obtain ⟨B, hB⟩ : ∃ B, w.heap.size + 1 + 1 + 1 + 1 + 2 = B := ⟨_, rfl⟩
 rw [hB] at hI0
 have hb0 := hI0.below
 have HBL := Aside0.mk hbl
 refine wpIn_rangeFunc_box rfl (by decide) (gf := 68) (lb := #[.pointer (some ⟨w.heap.size + 1 + 1 + 1, 0, none⟩)]) rfl trivial (enters_of Tryd.func68 (by kernel_rfl) rfl)
  (encs := fun x : Nat × Nat => #[.slice (A0.map (·.add (x.1 * 5))) x.2 (c0 - x.1)]) (Kp := fun A B => Below w.heap.size A B ∧ B.heap[w.heap.size + 1 + 1 + 1]? = A.heap[w.heap.size + 1 + 1 + 1]?) (Bl := w.heap.size + 1 + 1 + 1) (xs := gs)
  (fun l J W hW hJ hY h0 => letters_iter 5 (by decide) l (w.heap.size + 1 + 1 + 1) c0 A0 l0 gs w HG.out hc0 HC.out (by omega) J hJ hY W (hb0.trans (hW.mono (by omega))) ((hW.block _ (by omega)).trans HBL.out) h0)
  (fun h k => ⟨h.1.trans k.1, k.2.trans h.2⟩) ?hKb (by omega) (fun _ => rfl)
  (fun pre W => ∃ vo vn, FoldI w B m (foldS m l0 pre).1 (foldS m l0 pre).2 vo vn W) ?hI ?hIs ⟨_, _, hI0⟩ ?a1 ?assign ?body ?done
 case assign =>
  intro l x W K hK
  gi_wp2
  exact hK
 case hKb =>
  intro W l o o' hl hW ho
  exact ⟨(Below.refl w.heap.size W).grown (grownBy_putObj' W l o') (by have := (Array.getElem?_eq_some_iff.1 hW).1; omega) (fun k e => by cases e; omega), World.putObj_heap_other (by omega)⟩
 case hI =>
  rintro pre W W' row ⟨vo, vn, h⟩ hg hr
  exact ⟨vo, vn, h.own2 hg (fun r e => by have := (hr r e).1; omega)⟩
 case hIs =>
  rintro pre W v ⟨vo, vn, h⟩
  exact ⟨vo, vn, h.place (by omega) v⟩
 case body =>
  rintro l pre x rest W hx hsz2 ⟨vo, vn, hI⟩
  have hin := HGI.out x (by rw [hx]; simp)
  have hS := foldl_S m l0 pre ([], []) (fun y hy => by have := HGI.out y (by rw [hx]; simp [hy]); omega) (Nat.zero_le _)
  have hsn := foldS_snoc m l0 pre x
  have hpl : pre.length ≤ l0.length := by have := HGL.out; rw [hx, List.length_append] at this; omega
  rw [show pre.foldl (stepS m l0) ([], []) = foldS m l0 pre from rfl] at hS
  generalize foldS m l0 pre = s at *
  obtain ⟨out, now⟩ := s
  obtain ⟨hS1, hS2⟩ := hS
  simp only [List.length_nil, Nat.zero_add] at hS1 hS2
  rw [hsn]
  have HI := Aside0.mk hI
  have c3 := (blk_cell hI.b3 0).trans rfl
  have c6 := (blk_cell hI.b6 0).trans rfl
  have f6 := blk_frozen hI.b6 0
  obtain ⟨u, hu⟩ := hI.bl
  obtain ⟨An, cn, hvn⟩ := Kd.R_slice hI.now_
  subst hvn
  have hmx := Kd.C_max HC.out
  have HSRCA : Aside0 (∀ W', Below w.heap.size w W' → k60.C W' (A0.map (·.add (x.1 * 5))) x.2 (cellsOf l0 x)) := ⟨fun W' hW' => by
   have h1 := Kd.C_drop (m := x.1) (Kd.C_below HC.out hW') (by omega) hc0
   rw [if_neg (by omega), show k60.sz = 5 from rfl] at h1
   have h2 := Kd.C_take (m := x.2) h1 (by rw [List.length_drop]; omega)
   have e := cellsOf_length (l := l0) (x := x) (by omega)
   unfold cellsOf at e ⊢
   rw [e] at h2
   exact h2⟩
  have HSRC := Aside0.mk (HSRCA.out W hI.below)
  have HU := Aside0.mk hu
  have hBw : w.heap.size + 1 + 1 + 1 < B := by omega
  have hBW : B ≤ W.heap.size := by omega
  clear hsn hI hx hu
  by_cases h1 : m < x.2
  ·have e : stepS m l0 (out, now) x = (out, now) := by unfold stepS; rw [if_pos h1]
   rw [e]
   clear e
   gi_wp2
   exact ⟨KeepsOthers.refl _, ⟨Below.refl _ _, rfl⟩, _, _, HI.out⟩
  ·by_cases h2 : m < now.length + x.2
   ·have e : stepS m l0 (out, now) x = (out ++ [⟨fillL now m, true⟩], cellsOf l0 x) := by unfold stepS; rw [if_neg h1, if_pos h2]
    rw [e]
    clear e
    have c5 := (blk_cell HI.out.b5 0).trans rfl
    have f5 := blk_frozen HI.out.b5 0
    gi_wp2
    refine startR_ (n := 8) (S := fun w' => w'.cell? ⟨w.heap.size + 1, 0, none⟩ = some vo ∧ w'.cell? ⟨w.heap.size + 1 + 1, 0, none⟩ = some (.slice An now.length cn) ∧ w'.cell? ⟨w.heap.size, 0, none⟩ = some (.int .i64 m)) (ds := [6, 7]) #[false, false, false, false, false, false, false, false] (by kernel_rfl) (by rintro ⟨a, w, h⟩; exact h) (by kernel_rfl) rfl rfl ⟨c5, c6, c3⟩ (fun hHeld => ?_)
    refine take_ (i := 0) (N := some 22) (v := ?_) (a' := ?_) #[true, false, false, false, false, false, false, false] rfl rfl (by kernel_rfl) (fun _ _ _ h => h) (Or.inl ⟨by rfl, ?_⟩) hHeld ?_ ?_
    rotate_left
    ·rintro w' ⟨s0, s1, s2⟩
     go_simp
     with_reducible rfl
    rotate_left
    ·exact zr
    refine take_ (i := 1) (N := some 23) (v := ?_) (a' := ?_) #[true, true, false, false, false, false, false, false] rfl rfl (by kernel_rfl) (fun _ _ _ h => h) (Or.inl ⟨by rfl, ?_⟩) hHeld ?_ ?_
    rotate_left
    ·rintro w' ⟨s0, s1, s2⟩
     go_simp
     with_reducible rfl
    rotate_left
    ·exact zr
    refine take_ (i := 2) (N := some 24) (v := ?_) (a' := ?_) #[true, true, true, false, false, false, false, false] rfl rfl (by kernel_rfl) (fun _ _ _ h => h) (Or.inl ⟨by rfl, ?_⟩) hHeld ?_ ?_
    rotate_left
    ·rintro w' ⟨s0, s1, s2⟩
     go_simp
     with_reducible rfl
    rotate_left
    ·exact zr
    refine one_ (i := 3) (N := some 25) #[true, true, true, true, false, false, false, false] rfl rfl (by kernel_rfl) (by decide) (fun K hK => ?_)
    refine goes_ Tryd.func72 (by kernel_rfl) rfl #[.slice An now.length cn, .int .i64 m, .bool true] (by rfl) rfl rfl zm ?_
    refine (filled_calls B m _ (.slice An now.length cn) now true W.drew (Kd.R_drew HI.out.now_) hS1 (by omega) (by omega)).mono ?_
    rintro e w3 ⟨A3, c3', rfl, hc3, hF3, hb3⟩
    refine ⟨_, rfl, ?_⟩
    have HB3 : Aside0 (Below W.heap.size W w3) := ⟨(Below.refl W.heap.size W).drew.trans hb3⟩
    obtain ⟨hp3, hok3, hN3⟩ := HI.out.line true hBW HB3.out hS1 hc3 hF3
    have HP3 := Aside0.mk hp3
    have HO3 := Aside0.mk hok3
    have HN3 := Aside0.mk hN3
    have d5 := zc (w := W.drew) ⟨hb3⟩ c5
    have d6 := zc (w := W.drew) ⟨hb3⟩ c6
    have d3 := zc (w := W.drew) ⟨hb3⟩ c3
    have hs3 : W.heap.size ≤ w3.heap.size := hb3.size
    clear hb3 hp3 hok3 hN3 hF3
    refine hK.out _ _ ⟨d5, d6, d3⟩ (fun hHeld => ?_)
    clear hK K
    refine norm_ (a' := ?_) ?_ ?_
    rotate_left
    ·show Act.put _ (some 25) _ = _
     exact zr
    refine one_ (i := 4) (N := some 26) #[true, true, true, true, true, false, false, false] rfl rfl (by kernel_rfl) (by decide) (fun K hK => ?_)
    refine value_ (w1 := w3.alloc (.cells #[.slice A3 m c3', .bool true] 38)) (v := .slice (some ⟨w3.heap.size, 0, none⟩) 1 1) (by rfl) rfl ?_ ?_
    ·go_simp
    refine hK.out _ _ ⟨zc ⟨below_alloc (Below.refl _ _) _⟩ d5, zc ⟨below_alloc (Below.refl _ _) _⟩ d6, zc ⟨below_alloc (Below.refl _ _) _⟩ d3⟩ (fun hHeld => ?_)
    clear hK K
    refine norm_ (a' := ?_) ?_ ?_
    rotate_left
    ·show Act.put _ (some 26) _ = _
     exact zr
    refine one_ (i := 5) (N := some 27) #[true, true, true, true, true, true, false, false] rfl rfl (by kernel_rfl) (by decide) (fun K hK => ?_)
    refine Kd.N_append_step k38 (w0 := w3) B (by rfl) (.tmp 22) (.tmp 26) 22 38 (.agg #[.slice none 0 0, .bool false]) 32 rfl Tryd.underlying22 Tryd.lineInfo rfl (by decide) (by omega) vo out ⟨fillL now m, true⟩ [.slice A3 m c3', .bool true] (fun k => B ≤ k) _ rfl rfl HP3.out HO3.out (fun k hk => by omega) HN3.out (Below.refl _ _) (by omega) (by omega) ?_
    intro v1 w5 hN5 hb5 hg5 hat5
    obtain ⟨Av, cv, rfl, _, _⟩ := Kd.N_reads hN5
    obtain ⟨hk5, hbw5, hko5, hI5⟩ := HI.out.flush hBw HB3.out hg5 hN5
    have e5 := (blk_cell (hk5 _ _ HI.out.b5 (by omega)) 0).trans rfl
    have e6 := (blk_cell (hk5 _ _ HI.out.b6 (by omega)) 0).trans rfl
    have e3 := (blk_cell (hk5 _ _ HI.out.b3 (by omega)) 0).trans rfl
    have g5 := blk_frozen (hk5 _ _ HI.out.b5 (by omega)) 0
    have g6 := blk_frozen (hk5 _ _ HI.out.b6 (by omega)) 0
    refine hK.out _ _ ⟨e5, e6, e3⟩ (fun hHeld => ?_)
    clear hK K
    refine norm_ (a' := ?_) ?_ ?_
    rotate_left
    ·show Act.put _ (some 27) _ = _
     exact zr
    generalize (out ++ [(⟨fillL now m, true⟩ : S38)]).length = ol at *
    refine last_ (i := 6) (N := none) #[true, true, true, true, true, true, true, false] rfl rfl (by kernel_rfl) (by decide) (fun K hK => ?_)
    refine skip_ (w1 := w5.setCell ⟨w.heap.size + 1, 0, none⟩ (.slice Av ol cv)) (by rfl) rfl ?_ ?_
    ·go_simp
    refine hK.out _ _ ?_
    clear hK K
    have e6' : (w5.setCell ⟨w.heap.size + 1, 0, none⟩ (.slice Av ol cv)).cell? ⟨w.heap.size + 1 + 1, 0, none⟩ = some (.slice An now.length cn) := by go_simp
    have g6' : (w5.setCell ⟨w.heap.size + 1, 0, none⟩ (.slice Av ol cv)).frozen? ⟨w.heap.size + 1 + 1, 0, none⟩ = false := by go_simp
    refine last_ (i := 7) (N := none) #[true, true, true, true, true, true, true, true] rfl rfl (by kernel_rfl) (by decide) (fun K hK => ?_)
    refine skip_ (w1 := (w5.setCell ⟨w.heap.size + 1, 0, none⟩ (.slice Av ol cv)).setCell ⟨w.heap.size + 1 + 1, 0, none⟩ (.slice none 0 0)) (by rfl) rfl ?_ ?_
    ·go_simp
    refine hK.out _ _ ?_
    clear hK K
    refine done_ (by kernel_rfl) ?_
    have hkw : KeepsOthers W ((w5.setCell ⟨w.heap.size + 1, 0, none⟩ (.slice Av ol cv)).setCell ⟨w.heap.size + 1 + 1, 0, none⟩ (.slice none 0 0)) := (hko5.trans (KeepsOthers.setCell _ _ _)).trans (KeepsOthers.setCell _ _ _)
    have hbw6 : Below w.heap.size W ((w5.setCell ⟨w.heap.size + 1, 0, none⟩ (.slice Av ol cv)).setCell ⟨w.heap.size + 1 + 1, 0, none⟩ (.slice none 0 0)) := (hbw5.setCell (p := ⟨w.heap.size + 1, 0, none⟩) (by show w.heap.size ≤ w.heap.size + 1; omega) _).setCell (p := ⟨w.heap.size + 1 + 1, 0, none⟩) (by show w.heap.size ≤ w.heap.size + 1 + 1; omega) _
    have hbl6 : ((w5.setCell ⟨w.heap.size + 1, 0, none⟩ (.slice Av ol cv)).setCell ⟨w.heap.size + 1 + 1, 0, none⟩ (.slice none 0 0)).heap[w.heap.size + 1 + 1 + 1]? = W.heap[w.heap.size + 1 + 1 + 1]? :=
     ((Below.heap_setCell _ _ _ _ (by show w.heap.size + 1 + 1 + 1 ≠ w.heap.size + 1 + 1; omega)).trans ((Below.heap_setCell _ _ _ _ (by show w.heap.size + 1 + 1 + 1 ≠ w.heap.size + 1; omega)).trans (hk5 _ _ HU.out hBw))).trans HU.out.symm
    have HI6 := Aside0.mk hI5
    have HKW := Aside0.mk hkw
    have HBW6 := Aside0.mk hbw6
    have HBL6 := Aside0.mk hbl6
    have hBW6 : B ≤ ((w5.setCell ⟨w.heap.size + 1, 0, none⟩ (.slice Av ol cv)).setCell ⟨w.heap.size + 1 + 1, 0, none⟩ (.slice none 0 0)).heap.size := Nat.le_trans hBW hkw.size
    clear e5 e6 e3 g5 g6 e6' g6' hHeld hI5 hkw hbw6 hbl6 hko5 hbw5 hk5 hg5 hat5 hb5 hN5 c6 f6 c5 f5 c3 d3 d5 d6
    generalize ((w5.setCell ⟨w.heap.size + 1, 0, none⟩ (.slice Av ol cv)).setCell ⟨w.heap.size + 1 + 1, 0, none⟩ (.slice none 0 0)) = w6 at *
    have c6 := (blk_cell HI6.out.b6 0).trans rfl
    have f6 := blk_frozen HI6.out.b6 0
    have HSRC6 := Aside0.mk (HSRCA.out w6 HI6.out.below)
    gi_wp2_with ((with_reducible refine inR_ (some 28) rfl ?hno2 ?hd2 ?_))
    case hno2 => (rintro ⟨a, w, h⟩; exact h)
    case hd2 => rfl
    go_wp2_with (at_builtin; (refine Kd.R_append_rows k60 (w0 := w6) B rfl (.tmp 28) (.tmp 29) 36 60 (.agg #[.string ⟨#[]⟩, .int .i64 0, .int .i64 0, .int .i64 0, .int .i64 0]) 48 rfl Tryd.underlying36 Tryd.cellInfo rfl (by decide) (by omega) (.slice none 0 0) [] (cellsOf l0 x) _ _ _ (fun k_ => B ≤ k_) (fun _ => False) rfl rfl HI6.out.now_ HSRC6.out (fun _ _ h => h) (fun _ h => h.elim) (fun k hk => Nat.le_trans hBW6 hk) (Below.refl _ _) hBW6 (by show (0 + x.2) * 48 ≤ _; omega) ?_; intro v1 w1 hr1 hb1 hg1 hat; obtain ⟨A1, cc1, rfl⟩ := Kd.R_slice hr1; have HR1 := Aside0.mk hr1; have HB1 := Aside0.mk hb1; have HG1 := Aside0.mk hg1; have HAT := Aside0.mk hat; have c6' := (hb1.cell (p := ⟨w.heap.size + 1 + 1, 0, none⟩) (show w.heap.size + 1 + 1 < B by omega)).trans c6; have f6' := (hb1.frozen (p := ⟨w.heap.size + 1 + 1, 0, none⟩) (show w.heap.size + 1 + 1 < B by omega)).trans f6; clear hr1 hb1 hg1 hat))
    have hput := HI6.out.put hBw HR1.out HG1.out HAT.out
    simp only [List.nil_append] at hput
    refine ⟨(HKW.out.trans (HI6.out.keeps HG1.out)).trans (KeepsOthers.setCell _ _ _), ⟨(HBW6.out.trans (HB1.out.mono (by omega))).setCell (p := ⟨w.heap.size + 1 + 1, 0, none⟩) (by show w.heap.size ≤ w.heap.size + 1 + 1; omega) _, ?_⟩, _, _, hput⟩
    exact (Below.heap_setCell _ _ _ _ (by show w.heap.size + 1 + 1 + 1 ≠ w.heap.size + 1 + 1; omega)).trans ((HB1.out.block _ hBw).trans HBL6.out)
   ·have e : stepS m l0 (out, now) x = (out, now ++ cellsOf l0 x) := by unfold stepS; rw [if_neg h1, if_neg h2]
    rw [e]
    clear e
    gi_wp2_with ((with_reducible refine inR_ (some 28) rfl ?hno ?hd ?_))
    case hno => (rintro ⟨a, w, h⟩; exact h)
    go_wp2_with (at_builtin; (refine Kd.R_append_rows k60 (w0 := W) B rfl (.tmp 28) (.tmp 29) 36 60 (.agg #[.string ⟨#[]⟩, .int .i64 0, .int .i64 0, .int .i64 0, .int .i64 0]) 48 rfl Tryd.underlying36 Tryd.cellInfo rfl (by decide) (by omega) (.slice An now.length cn) now (cellsOf l0 x) _ _ _ (fun k_ => B ≤ k_) (fun _ => False) rfl rfl HI.out.now_ HSRC.out (fun _ _ h => h) (fun _ h => h.elim) (fun k hk => Nat.le_trans hBW hk) (Below.refl _ _) hBW (by omega) ?_; intro v1 w1 hr1 hb1 hg1 hat; obtain ⟨A1, cc1, rfl⟩ := Kd.R_slice hr1; have HR1 := Aside0.mk hr1; have HB1 := Aside0.mk hb1; have HG1 := Aside0.mk hg1; have HAT := Aside0.mk hat; have c6' := (hb1.cell (p := ⟨w.heap.size + 1 + 1, 0, none⟩) (show w.heap.size + 1 + 1 < B by omega)).trans c6; have f6' := (hb1.frozen (p := ⟨w.heap.size + 1 + 1, 0, none⟩) (show w.heap.size + 1 + 1 < B by omega)).trans f6; clear hr1 hb1 hg1 hat))
    have hput := HI.out.put hBw HR1.out HG1.out HAT.out
    simp only [List.length_append] at hput
    refine ⟨(HI.out.keeps HG1.out).trans (KeepsOthers.setCell _ _ _), ⟨(HB1.out.mono (by omega)).setCell (p := ⟨w.heap.size + 1 + 1, 0, none⟩) (by show w.heap.size ≤ w.heap.size + 1 + 1; omega) _, ?_⟩, _, _, hput⟩
    exact (Below.heap_setCell _ _ _ _ (by show w.heap.size + 1 + 1 + 1 ≠ w.heap.size + 1 + 1; omega)).trans (HB1.out.block _ hBw)
 case done =>
  rintro D W hD0 hsz2 ⟨vo, vn, hI⟩ hK
  have hD : ws.heap.size ≤ D := by omega
  have hDB : D < B := by omega
  clear hD0
  have hS := foldl_S m l0 gs ([], []) (fun y hy => by have := HGI.out y hy; omega) (Nat.zero_le _)
  have hrr := HR.out
  rw [show gs.foldl (stepS m l0) ([], []) = foldS m l0 gs from rfl] at hS
  generalize foldS m l0 gs = s at *
  obtain ⟨out, now⟩ := s
  obtain ⟨hS1, hS2⟩ := hS
  simp only [List.length_nil, Nat.zero_add] at hS1 hS2 hrr
  have HRR := Aside0.mk hrr
  have hgl := HGL.out
  have HI := Aside0.mk hI
  have HK := Aside0.mk hK
  have c3 := (blk_cell hI.b3 0).trans rfl
  have c5 := (blk_cell hI.b5 0).trans rfl
  have c6 := (blk_cell hI.b6 0).trans rfl
  obtain ⟨u, hu⟩ := hI.bl
  obtain ⟨An, cn, hvn⟩ := Kd.R_slice hI.now_
  subst hvn
  have hBw : w.heap.size + 1 + 1 + 1 < B := by omega
  have hBW : B ≤ W.heap.size := by omega
  clear hI hu hK hrr HR
  gi_wp2
  rw [wpIn_wide]
  refine wp_mono ?_ ends_imp
  refine start_ (n := 7) (S := fun w' => w'.cell? ⟨w.heap.size + 1, 0, none⟩ = some vo ∧ w'.cell? ⟨w.heap.size + 1 + 1, 0, none⟩ = some (.slice An now.length cn) ∧ w'.cell? ⟨w.heap.size, 0, none⟩ = some (.int .i64 m)) (ds := []) #[false, false, false, false, false, false, false] (by kernel_rfl) rfl rfl ⟨c5, c6, c3⟩ (fun hHeld => ?_)
  refine take_ (i := 0) (N := some 31) (v := ?_) (a' := ?_) #[true, false, false, false, false, false, false] rfl rfl (by kernel_rfl) (fun _ _ _ h => h) (Or.inl ⟨by rfl, ?_⟩) hHeld ?_ ?_
  rotate_left
  ·rintro w' ⟨s0, s1, s2⟩
   go_simp
   with_reducible rfl
  rotate_left
  ·exact zr
  refine take_ (i := 1) (N := some 32) (v := ?_) (a' := ?_) #[true, true, false, false, false, false, false] rfl rfl (by kernel_rfl) (fun _ _ _ h => h) (Or.inl ⟨by rfl, ?_⟩) hHeld ?_ ?_
  rotate_left
  ·rintro w' ⟨s0, s1, s2⟩
   go_simp
   with_reducible rfl
  rotate_left
  ·exact zr
  refine take_ (i := 2) (N := some 33) (v := ?_) (a' := ?_) #[true, true, true, false, false, false, false] rfl rfl (by kernel_rfl) (fun _ _ _ h => h) (Or.inl ⟨by rfl, ?_⟩) hHeld ?_ ?_
  rotate_left
  ·rintro w' ⟨s0, s1, s2⟩
   go_simp
   with_reducible rfl
  rotate_left
  ·exact zr
  refine one_ (i := 3) (N := some 34) #[true, true, true, true, false, false, false] rfl rfl (by kernel_rfl) (by decide) (fun K hK => ?_)
  refine goes_ Tryd.func72 (by kernel_rfl) rfl #[.slice An now.length cn, .int .i64 m, .bool false] (by rfl) rfl rfl zm ?_
  refine (filled_calls B m _ (.slice An now.length cn) now false W.drew (Kd.R_drew HI.out.now_) hS1 (by omega) (by omega)).mono ?_
  rintro e w3 ⟨A3, c3', rfl, hc3, hF3, hb3⟩
  refine ⟨_, rfl, ?_⟩
  have HB3 : Aside0 (Below W.heap.size W w3) := ⟨(Below.refl W.heap.size W).drew.trans hb3⟩
  obtain ⟨hp3, hok3, hN3⟩ := HI.out.line false hBW HB3.out hS1 hc3 hF3
  have HP3 := Aside0.mk hp3
  have HO3 := Aside0.mk hok3
  have HN3 := Aside0.mk hN3
  have d5 := zc (w := W.drew) ⟨hb3⟩ c5
  have d6 := zc (w := W.drew) ⟨hb3⟩ c6
  have d3 := zc (w := W.drew) ⟨hb3⟩ c3
  have hs3 : W.heap.size ≤ w3.heap.size := hb3.size
  have hk3 := (hb3.block D (Array.getElem?_eq_some_iff.1 HK.out).1).trans HK.out
  have HK3 := Aside0.mk hk3
  clear hb3 hp3 hok3 hN3 hF3 hk3
  refine hK.out _ _ ⟨d5, d6, d3⟩ (fun hHeld => ?_)
  clear hK K
  refine norm_ (a' := ?_) ?_ ?_
  rotate_left
  ·show Act.put _ (some 34) _ = _
   exact zr
  refine one_ (i := 4) (N := some 35) #[true, true, true, true, true, false, false] rfl rfl (by kernel_rfl) (by decide) (fun K hK => ?_)
  refine value_ (w1 := w3.alloc (.cells #[.slice A3 m c3', .bool false] 38)) (v := .slice (some ⟨w3.heap.size, 0, none⟩) 1 1) (by rfl) rfl ?_ ?_
  ·go_simp
  refine hK.out _ _ ⟨zc ⟨below_alloc (Below.refl _ _) _⟩ d5, zc ⟨below_alloc (Below.refl _ _) _⟩ d6, zc ⟨below_alloc (Below.refl _ _) _⟩ d3⟩ (fun hHeld => ?_)
  clear hK K
  refine norm_ (a' := ?_) ?_ ?_
  rotate_left
  ·show Act.put _ (some 35) _ = _
   exact zr
  refine one_ (i := 5) (N := some 36) #[true, true, true, true, true, true, false] rfl rfl (by kernel_rfl) (by decide) (fun K hK => ?_)
  refine Kd.N_append_step k38 (w0 := w3) B (by rfl) (.tmp 31) (.tmp 35) 22 38 (.agg #[.slice none 0 0, .bool false]) 32 rfl Tryd.underlying22 Tryd.lineInfo rfl (by decide) (by omega) vo out ⟨fillL now m, false⟩ [.slice A3 m c3', .bool false] (fun k => B ≤ k) _ rfl rfl HP3.out HO3.out (fun k hk => by omega) HN3.out (Below.refl _ _) (by omega) (by omega) ?_
  intro v1 w5 hN5 hb5 hg5 hat5
  have hvb := Kd.N_typed HN3.out
  have hk5 := (hg5.block D (Array.getElem?_eq_some_iff.1 HK3.out).1 (fun e => by obtain ⟨c, hc⟩ := hvb D e.symm; rw [HK3.out] at hc; cases hc)).trans HK3.out
  obtain ⟨hkk5, hbw5, hko5, _⟩ := HI.out.flush hBw HB3.out hg5 hN5
  have e5 := (blk_cell (hkk5 _ _ HI.out.b5 (by omega)) 0).trans rfl
  have e6 := (blk_cell (hkk5 _ _ HI.out.b6 (by omega)) 0).trans rfl
  have e3 := (blk_cell (hkk5 _ _ HI.out.b3 (by omega)) 0).trans rfl
  refine hK.out _ _ ⟨e5, e6, e3⟩ (fun hHeld => ?_)
  clear hK K
  refine norm_ (a' := ?_) ?_ ?_
  rotate_left
  ·show Act.put _ (some 36) _ = _
   exact zr
  refine pure_ (i := 6) (N := some 4) (v := ?_) (a' := ?_) #[true, true, true, true, true, true, true] rfl rfl (by kernel_rfl) (fun _ _ _ h => h) (Or.inl ⟨by rfl, ?_⟩) ?_ ?_
  rotate_left
  ·intro w'
   go_simp
   with_reducible rfl
  rotate_left
  ·exact zr
  refine done_ (by kernel_rfl) ?_
  have HN5 := Aside0.mk hN5
  have HB5 := Aside0.mk (HI.out.below.trans hbw5)
  have HK5 := Aside0.mk hk5
  clear hN5 hb5 hg5 hat5 hk5 hvb hkk5 hbw5 hko5 e5 e6 e3 hHeld c3 c5 c6 d3 d5 d6
  refine ends_normal ?_
  gi_wp2
  refine ⟨by simp, .inl ⟨_, _, rfl, run_takeDeferred HK5.out, ?_⟩⟩
  have hg := grownBy_putObj' w5 D (.deferred none)
  refine ⟨v1, by simp [results, Tryd.results52, go_sem], v1, rfl, ?_, HB5.out.grown hg HB5.out.size (fun k e => by cases e; omega)⟩
  rw [HRR.out]
  exact Kd.N_lower (Kd.N_mono (Kd.N_grown HN5.out hg (fun k hk e => by cases e; omega)) (fun k hk => by omega)) (by omega)
end Go.Proofs.YtckkdaehmccjlaaDoor.P
