/- Texts of this session put together by a program, part 3: Px59, Px60, PMay, Px42, Px43, Px24, Px44, PRow, Px45, PJoins, PTurns, PAlive8, PureFlowTurns, FlowTurnsRow. -/
import Derived.Test.YtckkdaehmccjlaaDoorFTm2
import Derived.KernelRfl
import Derived.Test.YtckkdaehmccjlaaDoorRows
import Derived.Test.YtckkdaehmccjlaaDoorCards
import Derived.Test.YtckkdaehmccjlaaDoorTie
import Derived.WalkKit
import Derived.ProofKit
import Derived.ChangeOld
import Derived.Below
import Derived.PinnedBridge
import Derived.Lay
import Derived.LaidOnce
import Derived.Lib.LaidU8
import Derived.SevenTiedAt
namespace Go.Proofs.YtckkdaehmccjlaaDoor.P
open Go.RowKit Go.Proofs.YtckkdaehmccjlaaDoorW.PrintWords Go.Proofs.YtckkdaehmccjlaaDoorW.PrintLast Go.Proofs.YtckkdaehmccjlaaDoorW.PrintMore
attribute [local go_sem] max2_int min2_int max_two min_two max_three min_three max_four min_four   -- for this text's walks alone
set_option linter.unusedVariables false
set_option linter.unusedSimpArgs false
def backseatref06_Fits.l0 : Nat → Int → List (S60) → Int → Int → List (S60) → Bool → Option (Bool)
 | 0, _, _, _, _, _, _ => none
 | k + 1, x1, x8, x9, x10, x237000, x237001 => if x10 < x9 then (if 0 ≤ x10 then (if x10 < (x8.length : Int) then ((backseatref04_Right.f k ((rd_T60 x8 x10).f0) ((rd_T60 x8 x10).f1) ((rd_T60 x8 x10).f2.f0) ((rd_T60 x8 x10).f2.f1) ((rd_T60 x8 x10).f2.f2)).bind fun t239 => (if t239 = true then ((backseatref06_half.f x237000 x10).bind fun t240 => (if t240 = true then (some false) else (backseatref06_Fits.l0 k x1 x8 x9 (wrap64 (x10 + 1)) x237000 x237001))) else (some false))) else (none)) else (none)) else (some ((x237000.length : Int) == x1))
def backseatref06_Fits.f (k : Nat) (l0_0 : List (S60)) (a0_1 : Bool) (a1 : Int) : Option (Bool) := backseatref06_Fits.l0 k a1 l0_0 (l0_0.length : Int) 0 l0_0 a0_1
set_option maxHeartbeats 8000000 in
set_option maxRecDepth 100000 in
theorem backseatref06_Fits.calls (k : Nat) (A0_0 : Option Addr) (c0_0 : Nat) (l0_0 : List (S60)) (a0_1 : Bool) (a1 : Int) (r : Bool) (w : World) (hr0_0 : Kd.C k60 w A0_0 l0_0.length l0_0) (hc0_0 : l0_0.length ≤ c0_0) (h : backseatref06_Fits.f k l0_0 a0_1 a1 = some r) :
  Calls Tryd.prog 27 #[.agg #[.slice A0_0 l0_0.length c0_0, .bool a0_1], .int .i64 a1] w fun e w' => e = .returned (.bool r) ∧ Below w.heap.size w w' := by
 have hu38 := Tryd.underlying38
 have hu60 := Tryd.underlying60
 have HR0_0 := Aside0.mk hr0_0
 have HC0_0 := Aside0.mk hc0_0
 clear hr0_0 hc0_0
 have HB := Aside0.mk (Below.refl w.heap.size w)
 have H : (backseatref06_Fits.l0 k a1 l0_0 (l0_0.length : Int) 0 l0_0 a0_1) = some r := h
 clear h
 have H' := Aside0.mk H
 clear H
 go_enter Tryd.func27, Tryd.ntmps27
 go_wp2_with (first | ((with_reducible refine gate_dst (N := 2) rfl ?_); refine box_event ?hg (N := 2) ?hd (cs := #[.slice A0_0 l0_0.length c0_0, .bool a0_1]) (t := 38) ?hr ?_; (case hd => rfl); (case hg => rfl); (case hr => exact zo); intro gb236 hg w3 hbox hb; have BK236 := Aside0.mk (hbox); have GW236 := Aside0.mk ((zg hg : w.heap.size ≤ gb236)); have GE236 := Aside0.mk ((zg hg : w.heap.size ≤ gb236)); replace HB := (zs HB hb); clear hb hbox hg; obtain ⟨hcz4_0, hcz4_1, hfz4_0, hfz4_1⟩ := zq2 (w := w3) BK236))
 go_loopg [10] k (fun kq v10 w' => ∃ (x10_1 : Int), v10 = .int .i64 x10_1 ∧ Aside0 (backseatref06_Fits.l0 kq a1 l0_0 (l0_0.length : Int) x10_1 l0_0 a0_1 = some r) ∧ Aside0 (kq ≤ k) ∧ Aside0 (w'.heap[gb236]? = some (.cells #[(.slice A0_0 l0_0.length c0_0), .bool a0_1] 38 (0, 0))) ∧ Aside0 (Below w.heap.size w w'))
 case atStart => exact ⟨(0), zf, H', ⟨Nat.le_refl _⟩, ⟨by exact BK236.out⟩, ⟨zb⟩⟩
 case round =>
  clear H'
  try clear hcz4_0
  try clear hcz4_1
  try clear hfz4_0
  try clear hfz4_1
  obtain ⟨x10_1, rfl, HA, HK1, BK236, HB⟩ := hrel
  cases gk with
  | zero => exact absurd HA.out (by simp [backseatref06_Fits.l0])
  | succ k1 =>
   have H := HA.out
   clear HA
   simp only [backseatref06_Fits.l0] at H
   by_cases c5 : x10_1 < (l0_0.length : Int)
   ·rw [if_pos c5] at H
    have c5b0 : decide (x10_1 < (l0_0.length : Int)) = true := decide_eq_true c5
    clear c5
    by_cases c6 : 0 ≤ x10_1
    ·rw [if_pos c6] at H
     have c6b0 : decide (0 ≤ x10_1) = true := decide_eq_true c6
     clear c6
     by_cases c7 : x10_1 < (l0_0.length : Int)
     ·rw [if_pos c7] at H
      have c7b0 : decide (x10_1 < (l0_0.length : Int)) = true := decide_eq_true c7
      clear c7
      replace H := Option.bind_eq_some_iff.mp H
      obtain ⟨t239, A80, H⟩ := H
      replace H : (if t239 = true then ((backseatref06_half.f l0_0 x10_1).bind fun t240 => (if t240 = true then (some false) else (backseatref06_Fits.l0 k1 a1 l0_0 (l0_0.length : Int) (wrap64 (x10_1 + 1)) l0_0 a0_1))) else (some false)) = some r := H
      have A8 := Aside0.mk A80
      clear A80
      by_cases c9 : t239 = true
      ·subst c9
       have H1 : ((backseatref06_half.f l0_0 x10_1).bind fun t240 => (if t240 = true then (some false) else (backseatref06_Fits.l0 k1 a1 l0_0 (l0_0.length : Int) (wrap64 (x10_1 + 1)) l0_0 a0_1))) = some r := by rw [if_pos rfl] at H; exact H
       clear H
       have H := H1
       clear H1
       replace H := Option.bind_eq_some_iff.mp H
       obtain ⟨t240, A100, H⟩ := H
       replace H : (if t240 = true then (some false) else (backseatref06_Fits.l0 k1 a1 l0_0 (l0_0.length : Int) (wrap64 (x10_1 + 1)) l0_0 a0_1)) = some r := H
       have A10 := Aside0.mk A100
       clear A100
       by_cases c11 : t240 = true
       ·subst c11
        have H1 : (some false) = some r := by rw [if_pos rfl] at H; exact H
        clear H
        have H := H1
        clear H1
        obtain rfl := Option.some.inj H
        have p237 : 0 ≤ (x10_1 : Int) := of_decide_eq_true za
        have q237 : x10_1 < (l0_0.length : Int) := of_decide_eq_true za
        obtain ⟨ad237, e237, hx237_0, hx237_1, hx237_2, hx237_3, hx237_4⟩ := at_T60 HR0_0.out x10_1 p237 q237
        cases e237
        replace hx237_0 := zc HB hx237_0
        replace hx237_1 := zc HB hx237_1
        replace hx237_2 := zc HB hx237_2
        replace hx237_3 := zc HB hx237_3
        replace hx237_4 := zc HB hx237_4
        replace p237 := eq_true p237
        replace q237 := eq_true q237
        go_wp2_with (first | ((with_reducible refine gate_dst (N := 6) rfl ?_); refine box_event ?hg (N := 6) ?hd (cs := #[.string (⟨#[]⟩ : ByteArray), .int .i64 0, .int .i64 0, .int .i64 0, .int .i64 0]) (t := 60) ?hr ?_; (case hd => rfl); (case hg => rfl); (case hr => exact zo); intro gb238 hg w12 hbox hb; have n0_ := (zk BK236 hb); have n1_ := (zs HB hb); have n2_ := Aside0.mk (hbox); have n3_ := Aside0.mk ((zg hg : w.heap.size ≤ gb238)); have n4_ := Aside0.mk ((zg hg : w.heap.size ≤ gb238)); have n5_ := Aside0.mk ((by rw [hg]; exact Nat.ne_of_lt (blk_lt (g := gb236) (o := .cells #[.slice (some ad237) l0_0.length c0_0, .bool a0_1] 38 (0, 0)) (by exact BK236.out)) : gb236 ≠ gb238)); have n6_ := Aside0.mk ((by rw [hg]; exact Nat.ne_of_gt (blk_lt (g := gb236) (o := .cells #[.slice (some ad237) l0_0.length c0_0, .bool a0_1] 38 (0, 0)) (by exact BK236.out)) : gb238 ≠ gb236)); clear BK236; clear HB; have BK236 := n0_; have HB := n1_; have BK238 := n2_; have GW238 := n3_; have GE238 := n4_; have NB236_238 := n5_; have NB238_236 := n6_; clear n0_ n1_ n2_ n3_ n4_ n5_ n6_; clear hb hbox hg; have hnb13 := NB238_236.out; have hnc13 := NB236_238.out; obtain ⟨hcz14_0, hcz14_1, hcz14_2, hcz14_3, hcz14_4, hfz14_0, hfz14_1, hfz14_2, hfz14_3, hfz14_4⟩ := zq5 (w := w12) BK238) | ((with_reducible refine gate_callee (f := 53) rfl ?_); refine goesL_ (some 16) rfl rfl Tryd.func53 (by kernel_rfl) rfl #[.agg #[.string ((rd_T60 l0_0 x10_1).f0), .int .i64 ((rd_T60 l0_0 x10_1).f1), .int .i64 ((rd_T60 l0_0 x10_1).f2.f0), .int .i64 ((rd_T60 l0_0 x10_1).f2.f1), .int .i64 ((rd_T60 l0_0 x10_1).f2.f2)]] rfl zl ?_; (with_reducible refine (backseatref04_Right.calls k1 ((rd_T60 l0_0 x10_1).f0) ((rd_T60 l0_0 x10_1).f1) ((rd_T60 l0_0 x10_1).f2.f0) ((rd_T60 l0_0 x10_1).f2.f1) ((rd_T60 l0_0 x10_1).f2.f2) true _ A8.out).mono ?_); rintro e w15 ⟨rfl, hb⟩; refine ⟨_, rfl, ?_⟩; replace BK236 := Aside0.mk (blk_below (g := gb236) (o := .cells #[.slice (some ad237) l0_0.length c0_0, .bool a0_1] 38 (0, 0)) (by refine blk_far ?_ NB236_238.out _; refine blk_far ?_ NB236_238.out _; refine blk_far ?_ NB236_238.out _; refine blk_far ?_ NB236_238.out _; refine blk_far ?_ NB236_238.out _; exact BK236.out) hb); replace BK238 := Aside0.mk (blk_below (g := gb238) (o := .cells #[.string ((rd_T60 l0_0 x10_1).f0), .int .i64 ((rd_T60 l0_0 x10_1).f1), .int .i64 ((rd_T60 l0_0 x10_1).f2.f0), .int .i64 ((rd_T60 l0_0 x10_1).f2.f1), .int .i64 ((rd_T60 l0_0 x10_1).f2.f2)] 60 (0, 0)) (by refine blk_put (cs := #[.string ((rd_T60 l0_0 x10_1).f0), .int .i64 ((rd_T60 l0_0 x10_1).f1), .int .i64 ((rd_T60 l0_0 x10_1).f2.f0), .int .i64 ((rd_T60 l0_0 x10_1).f2.f1), .int .i64 0]) ?_ 4 _ rfl; refine blk_put (cs := #[.string ((rd_T60 l0_0 x10_1).f0), .int .i64 ((rd_T60 l0_0 x10_1).f1), .int .i64 ((rd_T60 l0_0 x10_1).f2.f0), .int .i64 0, .int .i64 0]) ?_ 3 _ rfl; refine blk_put (cs := #[.string ((rd_T60 l0_0 x10_1).f0), .int .i64 ((rd_T60 l0_0 x10_1).f1), .int .i64 0, .int .i64 0, .int .i64 0]) ?_ 2 _ rfl; refine blk_put (cs := #[.string ((rd_T60 l0_0 x10_1).f0), .int .i64 0, .int .i64 0, .int .i64 0, .int .i64 0]) ?_ 1 _ rfl; refine blk_put (cs := #[.string (⟨#[]⟩ : ByteArray), .int .i64 0, .int .i64 0, .int .i64 0, .int .i64 0]) ?_ 0 _ rfl; exact BK238.out) hb); replace HB := (zs HB hb); (try clear hb); obtain ⟨hcz16_0, hcz16_1, hfz16_0, hfz16_1⟩ := zq2 (w := w15) BK236) | (go_at_call 54; (with_reducible refine (backseatref06_half.calls _ _ l0_0 x10_1 true _ ?side1 ?side2 A10.out).mono ?_); (case side1 => repeat (first | exact (Kd.C_below HR0_0.out HB.out) | (with_reducible refine Kd.C_alloc ?_ _) | (with_reducible refine Kd.C_drewN ?_ _) | (with_reducible refine Kd.C_drew ?_))); (case side2 => exact HC0_0.out); rintro e w' ⟨rfl, ⟨nd, rfl⟩⟩))
        go_ret
        exact ⟨ze, zb⟩
       ·replace c11 := Bool.eq_false_iff.mpr c11
        subst c11
        have H1 : (backseatref06_Fits.l0 k1 a1 l0_0 (l0_0.length : Int) (wrap64 (x10_1 + 1)) l0_0 a0_1) = some r := by rw [if_neg (show ¬ (false = true) by decide)] at H; exact H
        clear H
        have H := H1
        clear H1
        have H' := Aside0.mk H
        clear H
        have p237 : 0 ≤ (x10_1 : Int) := of_decide_eq_true za
        have q237 : x10_1 < (l0_0.length : Int) := of_decide_eq_true za
        obtain ⟨ad237, e237, hx237_0, hx237_1, hx237_2, hx237_3, hx237_4⟩ := at_T60 HR0_0.out x10_1 p237 q237
        cases e237
        replace hx237_0 := zc HB hx237_0
        replace hx237_1 := zc HB hx237_1
        replace hx237_2 := zc HB hx237_2
        replace hx237_3 := zc HB hx237_3
        replace hx237_4 := zc HB hx237_4
        replace p237 := eq_true p237
        replace q237 := eq_true q237
        go_wp2_with (first | ((with_reducible refine gate_dst (N := 6) rfl ?_); refine box_event ?hg (N := 6) ?hd (cs := #[.string (⟨#[]⟩ : ByteArray), .int .i64 0, .int .i64 0, .int .i64 0, .int .i64 0]) (t := 60) ?hr ?_; (case hd => rfl); (case hg => rfl); (case hr => exact zo); intro gb238 hg w17 hbox hb; have n0_ := (zk BK236 hb); have n1_ := (zs HB hb); have n2_ := Aside0.mk (hbox); have n3_ := Aside0.mk ((zg hg : w.heap.size ≤ gb238)); have n4_ := Aside0.mk ((zg hg : w.heap.size ≤ gb238)); have n5_ := Aside0.mk ((by rw [hg]; exact Nat.ne_of_lt (blk_lt (g := gb236) (o := .cells #[.slice (some ad237) l0_0.length c0_0, .bool a0_1] 38 (0, 0)) (by exact BK236.out)) : gb236 ≠ gb238)); have n6_ := Aside0.mk ((by rw [hg]; exact Nat.ne_of_gt (blk_lt (g := gb236) (o := .cells #[.slice (some ad237) l0_0.length c0_0, .bool a0_1] 38 (0, 0)) (by exact BK236.out)) : gb238 ≠ gb236)); clear BK236; clear HB; have BK236 := n0_; have HB := n1_; have BK238 := n2_; have GW238 := n3_; have GE238 := n4_; have NB236_238 := n5_; have NB238_236 := n6_; clear n0_ n1_ n2_ n3_ n4_ n5_ n6_; clear hb hbox hg; have hnb18 := NB238_236.out; have hnc18 := NB236_238.out; obtain ⟨hcz19_0, hcz19_1, hcz19_2, hcz19_3, hcz19_4, hfz19_0, hfz19_1, hfz19_2, hfz19_3, hfz19_4⟩ := zq5 (w := w17) BK238) | ((with_reducible refine gate_callee (f := 53) rfl ?_); refine goesL_ (some 16) rfl rfl Tryd.func53 (by kernel_rfl) rfl #[.agg #[.string ((rd_T60 l0_0 x10_1).f0), .int .i64 ((rd_T60 l0_0 x10_1).f1), .int .i64 ((rd_T60 l0_0 x10_1).f2.f0), .int .i64 ((rd_T60 l0_0 x10_1).f2.f1), .int .i64 ((rd_T60 l0_0 x10_1).f2.f2)]] rfl zl ?_; (with_reducible refine (backseatref04_Right.calls k1 ((rd_T60 l0_0 x10_1).f0) ((rd_T60 l0_0 x10_1).f1) ((rd_T60 l0_0 x10_1).f2.f0) ((rd_T60 l0_0 x10_1).f2.f1) ((rd_T60 l0_0 x10_1).f2.f2) true _ A8.out).mono ?_); rintro e w20 ⟨rfl, hb⟩; refine ⟨_, rfl, ?_⟩; replace BK236 := Aside0.mk (blk_below (g := gb236) (o := .cells #[.slice (some ad237) l0_0.length c0_0, .bool a0_1] 38 (0, 0)) (by refine blk_far ?_ NB236_238.out _; refine blk_far ?_ NB236_238.out _; refine blk_far ?_ NB236_238.out _; refine blk_far ?_ NB236_238.out _; refine blk_far ?_ NB236_238.out _; exact BK236.out) hb); replace BK238 := Aside0.mk (blk_below (g := gb238) (o := .cells #[.string ((rd_T60 l0_0 x10_1).f0), .int .i64 ((rd_T60 l0_0 x10_1).f1), .int .i64 ((rd_T60 l0_0 x10_1).f2.f0), .int .i64 ((rd_T60 l0_0 x10_1).f2.f1), .int .i64 ((rd_T60 l0_0 x10_1).f2.f2)] 60 (0, 0)) (by refine blk_put (cs := #[.string ((rd_T60 l0_0 x10_1).f0), .int .i64 ((rd_T60 l0_0 x10_1).f1), .int .i64 ((rd_T60 l0_0 x10_1).f2.f0), .int .i64 ((rd_T60 l0_0 x10_1).f2.f1), .int .i64 0]) ?_ 4 _ rfl; refine blk_put (cs := #[.string ((rd_T60 l0_0 x10_1).f0), .int .i64 ((rd_T60 l0_0 x10_1).f1), .int .i64 ((rd_T60 l0_0 x10_1).f2.f0), .int .i64 0, .int .i64 0]) ?_ 3 _ rfl; refine blk_put (cs := #[.string ((rd_T60 l0_0 x10_1).f0), .int .i64 ((rd_T60 l0_0 x10_1).f1), .int .i64 0, .int .i64 0, .int .i64 0]) ?_ 2 _ rfl; refine blk_put (cs := #[.string ((rd_T60 l0_0 x10_1).f0), .int .i64 0, .int .i64 0, .int .i64 0, .int .i64 0]) ?_ 1 _ rfl; refine blk_put (cs := #[.string (⟨#[]⟩ : ByteArray), .int .i64 0, .int .i64 0, .int .i64 0, .int .i64 0]) ?_ 0 _ rfl; exact BK238.out) hb); replace HB := (zs HB hb); (try clear hb); obtain ⟨hcz21_0, hcz21_1, hfz21_0, hfz21_1⟩ := zq2 (w := w20) BK236) | (go_at_call 54; (with_reducible refine (backseatref06_half.calls _ _ l0_0 x10_1 false _ ?side1 ?side2 A10.out).mono ?_); (case side1 => repeat (first | exact (Kd.C_below HR0_0.out HB.out) | (with_reducible refine Kd.C_alloc ?_ _) | (with_reducible refine Kd.C_drewN ?_ _) | (with_reducible refine Kd.C_drew ?_))); (case side2 => exact HC0_0.out); rintro e w' ⟨rfl, ⟨nd, rfl⟩⟩))
        go_roundg k1
        case measure => have := HK1.out; omega
        case rel => exact ⟨(wrap64 (x10_1 + 1)), zf, H', ⟨by have := HK1.out; omega⟩, ⟨by exact BK236.out⟩, ⟨zb⟩⟩
      ·replace c9 := Bool.eq_false_iff.mpr c9
       subst c9
       have H1 : (some false) = some r := by rw [if_neg (show ¬ (false = true) by decide)] at H; exact H
       clear H
       have H := H1
       clear H1
       obtain rfl := Option.some.inj H
       have p237 : 0 ≤ (x10_1 : Int) := of_decide_eq_true za
       have q237 : x10_1 < (l0_0.length : Int) := of_decide_eq_true za
       obtain ⟨ad237, e237, hx237_0, hx237_1, hx237_2, hx237_3, hx237_4⟩ := at_T60 HR0_0.out x10_1 p237 q237
       cases e237
       replace hx237_0 := zc HB hx237_0
       replace hx237_1 := zc HB hx237_1
       replace hx237_2 := zc HB hx237_2
       replace hx237_3 := zc HB hx237_3
       replace hx237_4 := zc HB hx237_4
       replace p237 := eq_true p237
       replace q237 := eq_true q237
       go_wp2_with (first | ((with_reducible refine gate_dst (N := 6) rfl ?_); refine box_event ?hg (N := 6) ?hd (cs := #[.string (⟨#[]⟩ : ByteArray), .int .i64 0, .int .i64 0, .int .i64 0, .int .i64 0]) (t := 60) ?hr ?_; (case hd => rfl); (case hg => rfl); (case hr => exact zo); intro gb238 hg w22 hbox hb; have n0_ := (zk BK236 hb); have n1_ := (zs HB hb); have n2_ := Aside0.mk (hbox); have n3_ := Aside0.mk ((zg hg : w.heap.size ≤ gb238)); have n4_ := Aside0.mk ((zg hg : w.heap.size ≤ gb238)); have n5_ := Aside0.mk ((by rw [hg]; exact Nat.ne_of_lt (blk_lt (g := gb236) (o := .cells #[.slice (some ad237) l0_0.length c0_0, .bool a0_1] 38 (0, 0)) (by exact BK236.out)) : gb236 ≠ gb238)); have n6_ := Aside0.mk ((by rw [hg]; exact Nat.ne_of_gt (blk_lt (g := gb236) (o := .cells #[.slice (some ad237) l0_0.length c0_0, .bool a0_1] 38 (0, 0)) (by exact BK236.out)) : gb238 ≠ gb236)); clear BK236; clear HB; have BK236 := n0_; have HB := n1_; have BK238 := n2_; have GW238 := n3_; have GE238 := n4_; have NB236_238 := n5_; have NB238_236 := n6_; clear n0_ n1_ n2_ n3_ n4_ n5_ n6_; clear hb hbox hg; have hnb23 := NB238_236.out; have hnc23 := NB236_238.out; obtain ⟨hcz24_0, hcz24_1, hcz24_2, hcz24_3, hcz24_4, hfz24_0, hfz24_1, hfz24_2, hfz24_3, hfz24_4⟩ := zq5 (w := w22) BK238) | ((with_reducible refine gate_callee (f := 53) rfl ?_); refine goesL_ (some 16) rfl rfl Tryd.func53 (by kernel_rfl) rfl #[.agg #[.string ((rd_T60 l0_0 x10_1).f0), .int .i64 ((rd_T60 l0_0 x10_1).f1), .int .i64 ((rd_T60 l0_0 x10_1).f2.f0), .int .i64 ((rd_T60 l0_0 x10_1).f2.f1), .int .i64 ((rd_T60 l0_0 x10_1).f2.f2)]] rfl zl ?_; (with_reducible refine (backseatref04_Right.calls k1 ((rd_T60 l0_0 x10_1).f0) ((rd_T60 l0_0 x10_1).f1) ((rd_T60 l0_0 x10_1).f2.f0) ((rd_T60 l0_0 x10_1).f2.f1) ((rd_T60 l0_0 x10_1).f2.f2) false _ A8.out).mono ?_); rintro e w25 ⟨rfl, hb⟩; refine ⟨_, rfl, ?_⟩; replace BK236 := Aside0.mk (blk_below (g := gb236) (o := .cells #[.slice (some ad237) l0_0.length c0_0, .bool a0_1] 38 (0, 0)) (by refine blk_far ?_ NB236_238.out _; refine blk_far ?_ NB236_238.out _; refine blk_far ?_ NB236_238.out _; refine blk_far ?_ NB236_238.out _; refine blk_far ?_ NB236_238.out _; exact BK236.out) hb); replace BK238 := Aside0.mk (blk_below (g := gb238) (o := .cells #[.string ((rd_T60 l0_0 x10_1).f0), .int .i64 ((rd_T60 l0_0 x10_1).f1), .int .i64 ((rd_T60 l0_0 x10_1).f2.f0), .int .i64 ((rd_T60 l0_0 x10_1).f2.f1), .int .i64 ((rd_T60 l0_0 x10_1).f2.f2)] 60 (0, 0)) (by refine blk_put (cs := #[.string ((rd_T60 l0_0 x10_1).f0), .int .i64 ((rd_T60 l0_0 x10_1).f1), .int .i64 ((rd_T60 l0_0 x10_1).f2.f0), .int .i64 ((rd_T60 l0_0 x10_1).f2.f1), .int .i64 0]) ?_ 4 _ rfl; refine blk_put (cs := #[.string ((rd_T60 l0_0 x10_1).f0), .int .i64 ((rd_T60 l0_0 x10_1).f1), .int .i64 ((rd_T60 l0_0 x10_1).f2.f0), .int .i64 0, .int .i64 0]) ?_ 3 _ rfl; refine blk_put (cs := #[.string ((rd_T60 l0_0 x10_1).f0), .int .i64 ((rd_T60 l0_0 x10_1).f1), .int .i64 0, .int .i64 0, .int .i64 0]) ?_ 2 _ rfl; refine blk_put (cs := #[.string ((rd_T60 l0_0 x10_1).f0), .int .i64 0, .int .i64 0, .int .i64 0, .int .i64 0]) ?_ 1 _ rfl; refine blk_put (cs := #[.string (⟨#[]⟩ : ByteArray), .int .i64 0, .int .i64 0, .int .i64 0, .int .i64 0]) ?_ 0 _ rfl; exact BK238.out) hb); replace HB := (zs HB hb); (try clear hb)))
       go_ret
       exact ⟨ze, zb⟩
     ·rw [if_neg c7] at H
      exact absurd H (by simp)
    ·rw [if_neg c6] at H
     exact absurd H (by simp)
   ·rw [if_neg c5] at H
    have c5b0 : decide (x10_1 < (l0_0.length : Int)) = false := decide_eq_false c5
    clear c5
    obtain rfl := Option.some.inj H
    obtain ⟨hcz26_0, hcz26_1, hfz26_0, hfz26_1⟩ := zq2 (w := wr) BK236
    go_wp2
    go_ret
    exact ⟨ze, zb⟩
def backseatref08_May.l0 : Nat → List (S38) → List (S38) → Int → Int → Option (Bool)
 | 0, _, _, _, _ => none
 | k + 1, x0, x5, x6, x7 => if x7 < x6 then (if 0 ≤ x7 then (if x7 < (x5.length : Int) then (if (((rd_T38 x5 x7).f0).length : Int) < 1 then (some false) else (if (((rd_T38 x5 x7).f0).length : Int) > 80 then (some false) else ((backseatref06_Fits.f k ((rd_T38 x5 x7).f0) ((rd_T38 x5 x7).f1) (((rd_T38 x5 x7).f0).length : Int)).bind fun t243 => (if t243 = true then (backseatref08_May.l0 k x0 x5 x6 (wrap64 (x7 + 1))) else (some false))))) else (none)) else (none)) else (some (decide ((x0.length : Int) ≤ 200)))
def backseatref08_May.f (k : Nat) (l0 : List (S38)) : Option (Bool) := backseatref08_May.l0 k l0 l0 (l0.length : Int) 0
set_option maxHeartbeats 8000000 in
set_option maxRecDepth 100000 in
theorem backseatref08_May.calls (k : Nat) (A0 : Option Addr) (c0 : Nat) (l0 : List (S38)) (r : Bool) (w : World) (hr0 : Kd.C k38 w A0 l0.length l0) (hc0 : l0.length ≤ c0) (h : backseatref08_May.f k l0 = some r) :
  Calls Tryd.prog 11 #[.slice A0 l0.length c0] w fun e w' => e = .returned (.bool r) ∧ Below w.heap.size w w' := by
 have hu38 := Tryd.underlying38
 have HR0 := Aside0.mk hr0
 have HC0 := Aside0.mk hc0
 clear hr0 hc0
 have HB := Aside0.mk (Below.refl w.heap.size w)
 have H : (backseatref08_May.l0 k l0 l0 (l0.length : Int) 0) = some r := h
 clear h
 have H' := Aside0.mk H
 clear H
 go_enter Tryd.func11, Tryd.ntmps11
 go_wp2
 go_loopg [7] k (fun kq v7 w' => ∃ (x7_1 : Int), v7 = .int .i64 x7_1 ∧ Aside0 (backseatref08_May.l0 kq l0 l0 (l0.length : Int) x7_1 = some r) ∧ Aside0 (kq ≤ k) ∧ Aside0 (Below w.heap.size w w'))
 case atStart => exact ⟨(0), zf, H', ⟨Nat.le_refl _⟩, ⟨zb⟩⟩
 case round =>
  clear H'
  obtain ⟨x7_1, rfl, HA, HK1, HB⟩ := hrel
  cases gk with
  | zero => exact absurd HA.out (by simp [backseatref08_May.l0])
  | succ k1 =>
   have H := HA.out
   clear HA
   simp only [backseatref08_May.l0] at H
   by_cases c2 : x7_1 < (l0.length : Int)
   ·rw [if_pos c2] at H
    have c2b0 : decide (x7_1 < (l0.length : Int)) = true := decide_eq_true c2
    clear c2
    by_cases c3 : 0 ≤ x7_1
    ·rw [if_pos c3] at H
     have c3b0 : decide (0 ≤ x7_1) = true := decide_eq_true c3
     clear c3
     by_cases c4 : x7_1 < (l0.length : Int)
     ·rw [if_pos c4] at H
      have c4b0 : decide (x7_1 < (l0.length : Int)) = true := decide_eq_true c4
      clear c4
      by_cases c5 : (((rd_T38 l0 x7_1).f0).length : Int) < 1
      ·rw [if_pos c5] at H
       have c5b0 : decide ((((rd_T38 l0 x7_1).f0).length : Int) < 1) = true := decide_eq_true c5
       have c5b1 : decide (((rd_T38 l0 x7_1).f0).length < 1) = true := decide_eq_true (by omega)
       clear c5
       obtain rfl := Option.some.inj H
       have p241 : 0 ≤ (x7_1 : Int) := of_decide_eq_true za
       have q241 : x7_1 < (l0.length : Int) := of_decide_eq_true za
       obtain ⟨ad241, A241_0, c241_0, e241, hx241_0, hx241_1, hl241_0, hi241_0⟩ := at_T38 HR0.out x7_1 p241 q241
       cases e241
       replace hx241_0 := zc HB hx241_0
       replace hx241_1 := zc HB hx241_1
       have HR241_0 := Aside0.mk hi241_0
       have HC241_0 := Aside0.mk hl241_0
       clear hi241_0 hl241_0
       replace p241 := eq_true p241
       replace q241 := eq_true q241
       go_wp2_with (first | ((with_reducible refine gate_dst (N := 4) rfl ?_); (try (refine gate_guard (by rfl) ?_; dsimp only)); refine box_event ?hg (N := 4) ?hd (cs := #[.slice none 0 0, .bool false]) (t := 38) ?hr ?_; (case hd => rfl); (case hg => rfl); (case hr => exact zo); intro gb242 hg w6 hbox hb; have BK242 := Aside0.mk (hbox); have GW242 := Aside0.mk ((zg hg : w.heap.size ≤ gb242)); have GE242 := Aside0.mk ((zg hg : w.heap.size ≤ gb242)); replace HB := (zs HB hb); clear hb hbox hg; obtain ⟨hcz7_0, hcz7_1, hfz7_0, hfz7_1⟩ := zq2 (w := w6) BK242))
       go_ret
       exact ⟨ze, zb⟩
      ·rw [if_neg c5] at H
       have c5b0 : decide ((((rd_T38 l0 x7_1).f0).length : Int) < 1) = false := decide_eq_false c5
       have c5b1 : decide (((rd_T38 l0 x7_1).f0).length < 1) = false := decide_eq_false (by omega)
       clear c5
       by_cases c8 : (((rd_T38 l0 x7_1).f0).length : Int) > 80
       ·rw [if_pos c8] at H
        have c8b0 : decide (80 < (((rd_T38 l0 x7_1).f0).length : Int)) = true := decide_eq_true c8
        have c8b1 : decide (80 < ((rd_T38 l0 x7_1).f0).length) = true := decide_eq_true (by omega)
        clear c8
        obtain rfl := Option.some.inj H
        have p241 : 0 ≤ (x7_1 : Int) := of_decide_eq_true za
        have q241 : x7_1 < (l0.length : Int) := of_decide_eq_true za
        obtain ⟨ad241, A241_0, c241_0, e241, hx241_0, hx241_1, hl241_0, hi241_0⟩ := at_T38 HR0.out x7_1 p241 q241
        cases e241
        replace hx241_0 := zc HB hx241_0
        replace hx241_1 := zc HB hx241_1
        have HR241_0 := Aside0.mk hi241_0
        have HC241_0 := Aside0.mk hl241_0
        clear hi241_0 hl241_0
        replace p241 := eq_true p241
        replace q241 := eq_true q241
        go_wp2_with (first | ((with_reducible refine gate_dst (N := 4) rfl ?_); (try (refine gate_guard (by rfl) ?_; dsimp only)); refine box_event ?hg (N := 4) ?hd (cs := #[.slice none 0 0, .bool false]) (t := 38) ?hr ?_; (case hd => rfl); (case hg => rfl); (case hr => exact zo); intro gb242 hg w9 hbox hb; have BK242 := Aside0.mk (hbox); have GW242 := Aside0.mk ((zg hg : w.heap.size ≤ gb242)); have GE242 := Aside0.mk ((zg hg : w.heap.size ≤ gb242)); replace HB := (zs HB hb); clear hb hbox hg; obtain ⟨hcz10_0, hcz10_1, hfz10_0, hfz10_1⟩ := zq2 (w := w9) BK242))
        go_ret
        exact ⟨ze, zb⟩
       ·rw [if_neg c8] at H
        have c8b0 : decide (80 < (((rd_T38 l0 x7_1).f0).length : Int)) = false := decide_eq_false c8
        have c8b1 : decide (80 < ((rd_T38 l0 x7_1).f0).length) = false := decide_eq_false (by omega)
        clear c8
        replace H := Option.bind_eq_some_iff.mp H
        obtain ⟨t243, A110, H⟩ := H
        replace H : (if t243 = true then (backseatref08_May.l0 k1 l0 l0 (l0.length : Int) (wrap64 (x7_1 + 1))) else (some false)) = some r := H
        have A11 := Aside0.mk A110
        clear A110
        by_cases c12 : t243 = true
        ·subst c12
         have H1 : (backseatref08_May.l0 k1 l0 l0 (l0.length : Int) (wrap64 (x7_1 + 1))) = some r := by rw [if_pos rfl] at H; exact H
         clear H
         have H := H1
         clear H1
         have H' := Aside0.mk H
         clear H
         have p241 : 0 ≤ (x7_1 : Int) := of_decide_eq_true za
         have q241 : x7_1 < (l0.length : Int) := of_decide_eq_true za
         obtain ⟨ad241, A241_0, c241_0, e241, hx241_0, hx241_1, hl241_0, hi241_0⟩ := at_T38 HR0.out x7_1 p241 q241
         cases e241
         replace hx241_0 := zc HB hx241_0
         replace hx241_1 := zc HB hx241_1
         have HR241_0 := Aside0.mk hi241_0
         have HC241_0 := Aside0.mk hl241_0
         clear hi241_0 hl241_0
         replace p241 := eq_true p241
         replace q241 := eq_true q241
         go_wp2_with (first | ((with_reducible refine gate_dst (N := 4) rfl ?_); (try (refine gate_guard (by rfl) ?_; dsimp only)); refine box_event ?hg (N := 4) ?hd (cs := #[.slice none 0 0, .bool false]) (t := 38) ?hr ?_; (case hd => rfl); (case hg => rfl); (case hr => exact zo); intro gb242 hg w13 hbox hb; have BK242 := Aside0.mk (hbox); have GW242 := Aside0.mk ((zg hg : w.heap.size ≤ gb242)); have GE242 := Aside0.mk ((zg hg : w.heap.size ≤ gb242)); replace HB := (zs HB hb); clear hb hbox hg; obtain ⟨hcz14_0, hcz14_1, hfz14_0, hfz14_1⟩ := zq2 (w := w13) BK242) | (go_at_call 27; (with_reducible refine (backseatref06_Fits.calls k1 _ _ ((rd_T38 l0 x7_1).f0) ((rd_T38 l0 x7_1).f1) (((rd_T38 l0 x7_1).f0).length : Int) true _ ?side1 ?side2 A11.out).mono ?_); (case side1 => exact Kd.C_below HR241_0.out zb); (case side2 => exact HC241_0.out); rintro e w15 ⟨rfl, hb⟩; replace BK242 := Aside0.mk (blk_below (g := gb242) (o := .cells #[.slice A241_0 ((rd_T38 l0 x7_1).f0).length c241_0, .bool ((rd_T38 l0 x7_1).f1)] 38 (0, 0)) (by refine blk_put (cs := #[.slice A241_0 ((rd_T38 l0 x7_1).f0).length c241_0, .bool false]) ?_ 1 _ rfl; refine blk_put (cs := #[.slice none 0 0, .bool false]) ?_ 0 _ rfl; exact BK242.out) hb); replace HB := (zs HB hb); (try clear hb)))
         go_roundg k1
         case measure => have := HK1.out; omega
         case rel => exact ⟨(wrap64 (x7_1 + 1)), zf, H', ⟨by have := HK1.out; omega⟩, ⟨zb⟩⟩
        ·replace c12 := Bool.eq_false_iff.mpr c12
         subst c12
         have H1 : (some false) = some r := by rw [if_neg (show ¬ (false = true) by decide)] at H; exact H
         clear H
         have H := H1
         clear H1
         obtain rfl := Option.some.inj H
         have p241 : 0 ≤ (x7_1 : Int) := of_decide_eq_true za
         have q241 : x7_1 < (l0.length : Int) := of_decide_eq_true za
         obtain ⟨ad241, A241_0, c241_0, e241, hx241_0, hx241_1, hl241_0, hi241_0⟩ := at_T38 HR0.out x7_1 p241 q241
         cases e241
         replace hx241_0 := zc HB hx241_0
         replace hx241_1 := zc HB hx241_1
         have HR241_0 := Aside0.mk hi241_0
         have HC241_0 := Aside0.mk hl241_0
         clear hi241_0 hl241_0
         replace p241 := eq_true p241
         replace q241 := eq_true q241
         go_wp2_with (first | ((with_reducible refine gate_dst (N := 4) rfl ?_); (try (refine gate_guard (by rfl) ?_; dsimp only)); refine box_event ?hg (N := 4) ?hd (cs := #[.slice none 0 0, .bool false]) (t := 38) ?hr ?_; (case hd => rfl); (case hg => rfl); (case hr => exact zo); intro gb242 hg w16 hbox hb; have BK242 := Aside0.mk (hbox); have GW242 := Aside0.mk ((zg hg : w.heap.size ≤ gb242)); have GE242 := Aside0.mk ((zg hg : w.heap.size ≤ gb242)); replace HB := (zs HB hb); clear hb hbox hg; obtain ⟨hcz17_0, hcz17_1, hfz17_0, hfz17_1⟩ := zq2 (w := w16) BK242) | (go_at_call 27; (with_reducible refine (backseatref06_Fits.calls k1 _ _ ((rd_T38 l0 x7_1).f0) ((rd_T38 l0 x7_1).f1) (((rd_T38 l0 x7_1).f0).length : Int) false _ ?side1 ?side2 A11.out).mono ?_); (case side1 => exact Kd.C_below HR241_0.out zb); (case side2 => exact HC241_0.out); rintro e w18 ⟨rfl, hb⟩; replace BK242 := Aside0.mk (blk_below (g := gb242) (o := .cells #[.slice A241_0 ((rd_T38 l0 x7_1).f0).length c241_0, .bool ((rd_T38 l0 x7_1).f1)] 38 (0, 0)) (by refine blk_put (cs := #[.slice A241_0 ((rd_T38 l0 x7_1).f0).length c241_0, .bool false]) ?_ 1 _ rfl; refine blk_put (cs := #[.slice none 0 0, .bool false]) ?_ 0 _ rfl; exact BK242.out) hb); replace HB := (zs HB hb); (try clear hb)))
         go_ret
         exact ⟨ze, zb⟩
     ·rw [if_neg c4] at H
      exact absurd H (by simp)
    ·rw [if_neg c3] at H
     exact absurd H (by simp)
   ·rw [if_neg c2] at H
    have c2b0 : decide (x7_1 < (l0.length : Int)) = false := decide_eq_false c2
    clear c2
    obtain rfl := Option.some.inj H
    go_wp2
    go_ret
    exact ⟨ze, zb⟩
end Go.Proofs.YtckkdaehmccjlaaDoor.P
namespace Go.Proofs.YtckkdaehmccjlaaDoor.P
open Go.RowKit Go.Proofs.YtckkdaehmccjlaaDoorW.PrintWords Go.Proofs.YtckkdaehmccjlaaDoorW.PrintLast Go.Proofs.YtckkdaehmccjlaaDoorW.PrintMore Go.Lib
set_option linter.unusedVariables false
set_option linter.unusedSimpArgs false
abbrev CellT := S60
abbrev LineT := S38
theorem w64m (n : Nat) (h : 1 ≤ n) (h' : (n : Int) ≤ 9223372036854775806) : wrap64 ((n : Int) - 1) = ((n - 1 : Nat) : Int) := by
 rw [IntWalk.wrap64_in _ (by omega)]; omega
theorem whole_half (l : List CellT) (i : Nat) (h : i < l.length) (hl : (l.length : Int) ≤ 9223372036854775806) : ∃ b, grid_whole.f l i = some b ∧ backseatref06_half.f l i = some (!b) := by
 unfold grid_whole.f backseatref06_half.f
 have p0 : (0 : Int) ≤ (i : Int) := by omega
 have p1 : (i : Int) < (l.length : Int) := by omega
 rw [w64 i (by omega), if_pos p0, if_pos p1, if_pos p0, if_pos p1]
 by_cases h2 : (rd_T60 l i).f1 = 2
 ·rw [if_pos h2, if_pos h2]
  by_cases h3 : ((i + 1 : Nat) : Int) < (l.length : Int)
  ·rw [if_pos h3, if_pos (by omega), if_neg (by omega), if_pos (by omega), if_pos h3]
   exact ⟨_, rfl, by simp [bne]⟩
  ·rw [if_neg h3, if_pos (by omega)]; exact ⟨_, rfl, rfl⟩
 ·rw [if_neg h2, if_neg h2]
  by_cases h4 : (rd_T60 l i).f1 = 0
  ·rw [if_pos h4, if_pos h4]
   by_cases h5 : (i : Int) > 0
   ·have q0 : (0 : Int) ≤ ((i - 1 : Nat) : Int) := by omega
    have q1 : ((i - 1 : Nat) : Int) < (l.length : Int) := by omega
    rw [if_pos h5, if_neg (show ¬ (i : Int) = 0 by omega), w64m i (by omega) (by omega), if_pos q0, if_pos q1, if_pos q0, if_pos q1]
    exact ⟨_, rfl, by simp [bne]⟩
   ·rw [if_neg h5, if_pos (by omega)]; exact ⟨_, rfl, rfl⟩
  ·rw [if_neg h4, if_neg h4]; exact ⟨_, rfl, rfl⟩
def SmallC (l : List CellT) : Prop := (l.length : Int) ≤ 9223372036854775806 ∧ ∀ c ∈ l, (c.f0.size : Int) ≤ 9223372036854775806
theorem rd_mem {l : List CellT} {i : Nat} (h : i < l.length) : rd_T60 l i ∈ l := by
 have e : rd_T60 l i = l[i] := by unfold rd_T60; simp [List.getD_eq_getElem?_getD, h]
 rw [e]; exact List.getElem_mem h
theorem fits_loop (l : List CellT) (b0 : Bool) (n : Int) (hs : SmallC l) : ∀ m i, i + m = l.length → ∃ b, Ev (fun k => grid_Fits.l0 k n l (l.length : Int) (i : Nat) l b0) b ∧ Ev (fun k => backseatref06_Fits.l0 k n l (l.length : Int) (i : Nat) l b0) b
 | 0, i, hi => ⟨((l.length : Int) == n), Ev.succ (by simp only [grid_Fits.l0]; exact Ev.neg (by omega) (Ev.ret _)), Ev.succ (by simp only [backseatref06_Fits.l0]; exact Ev.neg (by omega) (Ev.ret _))⟩
 | m + 1, i, hi => by
  have hlt : i < l.length := by omega
  have hw := w64 i (by have := hs.1; omega)
  obtain ⟨b, hb1, hb2⟩ := fits_loop l b0 n hs m (i + 1) (by omega)
  obtain ⟨c, hc1, hc2⟩ := right_same (rd_T60 l i).f0 (rd_T60 l i).f1 (rd_T60 l i).f2.f0 (rd_T60 l i).f2.f1 (rd_T60 l i).f2.f2 (hs.2 _ (rd_mem hlt))
  obtain ⟨d, hd1, hd2⟩ := whole_half l i hlt hs.1
  cases c with
  | false =>
   refine ⟨false, Ev.succ ?_, Ev.succ ?_⟩
   ·simp only [grid_Fits.l0]; exact Ev.pos (by omega) (Ev.pos (by omega) (Ev.pos (by omega) (Ev.bind hc1 (Ev.neg (by decide) (Ev.ret _)))))
   ·simp only [backseatref06_Fits.l0]; exact Ev.pos (by omega) (Ev.pos (by omega) (Ev.pos (by omega) (Ev.bind hc2 (Ev.neg (by decide) (Ev.ret _)))))
  | true =>
   cases d with
   | false =>
    refine ⟨false, Ev.succ ?_, Ev.succ ?_⟩
    ·simp only [grid_Fits.l0]; exact Ev.pos (by omega) (Ev.pos (by omega) (Ev.pos (by omega) (Ev.bind hc1 (Ev.pos rfl (Ev.bind (Ev.of hd1) (Ev.neg (by decide) (Ev.ret _)))))))
    ·simp only [backseatref06_Fits.l0]; exact Ev.pos (by omega) (Ev.pos (by omega) (Ev.pos (by omega) (Ev.bind hc2 (Ev.pos rfl (Ev.bind (Ev.of hd2) (Ev.pos rfl (Ev.ret _)))))))
   | true =>
    refine ⟨b, Ev.succ ?_, Ev.succ ?_⟩
    ·simp only [grid_Fits.l0]; refine Ev.pos (by omega) (Ev.pos (by omega) (Ev.pos (by omega) (Ev.bind hc1 (Ev.pos rfl (Ev.bind (Ev.of hd1) (Ev.pos rfl ?_)))))); rw [hw]; exact hb1
    ·simp only [backseatref06_Fits.l0]; refine Ev.pos (by omega) (Ev.pos (by omega) (Ev.pos (by omega) (Ev.bind hc2 (Ev.pos rfl (Ev.bind (Ev.of hd2) (Ev.neg (by decide) ?_)))))); rw [hw]; exact hb2
theorem fits_same (l : List CellT) (b0 : Bool) (n : Int) (hs : SmallC l) : ∃ b, Ev (fun k => grid_Fits.f k l b0 n) b ∧ Ev (fun k => backseatref06_Fits.f k l b0 n) b := by
 have := fits_loop l b0 n hs l.length 0 (by omega)
 simpa [grid_Fits.f, backseatref06_Fits.f] using this
noncomputable def oddB (x : LineT) : Bool := open Classical in if h : ∃ b, Ev (fun k => back_odd.f k x.f0 x.f1) b then Classical.choose h else false
theorem odd_ev (x : LineT) (hs : SmallC x.f0) : Ev (fun k => back_odd.f k x.f0 x.f1) (oddB x) ∧
  (oddB x = false → ¬ (x.f0.length : Int) < 1 ∧ ¬ (x.f0.length : Int) > 80 ∧ Ev (fun k => backseatref06_Fits.f k x.f0 x.f1 (x.f0.length : Int)) true) ∧
  (oddB x = true → (x.f0.length : Int) < 1 ∨ (x.f0.length : Int) > 80 ∨ Ev (fun k => backseatref06_Fits.f k x.f0 x.f1 (x.f0.length : Int)) false) := by
 obtain ⟨b, h1, h2⟩ := fits_same x.f0 x.f1 (x.f0.length : Int) hs
 have key : ∃ o, Ev (fun k => back_odd.f k x.f0 x.f1) o ∧ (o = false → ¬ (x.f0.length : Int) < 1 ∧ ¬ (x.f0.length : Int) > 80 ∧ b = true) ∧ (o = true → (x.f0.length : Int) < 1 ∨ (x.f0.length : Int) > 80 ∨ b = false) := by
  unfold back_odd.f
  by_cases c1 : (x.f0.length : Int) < 1
  ·exact ⟨true, Ev.pos c1 (Ev.ret _), (fun h => by cases h), fun _ => Or.inl c1⟩
  by_cases c2 : (x.f0.length : Int) > 80
  ·exact ⟨true, Ev.neg c1 (Ev.pos c2 (Ev.ret _)), (fun h => by cases h), fun _ => Or.inr (Or.inl c2)⟩
  ·exact ⟨!b, Ev.neg c1 (Ev.neg c2 (Ev.bind h1 (Ev.ret _))), fun h => ⟨c1, c2, by simpa using h⟩, fun h => Or.inr (Or.inr (by simpa using h))⟩
 obtain ⟨o, k1, k2, k3⟩ := key
 have e : oddB x = o := by
  unfold oddB
  rw [dif_pos ⟨o, k1⟩]
  exact Ev.same (Classical.choose_spec (⟨o, k1⟩ : ∃ b, Ev (fun k => back_odd.f k x.f0 x.f1) b)) k1
 rw [e]
 refine ⟨k1, fun h => ⟨(k2 h).1, (k2 h).2.1, ?_⟩, fun h => ?_⟩
 ·rw [← (k2 h).2.2]; exact h2
 ·rcases k3 h with h | h | h
  ·exact Or.inl h
  ·exact Or.inr (Or.inl h)
  ·exact Or.inr (Or.inr (by rw [← h]; exact h2))
def SmallL (l : List LineT) : Prop := (l.length : Int) ≤ 1000000000000 ∧ ∀ x ∈ l, SmallC x.f0
theorem oddIn_ev : ∀ l : List LineT, (∀ x ∈ l, SmallC x.f0) → Ev (fun k => oddIn k l) (l.any oddB)
 | [], _ => Ev.ret _
 | x :: t, h => by
  unfold oddIn
  refine Ev.bind (odd_ev x (h x (by simp))).1 ?_
  cases hx : oddB x
  ·simp only [List.any_cons, hx, Bool.false_or]
   exact Ev.neg (by decide) (oddIn_ev t (fun y hy => h y (by simp [hy])))
  ·simp only [List.any_cons, hx, Bool.true_or]
   exact Ev.pos trivial (Ev.ret _)
theorem right_ev (p : List LineT) (hp : p.length ≤ 40) (h : ∀ x ∈ p, SmallC x.f0) : Ev (fun k => back_Right.f k 40 p) (!p.any oddB) := by
 unfold back_Right.f
 exact Ev.pos (by decide) (Ev.pos (by decide) (Ev.pos (by omega) (Ev.bind (oddIn_ev p h) (Ev.ret _))))
theorem ask_ev (l : List LineT) (h : ∀ x ∈ l, SmallC x.f0) : ∀ j, Ev (fun k => askN k l j) (!(l.take (40 * j)).any oddB)
 | 0 => by simp [askN]; exact Ev.ret _
 | j + 1 => by
  have e : l.take (40 * (j + 1)) = l.take (40 * j) ++ piece l j := by
   unfold piece; rw [show 40 * (j + 1) = 40 * j + 40 by omega, List.take_add]
  unfold askN
  refine Ev.bind (ask_ev l h j) (Ev.bind (right_ev (piece l j) (by unfold piece; rw [List.length_take]; omega) (fun x hx => h x (List.mem_of_mem_drop (List.mem_of_mem_take hx)))) ?_)
  rw [e, List.any_append, Bool.not_or]; exact Ev.ret _
theorem may_ev (l : List LineT) (hs : SmallL l) : Ev (fun k => flow_may.f k l) (!l.any oddB && decide (l.length ≤ 200)) := by
 unfold flow_may.f
 refine Ev.pos (by have := hs.1; omega) (Ev.bind (ask_ev l hs.2 (pieces l)) ?_)
 rw [List.take_of_length_le (by unfold pieces; omega)]
 exact Ev.ret _
theorem rd_line {l : List LineT} {i : Nat} (h : i < l.length) : rd_T38 l i = l[i] := by unfold rd_T38; simp [List.getD_eq_getElem?_getD, h]
end Go.Proofs.YtckkdaehmccjlaaDoor.P
namespace Go.Proofs.YtckkdaehmccjlaaDoor.P
open Go.RowKit Go.Proofs.YtckkdaehmccjlaaDoorW.PrintWords Go.Proofs.YtckkdaehmccjlaaDoorW.PrintLast Go.Proofs.YtckkdaehmccjlaaDoorW.PrintMore
attribute [local go_sem] max2_int min2_int max_two min_two max_three min_three max_four min_four   -- for this text's walks alone
set_option linter.unusedVariables false
set_option linter.unusedSimpArgs false
def backseatref08_Blank.f (a0_0 : ByteArray) (a0_1 : Int) (a0_2 : Int) (a0_3 : Int) (a0_4 : Int) : Option (Bool) := if a0_0.toList = ([] : List UInt8) then (if a0_1 = 1 then (if a0_2 = 0 then (if a0_3 = 0 then (some (a0_4 == 0)) else (some false)) else (some false)) else (some false)) else (some false)
set_option maxHeartbeats 8000000 in
set_option maxRecDepth 100000 in
theorem backseatref08_Blank.calls (a0_0 : ByteArray) (a0_1 : Int) (a0_2 : Int) (a0_3 : Int) (a0_4 : Int) (r : Bool) (w : World) (h : backseatref08_Blank.f a0_0 a0_1 a0_2 a0_3 a0_4 = some r) :
  Calls Tryd.prog 49 #[.agg #[.string a0_0, .int .i64 a0_1, .int .i64 a0_2, .int .i64 a0_3, .int .i64 a0_4]] w fun e w' => e = .returned (.bool r) ∧ Below w.heap.size w w' := by
 have hu60 := Tryd.underlying60
 have HB := Aside0.mk (Below.refl w.heap.size w)
 have H : (if a0_0.toList = ([] : List UInt8) then (if a0_1 = 1 then (if a0_2 = 0 then (if a0_3 = 0 then (some (a0_4 == 0)) else (some false)) else (some false)) else (some false)) else (some false)) = some r := h
 clear h
 by_cases c2 : a0_0.toList = ([] : List UInt8)
 ·rw [if_pos c2] at H
  have c2b0 : (a0_0.toList == ([] : List UInt8)) = true := beq_iff_eq.mpr c2
  have c2b1 : (a0_0.toList != ([] : List UInt8)) = false := bne_eq_false_iff_eq.mpr c2
  clear c2
  by_cases c3 : a0_1 = 1
  ·rw [if_pos c3] at H
   have c3b0 : (a0_1 == 1) = true := beq_iff_eq.mpr c3
   have c3b1 : (a0_1 != 1) = false := bne_eq_false_iff_eq.mpr c3
   clear c3
   by_cases c4 : a0_2 = 0
   ·rw [if_pos c4] at H
    have c4b0 : (a0_2 == 0) = true := beq_iff_eq.mpr c4
    have c4b1 : (a0_2 != 0) = false := bne_eq_false_iff_eq.mpr c4
    clear c4
    by_cases c5 : a0_3 = 0
    ·rw [if_pos c5] at H
     have c5b0 : (a0_3 == 0) = true := beq_iff_eq.mpr c5
     have c5b1 : (a0_3 != 0) = false := bne_eq_false_iff_eq.mpr c5
     clear c5
     obtain rfl := Option.some.inj H
     go_enter Tryd.func49, Tryd.ntmps49
     go_wp2_with (first | ((with_reducible refine gate_dst (N := 1) rfl ?_); refine box_event ?hg (N := 1) ?hd (cs := #[.string a0_0, .int .i64 a0_1, .int .i64 a0_2, .int .i64 a0_3, .int .i64 a0_4]) (t := 60) ?hr ?_; (case hd => rfl); (case hg => rfl); (case hr => exact zo); intro gb463 hg w6 hbox hb; have BK463 := Aside0.mk (hbox); have GW463 := Aside0.mk ((zg hg : w.heap.size ≤ gb463)); have GE463 := Aside0.mk ((zg hg : w.heap.size ≤ gb463)); replace HB := (zs HB hb); clear hb hbox hg; obtain ⟨hcz7_0, hcz7_1, hcz7_2, hcz7_3, hcz7_4, hfz7_0, hfz7_1, hfz7_2, hfz7_3, hfz7_4⟩ := zq5 (w := w6) BK463))
     go_ret
     exact ⟨ze, zb⟩
    ·rw [if_neg c5] at H
     have c5b0 : (a0_3 == 0) = false := beq_eq_false_iff_ne.mpr c5
     have c5b1 : (a0_3 != 0) = true := bne_iff_ne.mpr c5
     obtain rfl := Option.some.inj H
     go_enter Tryd.func49, Tryd.ntmps49
     go_wp2_with (first | ((with_reducible refine gate_dst (N := 1) rfl ?_); refine box_event ?hg (N := 1) ?hd (cs := #[.string a0_0, .int .i64 a0_1, .int .i64 a0_2, .int .i64 a0_3, .int .i64 a0_4]) (t := 60) ?hr ?_; (case hd => rfl); (case hg => rfl); (case hr => exact zo); intro gb463 hg w8 hbox hb; have BK463 := Aside0.mk (hbox); have GW463 := Aside0.mk ((zg hg : w.heap.size ≤ gb463)); have GE463 := Aside0.mk ((zg hg : w.heap.size ≤ gb463)); replace HB := (zs HB hb); clear hb hbox hg; obtain ⟨hcz9_0, hcz9_1, hcz9_2, hcz9_3, hcz9_4, hfz9_0, hfz9_1, hfz9_2, hfz9_3, hfz9_4⟩ := zq5 (w := w8) BK463))
     go_ret
     exact ⟨ze, zb⟩
   ·rw [if_neg c4] at H
    have c4b0 : (a0_2 == 0) = false := beq_eq_false_iff_ne.mpr c4
    have c4b1 : (a0_2 != 0) = true := bne_iff_ne.mpr c4
    obtain rfl := Option.some.inj H
    go_enter Tryd.func49, Tryd.ntmps49
    go_wp2_with (first | ((with_reducible refine gate_dst (N := 1) rfl ?_); refine box_event ?hg (N := 1) ?hd (cs := #[.string a0_0, .int .i64 a0_1, .int .i64 a0_2, .int .i64 a0_3, .int .i64 a0_4]) (t := 60) ?hr ?_; (case hd => rfl); (case hg => rfl); (case hr => exact zo); intro gb463 hg w10 hbox hb; have BK463 := Aside0.mk (hbox); have GW463 := Aside0.mk ((zg hg : w.heap.size ≤ gb463)); have GE463 := Aside0.mk ((zg hg : w.heap.size ≤ gb463)); replace HB := (zs HB hb); clear hb hbox hg; obtain ⟨hcz11_0, hcz11_1, hcz11_2, hcz11_3, hcz11_4, hfz11_0, hfz11_1, hfz11_2, hfz11_3, hfz11_4⟩ := zq5 (w := w10) BK463))
    go_ret
    exact ⟨ze, zb⟩
  ·rw [if_neg c3] at H
   have c3b0 : (a0_1 == 1) = false := beq_eq_false_iff_ne.mpr c3
   have c3b1 : (a0_1 != 1) = true := bne_iff_ne.mpr c3
   obtain rfl := Option.some.inj H
   go_enter Tryd.func49, Tryd.ntmps49
   go_wp2_with (first | ((with_reducible refine gate_dst (N := 1) rfl ?_); refine box_event ?hg (N := 1) ?hd (cs := #[.string a0_0, .int .i64 a0_1, .int .i64 a0_2, .int .i64 a0_3, .int .i64 a0_4]) (t := 60) ?hr ?_; (case hd => rfl); (case hg => rfl); (case hr => exact zo); intro gb463 hg w12 hbox hb; have BK463 := Aside0.mk (hbox); have GW463 := Aside0.mk ((zg hg : w.heap.size ≤ gb463)); have GE463 := Aside0.mk ((zg hg : w.heap.size ≤ gb463)); replace HB := (zs HB hb); clear hb hbox hg; obtain ⟨hcz13_0, hcz13_1, hcz13_2, hcz13_3, hcz13_4, hfz13_0, hfz13_1, hfz13_2, hfz13_3, hfz13_4⟩ := zq5 (w := w12) BK463))
   go_ret
   exact ⟨ze, zb⟩
 ·rw [if_neg c2] at H
  have c2b0 : (a0_0.toList == ([] : List UInt8)) = false := beq_eq_false_iff_ne.mpr c2
  have c2b1 : (a0_0.toList != ([] : List UInt8)) = true := bne_iff_ne.mpr c2
  obtain rfl := Option.some.inj H
  go_enter Tryd.func49, Tryd.ntmps49
  go_wp2_with (first | ((with_reducible refine gate_dst (N := 1) rfl ?_); refine box_event ?hg (N := 1) ?hd (cs := #[.string a0_0, .int .i64 a0_1, .int .i64 a0_2, .int .i64 a0_3, .int .i64 a0_4]) (t := 60) ?hr ?_; (case hd => rfl); (case hg => rfl); (case hr => exact zo); intro gb463 hg w14 hbox hb; have BK463 := Aside0.mk (hbox); have GW463 := Aside0.mk ((zg hg : w.heap.size ≤ gb463)); have GE463 := Aside0.mk ((zg hg : w.heap.size ≤ gb463)); replace HB := (zs HB hb); clear hb hbox hg; obtain ⟨hcz15_0, hcz15_1, hcz15_2, hcz15_3, hcz15_4, hfz15_0, hfz15_1, hfz15_2, hfz15_3, hfz15_4⟩ := zq5 (w := w14) BK463))
  go_ret
  exact ⟨ze, zb⟩
mutual
def backseatref08_Join.l0 : Nat → List (S38) → List (List (S60)) → List (S60) → List (S38) → Int → Int → Option ((List (List (S60))))
 | 0, _, _, _, _, _, _ => none
 | k + 1, x0, x3, x4, x10, x11, x12 => if x12 < x11 then (if 0 ≤ x12 then (if x12 < (x10.length : Int) then (if x4.length + ((rd_T38 x10 x12).f0).length < 2932031007402 then ((some (x4 ++ ((rd_T38 x10 x12).f0) : List (S60))).bind fun y472 => (if (rd_T38 x10 x12).f1 = true then (backseatref08_Join.j1 k x0 x3 y472 x10 x11 x12 (decide ((wrap64 (x12 + 1)) < (x0.length : Int)))) else (backseatref08_Join.j1 k x0 x3 y472 x10 x11 x12 false))) else (none)) else (none)) else (none)) else (some x3)
def backseatref08_Join.j1 : Nat → List (S38) → List (List (S60)) → List (S60) → List (S38) → Int → Int → Bool → Option ((List (List (S60))))
 | 0, _, _, _, _, _, _, _ => none
 | k + 1, x0, x3, x4, x10, x11, x12, x29 => if x29 = true then (backseatref08_Join.l0 k x0 x3 x4 x10 x11 (wrap64 (x12 + 1))) else (backseatref08_Join.l1 k x0 x3 x4 (x4.length : Int) x10 x11 x12)
def backseatref08_Join.l1 : Nat → List (S38) → List (List (S60)) → List (S60) → Int → List (S38) → Int → Int → Option ((List (List (S60))))
 | 0, _, _, _, _, _, _, _ => none
 | k + 1, x0, x3, x4, x7, x10, x11, x12 => if x7 > 0 then (if 0 ≤ (wrap64 (x7 - 1)) then (if (wrap64 (x7 - 1)) < (x4.length : Int) then ((backseatref08_Blank.f ((rd_T60 x4 (wrap64 (x7 - 1))).f0) ((rd_T60 x4 (wrap64 (x7 - 1))).f1) ((rd_T60 x4 (wrap64 (x7 - 1))).f2.f0) ((rd_T60 x4 (wrap64 (x7 - 1))).f2.f1) ((rd_T60 x4 (wrap64 (x7 - 1))).f2.f2)).bind fun t476 => (if t476 = true then (backseatref08_Join.l1 k x0 x3 x4 (wrap64 (x7 - 1)) x10 x11 x12) else (if 0 ≤ x7 then (if x7 ≤ (x4.length : Int) then (if x3.length < 5864062014805 then (backseatref08_Join.l0 k x0 (x3 ++ [(x4.take (x7 : Int).toNat)]) (([] : List (S60))) x10 x11 (wrap64 (x12 + 1))) else (none)) else (none)) else (none)))) else (none)) else (none)) else (if 0 ≤ x7 then (if x7 ≤ (x4.length : Int) then (if x3.length < 5864062014805 then (backseatref08_Join.l0 k x0 (x3 ++ [(x4.take (x7 : Int).toNat)]) (([] : List (S60))) x10 x11 (wrap64 (x12 + 1))) else (none)) else (none)) else (none))
end
def backseatref08_Join.f (k : Nat) (l0 : List (S38)) : Option ((List (List (S60)))) := backseatref08_Join.l0 k l0 (([] : List (List (S60)))) (([] : List (S60))) l0 (l0.length : Int) 0
set_option maxHeartbeats 8000000 in
set_option maxRecDepth 100000 in
theorem backseatref08_Join.calls (k : Nat) (A0 : Option Addr) (c0 : Nat) (l0 : List (S38)) (r : List (List (S60))) (w : World) (hr0 : Kd.C k38 w A0 l0.length l0) (hc0 : l0.length ≤ c0) (h : backseatref08_Join.f k l0 = some r) :
  Calls Tryd.prog 21 #[.slice A0 l0.length c0] w fun e w' => ∃ v0_ : Value, e = .returned (v0_) ∧ Kd.N (Kd.slice 60 k60) 36 w' w.heap.size (fun k_ => (w.heap.size ≤ k_)) v0_ r ∧ Below w.heap.size w w' := by
 have hu38 := Tryd.underlying38
 have hu60 := Tryd.underlying60
 have HR0 := Aside0.mk hr0
 have HC0 := Aside0.mk hc0
 clear hr0 hc0
 have HB := Aside0.mk (Below.refl w.heap.size w)
 have H : (backseatref08_Join.l0 k l0 (([] : List (List (S60)))) (([] : List (S60))) l0 (l0.length : Int) 0) = some r := h
 clear h
 obtain ⟨y464, hy464⟩ : ∃ y_ : List (List (S60)), y_ = (([] : List (List (S60)))) := ⟨_, rfl⟩
 replace H : (backseatref08_Join.l0 k l0 y464 (([] : List (S60))) l0 (l0.length : Int) 0) = some r := by first | (rw [hy464]; with_reducible exact H) | (have H2_ := (Option.bind_some _ _).symm.trans H; rw [hy464]; with_reducible exact H2_) | (have H2_ := (Option.bind_some _ _).symm.trans H; with_reducible exact H2_) | with_reducible exact H | (rw [hy464]; exact H) | exact H
 have Ny464 := Aside0.mk hy464
 clear hy464
 obtain ⟨y467, hy467⟩ : ∃ y_ : List (S60), y_ = (([] : List (S60))) := ⟨_, rfl⟩
 replace H : (backseatref08_Join.l0 k l0 y464 y467 l0 (l0.length : Int) 0) = some r := by first | (rw [hy467]; with_reducible exact H) | (have H2_ := (Option.bind_some _ _).symm.trans H; rw [hy467]; with_reducible exact H2_) | (have H2_ := (Option.bind_some _ _).symm.trans H; with_reducible exact H2_) | with_reducible exact H | (rw [hy467]; exact H) | exact H
 have Ny467 := Aside0.mk hy467
 clear hy467
 have H' := Aside0.mk H
 clear H
 go_enter Tryd.func21, Tryd.ntmps21
 go_wp2_with (first | ((with_reducible refine gate_dst (N := 8) rfl ?_); (try (refine gate_guard (by rfl) ?_; dsimp only)); refine Kd.N_lit (Kd.slice 60 k60) _ 36 ?hg (N' := 8) ?hd (xs := ([] : List (List (S60)))) (inner := []) (ok := (fun k_ => (w.heap.size ≤ k_))) (okp := (fun k_ => (w.heap.size ≤ k_))) ?hr ?hp (fun _ hk => hk) ((show ∀ k_, w.heap.size ≤ k_ → (fun k_ => (w.heap.size ≤ k_)) k_ from fun k_ hk => (Nat.le_trans (below_size zb) hk)) _ (Nat.le_refl _)) (Below.refl _ _) (Nat.le_refl _) (by simp) ?_; (case hd => rfl); (case hg => rfl); (case hr => exact zo); (case hp => exact (Reps.none _ _)); intro v465 w2 ho3 hb hg_ hnew_; clear hg_ hnew_; (first | rw [← Ny464.out] at ho3 | (simp only [Int.reduceToNat] at ho3; rw [← Ny464.out] at ho3)); have HO466 := Aside0.mk (Kd.N_lower ho3 (below_size zb)); replace HB := (zs HB hb); clear hb ho3) | ((with_reducible refine gate_dst (N := 9) rfl ?_); (try (refine gate_guard (by rfl) ?_; dsimp only)); refine Kd.R_lit k60 _ 60 ?hg (N := 9) ?hd (xs := ([] : List (S60))) (inner := []) (ok := fun _ => True) (okp := fun _ => True) ?hr ?hp (fun _ hk => hk) trivial (Below.refl _ _) (Nat.le_refl _) (by simp) ?_; (case hd => rfl); (case hg => rfl); (case hr => exact zo); (case hp => exact (Reps.none _ _)); intro v468 w4 ho5 hb hg_ hnew_; clear hg_ hnew_; (first | rw [← Ny467.out] at ho5 | (simp only [Int.reduceToNat] at ho5; rw [← Ny467.out] at ho5)); replace HO466 := Aside0.mk (Kd.N_elder' (zNa HO466) (Kd.R_base ho5) hb); have HO469 := Aside0.mk (Kd.R_lower (Kd.R_newM (M := fun k_ => (w.heap.size ≤ k_)) ho5 (below_size zb) (fun k_ h_ => h_)) (below_size zb)); replace HB := (zs HB hb); clear hb ho5))
 go_loopg [3, 4, 12] k (fun kq v3 v4 v12 w' => ∃ (x3_1 : List (List (S60))) (x4_1 : List (S60)) (x12_1 : Int), v12 = .int .i64 x12_1 ∧ Aside0 (backseatref08_Join.l0 kq l0 x3_1 x4_1 l0 (l0.length : Int) x12_1 = some r) ∧ Aside0 (kq ≤ k) ∧ Aside0 (Kd.N (Kd.slice 60 k60) 36 w' w.heap.size (fun k_ => (w.heap.size ≤ k_) ∧ some k_ ≠ (v4 : Value).ownBlock) v3 x3_1) ∧ Aside0 (Kd.R k60 60 w' w.heap.size (fun k_ => (w.heap.size ≤ k_)) v4 x4_1) ∧ Aside0 (Below w.heap.size w w'))
 case atStart => exact ⟨(y464), (y467), (0), zf, H', ⟨Nat.le_refl _⟩, ⟨by (with_reducible repeat (first | apply Kd.N_alloc | apply Kd.N_drewN | apply Kd.N_drew)); exact HO466.out⟩, ⟨by (with_reducible repeat (first | apply Kd.R_alloc | apply Kd.R_drewN | apply Kd.R_drew)); exact Kd.R_mono HO469.out (fun _ hk => hk.1)⟩, ⟨zb⟩⟩
 case round =>
  clear H'
  obtain ⟨x3_1, x4_1, x12_1, rfl, HA, HK1, HO_3, HO_4, HB⟩ := hrel
  cases gk with
  | zero => exact absurd HA.out (by simp [backseatref08_Join.l0])
  | succ k1 =>
   have H := HA.out
   clear HA
   simp only [backseatref08_Join.l0] at H
   by_cases c6 : x12_1 < (l0.length : Int)
   ·rw [if_pos c6] at H
    have c6b0 : decide (x12_1 < (l0.length : Int)) = true := decide_eq_true c6
    clear c6
    by_cases c7 : 0 ≤ x12_1
    ·rw [if_pos c7] at H
     have c7b0 : decide (0 ≤ x12_1) = true := decide_eq_true c7
     clear c7
     by_cases c8 : x12_1 < (l0.length : Int)
     ·rw [if_pos c8] at H
      have c8b0 : decide (x12_1 < (l0.length : Int)) = true := decide_eq_true c8
      clear c8
      by_cases c9 : x4_1.length + ((rd_T38 l0 x12_1).f0).length < 2932031007402
      ·rw [if_pos c9] at H
       have LMc9 := Aside0.mk c9
       clear c9
       obtain ⟨y472, hy472⟩ : ∃ y_ : List (S60), y_ = (x4_1 ++ ((rd_T38 l0 x12_1).f0)) := ⟨_, rfl⟩
       replace H : (if (rd_T38 l0 x12_1).f1 = true then (backseatref08_Join.j1 k1 l0 x3_1 y472 l0 (l0.length : Int) x12_1 (decide ((wrap64 (x12_1 + 1)) < (l0.length : Int)))) else (backseatref08_Join.j1 k1 l0 x3_1 y472 l0 (l0.length : Int) x12_1 false)) = some r := by first | (rw [hy472]; with_reducible exact H) | (have H2_ := (Option.bind_some _ _).symm.trans H; rw [hy472]; with_reducible exact H2_) | (have H2_ := (Option.bind_some _ _).symm.trans H; with_reducible exact H2_) | with_reducible exact H | (rw [hy472]; exact H) | exact H
       have Ny472 := Aside0.mk hy472
       clear hy472
       have HC10 := Aside0.mk H
       clear H
       have p470 : 0 ≤ (x12_1 : Int) := of_decide_eq_true za
       have q470 : x12_1 < (l0.length : Int) := of_decide_eq_true za
       obtain ⟨ad470, A470_0, c470_0, e470, hx470_0, hx470_1, hl470_0, hi470_0⟩ := at_T38 HR0.out x12_1 p470 q470
       cases e470
       replace hx470_0 := zc HB hx470_0
       replace hx470_1 := zc HB hx470_1
       have HR470_0 := Aside0.mk hi470_0
       have HC470_0 := Aside0.mk hl470_0
       clear hi470_0 hl470_0
       replace p470 := eq_true p470
       replace q470 := eq_true q470
       go_upto_region 7 with (first | ((with_reducible refine gate_dst (N := 6) rfl ?_); (try (refine gate_guard (by rfl) ?_; dsimp only)); refine box_event ?hg (N := 6) ?hd (cs := #[.slice none 0 0, .bool false]) (t := 38) ?hr ?_; (case hd => rfl); (case hg => rfl); (case hr => exact zo); intro gb471 hg w11 hbox hb; replace HO_3 := Aside0.mk (Kd.N_below (Kd.N_elderB (zNa HO_3) gb471 (Nat.le_of_eq hg.symm)) hb); replace HO_4 := (zR HO_4 hb); have BK471 := Aside0.mk (hbox); have GW471 := Aside0.mk ((zg hg : w.heap.size ≤ gb471)); have GE471 := Aside0.mk ((zg hg : w.heap.size ≤ gb471)); replace HB := (zs HB hb); clear hb hbox hg; obtain ⟨hcz12_0, hcz12_1, hfz12_0, hfz12_1⟩ := zq2 (w := w11) BK471) | ((with_reducible refine gate_builtin (b := .append) (xs := #[.tmp 17, .tmp 19]) rfl ?_); (try (refine gate_guard (by rfl) ?_; dsimp only)); at_builtin; refine Kd.R_append_rows k60 (w0 := w) w.heap.size rfl (.tmp 17) (.tmp 19) 36 60 (.agg #[(.string ⟨#[]⟩), (.int .i64 0), (.int .i64 0), (.int .i64 0), (.int .i64 0)]) 48 rfl Tryd.underlying36 info60 rfl (by decide) (by omega) u4 x4_1 ((rd_T38 l0 x12_1).f0) _ _ _ (fun k_ => (w.heap.size ≤ k_)) (fun _ => False) rfl rfl ?aO ?aR (fun _ _ h => h) (fun _ h => h.elim) ?aF ?aB ?aS ?aL ?_; (case aR => exact Kd.C_below HR470_0.out zb); (case aB => exact zb); (case aF => exact (fun k_ hk => (Nat.le_trans (below_size zb) hk))); (case aO => exact (by (with_reducible repeat (first | apply Kd.R_alloc | apply Kd.R_drewN | apply Kd.R_drew)); exact Kd.R_mono (Kd.R_far (p := ⟨gb471, 1, none⟩) (Kd.R_far (p := ⟨gb471, 0, none⟩) (Kd.R_types HO_4.out BK471.out (by decide)) (fun _ hk => hk.2) (.slice A470_0 ((rd_T38 l0 x12_1).f0).length c470_0)) (fun _ hk => hk.2) (.bool ((rd_T38 l0 x12_1).f1))) (fun _ hk => hk.1))); (case aS => exact (below_size zb)); (case aL => have := LMc9.out; omega); intro v473 w13 ho hb hg hat; rw [← Ny472.out] at ho; have n0_ := Aside0.mk (Kd.N_afterv (ok := (fun k_ => (w.heap.size ≤ k_) ∧ k_ ≠ gb471)) (by (with_reducible repeat (first | apply Kd.N_alloc | apply Kd.N_drewN | apply Kd.N_drew)); exact Kd.N_mono (Kd.N_far (p := ⟨gb471, 1, none⟩) (Kd.N_far (p := ⟨gb471, 0, none⟩) (Kd.N_mono HO_3.out (fun k_ hk => (⟨hk, hk.2⟩ : _ ∧ k_ ≠ gb471))) (fun _ hk => hk.2) (.slice A470_0 ((rd_T38 l0 x12_1).f0).length c470_0)) (fun _ hk => hk.2) (.bool ((rd_T38 l0 x12_1).f1))) (fun _ hk => ⟨⟨hk.1.1.1, hk.1.2⟩, hk.1.1.2⟩)) hg hat); have n1_ := Aside0.mk (blk_grown (g := gb471) (o := .cells #[.slice A470_0 ((rd_T38 l0 x12_1).f0).length c470_0, .bool ((rd_T38 l0 x12_1).f1)] 38 (0, 0)) (by refine blk_put (cs := #[.slice A470_0 ((rd_T38 l0 x12_1).f0).length c470_0, .bool false]) ?_ 1 _ rfl; refine blk_put (cs := #[.slice none 0 0, .bool false]) ?_ 0 _ rfl; exact BK471.out) hg (Kd.R_ne HO_4.out BK471.out (by decide))); have n2_ := Aside0.mk (hb); have n3_ := Aside0.mk (ho); clear HO_3; clear BK471; clear HB; clear HO_4; have HO_3 := n0_; have BK471 := n1_; have HB := n2_; have HO474 := n3_; clear n0_ n1_ n2_ n3_; clear ho hb hg hat))
       (try simp only [Act.put, List.setIfInBounds_toArray, List.set_cons_zero, List.set_cons_succ])
       go_cut [29] (fun v29 wc => ∃ (kq : Nat) (x29_9 : Bool), v29 = .bool x29_9 ∧ Aside0 (backseatref08_Join.j1 kq l0 x3_1 y472 l0 (l0.length : Int) x12_1 x29_9 = some r) ∧ Aside0 (kq ≤ k1) ∧ Aside0 (Kd.N (Kd.slice 60 k60) 36 wc w.heap.size (fun k_ => (w.heap.size ≤ k_) ∧ some k_ ≠ (v473 : Value).ownBlock ∧ k_ ≠ gb471) u3 x3_1) ∧ Aside0 (Kd.R k60 60 wc w.heap.size (fun k_ => (w.heap.size ≤ k_)) v473 y472) ∧ Aside0 (wc.heap[gb471]? = some (.cells #[(.slice A470_0 ((rd_T38 l0 x12_1).f0).length c470_0), .bool ((rd_T38 l0 x12_1).f1)] 38 (0, 0))) ∧ Aside0 (Below w.heap.size w wc))
       case first =>
        have H := HC10.out
        clear HC10
        obtain ⟨bq14, hbq14⟩ : ∃ b_ : Bool, b_ = ((rd_T38 l0 x12_1).f1) := ⟨_, rfl⟩
        replace H : (if bq14 = true then (backseatref08_Join.j1 k1 l0 x3_1 y472 l0 (l0.length : Int) x12_1 (decide ((wrap64 (x12_1 + 1)) < (l0.length : Int)))) else (backseatref08_Join.j1 k1 l0 x3_1 y472 l0 (l0.length : Int) x12_1 false)) = some r := by rw [← hbq14] at H; exact H
        have Nbq14 := Aside0.mk hbq14
        clear hbq14
        (try rw [← Nbq14.out])
        by_cases c15 : bq14 = true
        ·subst c15
         have H1 : (backseatref08_Join.j1 k1 l0 x3_1 y472 l0 (l0.length : Int) x12_1 (decide ((wrap64 (x12_1 + 1)) < (l0.length : Int)))) = some r := by rw [if_pos rfl] at H; exact H
         clear H
         have H := H1
         clear H1
         have H' := Aside0.mk H
         clear H
         have hcz16_0 : w13.cell? ⟨gb471, 0, none⟩ = some (.slice A470_0 ((rd_T38 l0 x12_1).f0).length c470_0) := (blk_cell BK471.out 0).trans (by first | rfl | (rw [← Nbq14.out]; rfl) | (rw [Nbq14.out]; rfl))
         have hcz16_1 : w13.cell? ⟨gb471, 1, none⟩ = some (.bool true) := (blk_cell BK471.out 1).trans (by first | rfl | (rw [← Nbq14.out]; rfl) | (rw [Nbq14.out]; rfl))
         have hfz16_0 := blk_frozen BK471.out 0
         have hfz16_1 := blk_frozen BK471.out 1
         go_wp2
         go_meet
         case rel => exact ⟨_, (decide ((wrap64 (x12_1 + 1)) < (l0.length : Int))), zf, H', ⟨by have := HK1.out; first | omega | exact Nat.le_refl _⟩, ⟨by (with_reducible repeat (first | apply Kd.N_alloc | apply Kd.N_drewN | apply Kd.N_drew)); exact Kd.N_mono HO_3.out (fun _ hk => ⟨hk.1.1, ⟨hk.2, hk.1.2⟩⟩)⟩, ⟨by (with_reducible repeat (first | apply Kd.R_alloc | apply Kd.R_drewN | apply Kd.R_drew)); exact HO474.out⟩, ⟨by exact BK471.out⟩, ⟨zb⟩⟩
        ·replace c15 := Bool.eq_false_iff.mpr c15
         subst c15
         have H1 : (backseatref08_Join.j1 k1 l0 x3_1 y472 l0 (l0.length : Int) x12_1 false) = some r := by rw [if_neg (show ¬ (false = true) by decide)] at H; exact H
         clear H
         have H := H1
         clear H1
         have H' := Aside0.mk H
         clear H
         have hcz17_0 : w13.cell? ⟨gb471, 0, none⟩ = some (.slice A470_0 ((rd_T38 l0 x12_1).f0).length c470_0) := (blk_cell BK471.out 0).trans (by first | rfl | (rw [← Nbq14.out]; rfl) | (rw [Nbq14.out]; rfl))
         have hcz17_1 : w13.cell? ⟨gb471, 1, none⟩ = some (.bool false) := (blk_cell BK471.out 1).trans (by first | rfl | (rw [← Nbq14.out]; rfl) | (rw [Nbq14.out]; rfl))
         have hfz17_0 := blk_frozen BK471.out 0
         have hfz17_1 := blk_frozen BK471.out 1
         go_wp2
         go_meet
         case rel => exact ⟨_, (false), zf, H', ⟨by have := HK1.out; first | omega | exact Nat.le_refl _⟩, ⟨by (with_reducible repeat (first | apply Kd.N_alloc | apply Kd.N_drewN | apply Kd.N_drew)); exact Kd.N_mono HO_3.out (fun _ hk => ⟨hk.1.1, ⟨hk.2, hk.1.2⟩⟩)⟩, ⟨by (with_reducible repeat (first | apply Kd.R_alloc | apply Kd.R_drewN | apply Kd.R_drew)); exact HO474.out⟩, ⟨by exact BK471.out⟩, ⟨zb⟩⟩
       case rest =>
        clear HC10
        try clear c6
        try clear c6b0
        try clear c7
        try clear c7b0
        try clear c8
        try clear c8b0
        try clear c9
        try clear hcz12_0
        try clear hcz12_1
        try clear hfz12_0
        try clear hfz12_1
        try clear hx470_0
        try clear hx470_1
        try clear p470
        try clear q470
        obtain ⟨kq, x29_9, rfl, HA, HJ9, HO_3, HO_4, BK471, HB⟩ := hcut
        cases kq with
        | zero => exact absurd HA.out (by simp [backseatref08_Join.j1])
        | succ kj9 =>
         have H := HA.out
         clear HA
         simp only [backseatref08_Join.j1] at H
         by_cases c18 : x29_9 = true
         ·subst c18
          have H1 : (backseatref08_Join.l0 kj9 l0 x3_1 y472 l0 (l0.length : Int) (wrap64 (x12_1 + 1))) = some r := by rw [if_pos rfl] at H; exact H
          clear H
          have H := H1
          clear H1
          have H' := Aside0.mk H
          clear H
          go_wp2
          go_roundg kj9
          case measure => have := HK1.out; have := HJ9.out; omega
          case rel => exact ⟨(x3_1), (y472), (wrap64 (x12_1 + 1)), zf, H', ⟨by have := HK1.out; have := HJ9.out; omega⟩, ⟨by (with_reducible repeat (first | apply Kd.N_alloc | apply Kd.N_drewN | apply Kd.N_drew)); exact Kd.N_mono HO_3.out (fun _ hk => ⟨hk.1, hk.2.1⟩)⟩, ⟨by (with_reducible repeat (first | apply Kd.R_alloc | apply Kd.R_drewN | apply Kd.R_drew)); exact HO_4.out⟩, ⟨zb⟩⟩
         ·replace c18 := Bool.eq_false_iff.mpr c18
          subst c18
          have H1 : (backseatref08_Join.l1 kj9 l0 x3_1 y472 (y472.length : Int) l0 (l0.length : Int) x12_1) = some r := by rw [if_neg (show ¬ (false = true) by decide)] at H; exact H
          clear H
          have H := H1
          clear H1
          have H' := Aside0.mk H
          clear H
          obtain ⟨Ao19, co19, eo19⟩ := Kd.R_slice HO_4.out
          subst eo19
          go_wp2
          go_loopg [7] kj9 (fun kq v7 w' => ∃ (x7_3 : Int), v7 = .int .i64 x7_3 ∧ Aside0 (backseatref08_Join.l1 kq l0 x3_1 y472 x7_3 l0 (l0.length : Int) x12_1 = some r) ∧ Aside0 (kq ≤ kj9) ∧ Aside0 (Kd.N (Kd.slice 60 k60) 36 w' w.heap.size (fun k_ => (w.heap.size ≤ k_) ∧ some k_ ≠ ((.slice Ao19 y472.length co19) : Value).ownBlock ∧ k_ ≠ gb471) u3 x3_1) ∧ Aside0 (Kd.R k60 60 w' w.heap.size (fun k_ => (w.heap.size ≤ k_)) (.slice Ao19 y472.length co19) y472) ∧ Aside0 (w'.heap[gb471]? = some (.cells #[(.slice A470_0 ((rd_T38 l0 x12_1).f0).length c470_0), .bool ((rd_T38 l0 x12_1).f1)] 38 (0, 0))) ∧ Aside0 (Below w.heap.size w w'))
          case atStart => exact ⟨((y472.length : Int)), zf, H', ⟨Nat.le_refl _⟩, ⟨by (with_reducible repeat (first | apply Kd.N_alloc | apply Kd.N_drewN | apply Kd.N_drew)); exact HO_3.out⟩, ⟨by (with_reducible repeat (first | apply Kd.R_alloc | apply Kd.R_drewN | apply Kd.R_drew)); exact HO_4.out⟩, ⟨by exact BK471.out⟩, ⟨zb⟩⟩
          case round =>
           clear H'
           try clear c6
           try clear c6b0
           try clear c7
           try clear c7b0
           try clear c8
           try clear c8b0
           try clear c9
           try clear c18
           try clear hcz12_0
           try clear hcz12_1
           try clear hfz12_0
           try clear hfz12_1
           try clear hx470_0
           try clear hx470_1
           try clear p470
           try clear q470
           obtain ⟨x7_3, rfl, HA, HK3, HO_3, HO_4, BK471, HB⟩ := hrel
           cases gk with
           | zero => exact absurd HA.out (by simp [backseatref08_Join.l1])
           | succ k3 =>
            have H := HA.out
            clear HA
            simp only [backseatref08_Join.l1] at H
            by_cases c20 : x7_3 > 0
            ·rw [if_pos c20] at H
             have c20b0 : decide (0 < x7_3) = true := decide_eq_true c20
             clear c20
             obtain ⟨ji21, hji21⟩ : ∃ j_ : Int, (wrap64 (x7_3 - 1)) = j_ := ⟨_, rfl⟩
             replace H : (if 0 ≤ (ji21) then (if (ji21) < (y472.length : Int) then ((backseatref08_Blank.f ((rd_T60 y472 (ji21)).f0) ((rd_T60 y472 (ji21)).f1) ((rd_T60 y472 (ji21)).f2.f0) ((rd_T60 y472 (ji21)).f2.f1) ((rd_T60 y472 (ji21)).f2.f2)).bind fun t476 => (if t476 = true then (backseatref08_Join.l1 k3 l0 x3_1 y472 ji21 l0 (l0.length : Int) x12_1) else (if 0 ≤ x7_3 then (if x7_3 ≤ (y472.length : Int) then (if x3_1.length < 5864062014805 then (backseatref08_Join.l0 k3 l0 (x3_1 ++ [(y472.take (x7_3 : Int).toNat)]) (([] : List (S60))) l0 (l0.length : Int) (wrap64 (x12_1 + 1))) else (none)) else (none)) else (none)))) else (none)) else (none)) = some r := by first | (rw [hji21] at H; exact H) | (simp only [hji21] at H ⊢; exact H)
             have hji21w : (IntKind.i64.wrap (x7_3 - 1)) = ji21 := (i64_w _).trans hji21
             by_cases c22 : 0 ≤ (ji21)
             ·rw [if_pos c22] at H
              have c22b0 : decide (0 ≤ (ji21)) = true := decide_eq_true c22
              clear c22
              by_cases c23 : (ji21) < (y472.length : Int)
              ·rw [if_pos c23] at H
               have c23b0 : decide ((ji21) < (y472.length : Int)) = true := decide_eq_true c23
               clear c23
               replace H := Option.bind_eq_some_iff.mp H
               obtain ⟨t476, A240, H⟩ := H
               replace H : (if t476 = true then (backseatref08_Join.l1 k3 l0 x3_1 y472 ji21 l0 (l0.length : Int) x12_1) else (if 0 ≤ x7_3 then (if x7_3 ≤ (y472.length : Int) then (if x3_1.length < 5864062014805 then (backseatref08_Join.l0 k3 l0 (x3_1 ++ [(y472.take (x7_3 : Int).toNat)]) (([] : List (S60))) l0 (l0.length : Int) (wrap64 (x12_1 + 1))) else (none)) else (none)) else (none))) = some r := H
               have A24 := Aside0.mk A240
               clear A240
               by_cases c25 : t476 = true
               ·subst c25
                have H1 : (backseatref08_Join.l1 k3 l0 x3_1 y472 ji21 l0 (l0.length : Int) x12_1) = some r := by rw [if_pos rfl] at H; exact H
                clear H
                have H := H1
                clear H1
                have H' := Aside0.mk H
                clear H
                have p475 : 0 ≤ ((ji21) : Int) := of_decide_eq_true za
                have q475 : (ji21) < (y472.length : Int) := of_decide_eq_true za
                obtain ⟨ad475, e475, hx475_0, hx475_1, hx475_2, hx475_3, hx475_4⟩ := at_T60 (Kd.R_reads' HO_4.out).2.2 (ji21) p475 q475
                cases e475
                replace p475 := eq_true p475
                replace q475 := eq_true q475
                go_wp2_with (first | (go_at_call 49; (with_reducible refine (backseatref08_Blank.calls ((rd_T60 y472 (ji21)).f0) ((rd_T60 y472 (ji21)).f1) ((rd_T60 y472 (ji21)).f2.f0) ((rd_T60 y472 (ji21)).f2.f1) ((rd_T60 y472 (ji21)).f2.f2) true _ A24.out).mono ?_); rintro e w26 ⟨rfl, hb⟩; replace HO_3 := (zN HO_3 hb); replace HO_4 := (zR HO_4 hb); replace BK471 := (zk BK471 hb); replace HB := (zs HB hb); (try clear hb)))
                go_roundg k3
                case measure => have := HK1.out; have := HJ9.out; have := HK3.out; omega
                case rel => exact ⟨(ji21), (by first | rfl | (simp; done) | (simp only [← hji21] <;> (first | rfl | (simp; done))) | (simp [*]; done) | (simp; simp only [decide_eq_true_eq, eq_iff_iff, iff_true] at *; omega)), H', ⟨by have := HK1.out; have := HJ9.out; have := HK3.out; omega⟩, ⟨by (with_reducible repeat (first | apply Kd.N_alloc | apply Kd.N_drewN | apply Kd.N_drew)); exact HO_3.out⟩, ⟨by (with_reducible repeat (first | apply Kd.R_alloc | apply Kd.R_drewN | apply Kd.R_drew)); exact HO_4.out⟩, ⟨by exact BK471.out⟩, ⟨zb⟩⟩
               ·replace c25 := Bool.eq_false_iff.mpr c25
                subst c25
                have H1 : (if 0 ≤ x7_3 then (if x7_3 ≤ (y472.length : Int) then (if x3_1.length < 5864062014805 then (backseatref08_Join.l0 k3 l0 (x3_1 ++ [(y472.take (x7_3 : Int).toNat)]) (([] : List (S60))) l0 (l0.length : Int) (wrap64 (x12_1 + 1))) else (none)) else (none)) else (none)) = some r := by rw [if_neg (show ¬ (false = true) by decide)] at H; exact H
                clear H
                have H := H1
                clear H1
                by_cases c27 : 0 ≤ x7_3
                ·rw [if_pos c27] at H
                 have c27b0 := eq_true c27
                 have c27b1 : decide (0 ≤ x7_3) = true := decide_eq_true c27
                 clear c27
                 by_cases c28 : x7_3 ≤ (y472.length : Int)
                 ·rw [if_pos c28] at H
                  have c28b0 := eq_true c28
                  have c28b1 : decide (x7_3 ≤ (y472.length : Int)) = true := decide_eq_true c28
                  clear c28
                  obtain ⟨y477, hy477⟩ : ∃ y_ : List (S60), y_ = (y472.take (x7_3 : Int).toNat) := ⟨_, rfl⟩
                  replace H : (if x3_1.length < 5864062014805 then (backseatref08_Join.l0 k3 l0 (x3_1 ++ [y477]) (([] : List (S60))) l0 (l0.length : Int) (wrap64 (x12_1 + 1))) else (none)) = some r := by first | (rw [hy477]; with_reducible exact H) | (have H2_ := (Option.bind_some _ _).symm.trans H; rw [hy477]; with_reducible exact H2_) | (have H2_ := (Option.bind_some _ _).symm.trans H; with_reducible exact H2_) | with_reducible exact H | (rw [hy477]; exact H) | exact H
                  have Ny477 := Aside0.mk hy477
                  clear hy477
                  by_cases c29 : x3_1.length < 5864062014805
                  ·rw [if_pos c29] at H
                   have LMc29 := Aside0.mk c29
                   clear c29
                   obtain ⟨y482, hy482⟩ : ∃ y_ : List (List (S60)), y_ = (x3_1 ++ [y477]) := ⟨_, rfl⟩
                   replace H : (backseatref08_Join.l0 k3 l0 y482 (([] : List (S60))) l0 (l0.length : Int) (wrap64 (x12_1 + 1))) = some r := by first | (rw [hy482]; with_reducible exact H) | (have H2_ := (Option.bind_some _ _).symm.trans H; rw [hy482]; with_reducible exact H2_) | (have H2_ := (Option.bind_some _ _).symm.trans H; with_reducible exact H2_) | with_reducible exact H | (rw [hy482]; exact H) | exact H
                   have Ny482 := Aside0.mk hy482
                   clear hy482
                   obtain ⟨y485, hy485⟩ : ∃ y_ : List (S60), y_ = (([] : List (S60))) := ⟨_, rfl⟩
                   replace H : (backseatref08_Join.l0 k3 l0 y482 y485 l0 (l0.length : Int) (wrap64 (x12_1 + 1))) = some r := by first | (rw [hy485]; with_reducible exact H) | (have H2_ := (Option.bind_some _ _).symm.trans H; rw [hy485]; with_reducible exact H2_) | (have H2_ := (Option.bind_some _ _).symm.trans H; with_reducible exact H2_) | with_reducible exact H | (rw [hy485]; exact H) | exact H
                   have Ny485 := Aside0.mk hy485
                   clear hy485
                   have H' := Aside0.mk H
                   clear H
                   have p475 : 0 ≤ ((ji21) : Int) := of_decide_eq_true za
                   have q475 : (ji21) < (y472.length : Int) := of_decide_eq_true za
                   obtain ⟨ad475, e475, hx475_0, hx475_1, hx475_2, hx475_3, hx475_4⟩ := at_T60 (Kd.R_reads' HO_4.out).2.2 (ji21) p475 q475
                   cases e475
                   replace p475 := eq_true p475
                   replace q475 := eq_true q475
                   go_wp2_with (first | (go_at_call 49; (with_reducible refine (backseatref08_Blank.calls ((rd_T60 y472 (ji21)).f0) ((rd_T60 y472 (ji21)).f1) ((rd_T60 y472 (ji21)).f2.f0) ((rd_T60 y472 (ji21)).f2.f1) ((rd_T60 y472 (ji21)).f2.f2) false _ A24.out).mono ?_); rintro e w30 ⟨rfl, hb⟩; replace HO_3 := (zN HO_3 hb); replace HO_4 := (zR HO_4 hb); replace BK471 := (zk BK471 hb); replace HB := (zs HB hb); (try clear hb); (try clear hk); have q31 : (x7_3 : Int) ≤ ((y472.length : Int) : Int) := of_decide_eq_true za; obtain ⟨i031, hi031, _, hsz31, _⟩ := info_parts info60; have hroom31 : y472.length ≤ co19 := (Kd.R_reads' HO_4.out).2.1; have hC31 : Kd.F k60 _ _ (some ad475) y472.length y472 := (Kd.V_at (base := w.heap.size) (Kd.R_V (Kd.R_types (Kd.R_apart' (HO_4.out) (Kd.N_typed HO_3.out) (by decide)) BK471.out (by decide)))).2.2; have hcut31 := cut_to (P := Tryd.prog) 36 60 .i64 Tryd.underlying36 hi031 (some ad475) y472.length co19 x7_3 (of_decide_eq_true za) q31 hroom31; have hr31 := Kd.F_take (m := (x7_3 : Int).toNat) hC31 (by omega); have hy31 : y477.length = (x7_3 : Int).toNat := (by rw [Ny477.out, List.length_take]; omega); rw [← Ny477.out] at hr31; rw [← hy31] at hcut31; have HO481 := Aside0.mk (show Kd.V k60 60 _ w.heap.size _ (.slice (some ad475) y477.length co19) y477 from Kd.V_mk (by omega) hr31); have HC481 := Aside0.mk (show y477.length ≤ co19 from by omega); clear hr31 hC31 hroom31 hi031 hsz31; have KY31 := Aside0.mk hy31; clear hy31; replace q31 := eq_true q31) | ((with_reducible refine gate_builtin (b := .append) (xs := #[.tmp 44, .tmp 48]) rfl ?_); (try (refine gate_guard (by rfl) ?_; dsimp only)); at_builtin; refine Kd.N_append (Kd.slice 60 k60) (w0 := w) w.heap.size rfl (.tmp 44) (.tmp 48) 39 36 (.slice none 0 0) 24 rfl Tryd.underlying39 info36 rfl (by decide) (by omega) u3 x3_1 y477 [.slice (some ad475) y477.length co19] (fun k_ => (w.heap.size ≤ k_) ∧ k_ ≠ gb471) (fun k_ => ((fun k_ => (w.heap.size ≤ k_) ∧ k_ ≠ gb471)) k_ ∧ some k_ ≠ (u3 : Value).ownBlock) rfl rfl ?aP (fun _ hk => hk) ?aF ?aO ?aB ?aS ?aL ?_; (case aP => exact (Kd.FK_slice_mk (Kd.V_reads' (Kd.V_mono (ok' := (fun k_ => ((fun k_ => (w.heap.size ≤ k_) ∧ k_ ≠ gb471)) k_ ∧ some k_ ≠ (u3 : Value).ownBlock)) (HO481.out) (fun k_ hk => ⟨⟨hk.1.1, hk.2⟩, hk.1.2⟩))).2.1 (Kd.V_F (Kd.V_mono (ok' := (fun k_ => ((fun k_ => (w.heap.size ≤ k_) ∧ k_ ≠ gb471)) k_ ∧ some k_ ≠ (u3 : Value).ownBlock)) (HO481.out) (fun k_ hk => ⟨⟨hk.1.1, hk.2⟩, hk.1.2⟩))))); (case aB => exact zb); (case aF => exact (fun k_ hk => ⟨(Nat.le_trans (below_size zb) hk), Kd.freshB (g := gb471) (o := .cells #[.slice A470_0 ((rd_T38 l0 x12_1).f0).length c470_0, .bool ((rd_T38 l0 x12_1).f1)] 38 (0, 0)) (by exact BK471.out) k_ hk⟩)); (case aO => exact (by (with_reducible repeat (first | apply Kd.N_alloc | apply Kd.N_drewN | apply Kd.N_drew)); exact Kd.N_mono HO_3.out (fun _ hk => ⟨hk.1, hk.2.2⟩))); (case aS => exact (below_size zb)); (case aL => have := LMc29.out; omega); intro v483 w32 ho hb hg hat; rw [← Ny482.out] at ho; have n0_ := Aside0.mk (Kd.R_over' (zRa HO_4) (Kd.N_typed (zNa HO_3)) (by decide) hg); have n1_ := Aside0.mk (blk_grown (g := gb471) (o := .cells #[.slice A470_0 ((rd_T38 l0 x12_1).f0).length c470_0, .bool ((rd_T38 l0 x12_1).f1)] 38 (0, 0)) (by exact BK471.out) hg (Kd.N_ne HO_3.out BK471.out (by decide))); have n2_ := Aside0.mk (Kd.V_afterv (ok := (fun k_ => (w.heap.size ≤ k_) ∧ k_ ≠ gb471)) (by (with_reducible repeat (first | apply Kd.V_alloc | apply Kd.V_drewN | apply Kd.V_drew)); exact Kd.V_mono HO481.out (fun _ hk => ⟨⟨hk.1.1, hk.2⟩, hk.1.2⟩)) hg hat); have n3_ := Aside0.mk (hb); have n4_ := Aside0.mk (ho); clear HO_4; clear BK471; clear HO481; clear HB; clear HO_3; have HO_4 := n0_; have BK471 := n1_; have HO481 := n2_; have HB := n3_; have HO484 := n4_; clear n0_ n1_ n2_ n3_ n4_; clear ho hb hg hat) | ((with_reducible refine gate_dst (N := 50) rfl ?_); (try (refine gate_guard (by rfl) ?_; dsimp only)); refine Kd.R_lit k60 _ 60 ?hg (N := 50) ?hd (xs := ([] : List (S60))) (inner := []) (ok := fun _ => True) (okp := fun _ => True) ?hr ?hp (fun _ hk => hk) trivial (Below.refl _ _) (Nat.le_refl _) (by simp) ?_; (case hd => rfl); (case hg => rfl); (case hr => exact zo); (case hp => exact (Reps.none _ _)); intro v486 w33 ho34 hb hg_ hnew_; clear hg_ hnew_; (first | rw [← Ny485.out] at ho34 | (simp only [Int.reduceToNat] at ho34; rw [← Ny485.out] at ho34)); have n0_ := Aside0.mk (Kd.R_elder' (zRa HO_4) (Kd.R_base ho34) hb); have n1_ := Aside0.mk (Kd.V_elder' (by (with_reducible repeat (first | apply Kd.V_alloc | apply Kd.V_drewN | apply Kd.V_drew)); exact HO481.out) (Kd.R_base ho34) hb); have n2_ := Aside0.mk (Kd.N_elder' (zNa HO484) (Kd.R_base ho34) hb); have n3_ := Aside0.mk (Kd.R_lower (Kd.R_new' (Kd.R_newM (M := fun k_ => (w.heap.size ≤ k_)) ho34 (below_size zb) (fun k_ h_ => h_)) (Kd.R_lt (zRa HO_4))) (below_size zb)); have n4_ := (zk BK471 hb); have n5_ := (zs HB hb); clear HO_4; clear HO481; clear HO484; clear BK471; clear HB; have HO_4 := n0_; have HO481 := n1_; have HO484 := n2_; have HO487 := n3_; have BK471 := n4_; have HB := n5_; clear n0_ n1_ n2_ n3_ n4_ n5_; clear hb ho34))
                   go_roundg k3
                   case measure => have := HK1.out; have := HJ9.out; have := HK3.out; omega
                   case rel => exact ⟨(y482), (y485), (wrap64 (x12_1 + 1)), zf, H', ⟨by have := HK1.out; have := HJ9.out; have := HK3.out; omega⟩, ⟨by (with_reducible repeat (first | apply Kd.N_alloc | apply Kd.N_drewN | apply Kd.N_drew)); exact Kd.N_mono HO484.out (fun _ hk => ⟨hk.1.1, hk.2⟩)⟩, ⟨by (with_reducible repeat (first | apply Kd.R_alloc | apply Kd.R_drewN | apply Kd.R_drew)); exact Kd.R_mono HO487.out (fun _ hk => hk.1.1)⟩, ⟨zb⟩⟩
                  ·rw [if_neg c29] at H
                   exact absurd H (by simp)
                 ·rw [if_neg c28] at H
                  exact absurd H (by simp)
                ·rw [if_neg c27] at H
                 exact absurd H (by simp)
              ·rw [if_neg c23] at H
               exact absurd H (by simp)
             ·rw [if_neg c22] at H
              exact absurd H (by simp)
            ·rw [if_neg c20] at H
             have c20b0 : decide (0 < x7_3) = false := decide_eq_false c20
             clear c20
             by_cases c35 : 0 ≤ x7_3
             ·rw [if_pos c35] at H
              have c35b0 := eq_true c35
              have c35b1 : decide (0 ≤ x7_3) = true := decide_eq_true c35
              clear c35
              by_cases c36 : x7_3 ≤ (y472.length : Int)
              ·rw [if_pos c36] at H
               have c36b0 := eq_true c36
               have c36b1 : decide (x7_3 ≤ (y472.length : Int)) = true := decide_eq_true c36
               clear c36
               obtain ⟨y488, hy488⟩ : ∃ y_ : List (S60), y_ = (y472.take (x7_3 : Int).toNat) := ⟨_, rfl⟩
               replace H : (if x3_1.length < 5864062014805 then (backseatref08_Join.l0 k3 l0 (x3_1 ++ [y488]) (([] : List (S60))) l0 (l0.length : Int) (wrap64 (x12_1 + 1))) else (none)) = some r := by first | (rw [hy488]; with_reducible exact H) | (have H2_ := (Option.bind_some _ _).symm.trans H; rw [hy488]; with_reducible exact H2_) | (have H2_ := (Option.bind_some _ _).symm.trans H; with_reducible exact H2_) | with_reducible exact H | (rw [hy488]; exact H) | exact H
               have Ny488 := Aside0.mk hy488
               clear hy488
               by_cases c37 : x3_1.length < 5864062014805
               ·rw [if_pos c37] at H
                have LMc37 := Aside0.mk c37
                clear c37
                obtain ⟨y493, hy493⟩ : ∃ y_ : List (List (S60)), y_ = (x3_1 ++ [y488]) := ⟨_, rfl⟩
                replace H : (backseatref08_Join.l0 k3 l0 y493 (([] : List (S60))) l0 (l0.length : Int) (wrap64 (x12_1 + 1))) = some r := by first | (rw [hy493]; with_reducible exact H) | (have H2_ := (Option.bind_some _ _).symm.trans H; rw [hy493]; with_reducible exact H2_) | (have H2_ := (Option.bind_some _ _).symm.trans H; with_reducible exact H2_) | with_reducible exact H | (rw [hy493]; exact H) | exact H
                have Ny493 := Aside0.mk hy493
                clear hy493
                obtain ⟨y496, hy496⟩ : ∃ y_ : List (S60), y_ = (([] : List (S60))) := ⟨_, rfl⟩
                replace H : (backseatref08_Join.l0 k3 l0 y493 y496 l0 (l0.length : Int) (wrap64 (x12_1 + 1))) = some r := by first | (rw [hy496]; with_reducible exact H) | (have H2_ := (Option.bind_some _ _).symm.trans H; rw [hy496]; with_reducible exact H2_) | (have H2_ := (Option.bind_some _ _).symm.trans H; with_reducible exact H2_) | with_reducible exact H | (rw [hy496]; exact H) | exact H
                have Ny496 := Aside0.mk hy496
                clear hy496
                have H' := Aside0.mk H
                clear H
                have q38 : (x7_3 : Int) ≤ ((y472.length : Int) : Int) := of_decide_eq_true za
                obtain ⟨i038, hi038, _, hsz38, _⟩ := info_parts info60
                have hroom38 : y472.length ≤ co19 := (Kd.R_reads' HO_4.out).2.1
                have hC38 : Kd.F k60 _ _ Ao19 y472.length y472 := (Kd.V_at (base := w.heap.size) (Kd.R_V (Kd.R_types (Kd.R_apart' (HO_4.out) (Kd.N_typed HO_3.out) (by decide)) BK471.out (by decide)))).2.2
                have hcut38 := cut_to (P := Tryd.prog) 36 60 .i64 Tryd.underlying36 hi038 Ao19 y472.length co19 x7_3 (of_decide_eq_true za) q38 hroom38
                have hr38 := Kd.F_take (m := (x7_3 : Int).toNat) hC38 (by omega)
                have hy38 : y488.length = (x7_3 : Int).toNat := (by rw [Ny488.out, List.length_take]; omega)
                rw [← Ny488.out] at hr38
                rw [← hy38] at hcut38
                have HO492 := Aside0.mk (show Kd.V k60 60 _ w.heap.size _ (.slice Ao19 y488.length co19) y488 from Kd.V_mk (by omega) hr38)
                have HC492 := Aside0.mk (show y488.length ≤ co19 from by omega)
                clear hr38 hC38 hroom38 hi038 hsz38
                have KY38 := Aside0.mk hy38
                clear hy38
                replace q38 := eq_true q38
                go_wp2_with (first | ((with_reducible refine gate_builtin (b := .append) (xs := #[.tmp 44, .tmp 48]) rfl ?_); (try (refine gate_guard (by rfl) ?_; dsimp only)); at_builtin; refine Kd.N_append (Kd.slice 60 k60) (w0 := w) w.heap.size rfl (.tmp 44) (.tmp 48) 39 36 (.slice none 0 0) 24 rfl Tryd.underlying39 info36 rfl (by decide) (by omega) u3 x3_1 y488 [.slice Ao19 y488.length co19] (fun k_ => (w.heap.size ≤ k_) ∧ k_ ≠ gb471) (fun k_ => ((fun k_ => (w.heap.size ≤ k_) ∧ k_ ≠ gb471)) k_ ∧ some k_ ≠ (u3 : Value).ownBlock) rfl rfl ?aP (fun _ hk => hk) ?aF ?aO ?aB ?aS ?aL ?_; (case aP => exact (Kd.FK_slice_mk (Kd.V_reads' (Kd.V_mono (ok' := (fun k_ => ((fun k_ => (w.heap.size ≤ k_) ∧ k_ ≠ gb471)) k_ ∧ some k_ ≠ (u3 : Value).ownBlock)) (HO492.out) (fun k_ hk => ⟨⟨hk.1.1, hk.2⟩, hk.1.2⟩))).2.1 (Kd.V_F (Kd.V_mono (ok' := (fun k_ => ((fun k_ => (w.heap.size ≤ k_) ∧ k_ ≠ gb471)) k_ ∧ some k_ ≠ (u3 : Value).ownBlock)) (HO492.out) (fun k_ hk => ⟨⟨hk.1.1, hk.2⟩, hk.1.2⟩))))); (case aB => exact zb); (case aF => exact (fun k_ hk => ⟨(Nat.le_trans (below_size zb) hk), Kd.freshB (g := gb471) (o := .cells #[.slice A470_0 ((rd_T38 l0 x12_1).f0).length c470_0, .bool ((rd_T38 l0 x12_1).f1)] 38 (0, 0)) (by exact BK471.out) k_ hk⟩)); (case aO => exact (by (with_reducible repeat (first | apply Kd.N_alloc | apply Kd.N_drewN | apply Kd.N_drew)); exact Kd.N_mono HO_3.out (fun _ hk => ⟨hk.1, hk.2.2⟩))); (case aS => exact (below_size zb)); (case aL => have := LMc37.out; omega); intro v494 w39 ho hb hg hat; rw [← Ny493.out] at ho; have n0_ := Aside0.mk (Kd.R_over' (zRa HO_4) (Kd.N_typed (zNa HO_3)) (by decide) hg); have n1_ := Aside0.mk (blk_grown (g := gb471) (o := .cells #[.slice A470_0 ((rd_T38 l0 x12_1).f0).length c470_0, .bool ((rd_T38 l0 x12_1).f1)] 38 (0, 0)) (by exact BK471.out) hg (Kd.N_ne HO_3.out BK471.out (by decide))); have n2_ := Aside0.mk (Kd.V_afterv (ok := (fun k_ => (w.heap.size ≤ k_) ∧ k_ ≠ gb471)) (by (with_reducible repeat (first | apply Kd.V_alloc | apply Kd.V_drewN | apply Kd.V_drew)); exact Kd.V_mono HO492.out (fun _ hk => ⟨⟨hk.1.1, hk.2⟩, hk.1.2⟩)) hg hat); have n3_ := Aside0.mk (hb); have n4_ := Aside0.mk (ho); clear HO_4; clear BK471; clear HO492; clear HB; clear HO_3; have HO_4 := n0_; have BK471 := n1_; have HO492 := n2_; have HB := n3_; have HO495 := n4_; clear n0_ n1_ n2_ n3_ n4_; clear ho hb hg hat) | ((with_reducible refine gate_dst (N := 50) rfl ?_); (try (refine gate_guard (by rfl) ?_; dsimp only)); refine Kd.R_lit k60 _ 60 ?hg (N := 50) ?hd (xs := ([] : List (S60))) (inner := []) (ok := fun _ => True) (okp := fun _ => True) ?hr ?hp (fun _ hk => hk) trivial (Below.refl _ _) (Nat.le_refl _) (by simp) ?_; (case hd => rfl); (case hg => rfl); (case hr => exact zo); (case hp => exact (Reps.none _ _)); intro v497 w40 ho41 hb hg_ hnew_; clear hg_ hnew_; (first | rw [← Ny496.out] at ho41 | (simp only [Int.reduceToNat] at ho41; rw [← Ny496.out] at ho41)); have n0_ := Aside0.mk (Kd.R_elder' (zRa HO_4) (Kd.R_base ho41) hb); have n1_ := Aside0.mk (Kd.V_elder' (by (with_reducible repeat (first | apply Kd.V_alloc | apply Kd.V_drewN | apply Kd.V_drew)); exact HO492.out) (Kd.R_base ho41) hb); have n2_ := Aside0.mk (Kd.N_elder' (zNa HO495) (Kd.R_base ho41) hb); have n3_ := Aside0.mk (Kd.R_lower (Kd.R_new' (Kd.R_newM (M := fun k_ => (w.heap.size ≤ k_)) ho41 (below_size zb) (fun k_ h_ => h_)) (Kd.R_lt (zRa HO_4))) (below_size zb)); have n4_ := (zk BK471 hb); have n5_ := (zs HB hb); clear HO_4; clear HO492; clear HO495; clear BK471; clear HB; have HO_4 := n0_; have HO492 := n1_; have HO495 := n2_; have HO498 := n3_; have BK471 := n4_; have HB := n5_; clear n0_ n1_ n2_ n3_ n4_ n5_; clear hb ho41))
                go_roundg k3
                case measure => have := HK1.out; have := HJ9.out; have := HK3.out; omega
                case rel => exact ⟨(y493), (y496), (wrap64 (x12_1 + 1)), zf, H', ⟨by have := HK1.out; have := HJ9.out; have := HK3.out; omega⟩, ⟨by (with_reducible repeat (first | apply Kd.N_alloc | apply Kd.N_drewN | apply Kd.N_drew)); exact Kd.N_mono HO495.out (fun _ hk => ⟨hk.1.1, hk.2⟩)⟩, ⟨by (with_reducible repeat (first | apply Kd.R_alloc | apply Kd.R_drewN | apply Kd.R_drew)); exact Kd.R_mono HO498.out (fun _ hk => hk.1.1)⟩, ⟨zb⟩⟩
               ·rw [if_neg c37] at H
                exact absurd H (by simp)
              ·rw [if_neg c36] at H
               exact absurd H (by simp)
             ·rw [if_neg c35] at H
              exact absurd H (by simp)
      ·rw [if_neg c9] at H
       exact absurd H (by simp)
     ·rw [if_neg c8] at H
      exact absurd H (by simp)
    ·rw [if_neg c7] at H
     exact absurd H (by simp)
   ·rw [if_neg c6] at H
    have c6b0 : decide (x12_1 < (l0.length : Int)) = false := decide_eq_false c6
    clear c6
    obtain rfl := Option.some.inj H
    go_wp2
    go_ret
    exact ⟨_, ze, by (with_reducible repeat (first | apply Kd.N_alloc | apply Kd.N_drewN | apply Kd.N_drew)); exact Kd.N_mono HO_3.out (fun _ hk => hk.1), zb⟩
def backseatref08_Say.l0 : Nat → ByteArray → List (S60) → Int → Int → Option (ByteArray)
 | 0, _, _, _, _ => none
 | k + 1, x3, x6, x7, x8 => if x8 < x7 then (if 0 ≤ x8 then (if x8 < (x6.length : Int) then (if ((rd_T60 x6 x8).f0).toList = ([] : List UInt8) then (if ((rd_T60 x6 x8).f1) = 1 then (if x3.size + 1 ≤ 9223372036854775807 then (if (x3 ++ (⟨#[32]⟩ : ByteArray)).size + ((rd_T60 x6 x8).f0).size ≤ 9223372036854775807 then (backseatref08_Say.l0 k ((x3 ++ (⟨#[32]⟩ : ByteArray)) ++ ((rd_T60 x6 x8).f0)) x6 x7 (wrap64 (x8 + 1))) else (none)) else (none)) else (if x3.size + ((rd_T60 x6 x8).f0).size ≤ 9223372036854775807 then (backseatref08_Say.l0 k (x3 ++ ((rd_T60 x6 x8).f0)) x6 x7 (wrap64 (x8 + 1))) else (none))) else (if x3.size + ((rd_T60 x6 x8).f0).size ≤ 9223372036854775807 then (backseatref08_Say.l0 k (x3 ++ ((rd_T60 x6 x8).f0)) x6 x7 (wrap64 (x8 + 1))) else (none))) else (none)) else (none)) else (some x3)
def backseatref08_Say.f (k : Nat) (l0 : List (S60)) : Option (ByteArray) := backseatref08_Say.l0 k (⟨#[]⟩ : ByteArray) l0 (l0.length : Int) 0
set_option maxHeartbeats 8000000 in
set_option maxRecDepth 100000 in
theorem backseatref08_Say.calls (k : Nat) (A0 : Option Addr) (c0 : Nat) (l0 : List (S60)) (r : ByteArray) (w : World) (hr0 : Kd.C k60 w A0 l0.length l0) (hc0 : l0.length ≤ c0) (h : backseatref08_Say.f k l0 = some r) :
  Calls Tryd.prog 23 #[.slice A0 l0.length c0] w fun e w' => e = .returned (.string r) ∧ Below w.heap.size w w' := by
 have hu60 := Tryd.underlying60
 have HR0 := Aside0.mk hr0
 have HC0 := Aside0.mk hc0
 clear hr0 hc0
 have HB := Aside0.mk (Below.refl w.heap.size w)
 have H : (backseatref08_Say.l0 k (⟨#[]⟩ : ByteArray) l0 (l0.length : Int) 0) = some r := h
 clear h
 have H' := Aside0.mk H
 clear H
 go_enter Tryd.func23, Tryd.ntmps23
 go_wp2
 go_loopg [3, 8] k (fun kq v3 v8 w' => ∃ (x3_1 : ByteArray) (x8_1 : Int), v3 = .string x3_1 ∧ v8 = .int .i64 x8_1 ∧ Aside0 (backseatref08_Say.l0 kq x3_1 l0 (l0.length : Int) x8_1 = some r) ∧ Aside0 (kq ≤ k) ∧ Aside0 (Below w.heap.size w w'))
 case atStart => exact ⟨((⟨#[]⟩ : ByteArray)), (0), zf, zf, H', ⟨Nat.le_refl _⟩, ⟨zb⟩⟩
 case round =>
  clear H'
  obtain ⟨x3_1, x8_1, rfl, rfl, HA, HK1, HB⟩ := hrel
  cases gk with
  | zero => exact absurd HA.out (by simp [backseatref08_Say.l0])
  | succ k1 =>
   have H := HA.out
   clear HA
   simp only [backseatref08_Say.l0] at H
   by_cases c2 : x8_1 < (l0.length : Int)
   ·rw [if_pos c2] at H
    have c2b0 : decide (x8_1 < (l0.length : Int)) = true := decide_eq_true c2
    clear c2
    by_cases c3 : 0 ≤ x8_1
    ·rw [if_pos c3] at H
     have c3b0 : decide (0 ≤ x8_1) = true := decide_eq_true c3
     clear c3
     by_cases c4 : x8_1 < (l0.length : Int)
     ·rw [if_pos c4] at H
      have c4b0 : decide (x8_1 < (l0.length : Int)) = true := decide_eq_true c4
      clear c4
      by_cases c5 : ((rd_T60 l0 x8_1).f0).toList = ([] : List UInt8)
      ·rw [if_pos c5] at H
       have c5b0 : (((rd_T60 l0 x8_1).f0).toList == ([] : List UInt8)) = true := beq_iff_eq.mpr c5
       have c5b1 : (((rd_T60 l0 x8_1).f0).toList != ([] : List UInt8)) = false := bne_eq_false_iff_eq.mpr c5
       clear c5
       by_cases c6 : ((rd_T60 l0 x8_1).f1) = 1
       ·rw [if_pos c6] at H
        have c6b0 : (((rd_T60 l0 x8_1).f1) == 1) = true := beq_iff_eq.mpr c6
        have c6b1 : (((rd_T60 l0 x8_1).f1) != 1) = false := bne_eq_false_iff_eq.mpr c6
        clear c6
        by_cases c7 : x3_1.size + 1 ≤ 9223372036854775807
        ·rw [if_pos c7] at H
         have c7b0 := eq_true c7
         have c7b1 : decide (x3_1.size + 1 ≤ 9223372036854775807) = true := decide_eq_true c7
         try have c7b2 : (9223372036854775807 < x3_1.size + 1) = False := eq_false (Nat.not_lt.2 c7)
         by_cases c8 : (x3_1 ++ (⟨#[32]⟩ : ByteArray)).size + ((rd_T60 l0 x8_1).f0).size ≤ 9223372036854775807
         ·rw [if_pos c8] at H
          have c8b0 := eq_true c8
          have c8b1 : decide ((x3_1 ++ (⟨#[32]⟩ : ByteArray)).size + ((rd_T60 l0 x8_1).f0).size ≤ 9223372036854775807) = true := decide_eq_true c8
          try have c8b2 : (9223372036854775807 < (x3_1 ++ (⟨#[32]⟩ : ByteArray)).size + ((rd_T60 l0 x8_1).f0).size) = False := eq_false (Nat.not_lt.2 c8)
          have c8s := c8
          try simp only [ByteArray.size_append, show ((⟨#[32]⟩ : ByteArray)).size = 1 from rfl] at c8s
          have c8s0 := eq_true c8s
          have c8s1 := decide_eq_true c8s
          have c8s2 := eq_false (Nat.not_lt.2 c8s)
          have H' := Aside0.mk H
          clear H
          have p254 : 0 ≤ (x8_1 : Int) := of_decide_eq_true za
          have q254 : x8_1 < (l0.length : Int) := of_decide_eq_true za
          obtain ⟨ad254, e254, hx254_0, hx254_1, hx254_2, hx254_3, hx254_4⟩ := at_T60 HR0.out x8_1 p254 q254
          cases e254
          replace hx254_0 := zc HB hx254_0
          replace hx254_1 := zc HB hx254_1
          replace hx254_2 := zc HB hx254_2
          replace hx254_3 := zc HB hx254_3
          replace hx254_4 := zc HB hx254_4
          replace p254 := eq_true p254
          replace q254 := eq_true q254
          go_wp2_with (first | ((with_reducible refine gate_dst (N := 5) rfl ?_); refine box_event ?hg (N := 5) ?hd (cs := #[.string (⟨#[]⟩ : ByteArray), .int .i64 0, .int .i64 0, .int .i64 0, .int .i64 0]) (t := 60) ?hr ?_; (case hd => rfl); (case hg => rfl); (case hr => exact zo); intro gb255 hg w9 hbox hb; have BK255 := Aside0.mk (hbox); have GW255 := Aside0.mk ((zg hg : w.heap.size ≤ gb255)); have GE255 := Aside0.mk ((zg hg : w.heap.size ≤ gb255)); replace HB := (zs HB hb); clear hb hbox hg; obtain ⟨hcz10_0, hcz10_1, hcz10_2, hcz10_3, hcz10_4, hfz10_0, hfz10_1, hfz10_2, hfz10_3, hfz10_4⟩ := zq5 (w := w9) BK255))
          go_roundg k1
          case measure => have := HK1.out; omega
          case rel => exact ⟨((x3_1 ++ (⟨#[32]⟩ : ByteArray)) ++ ((rd_T60 l0 x8_1).f0)), (wrap64 (x8_1 + 1)), zf, zf, H', ⟨by have := HK1.out; omega⟩, ⟨zb⟩⟩
         ·rw [if_neg c8] at H
          exact absurd H (by simp)
        ·rw [if_neg c7] at H
         exact absurd H (by simp)
       ·rw [if_neg c6] at H
        have c6b0 : (((rd_T60 l0 x8_1).f1) == 1) = false := beq_eq_false_iff_ne.mpr c6
        have c6b1 : (((rd_T60 l0 x8_1).f1) != 1) = true := bne_iff_ne.mpr c6
        by_cases c11 : x3_1.size + ((rd_T60 l0 x8_1).f0).size ≤ 9223372036854775807
        ·rw [if_pos c11] at H
         have c11b0 := eq_true c11
         have c11b1 : decide (x3_1.size + ((rd_T60 l0 x8_1).f0).size ≤ 9223372036854775807) = true := decide_eq_true c11
         try have c11b2 : (9223372036854775807 < x3_1.size + ((rd_T60 l0 x8_1).f0).size) = False := eq_false (Nat.not_lt.2 c11)
         have H' := Aside0.mk H
         clear H
         have p254 : 0 ≤ (x8_1 : Int) := of_decide_eq_true za
         have q254 : x8_1 < (l0.length : Int) := of_decide_eq_true za
         obtain ⟨ad254, e254, hx254_0, hx254_1, hx254_2, hx254_3, hx254_4⟩ := at_T60 HR0.out x8_1 p254 q254
         cases e254
         replace hx254_0 := zc HB hx254_0
         replace hx254_1 := zc HB hx254_1
         replace hx254_2 := zc HB hx254_2
         replace hx254_3 := zc HB hx254_3
         replace hx254_4 := zc HB hx254_4
         replace p254 := eq_true p254
         replace q254 := eq_true q254
         go_wp2_with (first | ((with_reducible refine gate_dst (N := 5) rfl ?_); refine box_event ?hg (N := 5) ?hd (cs := #[.string (⟨#[]⟩ : ByteArray), .int .i64 0, .int .i64 0, .int .i64 0, .int .i64 0]) (t := 60) ?hr ?_; (case hd => rfl); (case hg => rfl); (case hr => exact zo); intro gb255 hg w12 hbox hb; have BK255 := Aside0.mk (hbox); have GW255 := Aside0.mk ((zg hg : w.heap.size ≤ gb255)); have GE255 := Aside0.mk ((zg hg : w.heap.size ≤ gb255)); replace HB := (zs HB hb); clear hb hbox hg; obtain ⟨hcz13_0, hcz13_1, hcz13_2, hcz13_3, hcz13_4, hfz13_0, hfz13_1, hfz13_2, hfz13_3, hfz13_4⟩ := zq5 (w := w12) BK255))
         go_roundg k1
         case measure => have := HK1.out; omega
         case rel => exact ⟨(x3_1 ++ ((rd_T60 l0 x8_1).f0)), (wrap64 (x8_1 + 1)), zf, zf, H', ⟨by have := HK1.out; omega⟩, ⟨zb⟩⟩
        ·rw [if_neg c11] at H
         exact absurd H (by simp)
      ·rw [if_neg c5] at H
       have c5b0 : (((rd_T60 l0 x8_1).f0).toList == ([] : List UInt8)) = false := beq_eq_false_iff_ne.mpr c5
       have c5b1 : (((rd_T60 l0 x8_1).f0).toList != ([] : List UInt8)) = true := bne_iff_ne.mpr c5
       by_cases c14 : x3_1.size + ((rd_T60 l0 x8_1).f0).size ≤ 9223372036854775807
       ·rw [if_pos c14] at H
        have c14b0 := eq_true c14
        have c14b1 : decide (x3_1.size + ((rd_T60 l0 x8_1).f0).size ≤ 9223372036854775807) = true := decide_eq_true c14
        try have c14b2 : (9223372036854775807 < x3_1.size + ((rd_T60 l0 x8_1).f0).size) = False := eq_false (Nat.not_lt.2 c14)
        have H' := Aside0.mk H
        clear H
        have p254 : 0 ≤ (x8_1 : Int) := of_decide_eq_true za
        have q254 : x8_1 < (l0.length : Int) := of_decide_eq_true za
        obtain ⟨ad254, e254, hx254_0, hx254_1, hx254_2, hx254_3, hx254_4⟩ := at_T60 HR0.out x8_1 p254 q254
        cases e254
        replace hx254_0 := zc HB hx254_0
        replace hx254_1 := zc HB hx254_1
        replace hx254_2 := zc HB hx254_2
        replace hx254_3 := zc HB hx254_3
        replace hx254_4 := zc HB hx254_4
        replace p254 := eq_true p254
        replace q254 := eq_true q254
        go_wp2_with (first | ((with_reducible refine gate_dst (N := 5) rfl ?_); refine box_event ?hg (N := 5) ?hd (cs := #[.string (⟨#[]⟩ : ByteArray), .int .i64 0, .int .i64 0, .int .i64 0, .int .i64 0]) (t := 60) ?hr ?_; (case hd => rfl); (case hg => rfl); (case hr => exact zo); intro gb255 hg w15 hbox hb; have BK255 := Aside0.mk (hbox); have GW255 := Aside0.mk ((zg hg : w.heap.size ≤ gb255)); have GE255 := Aside0.mk ((zg hg : w.heap.size ≤ gb255)); replace HB := (zs HB hb); clear hb hbox hg; obtain ⟨hcz16_0, hcz16_1, hcz16_2, hcz16_3, hcz16_4, hfz16_0, hfz16_1, hfz16_2, hfz16_3, hfz16_4⟩ := zq5 (w := w15) BK255))
        go_roundg k1
        case measure => have := HK1.out; omega
        case rel => exact ⟨(x3_1 ++ ((rd_T60 l0 x8_1).f0)), (wrap64 (x8_1 + 1)), zf, zf, H', ⟨by have := HK1.out; omega⟩, ⟨zb⟩⟩
       ·rw [if_neg c14] at H
        exact absurd H (by simp)
     ·rw [if_neg c4] at H
      exact absurd H (by simp)
    ·rw [if_neg c3] at H
     exact absurd H (by simp)
   ·rw [if_neg c2] at H
    have c2b0 : decide (x8_1 < (l0.length : Int)) = false := decide_eq_false c2
    clear c2
    obtain rfl := Option.some.inj H
    go_wp2
    go_ret
    exact ⟨ze, zb⟩
end Go.Proofs.YtckkdaehmccjlaaDoor.P
namespace Go.Proofs.YtckkdaehmccjlaaDoor.P
open Go.RowKit Go.Proofs.YtckkdaehmccjlaaDoorW.PrintWords Go.Proofs.YtckkdaehmccjlaaDoorW.PrintLast Go.Proofs.YtckkdaehmccjlaaDoorW.PrintMore
attribute [local go_sem] max2_int min2_int max_two min_two max_three min_three max_four min_four   -- for this text's walks alone
set_option linter.unusedVariables false
set_option linter.unusedSimpArgs false
attribute [local go_sem high] eqA60
mutual
def backseatref06_SameLine.j0 : Nat → Bool → List (S60) → Bool → List (S60) → Bool → Option (Bool)
 | 0, _, _, _, _, _ => none
 | k + 1, x19, x500000, x500001, x501000, x501001 => if x19 = true then (some false) else (backseatref06_SameLine.l0 k (x500000.length : Int) 0 x500000 x500001 x501000 x501001)
def backseatref06_SameLine.l0 : Nat → Int → Int → List (S60) → Bool → List (S60) → Bool → Option (Bool)
 | 0, _, _, _, _, _, _ => none
 | k + 1, x22, x23, x500000, x500001, x501000, x501001 => if x23 < x22 then (if 0 ≤ x23 then (if x23 < (x500000.length : Int) then (if x23 < (x501000.length : Int) then (if (!((((rd_T60 x500000 x23).f0).toList) == (((rd_T60 x501000 x23).f0).toList)) || (!(((rd_T60 x500000 x23).f1) == ((rd_T60 x501000 x23).f1)) || ((!(((rd_T60 x500000 x23).f2.f0) == ((rd_T60 x501000 x23).f2.f0)) || (!(((rd_T60 x500000 x23).f2.f1) == ((rd_T60 x501000 x23).f2.f1)) || (!(((rd_T60 x500000 x23).f2.f2) == ((rd_T60 x501000 x23).f2.f2)))))))) = true then (some false) else (backseatref06_SameLine.l0 k x22 (wrap64 (x23 + 1)) x500000 x500001 x501000 x501001)) else (none)) else (none)) else (none)) else (some true)
end
def backseatref06_SameLine.f (k : Nat) (l0_0 : List (S60)) (a0_1 : Bool) (l1_0 : List (S60)) (a1_1 : Bool) : Option (Bool) := if (l0_0.length : Int) = (l1_0.length : Int) then (backseatref06_SameLine.j0 k (a0_1 != a1_1) l0_0 a0_1 l1_0 a1_1) else (backseatref06_SameLine.j0 k true l0_0 a0_1 l1_0 a1_1)
set_option maxHeartbeats 8000000 in
set_option maxRecDepth 100000 in
theorem backseatref06_SameLine.calls (k : Nat) (A0_0 : Option Addr) (c0_0 : Nat) (l0_0 : List (S60)) (a0_1 : Bool) (A1_0 : Option Addr) (c1_0 : Nat) (l1_0 : List (S60)) (a1_1 : Bool) (r : Bool) (w : World) (hr0_0 : Kd.C k60 w A0_0 l0_0.length l0_0) (hc0_0 : l0_0.length ≤ c0_0) (hr1_0 : Kd.C k60 w A1_0 l1_0.length l1_0) (hc1_0 : l1_0.length ≤ c1_0) (h : backseatref06_SameLine.f k l0_0 a0_1 l1_0 a1_1 = some r) :
  Calls Tryd.prog 50 #[.agg #[.slice A0_0 l0_0.length c0_0, .bool a0_1], .agg #[.slice A1_0 l1_0.length c1_0, .bool a1_1]] w fun e w' => e = .returned (.bool r) ∧ Below w.heap.size w w' := by
 have hu38 := Tryd.underlying38
 have hu60 := Tryd.underlying60
 have HR0_0 := Aside0.mk hr0_0
 have HC0_0 := Aside0.mk hc0_0
 clear hr0_0 hc0_0
 have HR1_0 := Aside0.mk hr1_0
 have HC1_0 := Aside0.mk hc1_0
 clear hr1_0 hc1_0
 have HB := Aside0.mk (Below.refl w.heap.size w)
 have H : (if (l0_0.length : Int) = (l1_0.length : Int) then (backseatref06_SameLine.j0 k (a0_1 != a1_1) l0_0 a0_1 l1_0 a1_1) else (backseatref06_SameLine.j0 k true l0_0 a0_1 l1_0 a1_1)) = some r := h
 clear h
 have HC3 := Aside0.mk H
 clear H
 go_enter Tryd.func50, Tryd.ntmps50
 go_upto_region 1 with (first | ((with_reducible refine gate_dst (N := 2) rfl ?_); refine box_event ?hg (N := 2) ?hd (cs := #[.slice A0_0 l0_0.length c0_0, .bool a0_1]) (t := 38) ?hr ?_; (case hd => rfl); (case hg => rfl); (case hr => exact zo); intro gb499 hg w4 hbox hb; have BK499 := Aside0.mk (hbox); have GW499 := Aside0.mk ((zg hg : w.heap.size ≤ gb499)); have GE499 := Aside0.mk ((zg hg : w.heap.size ≤ gb499)); replace HB := (zs HB hb); clear hb hbox hg) | ((with_reducible refine gate_dst (N := 3) rfl ?_); refine box_event ?hg (N := 3) ?hd (cs := #[.slice A1_0 l1_0.length c1_0, .bool a1_1]) (t := 38) ?hr ?_; (case hd => rfl); (case hg => rfl); (case hr => exact zo); intro gb500 hg w5 hbox hb; have n0_ := (zk BK499 hb); have n1_ := (zs HB hb); have n2_ := Aside0.mk (hbox); have n3_ := Aside0.mk ((zg hg : w.heap.size ≤ gb500)); have n4_ := Aside0.mk ((zg hg : w.heap.size ≤ gb500)); have n5_ := Aside0.mk ((by rw [hg]; exact Nat.ne_of_lt (blk_lt (g := gb499) (o := .cells #[.slice A0_0 l0_0.length c0_0, .bool a0_1] 38 (0, 0)) (by exact BK499.out)) : gb499 ≠ gb500)); have n6_ := Aside0.mk ((by rw [hg]; exact Nat.ne_of_gt (blk_lt (g := gb499) (o := .cells #[.slice A0_0 l0_0.length c0_0, .bool a0_1] 38 (0, 0)) (by exact BK499.out)) : gb500 ≠ gb499)); clear BK499; clear HB; have BK499 := n0_; have HB := n1_; have BK500 := n2_; have GW500 := n3_; have GE500 := n4_; have NB499_500 := n5_; have NB500_499 := n6_; clear n0_ n1_ n2_ n3_ n4_ n5_ n6_; clear hb hbox hg))
 repeat (go_quiet (first | ((with_reducible refine gate_dst (N := 2) rfl ?_); refine box_event ?hg (N := 2) ?hd (cs := #[.slice A0_0 l0_0.length c0_0, .bool a0_1]) (t := 38) ?hr ?_; (case hd => rfl); (case hg => rfl); (case hr => exact zo); intro gb499 hg w4 hbox hb; have BK499 := Aside0.mk (hbox); have GW499 := Aside0.mk ((zg hg : w.heap.size ≤ gb499)); have GE499 := Aside0.mk ((zg hg : w.heap.size ≤ gb499)); replace HB := (zs HB hb); clear hb hbox hg) | ((with_reducible refine gate_dst (N := 3) rfl ?_); refine box_event ?hg (N := 3) ?hd (cs := #[.slice A1_0 l1_0.length c1_0, .bool a1_1]) (t := 38) ?hr ?_; (case hd => rfl); (case hg => rfl); (case hr => exact zo); intro gb500 hg w5 hbox hb; have n0_ := (zk BK499 hb); have n1_ := (zs HB hb); have n2_ := Aside0.mk (hbox); have n3_ := Aside0.mk ((zg hg : w.heap.size ≤ gb500)); have n4_ := Aside0.mk ((zg hg : w.heap.size ≤ gb500)); have n5_ := Aside0.mk ((by rw [hg]; exact Nat.ne_of_lt (blk_lt (g := gb499) (o := .cells #[.slice A0_0 l0_0.length c0_0, .bool a0_1] 38 (0, 0)) (by exact BK499.out)) : gb499 ≠ gb500)); have n6_ := Aside0.mk ((by rw [hg]; exact Nat.ne_of_gt (blk_lt (g := gb499) (o := .cells #[.slice A0_0 l0_0.length c0_0, .bool a0_1] 38 (0, 0)) (by exact BK499.out)) : gb500 ≠ gb499)); clear BK499; clear HB; have BK499 := n0_; have HB := n1_; have BK500 := n2_; have GW500 := n3_; have GE500 := n4_; have NB499_500 := n5_; have NB500_499 := n6_; clear n0_ n1_ n2_ n3_ n4_ n5_ n6_; clear hb hbox hg)); go_upto_region 1 with (first | ((with_reducible refine gate_dst (N := 2) rfl ?_); refine box_event ?hg (N := 2) ?hd (cs := #[.slice A0_0 l0_0.length c0_0, .bool a0_1]) (t := 38) ?hr ?_; (case hd => rfl); (case hg => rfl); (case hr => exact zo); intro gb499 hg w4 hbox hb; have BK499 := Aside0.mk (hbox); have GW499 := Aside0.mk ((zg hg : w.heap.size ≤ gb499)); have GE499 := Aside0.mk ((zg hg : w.heap.size ≤ gb499)); replace HB := (zs HB hb); clear hb hbox hg) | ((with_reducible refine gate_dst (N := 3) rfl ?_); refine box_event ?hg (N := 3) ?hd (cs := #[.slice A1_0 l1_0.length c1_0, .bool a1_1]) (t := 38) ?hr ?_; (case hd => rfl); (case hg => rfl); (case hr => exact zo); intro gb500 hg w5 hbox hb; have n0_ := (zk BK499 hb); have n1_ := (zs HB hb); have n2_ := Aside0.mk (hbox); have n3_ := Aside0.mk ((zg hg : w.heap.size ≤ gb500)); have n4_ := Aside0.mk ((zg hg : w.heap.size ≤ gb500)); have n5_ := Aside0.mk ((by rw [hg]; exact Nat.ne_of_lt (blk_lt (g := gb499) (o := .cells #[.slice A0_0 l0_0.length c0_0, .bool a0_1] 38 (0, 0)) (by exact BK499.out)) : gb499 ≠ gb500)); have n6_ := Aside0.mk ((by rw [hg]; exact Nat.ne_of_gt (blk_lt (g := gb499) (o := .cells #[.slice A0_0 l0_0.length c0_0, .bool a0_1] 38 (0, 0)) (by exact BK499.out)) : gb500 ≠ gb499)); clear BK499; clear HB; have BK499 := n0_; have HB := n1_; have BK500 := n2_; have GW500 := n3_; have GE500 := n4_; have NB499_500 := n5_; have NB500_499 := n6_; clear n0_ n1_ n2_ n3_ n4_ n5_ n6_; clear hb hbox hg)))
 (try simp only [Act.put, List.setIfInBounds_toArray, List.set_cons_zero, List.set_cons_succ])
 go_cut [19] (fun v19 wc => ∃ (kq : Nat) (x19_2 : Bool), v19 = .bool x19_2 ∧ Aside0 (backseatref06_SameLine.j0 kq x19_2 l0_0 a0_1 l1_0 a1_1 = some r) ∧ Aside0 (kq ≤ k) ∧ Aside0 (wc.heap[gb499]? = some (.cells #[(.slice A0_0 l0_0.length c0_0), .bool a0_1] 38 (0, 0))) ∧ Aside0 (wc.heap[gb500]? = some (.cells #[(.slice A1_0 l1_0.length c1_0), .bool a1_1] 38 (0, 0))) ∧ Aside0 (Below w.heap.size w wc))
 case first =>
  have H := HC3.out
  clear HC3
  by_cases c6 : (l0_0.length : Int) = (l1_0.length : Int)
  ·rw [if_pos c6] at H
   have c6b0 : ((l0_0.length : Int) == (l1_0.length : Int)) = true := beq_iff_eq.mpr c6
   have c6b1 : ((l0_0.length : Int) != (l1_0.length : Int)) = false := bne_eq_false_iff_eq.mpr c6
   have c6b2 : (l0_0.length == l1_0.length) = true := by first | simpa using c6 | (simp at c6 ⊢; omega)
   clear c6
   (first | rw [c6b0] | (simp only [i64_w, i32_w]; rw [c6b0]) | skip)
   have H' := Aside0.mk H
   clear H
   have hnb7 := NB499_500.out
   have hnc7 := NB500_499.out
   obtain ⟨hcz8_0, hcz8_1, hfz8_0, hfz8_1⟩ := zq2 (w := w5) BK499
   obtain ⟨hcz9_0, hcz9_1, hfz9_0, hfz9_1⟩ := zq2 (w := w5) BK500
   go_wp2
   repeat (go_quiet (fail); try go_wp2)
   go_meet
   case rel => exact ⟨_, ((a0_1 != a1_1)), zf, H', ⟨by first | omega | exact Nat.le_refl _⟩, ⟨by exact BK499.out⟩, ⟨by exact BK500.out⟩, ⟨zb⟩⟩
  ·rw [if_neg c6] at H
   have c6b0 : ((l0_0.length : Int) == (l1_0.length : Int)) = false := beq_eq_false_iff_ne.mpr c6
   have c6b1 : ((l0_0.length : Int) != (l1_0.length : Int)) = true := bne_iff_ne.mpr c6
   have c6b2 : (l0_0.length == l1_0.length) = false := by first | simpa using c6 | (simp at c6 ⊢; omega)
   (first | rw [c6b0] | (simp only [i64_w, i32_w]; rw [c6b0]) | skip)
   have H' := Aside0.mk H
   clear H
   have hnb10 := NB499_500.out
   have hnc10 := NB500_499.out
   obtain ⟨hcz11_0, hcz11_1, hfz11_0, hfz11_1⟩ := zq2 (w := w5) BK499
   obtain ⟨hcz12_0, hcz12_1, hfz12_0, hfz12_1⟩ := zq2 (w := w5) BK500
   go_wp2
   repeat (go_quiet (fail); try go_wp2)
   go_meet
   case rel => exact ⟨_, (true), zf, H', ⟨by first | omega | exact Nat.le_refl _⟩, ⟨by exact BK499.out⟩, ⟨by exact BK500.out⟩, ⟨zb⟩⟩
 case rest =>
  clear HC3
  obtain ⟨kq, x19_2, rfl, HA, HJ2, BK499, BK500, HB⟩ := hcut
  cases kq with
  | zero => exact absurd HA.out (by simp [backseatref06_SameLine.j0])
  | succ kj2 =>
   have H := HA.out
   clear HA
   simp only [backseatref06_SameLine.j0] at H
   by_cases c13 : x19_2 = true
   ·subst c13
    have H1 : (some false) = some r := by rw [if_pos rfl] at H; exact H
    clear H
    have H := H1
    clear H1
    obtain rfl := Option.some.inj H
    go_wp2
    repeat (go_quiet (fail); try go_wp2)
    go_ret
    exact ⟨ze, zb⟩
   ·replace c13 := Bool.eq_false_iff.mpr c13
    subst c13
    have H1 : (backseatref06_SameLine.l0 kj2 (l0_0.length : Int) 0 l0_0 a0_1 l1_0 a1_1) = some r := by rw [if_neg (show ¬ (false = true) by decide)] at H; exact H
    clear H
    have H := H1
    clear H1
    have H' := Aside0.mk H
    clear H
    have hnb14 := NB499_500.out
    have hnc14 := NB500_499.out
    obtain ⟨hcz15_0, hcz15_1, hfz15_0, hfz15_1⟩ := zq2 (w := wc) BK499
    go_wp2
    repeat (go_quiet (fail); try go_wp2)
    go_loopg [23] kj2 (fun kq v23 w' => ∃ (x23_2 : Int), v23 = .int .i64 x23_2 ∧ Aside0 (backseatref06_SameLine.l0 kq (l0_0.length : Int) x23_2 l0_0 a0_1 l1_0 a1_1 = some r) ∧ Aside0 (kq ≤ kj2) ∧ Aside0 (w'.heap[gb499]? = some (.cells #[(.slice A0_0 l0_0.length c0_0), .bool a0_1] 38 (0, 0))) ∧ Aside0 (w'.heap[gb500]? = some (.cells #[(.slice A1_0 l1_0.length c1_0), .bool a1_1] 38 (0, 0))) ∧ Aside0 (Below w.heap.size w w'))
    case atStart => exact ⟨(0), zf, H', ⟨Nat.le_refl _⟩, ⟨by exact BK499.out⟩, ⟨by exact BK500.out⟩, ⟨zb⟩⟩
    case round =>
     clear H'
     try clear c13
     try clear hcz15_0
     try clear hcz15_1
     try clear hfz15_0
     try clear hfz15_1
     obtain ⟨x23_2, rfl, HA, HK2, BK499, BK500, HB⟩ := hrel
     cases gk with
     | zero => exact absurd HA.out (by simp [backseatref06_SameLine.l0])
     | succ k2 =>
      have H := HA.out
      clear HA
      simp only [backseatref06_SameLine.l0] at H
      by_cases c16 : x23_2 < (l0_0.length : Int)
      ·rw [if_pos c16] at H
       have c16b0 : decide (x23_2 < (l0_0.length : Int)) = true := decide_eq_true c16
       clear c16
       by_cases c17 : 0 ≤ x23_2
       ·rw [if_pos c17] at H
        have c17b0 : decide (0 ≤ x23_2) = true := decide_eq_true c17
        clear c17
        by_cases c18 : x23_2 < (l0_0.length : Int)
        ·rw [if_pos c18] at H
         have c18b0 : decide (x23_2 < (l0_0.length : Int)) = true := decide_eq_true c18
         clear c18
         by_cases c19 : x23_2 < (l1_0.length : Int)
         ·rw [if_pos c19] at H
          have c19b0 : decide (x23_2 < (l1_0.length : Int)) = true := decide_eq_true c19
          clear c19
          by_cases c20 : (!((((rd_T60 l0_0 x23_2).f0).toList) == (((rd_T60 l1_0 x23_2).f0).toList)) || (!(((rd_T60 l0_0 x23_2).f1) == ((rd_T60 l1_0 x23_2).f1)) || ((!(((rd_T60 l0_0 x23_2).f2.f0) == ((rd_T60 l1_0 x23_2).f2.f0)) || (!(((rd_T60 l0_0 x23_2).f2.f1) == ((rd_T60 l1_0 x23_2).f2.f1)) || (!(((rd_T60 l0_0 x23_2).f2.f2) == ((rd_T60 l1_0 x23_2).f2.f2)))))))) = true
          ·rw [if_pos c20] at H
           have c20b0 : (!((((rd_T60 l0_0 x23_2).f0).toList) == (((rd_T60 l1_0 x23_2).f0).toList)) || (!(((rd_T60 l0_0 x23_2).f1) == ((rd_T60 l1_0 x23_2).f1)) || ((!(((rd_T60 l0_0 x23_2).f2.f0) == ((rd_T60 l1_0 x23_2).f2.f0)) || (!(((rd_T60 l0_0 x23_2).f2.f1) == ((rd_T60 l1_0 x23_2).f2.f1)) || (!(((rd_T60 l0_0 x23_2).f2.f2) == ((rd_T60 l1_0 x23_2).f2.f2)))))))) = true := c20
           clear c20
           obtain rfl := Option.some.inj H
           have hnb21 := NB499_500.out
           have hnc21 := NB500_499.out
           obtain ⟨hcz22_0, hcz22_1, hfz22_0, hfz22_1⟩ := zq2 (w := wr) BK499
           have p501 : 0 ≤ (x23_2 : Int) := of_decide_eq_true za
           have q501 : x23_2 < (l0_0.length : Int) := of_decide_eq_true za
           obtain ⟨ad501, e501, hx501_0, hx501_1, hx501_2, hx501_3, hx501_4⟩ := at_T60 HR0_0.out x23_2 p501 q501
           cases e501
           replace hx501_0 := zc HB hx501_0
           replace hx501_1 := zc HB hx501_1
           replace hx501_2 := zc HB hx501_2
           replace hx501_3 := zc HB hx501_3
           replace hx501_4 := zc HB hx501_4
           replace p501 := eq_true p501
           replace q501 := eq_true q501
           obtain ⟨hcz23_0, hcz23_1, hfz23_0, hfz23_1⟩ := zq2 (w := wr) BK500
           have p502 : 0 ≤ (x23_2 : Int) := of_decide_eq_true za
           have q502 : x23_2 < (l1_0.length : Int) := of_decide_eq_true za
           obtain ⟨ad502, e502, hx502_0, hx502_1, hx502_2, hx502_3, hx502_4⟩ := at_T60 HR1_0.out x23_2 p502 q502
           cases e502
           replace hx502_0 := zc HB hx502_0
           replace hx502_1 := zc HB hx502_1
           replace hx502_2 := zc HB hx502_2
           replace hx502_3 := zc HB hx502_3
           replace hx502_4 := zc HB hx502_4
           replace p502 := eq_true p502
           replace q502 := eq_true q502
           go_wp2
           repeat (go_quiet (fail); try go_wp2)
           go_ret
           exact ⟨ze, zb⟩
          ·rw [if_neg c20] at H
           have c20b0 : (!((((rd_T60 l0_0 x23_2).f0).toList) == (((rd_T60 l1_0 x23_2).f0).toList)) || (!(((rd_T60 l0_0 x23_2).f1) == ((rd_T60 l1_0 x23_2).f1)) || ((!(((rd_T60 l0_0 x23_2).f2.f0) == ((rd_T60 l1_0 x23_2).f2.f0)) || (!(((rd_T60 l0_0 x23_2).f2.f1) == ((rd_T60 l1_0 x23_2).f2.f1)) || (!(((rd_T60 l0_0 x23_2).f2.f2) == ((rd_T60 l1_0 x23_2).f2.f2)))))))) = false := by simpa using c20
           clear c20
           have H' := Aside0.mk H
           clear H
           have hnb24 := NB499_500.out
           have hnc24 := NB500_499.out
           obtain ⟨hcz25_0, hcz25_1, hfz25_0, hfz25_1⟩ := zq2 (w := wr) BK499
           have p501 : 0 ≤ (x23_2 : Int) := of_decide_eq_true za
           have q501 : x23_2 < (l0_0.length : Int) := of_decide_eq_true za
           obtain ⟨ad501, e501, hx501_0, hx501_1, hx501_2, hx501_3, hx501_4⟩ := at_T60 HR0_0.out x23_2 p501 q501
           cases e501
           replace hx501_0 := zc HB hx501_0
           replace hx501_1 := zc HB hx501_1
           replace hx501_2 := zc HB hx501_2
           replace hx501_3 := zc HB hx501_3
           replace hx501_4 := zc HB hx501_4
           replace p501 := eq_true p501
           replace q501 := eq_true q501
           obtain ⟨hcz26_0, hcz26_1, hfz26_0, hfz26_1⟩ := zq2 (w := wr) BK500
           have p502 : 0 ≤ (x23_2 : Int) := of_decide_eq_true za
           have q502 : x23_2 < (l1_0.length : Int) := of_decide_eq_true za
           obtain ⟨ad502, e502, hx502_0, hx502_1, hx502_2, hx502_3, hx502_4⟩ := at_T60 HR1_0.out x23_2 p502 q502
           cases e502
           replace hx502_0 := zc HB hx502_0
           replace hx502_1 := zc HB hx502_1
           replace hx502_2 := zc HB hx502_2
           replace hx502_3 := zc HB hx502_3
           replace hx502_4 := zc HB hx502_4
           replace p502 := eq_true p502
           replace q502 := eq_true q502
           go_wp2
           repeat (go_quiet (fail); try go_wp2)
           go_roundg k2
           case measure => have := HJ2.out; have := HK2.out; omega
           case rel => exact ⟨(wrap64 (x23_2 + 1)), zf, H', ⟨by have := HJ2.out; have := HK2.out; omega⟩, ⟨by exact BK499.out⟩, ⟨by exact BK500.out⟩, ⟨zb⟩⟩
         ·rw [if_neg c19] at H
          exact absurd H (by simp)
        ·rw [if_neg c18] at H
         exact absurd H (by simp)
       ·rw [if_neg c17] at H
        exact absurd H (by simp)
      ·rw [if_neg c16] at H
       have c16b0 : decide (x23_2 < (l0_0.length : Int)) = false := decide_eq_false c16
       clear c16
       obtain rfl := Option.some.inj H
       go_wp2
       repeat (go_quiet (fail); try go_wp2)
       go_ret
       exact ⟨ze, zb⟩
end Go.Proofs.YtckkdaehmccjlaaDoor.P
namespace Go.Proofs.YtckkdaehmccjlaaDoor.P.Fl
open Go.RowKit Go.Proofs.YtckkdaehmccjlaaDoorW.PrintWords Go.Proofs.YtckkdaehmccjlaaDoorW.PrintLast Go.Proofs.YtckkdaehmccjlaaDoorW.PrintMore Go.Lib
set_option linter.unusedVariables false
set_option linter.unusedSimpArgs false
def EvP {α : Type} (f : Nat → Option α) (P : α → Prop) : Prop := ∃ v, P v ∧ Ev f v
section
variable {α β : Type} {f g : Nat → Option α} {P : α → Prop}
theorem EvP.ite {c : Prop} [Decidable c] (hf : c → EvP f P) (hg : ¬ c → EvP g P) : EvP (fun k => if c then f k else g k) P := by
 by_cases h : c
 ·obtain ⟨v, a, b⟩ := hf h; exact ⟨v, a, Ev.pos h b⟩
 ·obtain ⟨v, a, b⟩ := hg h; exact ⟨v, a, Ev.neg h b⟩
theorem EvP.succ (h : EvP (fun k => f (k + 1)) P) : EvP f P := let ⟨v, a, b⟩ := h; ⟨v, a, Ev.succ b⟩
theorem EvP.ret {v : α} (h : P v) : EvP (fun _ => some v) P := ⟨v, h, Ev.ret v⟩
theorem EvP.bind {e : Nat → Option β} {Q : β → Prop} {g : Nat → β → Option α} (h : EvP e Q) (hg : ∀ v, Q v → EvP (fun k => g k v) P) : EvP (fun k => (e k).bind (g k)) P := by
 obtain ⟨v, a, b⟩ := h
 obtain ⟨u, c, d⟩ := hg v a
 exact ⟨u, c, Ev.bind b d⟩
end
theorem size_list (s : ByteArray) : s.size = s.data.toList.length := by rw [Array.length_toList]; rfl
theorem rd_cell {l : List CellT} {i : Nat} (h : i < l.length) : rd_T60 l i = l[i] := by unfold rd_T60; simp [List.getD_eq_getElem?_getD, h]
theorem mn_facts (a : Nat) (b : Int) (hb : 0 ≤ b := by decide) : 0 ≤ mn (a : Int) b ∧ mn (a : Int) b ≤ (a : Int) ∧ mn (a : Int) b ≤ b := by
 unfold mn; split <;> omega
def TinyC (l : List CellT) : Prop := ∀ c ∈ l, c.f0.size ≤ 20
def Tiny (l : List LineT) : Prop := ∀ x ∈ l, x.f0.length ≤ 82 ∧ TinyC x.f0
theorem tiny_small {l : List LineT} (h : l.length ≤ 30) (ht : Tiny l) : SmallL l := by
 refine ⟨by omega, fun x hx => ⟨by have := (ht x hx).1; omega, fun c hc => by have := (ht x hx).2 c hc; omega⟩⟩
theorem fits_at (l : List CellT) (b0 : Bool) (n : Int) (hs : SmallC l) : ∀ m i, i + m = l.length → Ev (fun k => backseatref06_Fits.l0 k n l (l.length : Int) (i : Nat) l b0) true →
  ∀ j, i ≤ j → j < l.length → Ev (fun k => backseatref04_Right.f k (rd_T60 l j).f0 (rd_T60 l j).f1 (rd_T60 l j).f2.f0 (rd_T60 l j).f2.f1 (rd_T60 l j).f2.f2) true ∧ backseatref06_half.f l j = some false
 | 0, i, hi, _, j, h1, h2 => by omega
 | m + 1, i, hi, h, j, h1, h2 => by
  have hlt : i < l.length := by omega
  have hw := w64 i (by have := hs.1; omega)
  obtain ⟨b, _, hb2⟩ := fits_loop l b0 n hs m (i + 1) (by omega)
  obtain ⟨c, _, hc2⟩ := right_same (rd_T60 l i).f0 (rd_T60 l i).f1 (rd_T60 l i).f2.f0 (rd_T60 l i).f2.f1 (rd_T60 l i).f2.f2 (hs.2 _ (rd_mem hlt))
  obtain ⟨d, _, hd2⟩ := whole_half l i hlt hs.1
  cases c with
  | false =>
   have : Ev (fun k => backseatref06_Fits.l0 k n l (l.length : Int) (i : Nat) l b0) false := Ev.succ (by
    simp only [backseatref06_Fits.l0]; exact Ev.pos (by omega) (Ev.pos (by omega) (Ev.pos (by omega) (Ev.bind hc2 (Ev.neg (by decide) (Ev.ret _))))))
   exact absurd (Ev.same h this) (by decide)
  | true =>
   cases d with
   | false =>
    have : Ev (fun k => backseatref06_Fits.l0 k n l (l.length : Int) (i : Nat) l b0) false := Ev.succ (by
     simp only [backseatref06_Fits.l0]; exact Ev.pos (by omega) (Ev.pos (by omega) (Ev.pos (by omega) (Ev.bind hc2 (Ev.pos rfl (Ev.bind (Ev.of hd2) (Ev.pos rfl (Ev.ret _))))))))
    exact absurd (Ev.same h this) (by decide)
   | true =>
    have : Ev (fun k => backseatref06_Fits.l0 k n l (l.length : Int) (i : Nat) l b0) b := Ev.succ (by
     simp only [backseatref06_Fits.l0]; refine Ev.pos (by omega) (Ev.pos (by omega) (Ev.pos (by omega) (Ev.bind hc2 (Ev.pos rfl (Ev.bind (Ev.of hd2) (Ev.neg (by decide) ?_)))))); rw [hw]; exact hb2)
    have e := Ev.same h this
    subst e
    by_cases hj : j = i
    ·subst hj; exact ⟨hc2, hd2⟩
    ·exact fits_at l b0 n hs m (i + 1) (by omega) hb2 j (by omega) h2
inductive Pairs : List CellT → Prop
 | nil : Pairs []
 | one {c t} (h1 : c.f1 = 1) : Pairs t → Pairs (c :: t)
 | two {c d t} (h1 : c.f1 = 2) (h2 : ¬ c.f0.toList = ([] : List UInt8)) (h3 : d.f1 = 0) (h4 : d.f0.toList = ([] : List UInt8)) : Pairs t → Pairs (c :: d :: t)
theorem Pairs.append {a b : List CellT} (h : Pairs a) (hb : Pairs b) : Pairs (a ++ b) := by
 induction h with
 | nil => exact hb
 | one h1 _ ih => exact .one h1 ih
 | two h1 h2 h3 h4 _ ih => exact .two h1 h2 h3 h4 ih
def blankB (c : CellT) : Bool := c.f0.toList == ([] : List UInt8) && (c.f1 == 1 && (c.f2.f0 == 0 && (c.f2.f1 == 0 && c.f2.f2 == 0)))
def trimR (l : List CellT) : List CellT := (l.reverse.dropWhile blankB).reverse
theorem trimR_snoc (a : List CellT) (c : CellT) : trimR (a ++ [c]) = if blankB c = true then trimR a else a ++ [c] := by
 unfold trimR
 rw [List.reverse_append, List.reverse_singleton, List.singleton_append, List.dropWhile_cons]
 split
 ·rfl
 ·simp
theorem trimR_sub (l : List CellT) : ∃ t, l = trimR l ++ t := by
 unfold trimR
 obtain ⟨t, ht⟩ := List.dropWhile_suffix (l := l.reverse) blankB
 refine ⟨t.reverse, ?_⟩
 have := congrArg List.reverse ht
 simp only [List.reverse_append, List.reverse_reverse] at this
 exact this.symm
theorem none_is : flow_none.f = some ((⟨#[]⟩ : ByteArray), 1, 0, 0, 0) := by rfl
theorem trimmed_is (n : Nat) : ∀ (l : List CellT), l.length = n → (n : Int) ≤ 1000000000000 → Ev (fun k => flow_trimmed.l0 k l) (trimR l) := by
 induction n with
 | zero => exact fun l h _ => Ev.succ (by simp only [flow_trimmed.l0]; rw [List.length_eq_zero_iff.1 h]; exact Ev.neg (by decide) (Ev.ret _))
 | succ n ih0 =>
  intro l h hn
  have hlt : n < l.length := by omega
  have hw := w64m l.length (by omega) (by omega)
  have ih := ih0 (l.take n) (by rw [List.length_take]; omega) (by omega)
  have e : l = l.take n ++ [l[n]] := by rw [← List.take_succ_eq_append_getElem (by omega), List.take_of_length_le (by omega)]
  refine Ev.succ ?_
  simp only [flow_trimmed.l0, hw, none_is, Option.bind_some, show l.length - 1 = n by omega, rd_cell hlt]
  refine Ev.pos (by omega) (Ev.pos (by omega) (Ev.pos (by omega) ?_))
  have eb : ((l[n].f0.toList == (⟨#[]⟩ : ByteArray).toList && (l[n].f1 == 1 && (l[n].f2.f0 == 0 && (l[n].f2.f1 == 0 && l[n].f2.f2 == 0)))) = true) ↔ blankB l[n] = true := by
   unfold blankB; rw [show (⟨#[]⟩ : ByteArray).toList = ([] : List UInt8) by rw [ByteArray.toList_eq]]
  have e2 := trimR_snoc (l.take n) l[n]
  rw [← e] at e2
  rw [e2]
  by_cases hb : blankB l[n] = true
  ·rw [if_pos hb]
   refine Ev.pos (eb.2 hb) (Ev.pos (by omega) ?_)
   rw [Int.toNat_natCast]; exact ih
  ·rw [if_neg hb]
   exact Ev.neg (fun h => hb (eb.1 h)) (Ev.ret _)
def joinF : List LineT → List CellT → List (List CellT)
 | [], _ => []
 | x :: t, cur => if x.f1 = true ∧ t ≠ [] then joinF t (cur ++ x.f0) else trimR (cur ++ x.f0) :: joinF t []
theorem join_is (l : List LineT) (hl : l.length ≤ 1000) (hx : ∀ x ∈ l, x.f0.length ≤ 1000) : ∀ m i (acc : List (List CellT)) (cur : List CellT), i + m = l.length → acc.length ≤ i → cur.length ≤ 1000 * i →
  Ev (fun k => flow_Join.l0 k l acc cur l (l.length : Int) (i : Nat)) (acc ++ joinF (l.drop i) cur, 0)
 | 0, i, acc, cur, hi, ha, hc => Ev.succ (by simp only [flow_Join.l0]; rw [List.drop_eq_nil_of_le (by omega)]; simp only [joinF, List.append_nil]; exact Ev.neg (by omega) (Ev.ret _))
 | m + 1, i, acc, cur, hi, ha, hc => by
  have hlt : i < l.length := by omega
  have hw := w64 i (by omega)
  have hw2 := w64m l.length (by omega) (by omega)
  have hrow := hx _ (List.getElem_mem hlt)
  have htr : Ev (fun k => flow_trimmed.f k (cur ++ l[i].f0)) (trimR (cur ++ l[i].f0)) := by
   unfold flow_trimmed.f
   exact trimmed_is _ _ rfl (by rw [List.length_append]; omega)
  rw [List.drop_eq_getElem_cons hlt]
  refine Ev.succ ?_
  simp only [flow_Join.l0, joinF]
  rw [rd_line hlt, hw, hw2]
  refine Ev.pos (by omega) (Ev.pos (by omega) (Ev.pos (by omega) (Ev.pos (by omega) (Ev.bind (v := cur ++ l[i].f0) (Ev.ret _) ?_))))
  have hput : Ev (fun k => (flow_trimmed.f k (cur ++ l[i].f0)).bind fun t => if acc.length < 5864062014805 then flow_Join.l0 k l (acc ++ [t]) ([] : List CellT) l (l.length : Int) ((i + 1 : Nat) : Int) else none) (acc ++ trimR (cur ++ l[i].f0) :: joinF (l.drop (i + 1)) [], 0) := by
   refine Ev.bind htr (Ev.pos (by omega) ?_)
   have := join_is l hl hx m (i + 1) (acc ++ [trimR (cur ++ l[i].f0)]) [] (by omega) (by rw [List.length_append]; simp; omega) (by simp)
   simpa using this
  by_cases hs : l[i].f1 = true
  ·refine Ev.pos hs ?_
   by_cases hz : i = l.length - 1
   ·rw [if_neg (by rw [List.drop_eq_nil_of_le (by omega)]; simp)]
    exact Ev.pos (by omega) hput
   ·rw [if_pos ⟨hs, by rw [Ne, List.drop_eq_nil_iff]; omega⟩]
    exact Ev.neg (by omega) (join_is l hl hx m (i + 1) acc _ (by omega) (by omega) (by rw [List.length_append]; omega))
  ·rw [if_neg (fun h => hs h.1)]
   exact Ev.neg hs hput
end Go.Proofs.YtckkdaehmccjlaaDoor.P.Fl
namespace Go.Proofs.YtckkdaehmccjlaaDoor.P
open Go.RowKit Go.Proofs.YtckkdaehmccjlaaDoorW.PrintWords Go.Proofs.YtckkdaehmccjlaaDoorW.PrintLast Go.Proofs.YtckkdaehmccjlaaDoorW.PrintMore
attribute [local go_sem] max2_int min2_int max_two min_two max_three min_three max_four min_four   -- for this text's walks alone
set_option linter.unusedVariables false
set_option linter.unusedSimpArgs false
def backseatlaw08_same.f (k : Nat) (l0 : List (S60)) (l1 : List (S60)) : Option (Bool) := (backseatref06_SameLine.f k l0 false l1 false).bind fun t503 => (some t503)
set_option maxHeartbeats 8000000 in
set_option maxRecDepth 100000 in
theorem backseatlaw08_same.calls (k : Nat) (A0 : Option Addr) (c0 : Nat) (l0 : List (S60)) (A1 : Option Addr) (c1 : Nat) (l1 : List (S60)) (r : Bool) (w : World) (hr0 : Kd.C k60 w A0 l0.length l0) (hc0 : l0.length ≤ c0) (hr1 : Kd.C k60 w A1 l1.length l1) (hc1 : l1.length ≤ c1) (h : backseatlaw08_same.f k l0 l1 = some r) :
  Calls Tryd.prog 22 #[.slice A0 l0.length c0, .slice A1 l1.length c1] w fun e w' => e = .returned (.bool r) ∧ Below w.heap.size w w' := by
 have hu38 := Tryd.underlying38
 have HR0 := Aside0.mk hr0
 have HC0 := Aside0.mk hc0
 clear hr0 hc0
 have HR1 := Aside0.mk hr1
 have HC1 := Aside0.mk hc1
 clear hr1 hc1
 have HB := Aside0.mk (Below.refl w.heap.size w)
 have H : ((backseatref06_SameLine.f k l0 false l1 false).bind fun t503 => (some t503)) = some r := h
 clear h
 replace H := Option.bind_eq_some_iff.mp H
 obtain ⟨t503, A30, H⟩ := H
 replace H : (some t503) = some r := H
 have A3 := Aside0.mk A30
 clear A30
 obtain rfl := Option.some.inj H
 go_enter Tryd.func22, Tryd.ntmps22
 go_wp2_with (first | ((with_reducible refine gate_callee (f := 50) rfl ?_); refine goesL_ (some 9) rfl rfl Tryd.func50 (by kernel_rfl) rfl #[.agg #[.slice A0 l0.length c0, .bool false], .agg #[.slice A1 l1.length c1, .bool false]] rfl zl ?_; (with_reducible refine (backseatref06_SameLine.calls k _ _ l0 false _ _ l1 false t503 _ ?side1 ?side2 ?side3 ?side4 A3.out).mono ?_); (case side1 => repeat (first | exact HR0.out | (with_reducible refine Kd.C_alloc ?_ _) | (with_reducible refine Kd.C_drewN ?_ _) | (with_reducible refine Kd.C_drew ?_))); (case side2 => exact HC0.out); (case side3 => repeat (first | exact HR1.out | (with_reducible refine Kd.C_alloc ?_ _) | (with_reducible refine Kd.C_drewN ?_ _) | (with_reducible refine Kd.C_drew ?_))); (case side4 => exact HC1.out); rintro e w4 ⟨rfl, hb⟩; refine ⟨_, rfl, ?_⟩; replace HB := (zs HB hb); (try clear hb)))
 go_ret
 exact ⟨ze, zb⟩
end Go.Proofs.YtckkdaehmccjlaaDoor.P
namespace Go.Proofs.YtckkdaehmccjlaaDoor.P.Fl
open Go.RowKit Go.Proofs.YtckkdaehmccjlaaDoorW.PrintWords Go.Proofs.YtckkdaehmccjlaaDoorW.PrintLast Go.Proofs.YtckkdaehmccjlaaDoorW.PrintMore Go.Lib
set_option linter.unusedVariables false
set_option linter.unusedSimpArgs false
def sayV (c : CellT) : List UInt8 := c.f0.data.toList ++ (if c.f0.toList = ([] : List UInt8) then if c.f1 = 1 then [32] else [] else [])
def sayR : List CellT → List UInt8
 | [] => []
 | c :: t => sayV c ++ sayR t
theorem sayV_len (c : CellT) (h : c.f0.size ≤ 20) : (sayV c).length ≤ 21 := by
 unfold sayV
 have h4 : (if c.f0.toList = ([] : List UInt8) then if c.f1 = 1 then ([32] : List UInt8) else [] else []).length ≤ 1 := by
  split <;> (try split) <;> simp
 rw [List.length_append, ← size_list]
 omega
theorem sayR_len : ∀ (l : List CellT), TinyC l → (sayR l).length ≤ 21 * l.length
 | [], _ => by simp [sayR]
 | c :: t, h => by
  have h2 := sayR_len t (fun x hx => h x (by simp [hx]))
  have h3 := sayV_len c (h c (by simp))
  simp only [sayR, List.length_append, List.length_cons]; omega
theorem rd_drop {l t : List CellT} {c : CellT} {off : Nat} (h : l.drop off = c :: t) : rd_T60 l (off : Nat) = c := by
 have hlt : off < l.length := by
  apply Classical.byContradiction; intro h'
  rw [List.drop_eq_nil_of_le (by omega)] at h; cases h
 rw [rd_cell hlt]
 rw [List.drop_eq_getElem_cons hlt] at h
 exact (List.cons.inj h).1
theorem drop_more {l t : List CellT} {off n : Nat} (h : l.drop off = t) : l.drop (off + n) = t.drop n := by rw [← h, List.drop_drop]
theorem grp_is (l0 : List CellT) {t : List CellT} (ht : Pairs t) : ∀ off f, l0.drop off = t → t.length ≤ f → ∃ gs, grpF f off t = some gs ∧ letG l0 gs = sayR t := by
 induction ht with
 | nil => intro off f _ _; exact ⟨[], by cases f <;> rfl, rfl⟩
 | @one c t h1 ht ih =>
  intro off f he hf
  rw [List.length_cons] at hf
  obtain ⟨f, rfl⟩ : ∃ g, f = g + 1 := ⟨f - 1, by omega⟩
  obtain ⟨gs, hg, hl⟩ := ih (off + 1) f (by rw [drop_more he]; rfl) (by omega)
  refine ⟨(off, 1) :: gs, ?_, ?_⟩
  ·unfold grpF
   have e : (mx c.f1 1).toNat = 1 := by rw [h1]; rfl
   rw [e, if_pos (by omega), List.drop_one, List.tail_cons, hg]; rfl
  ·have e : letG l0 ((off, 1) :: gs) = letC (rd_T60 l0 (off : Nat)) ++ letG l0 gs := rfl
   rw [e, rd_drop he, hl]
   unfold letC letT
   simp only [sayR, sayV]
   rw [if_pos h1]
 | @two c d t h1 h2 h3 h4 ht ih =>
  intro off f he hf
  simp only [List.length_cons] at hf
  obtain ⟨f, rfl⟩ : ∃ g, f = g + 1 := ⟨f - 1, by omega⟩
  obtain ⟨gs, hg, hl⟩ := ih (off + 2) f (by rw [drop_more he]; rfl) (by omega)
  refine ⟨(off, 2) :: gs, ?_, ?_⟩
  ·unfold grpF
   have e : (mx c.f1 1).toNat = 2 := by rw [h1]; rfl
   rw [e, if_pos (by simp), show (c :: d :: t).drop 2 = t from rfl, hg]; rfl
  ·have e : letG l0 ((off, 2) :: gs) = letC (rd_T60 l0 (off : Nat)) ++ letG l0 gs := rfl
   have hd : d.f0.data.toList = [] := by rw [← ByteArray.toList_eq]; exact h4
   rw [e, rd_drop he, hl]
   unfold letC letT
   simp only [sayR, sayV]
   rw [if_neg h2, if_neg h2, if_pos h4, if_neg (by omega), hd]; simp
theorem row_is {l : List CellT} (hp : Pairs l) (ht : TinyC l) (hl : l.length ≤ 1000000) : rowO l = some ⟨(sayR l).toArray⟩ := by
 obtain ⟨gs, hg, hl2⟩ := grp_is l hp 0 l.length rfl (Nat.le_refl _)
 have := sayR_len l ht
 unfold rowO grpO
 rw [hg, Option.bind_some, hl2, if_pos (by omega)]
def RowOK (l : List CellT) : Prop := Pairs l ∧ TinyC l ∧ l.length ≤ 1000000
theorem rows_is : ∀ (R : List (List CellT)), (∀ r ∈ R, RowOK r) → rowsO R = some (R.map fun r => ⟨(sayR r).toArray⟩)
 | [], _ => rfl
 | r :: t, h => by
  obtain ⟨a, b, c⟩ := h r (by simp)
  unfold rowsO
  rw [row_is a b c, rows_is t (fun x hx => h x (by simp [hx]))]; rfl
theorem joinF_len : ∀ (l : List LineT) (cur : List CellT), (joinF l cur).length ≤ l.length
 | [], _ => by simp [joinF]
 | x :: t, cur => by
  unfold joinF
  have h1 := joinF_len t (cur ++ x.f0)
  have h2 := joinF_len t []
  split <;> simp only [List.length_cons] <;> omega
theorem ext_le (s : ByteArray) (i : Int) (h : i ≤ 20) : (s.extract 0 i.toNat).size ≤ 20 := by
 simp [ByteArray.size_extract]; omega
theorem cells_loop (y : List CellT) (hy : y.length ≤ 1000) (m : Nat) : ∀ (i : Nat) (out : List CellT), i + m = y.length → out.length = i → TinyC out →
  EvP (fun k => backseatlaw08_cells.l0 k out y (y.length : Int) (i : Nat)) (fun r => r.length = y.length ∧ TinyC r) := by
 induction m with
 | zero =>
  intro i out hi ho ht
  refine EvP.succ ?_
  simp only [backseatlaw08_cells.l0]
  exact EvP.ite (fun h' => by omega) (fun _ => EvP.ret ⟨by omega, ht⟩)
 | succ m ih =>
  intro i out hi ho ht
  have hw := w64 i (by omega)
  obtain ⟨m1, m2, m3⟩ := mn_facts (rd_T60 y (i : Nat)).f0.size 20
  refine EvP.succ ?_
  simp only [backseatlaw08_cells.l0, hw]
  refine EvP.ite (fun _ => EvP.ite (fun _ => EvP.ite (fun _ => EvP.ite (fun _ => EvP.ite (fun _ => EvP.ite (fun _ => ?_) (fun h' => by omega)) (fun h' => h' m2 |>.elim)) (fun h' => h' m1 |>.elim)) (fun h' => by omega)) (fun h' => by omega)) (fun h' => by omega)
  refine ih (i + 1) _ (by omega) (by rw [List.length_append]; simp; omega) ?_
  intro c hc
  rcases List.mem_append.1 hc with hc | hc
  ·exact ht c hc
  ·rw [List.mem_singleton.1 hc]; exact ext_le _ _ m3
theorem cells_ev (l : List CellT) (a : Int) (h0 : 0 ≤ a) (ha : a ≤ 1000) : EvP (fun k => backseatlaw08_cells.f k l a) (fun r => r.length ≤ a.toNat ∧ TinyC r) := by
 obtain ⟨m1, m2, m3⟩ := mn_facts l.length a h0
 unfold backseatlaw08_cells.f
 refine EvP.ite (fun _ => EvP.ite (fun _ => ?_) (fun h' => h' m2 |>.elim)) (fun h' => h' m1 |>.elim)
 refine EvP.bind (e := fun _ => some _) (Q := fun v => v = l.take (mn (l.length : Int) a).toNat) ⟨_, rfl, Ev.ret _⟩ (fun v hv => ?_)
 have hvl : v.length ≤ a.toNat := by rw [hv, List.length_take]; omega
 obtain ⟨r, ⟨h1, h2⟩, h3⟩ := cells_loop v (by omega) v.length 0 [] (by omega) rfl (fun c hc => by cases hc)
 exact ⟨r, ⟨by omega, h2⟩, h3⟩
theorem few_loop (y : List LineT) (hy : y.length ≤ 30) (m : Nat) : ∀ (i : Nat) (out : List LineT), i + m = y.length → out.length ≤ i → Tiny out →
  EvP (fun k => backseatlaw08_few.l0 k out y (y.length : Int) (i : Nat)) (fun L => L.length ≤ 30 ∧ Tiny L) := by
 induction m with
 | zero =>
  intro i out hi ho ht
  refine EvP.succ ?_
  simp only [backseatlaw08_few.l0]
  exact EvP.ite (fun h' => by omega) (fun _ => EvP.ret ⟨by omega, ht⟩)
 | succ m ih =>
  intro i out hi ho ht
  have hw := w64 i (by omega)
  refine EvP.succ ?_
  simp only [backseatlaw08_few.l0]
  refine EvP.ite (fun _ => EvP.ite (fun _ => EvP.ite (fun _ => ?_) (fun h' => by omega)) (fun h' => by omega)) (fun h' => by omega)
  refine EvP.bind (cells_ev _ 82 (by decide) (by decide)) (fun v hv => EvP.ite (fun _ => ?_) (fun h' => by omega))
  rw [hw]
  refine ih (i + 1) _ (by omega) (by rw [List.length_append]; simp; omega) ?_
  intro x hx
  rcases List.mem_append.1 hx with hx | hx
  ·exact ht x hx
  ·rw [List.mem_singleton.1 hx]; exact hv
theorem few_ev (l : List LineT) : EvP (fun k => backseatlaw08_few.f k l) (fun L => L.length ≤ 30 ∧ Tiny L) := by
 obtain ⟨m1, m2, m3⟩ := mn_facts l.length 30
 unfold backseatlaw08_few.f
 refine EvP.ite (fun _ => EvP.ite (fun _ => ?_) (fun h' => h' m2 |>.elim)) (fun h' => h' m1 |>.elim)
 refine EvP.bind (e := fun _ => some _) (Q := fun v => v = l.take (mn (l.length : Int) 30).toNat) ⟨_, rfl, Ev.ret _⟩ (fun v hv => ?_)
 exact few_loop v (by rw [hv, List.length_take]; omega) v.length 0 [] (by omega) (by simp) (fun x hx => by cases hx)
def GoodC (c : CellT) : Prop := c.f1 = 1 ∧ c.f0.size ≤ 20 ∧ Ev (fun k => backseatref04_Right.f k c.f0 c.f1 c.f2.f0 c.f2.f1 c.f2.f2) true
theorem blank_good : GoodC blankC := ⟨rfl, by decide, ⟨5, fun k hk => by
 obtain ⟨j, rfl⟩ : ∃ j, k = j + 5 := ⟨k - 5, by omega⟩
 show backseatref04_Right.f (j + 5) (⟨#[]⟩ : ByteArray) 1 0 0 0 = some true
 unfold backseatref04_Right.f
 rw [ref_look_f, Option.bind_some, if_pos (by rfl), if_neg (by decide)]
 simp only [backseatref04_Right.j0]
 rw [if_neg (by decide), if_pos (by rw [ByteArray.toList_eq])]
 rfl⟩⟩
structure GoodL (L : List LineT) : Prop where
 len : L.length ≤ 200
 row : ∀ x ∈ L, 1 ≤ x.f0.length ∧ x.f0.length ≤ 80 ∧ ∀ c ∈ x.f0, GoodC c
theorem good_fits (l : List CellT) (b : Bool) (hl : l.length ≤ 1000) (h : ∀ c ∈ l, GoodC c) : ∀ m i, i + m = l.length → Ev (fun k => backseatref06_Fits.l0 k (l.length : Int) l (l.length : Int) (i : Nat) l b) true
 | 0, i, hi => Ev.succ (by simp only [backseatref06_Fits.l0]; exact Ev.neg (by omega) (Ev.of (by simp)))
 | m + 1, i, hi => by
  have hlt : i < l.length := by omega
  have hw := w64 i (by omega)
  obtain ⟨g1, g2, g3⟩ := h _ (List.getElem_mem hlt)
  have hh : backseatref06_half.f l i = some false := by
   unfold backseatref06_half.f
   rw [if_pos (by omega), if_pos (by omega), rd_cell hlt, if_neg (by omega), if_neg (by omega)]
  refine Ev.succ ?_
  simp only [backseatref06_Fits.l0]
  rw [rd_cell hlt, hw]
  exact Ev.pos (by omega) (Ev.pos (by omega) (Ev.pos (by omega) (Ev.bind g3 (Ev.pos rfl (Ev.bind (Ev.of hh) (Ev.neg (by decide) (good_fits l b hl h m (i + 1) (by omega))))))))
theorem good_small {L : List LineT} (h : GoodL L) : SmallL L := ⟨by have := h.len; omega, fun x hx => ⟨by have := (h.row x hx).2.1; omega, fun c hc => by have := ((h.row x hx).2.2 c hc).2.1; omega⟩⟩
theorem good_may {L : List LineT} (h : GoodL L) : Ev (fun k => flow_may.f k L) true := by
 have hM := may_ev L (good_small h)
 have e : (!L.any oddB && decide (L.length ≤ 200)) = true := by
  rw [Bool.and_eq_true, Bool.not_eq_true', List.any_eq_false]
  refine ⟨fun x hx ho => ?_, decide_eq_true h.len⟩
  obtain ⟨r1, r2, r3⟩ := h.row x hx
  obtain ⟨_, _, h3⟩ := odd_ev x ((good_small h).2 x hx)
  have hf : Ev (fun k => backseatref06_Fits.f k x.f0 x.f1 (x.f0.length : Int)) true := by
   unfold backseatref06_Fits.f; exact good_fits x.f0 x.f1 (by omega) r3 x.f0.length 0 (by omega)
  rcases h3 ho with h3 | h3 | h3
  ·omega
  ·omega
  ·exact absurd (Ev.same hf h3) (by decide)
 rw [e] at hM; exact hM
theorem good_join {L : List LineT} (h : GoodL L) : Ev (fun k => flow_Join.f k L) (joinF L [], 0) := by
 unfold flow_Join.f
 exact Ev.bind (good_may h) (Ev.pos rfl (by simpa using join_is L (by have := h.len; omega) (fun x hx => by have := (h.row x hx).2.1; omega) L.length 0 [] [] (by omega) (by simp) (by simp)))
structure GoodR (r : List CellT) : Prop where
 len : r.length ≤ 100000
 cell : ∀ c ∈ r, GoodC c
 trim : trimR r = r
theorem trim_idem (l : List CellT) : trimR (trimR l) = trimR l := by
 unfold trimR
 rw [List.reverse_reverse]
 congr 1
 cases h : l.reverse.dropWhile blankB with
 | nil => rfl
 | cons c t =>
  have hc : blankB c = false := by
   have := List.head?_dropWhile_not blankB l.reverse
   rw [h] at this
   simpa using this
  rw [List.dropWhile_cons, hc]; rfl
theorem joinF_good : ∀ (L : List LineT) (cur : List CellT), (∀ x ∈ L, x.f0.length ≤ 80 ∧ ∀ c ∈ x.f0, GoodC c) → (∀ c ∈ cur, GoodC c) → cur.length + 80 * L.length ≤ 100000 → ∀ r ∈ joinF L cur, GoodR r
 | [], cur, _, _, _, r, hr => by cases hr
 | x :: t, cur, hx, hc, hl, r, hr => by
  obtain ⟨a, b⟩ := hx x (by simp)
  rw [List.length_cons] at hl
  have hc' : ∀ c ∈ cur ++ x.f0, GoodC c := fun c h => (List.mem_append.1 h).elim (hc c) (b c)
  unfold joinF at hr
  split at hr
  ·exact joinF_good t _ (fun y hy => hx y (by simp [hy])) hc' (by rw [List.length_append]; omega) r hr
  ·rcases List.mem_cons.1 hr with rfl | hr
   ·obtain ⟨d, e⟩ := trimR_sub (cur ++ x.f0)
    refine ⟨?_, fun c h => hc' c (by rw [e]; simp [h]), trim_idem _⟩
    have := congrArg List.length e
    simp only [List.length_append] at this
    omega
   ·exact joinF_good t [] (fun y hy => hx y (by simp [hy])) (fun _ h => by cases h) (by simp; omega) r hr
theorem good_rows {L : List LineT} (h : GoodL L) : (∀ r ∈ joinF L [], GoodR r) ∧ (joinF L []).length ≤ 200 :=
 ⟨joinF_good L [] (fun x hx => (h.row x hx).2) (fun _ h => by cases h) (by have := h.len; simp; omega), by have := joinF_len L []; have := h.len; omega⟩
theorem ones_pairs : ∀ (r : List CellT), (∀ c ∈ r, GoodC c) → Pairs r
 | [], _ => .nil
 | c :: t, h => .one (h c (by simp)).1 (ones_pairs t fun x hx => h x (by simp [hx]))
theorem good_ok {r : List CellT} (h : GoodR r) : RowOK r := ⟨ones_pairs r h.cell, fun c hc => (h.cell c hc).2.1, by have := h.len; omega⟩
theorem good_letters {L : List LineT} (h : GoodL L) : Ev (fun k => flow_Letters.f k L) ((joinF L []).map fun r => ⟨(sayR r).toArray⟩, 0) := by
 obtain ⟨h1, h2⟩ := good_rows h
 have h9 : (joinF L []).length ≤ 1000000000000 := by omega
 unfold flow_Letters.f
 exact Ev.bind (good_join h) (Ev.pos rfl (Ev.pos h9 (Ev.bind (Ev.of (rows_is _ fun r hr => good_ok (h1 r hr))) (Ev.ret _))))
def foldO (m : Nat) : List CellT → List CellT → List LineT
 | [], now => [⟨fillL now m, false⟩]
 | c :: t, now => if m < now.length + 1 then ⟨fillL now m, true⟩ :: foldO m t [c] else foldO m t (now ++ [c])
theorem foldO_ne (m : Nat) : ∀ t now, foldO m t now ≠ []
 | [], now => by simp [foldO]
 | c :: t, now => by unfold foldO; split; simp; exact foldO_ne m t _
theorem foldO_len (m : Nat) : ∀ t now, (foldO m t now).length ≤ t.length + 1
 | [], now => by simp [foldO]
 | c :: t, now => by
  unfold foldO
  have h1 := foldO_len m t [c]
  have h2 := foldO_len m t (now ++ [c])
  split <;> simp only [List.length_cons] <;> omega
theorem fill_good {m : Nat} {now : List CellT} (h : ∀ c ∈ now, GoodC c) : ∀ c ∈ fillL now m, GoodC c := fun c hc => by
 unfold fillL at hc
 rcases List.mem_append.1 hc with hc | hc
 ·exact h c hc
 ·rw [List.eq_of_mem_replicate hc]; exact blank_good
theorem foldO_good (m : Nat) (hm : 1 ≤ m) : ∀ t now, (∀ c ∈ t, GoodC c) → (∀ c ∈ now, GoodC c) → now.length ≤ m → ∀ x ∈ foldO m t now, x.f0.length = m ∧ ∀ c ∈ x.f0, GoodC c
 | [], now, _, hn, hl, x, hx => by
  rw [foldO, List.mem_singleton] at hx
  subst hx
  exact ⟨fillL_length hl, fill_good hn⟩
 | c :: t, now, ht, hn, hl, x, hx => by
  have hc := ht c (by simp)
  have ht' : ∀ d ∈ t, GoodC d := fun d hd => ht d (by simp [hd])
  unfold foldO at hx
  split at hx
  ·rcases List.mem_cons.1 hx with rfl | hx
   ·exact ⟨fillL_length hl, fill_good hn⟩
   ·exact foldO_good m hm t [c] ht' (fun d hd => by rw [List.mem_singleton.1 hd]; exact hc) (by simpa using hm) x hx
  ·exact foldO_good m hm t (now ++ [c]) ht' (fun d hd => (List.mem_append.1 hd).elim (hn d) (fun hd => by rw [List.mem_singleton.1 hd]; exact hc)) (by simp; omega) x hx
theorem trim_blanks (a : List CellT) : ∀ n, trimR (a ++ List.replicate n blankC) = trimR a
 | 0 => by simp
 | n + 1 => by
  rw [List.replicate_succ', ← List.append_assoc, trimR_snoc, if_pos (by unfold blankB blankC; rw [ByteArray.toList_eq]; rfl), trim_blanks a n]
theorem joinF_foldO (m : Nat) (rest : List LineT) : ∀ t now cur, now.length ≤ m → 1 ≤ m → joinF (foldO m t now ++ rest) cur = trimR (cur ++ now ++ t) :: joinF rest []
 | [], now, cur, hl, hm => by
  rw [foldO, List.singleton_append, joinF, if_neg (fun h => by cases h.1)]
  unfold fillL
  rw [← List.append_assoc, trim_blanks, List.append_nil]
 | c :: t, now, cur, hl, hm => by
  unfold foldO
  split
  ·rename_i h
   rw [List.cons_append, joinF, if_pos ⟨rfl, by simp [foldO_ne]⟩, joinF_foldO m rest t [c] _ (by simpa using hm) hm]
   have e : fillL now m = now := by unfold fillL; rw [show m - now.length = 0 by omega]; simp
   rw [e]; simp
  ·rw [joinF_foldO m rest t (now ++ [c]) cur (by simp; omega) hm]; simp
def flowO (m : Nat) (R : List (List CellT)) : List LineT := R.flatMap fun r => foldO m r []
theorem joinF_flowO (m : Nat) (hm : 1 ≤ m) : ∀ R : List (List CellT), (∀ r ∈ R, GoodR r) → joinF (flowO m R) [] = R
 | [], _ => rfl
 | r :: t, h => by
  have e : flowO m (r :: t) = foldO m r [] ++ flowO m t := rfl
  rw [e, joinF_foldO m _ r [] [] (by simp) hm, joinF_flowO m hm t (fun x hx => h x (by simp [hx]))]
  simp [(h r (by simp)).trim]
theorem fold_loopO (l : List CellT) (m : Nat) (hm : 1 ≤ m) : ∀ (t : List CellT) (off f : Nat) (out : List LineT) (now : List CellT), (∀ c ∈ t, GoodC c) → l.drop off = t → t.length ≤ f →
  ∃ gs, grpF f off t = some gs ∧ ((gs.foldl (stepS m l) (out, now)).1 ++ [⟨fillL (gs.foldl (stepS m l) (out, now)).2 m, false⟩] : List LineT) = out ++ foldO m t now
 | [], off, f, out, now, _, _, _ => ⟨[], by cases f <;> rfl, rfl⟩
 | c :: t, off, f, out, now, hg, he, hf => by
  rw [List.length_cons] at hf
  obtain ⟨f, rfl⟩ : ∃ g, f = g + 1 := ⟨f - 1, by omega⟩
  have h1 : c.f1 = 1 := (hg c (by simp)).1
  have hc : cellsOf l (off, 1) = [c] := by unfold cellsOf; rw [he]; rfl
  have hs : stepS m l (out, now) (off, 1) = if m < now.length + 1 then (out ++ [⟨fillL now m, true⟩], [c]) else (out, now ++ [c]) := by
   unfold stepS; rw [if_neg (show ¬ m < 1 by omega), hc]
  have hx : l.drop (off + 1) = t := by rw [drop_more he]; rfl
  have ht : ∀ d ∈ t, GoodC d := fun d hd => hg d (by simp [hd])
  have e1 : (mx c.f1 1).toNat = 1 := by rw [h1]; rfl
  by_cases hov : m < now.length + 1
  ·obtain ⟨gs, g1, g2⟩ := fold_loopO l m hm t (off + 1) f (out ++ [⟨fillL now m, true⟩]) [c] ht hx (by omega)
   refine ⟨(off, 1) :: gs, ?_, ?_⟩
   ·unfold grpF; rw [e1, if_pos (by omega), List.drop_one, List.tail_cons, g1]; rfl
   ·rw [List.foldl_cons, hs, if_pos hov, g2, foldO, if_pos hov]; simp
  ·obtain ⟨gs, g1, g2⟩ := fold_loopO l m hm t (off + 1) f out (now ++ [c]) ht hx (by omega)
   refine ⟨(off, 1) :: gs, ?_, ?_⟩
   ·unfold grpF; rw [e1, if_pos (by omega), List.drop_one, List.tail_cons, g1]; rfl
   ·rw [List.foldl_cons, hs, if_neg hov, g2, foldO, if_neg hov]
theorem fold_isO {r : List CellT} (h : GoodR r) (m : Nat) (hm : 1 ≤ m) (hm2 : m ≤ 80) : flow_fold.f r (m : Nat) = some (foldO m r []) := by
 obtain ⟨gs, g1, g2⟩ := fold_loopO r m hm r 0 r.length [] [] h.cell rfl (Nat.le_refl _)
 have := h.len
 unfold flow_fold.f grpO foldS
 rw [if_pos ⟨by omega, by omega, by omega⟩, g1, Option.bind_some, Int.toNat_natCast, g2]; rfl
theorem flow_loopO (R : List (List CellT)) (hR : ∀ r ∈ R, GoodR r) (hl : R.length ≤ 1000) (m : Nat) (hm : 1 ≤ m) (hm2 : m ≤ 80) : ∀ n i (acc : List LineT), i + n = R.length → acc.length ≤ 1000000 * i →
  Ev (fun k => flow_Flow.l0 k (m : Nat) acc R (R.length : Int) (i : Nat)) (acc ++ flowO m (R.drop i), 0)
 | 0, i, acc, hi, ha => Ev.succ (by simp only [flow_Flow.l0]; rw [List.drop_eq_nil_of_le (by omega)]; simp only [flowO, List.flatMap_nil, List.append_nil]; exact Ev.neg (by omega) (Ev.ret _))
 | n + 1, i, acc, hi, ha => by
  have hlt : i < R.length := by omega
  have hw := w64 i (by omega)
  have hg := hR _ (List.getElem_mem hlt)
  have e1 : rd_L4 R (i : Nat) = R[i] := by unfold rd_L4; simp [List.getD_eq_getElem?_getD, hlt]
  have hlen := foldO_len m R[i] []
  have hgl := hg.len
  have ih := flow_loopO R hR hl m hm hm2 n (i + 1) (acc ++ foldO m R[i] []) (by omega) (by rw [List.length_append]; omega)
  have e2 : acc ++ flowO m (R.drop i) = acc ++ foldO m R[i] [] ++ flowO m (R.drop (i + 1)) := by
   rw [List.drop_eq_getElem_cons hlt, List.append_assoc]; rfl
  rw [e2]
  refine Ev.succ ?_
  simp only [flow_Flow.l0]
  rw [e1, hw, fold_isO hg m hm hm2]
  exact Ev.pos (by omega) (Ev.pos (by omega) (Ev.pos (by omega) (Ev.bind (Ev.ret (foldO m R[i] [])) (Ev.pos (by omega) ih))))
theorem good_flow {L : List LineT} (h : GoodL L) (m : Nat) (hm : 1 ≤ m) (hm2 : m ≤ 80) : Ev (fun k => flow_Flow.f k L (m : Nat)) (flowO m (joinF L []), 0) := by
 obtain ⟨h1, h2⟩ := good_rows h
 unfold flow_Flow.f
 refine Ev.bind (good_join h) (Ev.pos rfl (Ev.neg (by omega) (Ev.succ ?_)))
 simp only [flow_Flow.j0]
 refine Ev.neg (by rw [decide_eq_false (by omega)]; decide) ?_
 simpa using flow_loopO (joinF L []) h1 (by omega) m hm hm2 (joinF L []).length 0 [] (by omega) (by simp)
theorem good_next {L : List LineT} (h : GoodL L) (m : Nat) (hm : 1 ≤ m) (hm2 : m ≤ 80) (hl : (flowO m (joinF L [])).length ≤ 200) : GoodL (flowO m (joinF L [])) ∧ joinF (flowO m (joinF L [])) [] = joinF L [] := by
 obtain ⟨h1, h2⟩ := good_rows h
 refine ⟨⟨hl, fun x hx => ?_⟩, joinF_flowO m hm _ h1⟩
 obtain ⟨r, hr, hx⟩ := List.mem_flatMap.1 hx
 obtain ⟨a, b⟩ := foldO_good m hm r [] (h1 r hr).cell (fun _ h => by cases h) (by simp) x hx
 exact ⟨by omega, by omega, b⟩
end Go.Proofs.YtckkdaehmccjlaaDoor.P.Fl
namespace Go.Proofs.YtckkdaehmccjlaaDoor.P.Fl
open Go.RowKit Go.Proofs.YtckkdaehmccjlaaDoorW.PrintWords Go.Proofs.YtckkdaehmccjlaaDoorW.PrintLast Go.Proofs.YtckkdaehmccjlaaDoorW.PrintMore
theorem alive_k (k : Nat) : backseatlaw08_alive.f (k + 20) = some true := by kernel_rfl
theorem alive_ev : Ev (fun k => backseatlaw08_alive.f k) true := ⟨20, fun k hk => by
 obtain ⟨j, rfl⟩ : ∃ j, k = j + 20 := ⟨k - 20, by omega⟩
 exact alive_k j⟩
end Go.Proofs.YtckkdaehmccjlaaDoor.P.Fl
namespace Go.Proofs.YtckkdaehmccjlaaDoor.P.Fl
open Go.RowKit Go.Proofs.YtckkdaehmccjlaaDoorW.PrintWords Go.Proofs.YtckkdaehmccjlaaDoorW.PrintLast Go.Proofs.YtckkdaehmccjlaaDoorW.PrintMore
set_option linter.unusedVariables false
set_option linter.unusedSimpArgs false
theorem cols_in (a : Int) : ∃ m : Nat, 1 ≤ m ∧ m ≤ 20 ∧ wrap64 (1 + (Int.tmod (wrap64 ((Int.tmod a 20) + 20)) 20)) = (m : Int) := by
 have key : ∃ t : Nat, t ≤ 39 ∧ Int.tmod a 20 + 20 = (t : Int) := by
  obtain ⟨n, rfl | rfl⟩ := Int.eq_nat_or_neg a
  ·refine ⟨n % 20 + 20, by omega, ?_⟩
   rw [show (20 : Int) = ((20 : Nat) : Int) from rfl, ← Int.ofNat_tmod]; omega
  ·refine ⟨20 - n % 20, by omega, ?_⟩
   rw [Int.neg_tmod, show (20 : Int) = ((20 : Nat) : Int) from rfl, ← Int.ofNat_tmod]; omega
 obtain ⟨t, ht, e⟩ := key
 rw [e, IntWalk.wrap64_in ((t : Nat) : Int) (by omega), show (20 : Int) = ((20 : Nat) : Int) from rfl, ← Int.ofNat_tmod, IntWalk.wrap64_in _ (by omega)]
 exact ⟨1 + t % 20, by omega, by omega, by omega⟩
theorem text_loop (S : List ByteArray) (hl : S.length ≤ 1000) : ∀ m i, i + m = S.length → Ev (fun k => backseatlaw08_FlowTurns.l2 k S S (S.length : Int) (i : Nat)) true
 | 0, i, hi => Ev.succ (by simp only [backseatlaw08_FlowTurns.l2]; exact Ev.neg (by omega) (Ev.ret _))
 | m + 1, i, hi => Ev.succ (by
  have hw := w64 i (by omega)
  simp only [backseatlaw08_FlowTurns.l2]
  rw [hw]
  exact Ev.pos (by omega) (Ev.pos (by omega) (Ev.pos (by omega) (Ev.pos (by omega) (Ev.pos (by trivial) (text_loop S hl m (i + 1) (by omega)))))))
theorem turns_cells (L : List LineT) (a b n i : Int) (cs : List CellT) (hc : cs.length ≤ 1000)
  (hnext : (∀ c ∈ cs, c.f1 = 1) → Ev (fun k => backseatlaw08_FlowTurns.l0 k L a b n (wrap64 (i + 1))) true) : ∀ m j, j + m = cs.length → (∀ c ∈ cs.take j, c.f1 = 1) →
  Ev (fun k => backseatlaw08_FlowTurns.l1 k L a b n i cs (cs.length : Int) (j : Nat)) true
 | 0, j, hj, h => Ev.succ (by
  simp only [backseatlaw08_FlowTurns.l1]
  rw [List.take_of_length_le (by omega)] at h
  exact Ev.neg (by omega) (hnext h))
 | m + 1, j, hj, h => Ev.succ (by
  have hlt : j < cs.length := by omega
  have hw := w64 j (by omega)
  simp only [backseatlaw08_FlowTurns.l1]
  rw [rd_cell hlt, hw]
  refine Ev.pos (by omega) (Ev.pos (by omega) (Ev.pos (by omega) ?_))
  by_cases h1 : cs[j].f1 = 1
  ·refine Ev.pos h1 (turns_cells L a b n i cs hc hnext m (j + 1) (by omega) (fun c hx => ?_))
   rw [List.take_succ_eq_append_getElem hlt] at hx
   rcases List.mem_append.1 hx with hx | hx
   ·exact h c hx
   ·rw [List.mem_singleton.1 hx]; exact h1
  ·exact Ev.neg h1 (Ev.bind alive_ev (Ev.ret _)))
theorem turns_lines (L : List LineT) (a b : Int) (hL : L.length ≤ 1000) (hx : ∀ x ∈ L, x.f0.length ≤ 1000)
  (hfin : (∀ x ∈ L, ∀ c ∈ x.f0, c.f1 = 1) → Ev (fun k => backseatlaw08_FlowTurns.l0 k L a b (L.length : Int) (L.length : Nat)) true) : ∀ m i, i + m = L.length → (∀ x ∈ L.take i, ∀ c ∈ x.f0, c.f1 = 1) →
  Ev (fun k => backseatlaw08_FlowTurns.l0 k L a b (L.length : Int) (i : Nat)) true
 | 0, i, hi, h => by
  obtain rfl : i = L.length := by omega
  rw [List.take_of_length_le (Nat.le_refl _)] at h
  exact hfin h
 | m + 1, i, hi, h => by
  have hlt : i < L.length := by omega
  have hw := w64 i (by omega)
  refine Ev.succ ?_
  simp only [backseatlaw08_FlowTurns.l0]
  rw [rd_line hlt]
  refine Ev.pos (by omega) (Ev.pos (by omega) (Ev.pos (by omega) (turns_cells L a b _ _ L[i].f0 (hx _ (List.getElem_mem hlt)) (fun h1 => ?_) L[i].f0.length 0 (by omega) (by simp))))
  rw [hw]
  refine turns_lines L a b hL hx hfin m (i + 1) (by omega) (fun x hy => ?_)
  rw [List.take_succ_eq_append_getElem hlt] at hy
  rcases List.mem_append.1 hy with hy | hy
  ·exact h x hy
  ·rw [List.mem_singleton.1 hy]; exact h1
theorem turns_j2t (b : Int) (S : List ByteArray) (e : Int) (F : List LineT) (f : Int) (h : e = 0 ∨ e = f) : Ev (fun k => backseatlaw08_FlowTurns.j2 k b S e F f true) true := by
 refine Ev.succ ?_
 simp only [backseatlaw08_FlowTurns.j2]
 refine Ev.pos (by trivial) (Ev.bind alive_ev (Ev.pos rfl ?_))
 by_cases h0 : e = 0
 ·exact Ev.pos h0 (Ev.ret _)
 ·exact Ev.neg h0 (Ev.of (by rw [h.resolve_left h0]; simp))
theorem turns_fin (L : List LineT) (hL : L.length ≤ 30) (hT : Tiny L) (m n : Nat) (hm : 1 ≤ m) (hm2 : m ≤ 20) (hn : 1 ≤ n) (hn2 : n ≤ 20) (h1 : ∀ x ∈ L, ∀ c ∈ x.f0, c.f1 = 1) :
  Ev (fun k => backseatlaw08_FlowTurns.l0 k L (m : Nat) (n : Nat) (L.length : Int) (L.length : Nat)) true := by
 have hs := tiny_small hL hT
 have hM := may_ev L hs
 refine Ev.succ ?_
 simp only [backseatlaw08_FlowTurns.l0]
 refine Ev.neg (by omega) ?_
 cases hb : (!L.any oddB && decide (L.length ≤ 200))
 ·rw [hb] at hM
  have hJ : Ev (fun k => flow_Join.f k L) (([] : List (List CellT)), 1) := by unfold flow_Join.f; exact Ev.bind hM (Ev.neg (by decide) (Ev.ret _))
  have hG : Ev (fun k => flow_Letters.f k L) (([] : List ByteArray), 1) := by unfold flow_Letters.f; exact Ev.bind hJ (Ev.neg (by decide) (Ev.ret _))
  have hF : Ev (fun k => flow_Flow.f k L (m : Nat)) (([] : List LineT), 1) := by
   unfold flow_Flow.f
   refine Ev.bind hJ (Ev.neg (by decide) (Ev.succ ?_))
   simp only [flow_Flow.j0]
   exact Ev.pos (by trivial) (Ev.ret _)
  exact Ev.bind hG (Ev.bind hF (Ev.neg (by decide) (turns_j2t _ _ _ _ _ (Or.inr rfl))))
 ·have hg : GoodL L := by
   refine ⟨by omega, fun x hx => ?_⟩
   have ho : oddB x = false := by
    rw [Bool.and_eq_true, Bool.not_eq_true', List.any_eq_false] at hb
    exact Bool.eq_false_iff.2 (hb.1 x hx)
   obtain ⟨_, h2, _⟩ := odd_ev x (hs.2 x hx)
   obtain ⟨c1, c2, hf⟩ := h2 ho
   unfold backseatref06_Fits.f at hf
   have H := fits_at _ _ _ (hs.2 x hx) x.f0.length 0 (by omega) hf
   refine ⟨by omega, by omega, fun c hc => ⟨h1 x hx c hc, (hT x hx).2 c hc, ?_⟩⟩
   obtain ⟨j, hj, rfl⟩ := List.getElem_of_mem hc
   have := (H j (by omega) hj).1
   rw [rd_cell hj] at this
   exact this
  have hG := good_letters hg
  have hF := good_flow hg m hm (by omega)
  obtain ⟨hR, hRl⟩ := good_rows hg
  refine Ev.bind hG (Ev.bind hF (Ev.pos rfl (Ev.pos rfl ?_)))
  by_cases hlen : (flowO m (joinF L [])).length ≤ 200
  ·obtain ⟨hg2, hj2⟩ := good_next hg m hm (by omega) hlen
   have hF2 := good_flow hg2 n hn (by omega)
   have hlen' : ¬ ((flowO m (joinF L [])).length : Int) > 200 := by omega
   rw [decide_eq_false hlen']
   refine Ev.succ ?_
   simp only [backseatlaw08_FlowTurns.j2]
   refine Ev.neg (by decide) (Ev.bind hF2 (Ev.pos (by trivial) ?_))
   by_cases hlen2 : (flowO n (joinF (flowO m (joinF L [])) [])).length ≤ 200
   ·obtain ⟨hg3, hj3⟩ := good_next hg2 n hn (by omega) hlen2
    have hG3 := good_letters hg3
    rw [hj3.trans hj2] at hG3
    have hlen2' : ¬ ((flowO n (joinF (flowO m (joinF L [])) [])).length : Int) > 200 := by omega
    rw [decide_eq_false hlen2']
    refine Ev.succ ?_
    simp only [backseatlaw08_FlowTurns.j3]
    refine Ev.neg (by decide) (Ev.bind hG3 (Ev.pos (by trivial) (Ev.pos (by trivial) (Ev.bind alive_ev (Ev.succ ?_)))))
    simp only [backseatlaw08_FlowTurns.j4]
    exact Ev.neg (by decide) (text_loop _ (by rw [List.length_map]; omega) _ 0 (Nat.zero_add _))
   ·have hlen2' : ((flowO n (joinF (flowO m (joinF L [])) [])).length : Int) > 200 := by omega
    rw [decide_eq_true hlen2']
    refine Ev.succ ?_
    simp only [backseatlaw08_FlowTurns.j3]
    exact Ev.pos (by trivial) (Ev.bind alive_ev (Ev.pos (by trivial) (Ev.of rfl)))
  ·have hlen' : ((flowO m (joinF L [])).length : Int) > 200 := by omega
   rw [decide_eq_true hlen']
   exact turns_j2t _ _ _ _ _ (Or.inl rfl)
theorem turns_pure (l0 : List S38) (a b : Int) : ∃ k, backseatlaw08_FlowTurns.f k l0 a b = some true := by
 obtain ⟨L, ⟨hL, hT⟩, hfew⟩ := few_ev l0
 obtain ⟨m, hm, hm2, em⟩ := cols_in a
 obtain ⟨n, hn, hn2, en⟩ := cols_in b
 refine Ev.ex (f := fun k => backseatlaw08_FlowTurns.f k l0 a b) ?_
 unfold backseatlaw08_FlowTurns.f
 rw [em, en]
 exact Ev.bind hfew (turns_lines L _ _ (by omega) (fun x hx => by have := (hT x hx).1; omega) (fun h1 => turns_fin L hL hT m n hm hm2 hn hn2 h1) L.length 0 (by omega) (by simp))
end Go.Proofs.YtckkdaehmccjlaaDoor.P.Fl
namespace Go.Proofs.YtckkdaehmccjlaaDoor.P
theorem flowTurns_pure (l0 : List S38) (a b : Int) (_ : -9223372036854775808 ≤ a ∧ a ≤ 9223372036854775807) (_ : -9223372036854775808 ≤ b ∧ b ≤ 9223372036854775807) (_ : l0.length ≤ 9223372036854775807) : ∃ k, backseatlaw08_FlowTurns.f k l0 a b = some true := Fl.turns_pure l0 a b
end Go.Proofs.YtckkdaehmccjlaaDoor.P
namespace Go.Proofs.YtckkdaehmccjlaaDoor.flowTurns
open Go.ChangeShapes Go.WideShapes Go.ChangeAt Go.RowKit Go.Shelf Go.Lib
open Go.ChangeMaps (open_string shut_string)
open Go.Proofs.YtckkdaehmccjlaaDoor.P
set_option linter.unusedVariables false
theorem own : ownKnob Tryd.prog.godebug = none := by kernel_rfl
theorem laidOut : laidOutB Tryd.prog = true := by kernel_rfl
theorem tabs_of {w : World} (hL : laidMet Tryd.prog Rows.flowTurnsRow.laid w) : Tabs w :=
 ⟨utf8Tabs_of_reads (ρ := Tryd.lays197_ren) { Tryd.lays197 with } ⟨by kernel_rfl, by kernel_rfl, by kernel_rfl, by kernel_rfl, by kernel_rfl, by kernel_rfl, by kernel_rfl⟩ (Pinned.utf8First_eq ▸ Lib.laidMet.reads hL (.tail _ (.head _))) (Lib.laidMet.reads hL (.head _))⟩
set_option maxRecDepth 100000 in
theorem lifted (os : Os) (started : os.Started) (H : Type) (enc : TypeId × Value → H) :
  ReturnsInHanded {} Tryd.checked os 7 .any (fun w args => (Rows.flowTurnsSpec.pre enc Tryd.prog Tryd.f7 [] false w args ∧ laidMetH Tryd.prog Rows.flowTurnsRow.laid w) ∧ sizedMet enc Tryd.prog Tryd.f7 (OpenSpec.ofChange Rows.flowTurnsSpec) false w args)
   (Rows.flowTurnsSpec.post enc Tryd.prog Tryd.f7 false true false false) := by
 refine returnsInHanded_of_change_and (C := Tryd.checked) (X := fun w _ => laidMetH Tryd.prog Rows.flowTurnsRow.laid w) (fun _ _ _ hh h => h.of_heap hh) own started (by kernel_rfl) Tryd.func7
  (ChangeSpec.witness_shaped (enc := enc) (C := Tryd.checked) (os := os) (X := fun w _ => laidMetH Tryd.prog Rows.flowTurnsRow.laid w) false (World.laidAll Tryd.prog os Rows.flowTurnsRow.laid) #[.slice none 0 0, .int .i64 0, .int .i64 0] 8 (World.laidAll_os _ _ _)
   (World.shaped_of_ZipB (by kernel_rfl) (by kernel_rfl)) (by kernel_rfl) (by kernel_rfl) (by kernel_rfl)
   (by rw [MakeChecks.laidMetH_plain _ _ _ (by kernel_rfl)]; exact laidMet_laidAll _ (by kernel_rfl) (by kernel_rfl))) ?_
 intro W base args ds gs before hval0 hW _ _ hL _
 have hval : ∀ (j : Nat) t v, Tryd.f7.params[j]? = some t → args[j]? = some v → Value.okWide Tryd.prog W .any base t v := hval0
 have hW' := hW
 obtain ⟨p, q, hA0, hV, rfl, hfz, hnd⟩ := hW
 have hA : DataW.TrodAll enc Tryd.prog W 0 (fun _ => true) true Tryd.f7.params.toList args.toList ds p := hA0
 rw [Tryd.params7] at hA hval
 obtain ⟨v0, vs0, d0, ds0, p0, q0, hargs, rfl, rfl, h0, r0⟩ := trodAll_cons hA
 obtain ⟨v1, vs1, d1, ds1, p1, q1, rfl, rfl, rfl, h1, r1⟩ := trodAll_cons r0
 obtain ⟨v2, vs2, d2, ds2, p2, q2, rfl, rfl, rfl, h2, r2⟩ := trodAll_cons r1
 obtain ⟨rfl, rfl, rfl⟩ := trodAll_nil r2
 obtain rfl : args = #[v0, v1, v2] := by cases args; simp_all
 obtain ⟨rfl, rfl⟩ := trodVars_none hV
 obtain ⟨a0, len0, cap0, rfl⟩ := okWide_slice Tryd.underlying22 (hval 0 22 v0 rfl rfl)
 have k0 := h0
 have lt0 : ∀ x ∈ p0, x.block < W.heap.size := by obtain ⟨m, hm⟩ := k0; exact DataW.trod_lt m _ _ _ hm
 obtain ⟨fuel0, hf0⟩ := h0
 obtain ⟨l0, hlen0, hc0, hC0⟩ := lines_of_trod (c := cap0) hf0
 obtain ⟨a1, rfl, rfl, rfl, w1⟩ := open_int Tryd.underlying3 (hval 1 3 v1 rfl rfl) h1
 obtain ⟨a2, rfl, rfl, rfl, w2⟩ := open_int Tryd.underlying3 (hval 2 3 v2 rfl rfl) h2
 rw [MakeChecks.laidMetH_plain _ _ _ (by kernel_rfl)] at hL
 have hT : Tabs W := tabs_of hL
 have x1 : -9223372036854775808 ≤ a1 ∧ a1 ≤ 9223372036854775807 := by simpa [Lit.wf, IntKind.min, IntKind.max, IntKind.signed, IntKind.bits] using w1
 have x2 : -9223372036854775808 ≤ a2 ∧ a2 ≤ 9223372036854775807 := by simpa [Lit.wf, IntKind.min, IntKind.max, IntKind.signed, IntKind.bits] using w2
 subst hlen0
 obtain ⟨k, hk⟩ := flowTurns_pure l0 a1 a2 x1 x2 (Go.Proofs.YtckkdaehmccjlaaDoorW.PrintWords.Kd.C_max hC0)
 clear hA0 hval0 hf0
 refine (backseatlaw08_FlowTurns.calls k a0 cap0 l0 a1 a2 true W hC0 hc0 hk hT).mono fun e W' ⟨he, bel⟩ => ?_
 subst he
 exact ⟨_, rfl, _, _, _, [], _, [], hW', trodAll_mk1 (shut_bool Tryd.underlying4 _), (trodAll_cons_mk (Below.trod laidOut (by kernel_rfl) (of_decide_eq_true (by kernel_rfl)) k0 bel lt0) (trodAll_cons_mk (shut_int Tryd.underlying3 w1) (trodAll_cons_mk (shut_int Tryd.underlying3 w2) trodAll_mk0))), rfl, bel.frame _, fun h => by cases h⟩
theorem row_holds : Rows.FlowTurnsSaid :=
 OpenClaim.holds_of_wide 7 Tryd.f7 rfl rfl rfl rfl rfl rfl rfl ⟨rfl, rfl, rfl, rfl, rfl⟩ rfl rfl rfl rfl rfl (by kernel_rfl) Tryd.func7 (by kernel_rfl)
  (of_decide_eq_true (by kernel_rfl)) (by unfold Func.isWrapper; first | (rw [if_pos (by decide +kernel)]; kernel_rfl) | (rw [if_neg (by decide +kernel)]; exact ⟨rfl, rfl⟩))
  (fun os started H enc _ => lifted os started H enc)
theorem card_holds : Rows.FlowTurnsCardSaid :=
 Claim7.holds_tied_plain_at .later [] [.data, .pinned] true (true, "56f34029b3037d658335f65c104c5fb094e35f5c91688626dc0cdcff1830fce7") false row_holds (fun _ h => by cases h) (by kernel_rfl) (fun _ h => by cases h) flowTurns_row_tie rfl ⟨rfl, rfl⟩ (by kernel_rfl) rfl
  (fun f fn hf hfn => by
   obtain rfl : f = 7 := Option.some.inj ((show Tryd.prog.funcNamed "backseat/backseatlaw08.FlowTurns" = some 7 by kernel_rfl).symm.trans hf) |>.symm
   obtain rfl : fn = Tryd.f7 := (Option.some.inj (Tryd.func7.symm.trans hfn)).symm
   exact ⟨by kernel_rfl, fun j t ht => by
    rw [Tryd.params7] at ht
    have hm : t ∈ [22, 3, 3] := by simpa using Array.mem_of_getElem? ht
    have hall : ([22, 3, 3].all fun u => !Tryd.prog.wantsStandIn u) = true := by kernel_rfl
    exact (show Tryd.prog.wantsStandIn t = false by simpa using List.all_eq_true.1 hall t hm)⟩)
  (by kernel_rfl)
end Go.Proofs.YtckkdaehmccjlaaDoor.flowTurns
