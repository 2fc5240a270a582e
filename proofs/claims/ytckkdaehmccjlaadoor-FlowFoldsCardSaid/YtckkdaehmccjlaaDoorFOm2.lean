/- Texts of this session put together by a program, part 2: Px56, Px22, Px16, Px17, Px19, Px20, Px21, Px18, RowB, Begins, Px57, Px58, Px59, Px60, Px67, Px71. -/
import Derived.Test.YtckkdaehmccjlaaDoorFOm1
import Derived.Lib.SliceRun
namespace Go.Proofs.YtckkdaehmccjlaaDoor.P
open Go.RowKit Go.Proofs.YtckkdaehmccjlaaDoorW.PrintWords Go.Proofs.YtckkdaehmccjlaaDoorW.PrintLast Go.Proofs.YtckkdaehmccjlaaDoorW.PrintMore
attribute [local go_sem] max2_int min2_int max_two min_two max_three min_three max_four min_four   -- for this text's walks alone
set_option linter.unusedVariables false
set_option linter.unusedSimpArgs false
def flow_Fold.f (k : Nat) (l0 : List (S60)) (a1 : Int) : Option ((List (S38)) × Int) := if a1 < 1 then (some (([] : List (S38)), 1)) else (if a1 > 80 then (some (([] : List (S38)), 1)) else (if (l0.length : Int) > 16000 then (some (([] : List (S38)), 1)) else ((grid_Fits.f k l0 false (l0.length : Int)).bind fun t445 => (if t445 = true then ((flow_fold.f l0 a1).bind fun t446 => (some (t446, 0))) else (some (([] : List (S38)), 1))))))
set_option maxHeartbeats 8000000 in
set_option maxRecDepth 100000 in
theorem flow_Fold.calls (k : Nat) (A0 : Option Addr) (c0 : Nat) (l0 : List (S60)) (a1 : Int) (r1 : List (S38)) (r2 : Int) (w : World) (hr0 : Kd.C k60 w A0 l0.length l0) (hc0 : l0.length ≤ c0) (h : flow_Fold.f k l0 a1 = some (r1, r2)) (hT : Tabs w := by first | exact Aside0.out (by with_reducible assumption) | exact Tabs.keepA (by with_reducible assumption) (by repeat (first | (with_reducible exact Aside0.out (by with_reducible assumption)) | (with_reducible apply below_alloc) | (with_reducible apply pw_below_drewN) | (with_reducible apply below_drew1) | (with_reducible refine below_set ?_ (Aside0.out (by with_reducible assumption)))))) :
  Calls Tryd.prog 25 #[.slice A0 l0.length c0, .int .i64 a1] w fun e w' => ∃ v0_ : Value, e = .returned (.tuple #[v0_, .int .i64 r2]) ∧ Kd.N k38 38 w' w.heap.size (fun k_ => (w.heap.size ≤ k_)) v0_ r1 ∧ Below w.heap.size w w' := by
 have HT := Aside0.mk (show Tabs w from hT)
 clear hT
 have hu38 := Tryd.underlying38
 have HR0 := Aside0.mk hr0
 have HC0 := Aside0.mk hc0
 clear hr0 hc0
 have HB := Aside0.mk (Below.refl w.heap.size w)
 have H : (if a1 < 1 then (some (([] : List (S38)), 1)) else (if a1 > 80 then (some (([] : List (S38)), 1)) else (if (l0.length : Int) > 16000 then (some (([] : List (S38)), 1)) else ((grid_Fits.f k l0 false (l0.length : Int)).bind fun t445 => (if t445 = true then ((flow_fold.f l0 a1).bind fun t446 => (some (t446, 0))) else (some (([] : List (S38)), 1))))))) = some (r1, r2) := h
 clear h
 by_cases c3 : a1 < 1
 ·rw [if_pos c3] at H
  have c3b0 : decide (a1 < 1) = true := decide_eq_true c3
  clear c3
  simp only [Option.some.injEq, Prod.mk.injEq] at H
  obtain ⟨rfl, rfl⟩ := H
  go_enter Tryd.func25, Tryd.ntmps25
  go_wp2
  go_ret2
  exact ⟨_, ze, by first | exact Kd.S_nil _ _ _ _ _ | exact Kd.N_nil _ _ _ _ _ | exact Kd.V_nil _ _ _ _ _ | exact Kd.Q_nil _ _ _ _ _ | exact Kd.R_nil _ _ _ _ _, zb⟩
 ·rw [if_neg c3] at H
  have c3b0 : decide (a1 < 1) = false := decide_eq_false c3
  clear c3
  by_cases c4 : a1 > 80
  ·rw [if_pos c4] at H
   have c4b0 : decide (80 < a1) = true := decide_eq_true c4
   clear c4
   simp only [Option.some.injEq, Prod.mk.injEq] at H
   obtain ⟨rfl, rfl⟩ := H
   go_enter Tryd.func25, Tryd.ntmps25
   go_wp2
   go_ret2
   exact ⟨_, ze, by first | exact Kd.S_nil _ _ _ _ _ | exact Kd.N_nil _ _ _ _ _ | exact Kd.V_nil _ _ _ _ _ | exact Kd.Q_nil _ _ _ _ _ | exact Kd.R_nil _ _ _ _ _, zb⟩
  ·rw [if_neg c4] at H
   have c4b0 : decide (80 < a1) = false := decide_eq_false c4
   clear c4
   by_cases c5 : (l0.length : Int) > 16000
   ·rw [if_pos c5] at H
    have c5b0 : decide (16000 < (l0.length : Int)) = true := decide_eq_true c5
    have c5b1 : decide (16000 < l0.length) = true := decide_eq_true (by omega)
    clear c5
    simp only [Option.some.injEq, Prod.mk.injEq] at H
    obtain ⟨rfl, rfl⟩ := H
    go_enter Tryd.func25, Tryd.ntmps25
    go_wp2
    go_ret2
    exact ⟨_, ze, by first | exact Kd.S_nil _ _ _ _ _ | exact Kd.N_nil _ _ _ _ _ | exact Kd.V_nil _ _ _ _ _ | exact Kd.Q_nil _ _ _ _ _ | exact Kd.R_nil _ _ _ _ _, zb⟩
   ·rw [if_neg c5] at H
    have c5b0 : decide (16000 < (l0.length : Int)) = false := decide_eq_false c5
    have c5b1 : decide (16000 < l0.length) = false := decide_eq_false (by omega)
    clear c5
    replace H := Option.bind_eq_some_iff.mp H
    obtain ⟨t445, A60, H⟩ := H
    replace H : (if t445 = true then ((flow_fold.f l0 a1).bind fun t446 => (some (t446, 0))) else (some (([] : List (S38)), 1))) = some (r1, r2) := H
    have A6 := Aside0.mk A60
    clear A60
    by_cases c7 : t445 = true
    ·subst c7
     have H1 : ((flow_fold.f l0 a1).bind fun t446 => (some (t446, 0))) = some (r1, r2) := by rw [if_pos rfl] at H; exact H
     clear H
     have H := H1
     clear H1
     replace H := Option.bind_eq_some_iff.mp H
     obtain ⟨t446, A80, H⟩ := H
     replace H : (some (t446, 0)) = some (r1, r2) := H
     have A8 := Aside0.mk A80
     clear A80
     simp only [Option.some.injEq, Prod.mk.injEq] at H
     obtain ⟨rfl, rfl⟩ := H
     go_enter Tryd.func25, Tryd.ntmps25
     go_wp2_with (first | (go_at_call 51; (with_reducible refine (grid_Fits.calls k _ _ l0 false (l0.length : Int) true _ ?side1 ?side2 A6.out).mono ?_); (case side1 => repeat (first | exact HR0.out | (with_reducible refine Kd.C_alloc ?_ _) | (with_reducible refine Kd.C_drewN ?_ _) | (with_reducible refine Kd.C_drew ?_))); (case side2 => exact HC0.out); rintro e w9 ⟨rfl, hb⟩; replace HB := (zs HB hb); (try clear hb)) | ((with_reducible refine gate_callee (f := 52) rfl ?_); refine goesL_ (some 27) rfl rfl Tryd.func52 (by kernel_rfl) rfl #[.slice A0 l0.length c0, .int .i64 a1] rfl zl ?_; (with_reducible refine (flow_fold.calls _ _ l0 a1 t446 _ ?side1 ?side2 A8.out).mono ?_); (case side1 => repeat (first | exact (Kd.C_below HR0.out HB.out) | (with_reducible refine Kd.C_alloc ?_ _) | (with_reducible refine Kd.C_drewN ?_ _) | (with_reducible refine Kd.C_drew ?_))); (case side2 => exact HC0.out); rintro e w10 ⟨v447, rfl, ho0, hb⟩; refine ⟨_, rfl, ?_⟩; have HO448 := Aside0.mk (Kd.N_lower (Kd.N_mono (ok' := fun k_ => (w.heap.size ≤ k_)) ho0 (fun k_ hk_ => (Nat.le_trans (below_size zb) hk_))) (below_size zb)); replace HB := (zs HB hb); (try clear hb); (try clear ho0)))
     go_ret2
     exact ⟨_, ze, by (with_reducible repeat (first | apply Kd.N_alloc | apply Kd.N_drewN | apply Kd.N_drew)); exact HO448.out, zb⟩
    ·replace c7 := Bool.eq_false_iff.mpr c7
     subst c7
     have H1 : (some (([] : List (S38)), 1)) = some (r1, r2) := by rw [if_neg (show ¬ (false = true) by decide)] at H; exact H
     clear H
     have H := H1
     clear H1
     simp only [Option.some.injEq, Prod.mk.injEq] at H
     obtain ⟨rfl, rfl⟩ := H
     go_enter Tryd.func25, Tryd.ntmps25
     go_wp2_with (first | (go_at_call 51; (with_reducible refine (grid_Fits.calls k _ _ l0 false (l0.length : Int) false _ ?side1 ?side2 A6.out).mono ?_); (case side1 => repeat (first | exact HR0.out | (with_reducible refine Kd.C_alloc ?_ _) | (with_reducible refine Kd.C_drewN ?_ _) | (with_reducible refine Kd.C_drew ?_))); (case side2 => exact HC0.out); rintro e w11 ⟨rfl, hb⟩; replace HB := (zs HB hb); (try clear hb)))
     go_ret2
     exact ⟨_, ze, by first | exact Kd.S_nil _ _ _ _ _ | exact Kd.N_nil _ _ _ _ _ | exact Kd.V_nil _ _ _ _ _ | exact Kd.Q_nil _ _ _ _ _ | exact Kd.R_nil _ _ _ _ _, zb⟩
def backseatref06_half.f (l0 : List (S60)) (a1 : Int) : Option (Bool) := if 0 ≤ a1 then (if a1 < (l0.length : Int) then (if ((rd_T60 l0 a1).f1) = 2 then (if (wrap64 (a1 + 1)) = (l0.length : Int) then (some true) else (if 0 ≤ (wrap64 (a1 + 1)) then (if (wrap64 (a1 + 1)) < (l0.length : Int) then (some (((rd_T60 l0 (wrap64 (a1 + 1))).f1) != 0)) else (none)) else (none))) else (if ((rd_T60 l0 a1).f1) = 0 then (if a1 = 0 then (some true) else (if 0 ≤ (wrap64 (a1 - 1)) then (if (wrap64 (a1 - 1)) < (l0.length : Int) then (some (((rd_T60 l0 (wrap64 (a1 - 1))).f1) != 2)) else (none)) else (none))) else (some false))) else (none)) else (none)
set_option maxHeartbeats 8000000 in
set_option maxRecDepth 100000 in
theorem backseatref06_half.calls (A0 : Option Addr) (c0 : Nat) (l0 : List (S60)) (a1 : Int) (r : Bool) (w : World) (hr0 : Kd.C k60 w A0 l0.length l0) (hc0 : l0.length ≤ c0) (h : backseatref06_half.f l0 a1 = some r) :
  Calls Tryd.prog 54 #[.slice A0 l0.length c0, .int .i64 a1] w fun e w' => e = .returned (.bool r) ∧ Drawn0 w w' := by
 have HR0 := Aside0.mk hr0
 have HC0 := Aside0.mk hc0
 clear hr0 hc0
 have H : (if 0 ≤ a1 then (if a1 < (l0.length : Int) then (if ((rd_T60 l0 a1).f1) = 2 then (if (wrap64 (a1 + 1)) = (l0.length : Int) then (some true) else (if 0 ≤ (wrap64 (a1 + 1)) then (if (wrap64 (a1 + 1)) < (l0.length : Int) then (some (((rd_T60 l0 (wrap64 (a1 + 1))).f1) != 0)) else (none)) else (none))) else (if ((rd_T60 l0 a1).f1) = 0 then (if a1 = 0 then (some true) else (if 0 ≤ (wrap64 (a1 - 1)) then (if (wrap64 (a1 - 1)) < (l0.length : Int) then (some (((rd_T60 l0 (wrap64 (a1 - 1))).f1) != 2)) else (none)) else (none))) else (some false))) else (none)) else (none)) = some r := h
 clear h
 by_cases c3 : 0 ≤ a1
 ·rw [if_pos c3] at H
  have c3b0 : decide (0 ≤ a1) = true := decide_eq_true c3
  clear c3
  by_cases c4 : a1 < (l0.length : Int)
  ·rw [if_pos c4] at H
   have c4b0 : decide (a1 < (l0.length : Int)) = true := decide_eq_true c4
   clear c4
   by_cases c5 : ((rd_T60 l0 a1).f1) = 2
   ·rw [if_pos c5] at H
    have c5b0 : (((rd_T60 l0 a1).f1) == 2) = true := beq_iff_eq.mpr c5
    have c5b1 : (((rd_T60 l0 a1).f1) != 2) = false := bne_eq_false_iff_eq.mpr c5
    clear c5
    by_cases c6 : (wrap64 (a1 + 1)) = (l0.length : Int)
    ·rw [if_pos c6] at H
     have c6b0 : ((wrap64 (a1 + 1)) == (l0.length : Int)) = true := beq_iff_eq.mpr c6
     have c6b1 : ((wrap64 (a1 + 1)) != (l0.length : Int)) = false := bne_eq_false_iff_eq.mpr c6
     clear c6
     obtain rfl := Option.some.inj H
     have p232 : 0 ≤ (a1 : Int) := of_decide_eq_true za
     have q232 : a1 < (l0.length : Int) := of_decide_eq_true za
     obtain ⟨ad232, e232, hx232_0, hx232_1, hx232_2, hx232_3, hx232_4⟩ := at_T60 HR0.out a1 p232 q232
     cases e232
     replace p232 := eq_true p232
     replace q232 := eq_true q232
     go_enter Tryd.func54, Tryd.ntmps54
     go_wp2
     go_ret
     exact ⟨by first | rfl | (simp; done) | (simp [*]; done), by repeat (first | exact Drawn0.refl _ | apply Drawn0.step)⟩
    ·rw [if_neg c6] at H
     have c6b0 : ((wrap64 (a1 + 1)) == (l0.length : Int)) = false := beq_eq_false_iff_ne.mpr c6
     have c6b1 : ((wrap64 (a1 + 1)) != (l0.length : Int)) = true := bne_iff_ne.mpr c6
     obtain ⟨ji7, hji7⟩ : ∃ j_ : Int, (wrap64 (a1 + 1)) = j_ := ⟨_, rfl⟩
     replace H : (if 0 ≤ (ji7) then (if (ji7) < (l0.length : Int) then (some (((rd_T60 l0 (ji7)).f1) != 0)) else (none)) else (none)) = some r := by first | (rw [hji7] at H; exact H) | (simp only [hji7] at H ⊢; exact H)
     (try rw [hji7] at c6b0)
     (try rw [hji7] at c6b1)
     have hji7w : (IntKind.i64.wrap (a1 + 1)) = ji7 := (i64_w _).trans hji7
     by_cases c8 : 0 ≤ (ji7)
     ·rw [if_pos c8] at H
      have c8b0 : decide (0 ≤ (ji7)) = true := decide_eq_true c8
      clear c8
      by_cases c9 : (ji7) < (l0.length : Int)
      ·rw [if_pos c9] at H
       have c9b0 : decide ((ji7) < (l0.length : Int)) = true := decide_eq_true c9
       clear c9
       obtain rfl := Option.some.inj H
       have p232 : 0 ≤ (a1 : Int) := of_decide_eq_true za
       have q232 : a1 < (l0.length : Int) := of_decide_eq_true za
       obtain ⟨ad232, e232, hx232_0, hx232_1, hx232_2, hx232_3, hx232_4⟩ := at_T60 HR0.out a1 p232 q232
       cases e232
       replace p232 := eq_true p232
       replace q232 := eq_true q232
       have p233 : 0 ≤ ((ji7) : Int) := of_decide_eq_true za
       have q233 : (ji7) < (l0.length : Int) := of_decide_eq_true za
       obtain ⟨ad233, e233, hx233_0, hx233_1, hx233_2, hx233_3, hx233_4⟩ := at_T60 HR0.out (ji7) p233 q233
       obtain rfl : ad232 = ad233 := (by injection e233)
       replace p233 := eq_true p233
       replace q233 := eq_true q233
       go_enter Tryd.func54, Tryd.ntmps54
       go_wp2
       go_ret
       exact ⟨by first | rfl | (simp; done) | (simp only [← hji7] <;> (first | rfl | (simp; done))) | (simp [*]; done) | (simp; simp only [decide_eq_true_eq, eq_iff_iff, iff_true] at *; omega), by repeat (first | exact Drawn0.refl _ | apply Drawn0.step)⟩
      ·rw [if_neg c9] at H
       exact absurd H (by simp)
     ·rw [if_neg c8] at H
      exact absurd H (by simp)
   ·rw [if_neg c5] at H
    have c5b0 : (((rd_T60 l0 a1).f1) == 2) = false := beq_eq_false_iff_ne.mpr c5
    have c5b1 : (((rd_T60 l0 a1).f1) != 2) = true := bne_iff_ne.mpr c5
    by_cases c10 : ((rd_T60 l0 a1).f1) = 0
    ·rw [if_pos c10] at H
     have c10b0 : (((rd_T60 l0 a1).f1) == 0) = true := beq_iff_eq.mpr c10
     have c10b1 : (((rd_T60 l0 a1).f1) != 0) = false := bne_eq_false_iff_eq.mpr c10
     clear c10
     by_cases c11 : a1 = 0
     ·rw [if_pos c11] at H
      have c11b0 : (a1 == 0) = true := beq_iff_eq.mpr c11
      have c11b1 : (a1 != 0) = false := bne_eq_false_iff_eq.mpr c11
      clear c11
      obtain rfl := Option.some.inj H
      have p232 : 0 ≤ (a1 : Int) := of_decide_eq_true za
      have q232 : a1 < (l0.length : Int) := of_decide_eq_true za
      obtain ⟨ad232, e232, hx232_0, hx232_1, hx232_2, hx232_3, hx232_4⟩ := at_T60 HR0.out a1 p232 q232
      cases e232
      replace p232 := eq_true p232
      replace q232 := eq_true q232
      have p234 : 0 ≤ (a1 : Int) := of_decide_eq_true za
      have q234 : a1 < (l0.length : Int) := of_decide_eq_true za
      obtain ⟨ad234, e234, hx234_0, hx234_1, hx234_2, hx234_3, hx234_4⟩ := at_T60 HR0.out a1 p234 q234
      obtain rfl : ad232 = ad234 := (by injection e234)
      replace p234 := eq_true p234
      replace q234 := eq_true q234
      go_enter Tryd.func54, Tryd.ntmps54
      go_wp2
      go_ret
      exact ⟨by first | rfl | (simp; done) | (simp [*]; done), by repeat (first | exact Drawn0.refl _ | apply Drawn0.step)⟩
     ·rw [if_neg c11] at H
      have c11b0 : (a1 == 0) = false := beq_eq_false_iff_ne.mpr c11
      have c11b1 : (a1 != 0) = true := bne_iff_ne.mpr c11
      obtain ⟨ji12, hji12⟩ : ∃ j_ : Int, (wrap64 (a1 - 1)) = j_ := ⟨_, rfl⟩
      replace H : (if 0 ≤ (ji12) then (if (ji12) < (l0.length : Int) then (some (((rd_T60 l0 (ji12)).f1) != 2)) else (none)) else (none)) = some r := by first | (rw [hji12] at H; exact H) | (simp only [hji12] at H ⊢; exact H)
      have hji12w : (IntKind.i64.wrap (a1 - 1)) = ji12 := (i64_w _).trans hji12
      by_cases c13 : 0 ≤ (ji12)
      ·rw [if_pos c13] at H
       have c13b0 : decide (0 ≤ (ji12)) = true := decide_eq_true c13
       clear c13
       by_cases c14 : (ji12) < (l0.length : Int)
       ·rw [if_pos c14] at H
        have c14b0 : decide ((ji12) < (l0.length : Int)) = true := decide_eq_true c14
        clear c14
        obtain rfl := Option.some.inj H
        have p232 : 0 ≤ (a1 : Int) := of_decide_eq_true za
        have q232 : a1 < (l0.length : Int) := of_decide_eq_true za
        obtain ⟨ad232, e232, hx232_0, hx232_1, hx232_2, hx232_3, hx232_4⟩ := at_T60 HR0.out a1 p232 q232
        cases e232
        replace p232 := eq_true p232
        replace q232 := eq_true q232
        have p234 : 0 ≤ (a1 : Int) := of_decide_eq_true za
        have q234 : a1 < (l0.length : Int) := of_decide_eq_true za
        obtain ⟨ad234, e234, hx234_0, hx234_1, hx234_2, hx234_3, hx234_4⟩ := at_T60 HR0.out a1 p234 q234
        obtain rfl : ad232 = ad234 := (by injection e234)
        replace p234 := eq_true p234
        replace q234 := eq_true q234
        have p235 : 0 ≤ ((ji12) : Int) := of_decide_eq_true za
        have q235 : (ji12) < (l0.length : Int) := of_decide_eq_true za
        obtain ⟨ad235, e235, hx235_0, hx235_1, hx235_2, hx235_3, hx235_4⟩ := at_T60 HR0.out (ji12) p235 q235
        obtain rfl : ad232 = ad235 := (by injection e235)
        replace p235 := eq_true p235
        replace q235 := eq_true q235
        go_enter Tryd.func54, Tryd.ntmps54
        go_wp2
        go_ret
        exact ⟨by first | rfl | (simp; done) | (simp only [← hji12] <;> (first | rfl | (simp; done))) | (simp [*]; done) | (simp; simp only [decide_eq_true_eq, eq_iff_iff, iff_true] at *; omega), by repeat (first | exact Drawn0.refl _ | apply Drawn0.step)⟩
       ·rw [if_neg c14] at H
        exact absurd H (by simp)
      ·rw [if_neg c13] at H
       exact absurd H (by simp)
    ·rw [if_neg c10] at H
     have c10b0 : (((rd_T60 l0 a1).f1) == 0) = false := beq_eq_false_iff_ne.mpr c10
     have c10b1 : (((rd_T60 l0 a1).f1) != 0) = true := bne_iff_ne.mpr c10
     obtain rfl := Option.some.inj H
     have p232 : 0 ≤ (a1 : Int) := of_decide_eq_true za
     have q232 : a1 < (l0.length : Int) := of_decide_eq_true za
     obtain ⟨ad232, e232, hx232_0, hx232_1, hx232_2, hx232_3, hx232_4⟩ := at_T60 HR0.out a1 p232 q232
     cases e232
     replace p232 := eq_true p232
     replace q232 := eq_true q232
     have p234 : 0 ≤ (a1 : Int) := of_decide_eq_true za
     have q234 : a1 < (l0.length : Int) := of_decide_eq_true za
     obtain ⟨ad234, e234, hx234_0, hx234_1, hx234_2, hx234_3, hx234_4⟩ := at_T60 HR0.out a1 p234 q234
     obtain rfl : ad232 = ad234 := (by injection e234)
     replace p234 := eq_true p234
     replace q234 := eq_true q234
     go_enter Tryd.func54, Tryd.ntmps54
     go_wp2
     go_ret
     exact ⟨by first | rfl | (simp; done) | (simp [*]; done), by repeat (first | exact Drawn0.refl _ | apply Drawn0.step)⟩
  ·rw [if_neg c4] at H
   exact absurd H (by simp)
 ·rw [if_neg c3] at H
  exact absurd H (by simp)
def backseatref04_in.f (a0 : Int) (a1 : Int) (a2 : Int) : Option (Bool) := if a0 ≥ a1 then (some (decide (a0 ≤ a2))) else (some false)
set_option maxHeartbeats 8000000 in
set_option maxRecDepth 100000 in
theorem backseatref04_in.calls (a0 : Int) (a1 : Int) (a2 : Int) (r : Bool) (w : World) (h : backseatref04_in.f a0 a1 a2 = some r) :
  Calls Tryd.prog 90 #[.int .i64 a0, .int .i64 a1, .int .i64 a2] w fun e w' => e = .returned (.bool r) ∧ Drawn0 w w' := by
 have H : (if a0 ≥ a1 then (some (decide (a0 ≤ a2))) else (some false)) = some r := h
 clear h
 by_cases c4 : a0 ≥ a1
 ·rw [if_pos c4] at H
  have c4b0 : decide (a1 ≤ a0) = true := decide_eq_true c4
  clear c4
  obtain rfl := Option.some.inj H
  go_enter Tryd.func90, Tryd.ntmps90
  go_wp2
  go_ret
  exact ⟨by first | rfl | (simp; done) | (simp [*]; done), by repeat (first | exact Drawn0.refl _ | apply Drawn0.step)⟩
 ·rw [if_neg c4] at H
  have c4b0 : decide (a1 ≤ a0) = false := decide_eq_false c4
  clear c4
  obtain rfl := Option.some.inj H
  go_enter Tryd.func90, Tryd.ntmps90
  go_wp2
  go_ret
  exact ⟨by first | rfl | (simp; done) | (simp [*]; done), by repeat (first | exact Drawn0.refl _ | apply Drawn0.step)⟩
def backseatref04_Look.f (a0_0 : Int) (a0_1 : Int) (a0_2 : Int) : Option (Bool) := (backseatref04_in.f a0_0 0 256).bind fun t200 => (if t200 = true then ((backseatref04_in.f a0_1 0 256).bind fun t201 => (if t201 = true then ((backseatref04_in.f a0_2 0 255).bind fun t202 => (some t202)) else (some false))) else (some false))
set_option maxHeartbeats 8000000 in
set_option maxRecDepth 100000 in
theorem backseatref04_Look.calls (a0_0 : Int) (a0_1 : Int) (a0_2 : Int) (r : Bool) (w : World) (h : backseatref04_Look.f a0_0 a0_1 a0_2 = some r) :
  Calls Tryd.prog 73 #[.agg #[.int .i64 a0_0, .int .i64 a0_1, .int .i64 a0_2]] w fun e w' => e = .returned (.bool r) ∧ Below w.heap.size w w' := by
 have hu58 := Tryd.underlying58
 have HB := Aside0.mk (Below.refl w.heap.size w)
 have H : ((backseatref04_in.f a0_0 0 256).bind fun t200 => (if t200 = true then ((backseatref04_in.f a0_1 0 256).bind fun t201 => (if t201 = true then ((backseatref04_in.f a0_2 0 255).bind fun t202 => (some t202)) else (some false))) else (some false))) = some r := h
 clear h
 replace H := Option.bind_eq_some_iff.mp H
 obtain ⟨t200, A20, H⟩ := H
 replace H : (if t200 = true then ((backseatref04_in.f a0_1 0 256).bind fun t201 => (if t201 = true then ((backseatref04_in.f a0_2 0 255).bind fun t202 => (some t202)) else (some false))) else (some false)) = some r := H
 have A2 := Aside0.mk A20
 clear A20
 by_cases c3 : t200 = true
 ·subst c3
  have H1 : ((backseatref04_in.f a0_1 0 256).bind fun t201 => (if t201 = true then ((backseatref04_in.f a0_2 0 255).bind fun t202 => (some t202)) else (some false))) = some r := by rw [if_pos rfl] at H; exact H
  clear H
  have H := H1
  clear H1
  replace H := Option.bind_eq_some_iff.mp H
  obtain ⟨t201, A40, H⟩ := H
  replace H : (if t201 = true then ((backseatref04_in.f a0_2 0 255).bind fun t202 => (some t202)) else (some false)) = some r := H
  have A4 := Aside0.mk A40
  clear A40
  by_cases c5 : t201 = true
  ·subst c5
   have H1 : ((backseatref04_in.f a0_2 0 255).bind fun t202 => (some t202)) = some r := by rw [if_pos rfl] at H; exact H
   clear H
   have H := H1
   clear H1
   replace H := Option.bind_eq_some_iff.mp H
   obtain ⟨t202, A60, H⟩ := H
   replace H : (some t202) = some r := H
   have A6 := Aside0.mk A60
   clear A60
   obtain rfl := Option.some.inj H
   go_enter Tryd.func73, Tryd.ntmps73
   go_wp2_with (first | ((with_reducible refine gate_dst (N := 1) rfl ?_); refine box_event ?hg (N := 1) ?hd (cs := #[.int .i64 a0_0, .int .i64 a0_1, .int .i64 a0_2]) (t := 58) ?hr ?_; (case hd => rfl); (case hg => rfl); (case hr => exact zo); intro gb199 hg w7 hbox hb; have BK199 := Aside0.mk (hbox); have GW199 := Aside0.mk ((zg hg : w.heap.size ≤ gb199)); have GE199 := Aside0.mk ((zg hg : w.heap.size ≤ gb199)); replace HB := (zs HB hb); clear hb hbox hg; obtain ⟨hcz8_0, hcz8_1, hcz8_2, hfz8_0, hfz8_1, hfz8_2⟩ := zq3 (w := w7) BK199) | ((with_reducible refine gate_callee (f := 90) rfl ?_); refine goesL_ (some 5) rfl rfl Tryd.func90 (by kernel_rfl) rfl #[.int .i64 a0_0, .int .i64 0, .int .i64 256] rfl zl ?_; (with_reducible refine (backseatref04_in.calls a0_0 0 256 true _ A2.out).mono ?_); rintro e w' ⟨rfl, ⟨nd, rfl⟩⟩; refine ⟨_, rfl, ?_⟩) | (go_at_call 90; (with_reducible refine (backseatref04_in.calls a0_1 0 256 true _ A4.out).mono ?_); rintro e w' ⟨rfl, ⟨nd, rfl⟩⟩) | (go_at_call 90; (with_reducible refine (backseatref04_in.calls a0_2 0 255 t202 _ A6.out).mono ?_); rintro e w' ⟨rfl, ⟨nd, rfl⟩⟩))
   go_ret
   exact ⟨ze, zb⟩
  ·replace c5 := Bool.eq_false_iff.mpr c5
   subst c5
   have H1 : (some false) = some r := by rw [if_neg (show ¬ (false = true) by decide)] at H; exact H
   clear H
   have H := H1
   clear H1
   obtain rfl := Option.some.inj H
   go_enter Tryd.func73, Tryd.ntmps73
   go_wp2_with (first | ((with_reducible refine gate_dst (N := 1) rfl ?_); refine box_event ?hg (N := 1) ?hd (cs := #[.int .i64 a0_0, .int .i64 a0_1, .int .i64 a0_2]) (t := 58) ?hr ?_; (case hd => rfl); (case hg => rfl); (case hr => exact zo); intro gb199 hg w9 hbox hb; have BK199 := Aside0.mk (hbox); have GW199 := Aside0.mk ((zg hg : w.heap.size ≤ gb199)); have GE199 := Aside0.mk ((zg hg : w.heap.size ≤ gb199)); replace HB := (zs HB hb); clear hb hbox hg; obtain ⟨hcz10_0, hcz10_1, hcz10_2, hfz10_0, hfz10_1, hfz10_2⟩ := zq3 (w := w9) BK199) | ((with_reducible refine gate_callee (f := 90) rfl ?_); refine goesL_ (some 5) rfl rfl Tryd.func90 (by kernel_rfl) rfl #[.int .i64 a0_0, .int .i64 0, .int .i64 256] rfl zl ?_; (with_reducible refine (backseatref04_in.calls a0_0 0 256 true _ A2.out).mono ?_); rintro e w' ⟨rfl, ⟨nd, rfl⟩⟩; refine ⟨_, rfl, ?_⟩) | (go_at_call 90; (with_reducible refine (backseatref04_in.calls a0_1 0 256 false _ A4.out).mono ?_); rintro e w' ⟨rfl, ⟨nd, rfl⟩⟩))
   go_ret
   exact ⟨ze, zb⟩
 ·replace c3 := Bool.eq_false_iff.mpr c3
  subst c3
  have H1 : (some false) = some r := by rw [if_neg (show ¬ (false = true) by decide)] at H; exact H
  clear H
  have H := H1
  clear H1
  obtain rfl := Option.some.inj H
  go_enter Tryd.func73, Tryd.ntmps73
  go_wp2_with (first | ((with_reducible refine gate_dst (N := 1) rfl ?_); refine box_event ?hg (N := 1) ?hd (cs := #[.int .i64 a0_0, .int .i64 a0_1, .int .i64 a0_2]) (t := 58) ?hr ?_; (case hd => rfl); (case hg => rfl); (case hr => exact zo); intro gb199 hg w11 hbox hb; have BK199 := Aside0.mk (hbox); have GW199 := Aside0.mk ((zg hg : w.heap.size ≤ gb199)); have GE199 := Aside0.mk ((zg hg : w.heap.size ≤ gb199)); replace HB := (zs HB hb); clear hb hbox hg; obtain ⟨hcz12_0, hcz12_1, hcz12_2, hfz12_0, hfz12_1, hfz12_2⟩ := zq3 (w := w11) BK199) | ((with_reducible refine gate_callee (f := 90) rfl ?_); refine goesL_ (some 5) rfl rfl Tryd.func90 (by kernel_rfl) rfl #[.int .i64 a0_0, .int .i64 0, .int .i64 256] rfl zl ?_; (with_reducible refine (backseatref04_in.calls a0_0 0 256 false _ A2.out).mono ?_); rintro e w' ⟨rfl, ⟨nd, rfl⟩⟩; refine ⟨_, rfl, ?_⟩))
  go_ret
  exact ⟨ze, zb⟩
def backseatref01_Is.f (a0 : Int) : Option (Bool) := if a0 ≥ 0 then (if a0 ≤ 1114111 then (if a0 < 55296 then (some true) else (some (decide (a0 > 57343)))) else (some false)) else (some false)
set_option maxHeartbeats 8000000 in
set_option maxRecDepth 100000 in
theorem backseatref01_Is.calls (a0 : Int) (r : Bool) (w : World) (h : backseatref01_Is.f a0 = some r) :
  Calls Tryd.prog 94 #[.int .i32 a0] w fun e w' => e = .returned (.bool r) ∧ Drawn0 w w' := by
 have H : (if a0 ≥ 0 then (if a0 ≤ 1114111 then (if a0 < 55296 then (some true) else (some (decide (a0 > 57343)))) else (some false)) else (some false)) = some r := h
 clear h
 by_cases c2 : a0 ≥ 0
 ·rw [if_pos c2] at H
  have c2b0 : decide (0 ≤ a0) = true := decide_eq_true c2
  clear c2
  by_cases c3 : a0 ≤ 1114111
  ·rw [if_pos c3] at H
   have c3b0 : decide (a0 ≤ 1114111) = true := decide_eq_true c3
   clear c3
   by_cases c4 : a0 < 55296
   ·rw [if_pos c4] at H
    have c4b0 : decide (a0 < 55296) = true := decide_eq_true c4
    clear c4
    obtain rfl := Option.some.inj H
    go_enter Tryd.func94, Tryd.ntmps94
    go_wp2
    go_ret
    exact ⟨by first | rfl | (simp; done) | (simp [*]; done), by repeat (first | exact Drawn0.refl _ | apply Drawn0.step)⟩
   ·rw [if_neg c4] at H
    have c4b0 : decide (a0 < 55296) = false := decide_eq_false c4
    clear c4
    obtain rfl := Option.some.inj H
    go_enter Tryd.func94, Tryd.ntmps94
    go_wp2
    go_ret
    exact ⟨by first | rfl | (simp; done) | (simp [*]; done), by repeat (first | exact Drawn0.refl _ | apply Drawn0.step)⟩
  ·rw [if_neg c3] at H
   have c3b0 : decide (a0 ≤ 1114111) = false := decide_eq_false c3
   clear c3
   obtain rfl := Option.some.inj H
   go_enter Tryd.func94, Tryd.ntmps94
   go_wp2
   go_ret
   exact ⟨by first | rfl | (simp; done) | (simp [*]; done), by repeat (first | exact Drawn0.refl _ | apply Drawn0.step)⟩
 ·rw [if_neg c2] at H
  have c2b0 : decide (0 ≤ a0) = false := decide_eq_false c2
  clear c2
  obtain rfl := Option.some.inj H
  go_enter Tryd.func94, Tryd.ntmps94
  go_wp2
  go_ret
  exact ⟨by first | rfl | (simp; done) | (simp [*]; done), by repeat (first | exact Drawn0.refl _ | apply Drawn0.step)⟩
def backseatref01_in.f (a0 : Int) (a1 : Int) (a2 : Int) : Option (Bool) := if a0 ≥ a1 then (some (decide (a0 ≤ a2))) else (some false)
set_option maxHeartbeats 8000000 in
set_option maxRecDepth 100000 in
theorem backseatref01_in.calls (a0 : Int) (a1 : Int) (a2 : Int) (r : Bool) (w : World) (h : backseatref01_in.f a0 a1 a2 = some r) :
  Calls Tryd.prog 95 #[.int .i32 a0, .int .i32 a1, .int .i32 a2] w fun e w' => e = .returned (.bool r) ∧ Drawn0 w w' := by
 have H : (if a0 ≥ a1 then (some (decide (a0 ≤ a2))) else (some false)) = some r := h
 clear h
 by_cases c4 : a0 ≥ a1
 ·rw [if_pos c4] at H
  have c4b0 : decide (a1 ≤ a0) = true := decide_eq_true c4
  clear c4
  obtain rfl := Option.some.inj H
  go_enter Tryd.func95, Tryd.ntmps95
  go_wp2
  go_ret
  exact ⟨by first | rfl | (simp; done) | (simp [*]; done), by repeat (first | exact Drawn0.refl _ | apply Drawn0.step)⟩
 ·rw [if_neg c4] at H
  have c4b0 : decide (a1 ≤ a0) = false := decide_eq_false c4
  clear c4
  obtain rfl := Option.some.inj H
  go_enter Tryd.func95, Tryd.ntmps95
  go_wp2
  go_ret
  exact ⟨by first | rfl | (simp; done) | (simp [*]; done), by repeat (first | exact Drawn0.refl _ | apply Drawn0.step)⟩
mutual
def backseatref01_Width.j0 : Nat → Int → Bool → Option (Int)
 | 0, _, _ => none
 | k + 1, x0, x13 => if x13 = true then (some (-1)) else ((backseatref01_in.f x0 768 879).bind fun t209 => (if t209 = true then (backseatref01_Width.j1 k x0 true) else ((backseatref01_in.f x0 8203 8205).bind fun t210 => (if t210 = true then (backseatref01_Width.j1 k x0 true) else ((backseatref01_in.f x0 65024 65039).bind fun t211 => (backseatref01_Width.j1 k x0 t211))))))
def backseatref01_Width.j1 : Nat → Int → Bool → Option (Int)
 | 0, _, _ => none
 | k + 1, x0, x23 => if x23 = true then (some 0) else ((backseatref01_in.f x0 4352 4447).bind fun t212 => (if t212 = true then (backseatref01_Width.j2 k x0 true) else ((backseatref01_in.f x0 12353 19903).bind fun t213 => (if t213 = true then (backseatref01_Width.j2 k x0 true) else ((backseatref01_in.f x0 19968 40959).bind fun t214 => (if t214 = true then (backseatref01_Width.j2 k x0 true) else ((backseatref01_in.f x0 44032 55203).bind fun t215 => (backseatref01_Width.j2 k x0 t215))))))))
def backseatref01_Width.j2 : Nat → Int → Bool → Option (Int)
 | 0, _, _ => none
 | k + 1, x0, x37 => if x37 = true then (some 2) else ((backseatref01_in.f x0 63744 64255).bind fun t216 => (if t216 = true then (some 2) else ((backseatref01_in.f x0 65281 65376).bind fun t217 => (if t217 = true then (some 2) else ((backseatref01_in.f x0 127744 129791).bind fun t218 => (if t218 = true then (some 2) else ((backseatref01_in.f x0 131072 262141).bind fun t219 => (if t219 = true then (some 2) else (some 1)))))))))
end
def backseatref01_Width.f (k : Nat) (a0 : Int) : Option (Int) := (backseatref01_Is.f a0).bind fun t207 => (if t207 = true then (if a0 < 32 then (backseatref01_Width.j0 k a0 true) else ((backseatref01_in.f a0 127 159).bind fun t208 => (backseatref01_Width.j0 k a0 t208))) else (backseatref01_Width.j0 k a0 true))
set_option maxHeartbeats 8000000 in
set_option maxRecDepth 100000 in
theorem backseatref01_Width.calls (k : Nat) (a0 : Int) (r : Int) (w : World) (h : backseatref01_Width.f k a0 = some r) :
  Calls Tryd.prog 75 #[.int .i32 a0] w fun e w' => e = .returned (.int .i64 r) ∧ Drawn0 w w' := by
 have H : ((backseatref01_Is.f a0).bind fun t207 => (if t207 = true then (if a0 < 32 then (backseatref01_Width.j0 k a0 true) else ((backseatref01_in.f a0 127 159).bind fun t208 => (backseatref01_Width.j0 k a0 t208))) else (backseatref01_Width.j0 k a0 true))) = some r := h
 clear h
 have HC2 := Aside0.mk H
 clear H
 go_enter Tryd.func75, Tryd.ntmps75
 go_upto_region 1 with (fail)
 go_cut [13] (fun v13 wc => ∃ (kq : Nat) (x13_1 : Bool), v13 = .bool x13_1 ∧ Aside0 (backseatref01_Width.j0 kq a0 x13_1 = some r) ∧ Aside0 (kq ≤ k) ∧ Drawn0 w wc)
 case first =>
  have H := HC2.out
  clear HC2
  replace H := Option.bind_eq_some_iff.mp H
  obtain ⟨t207, A30, H⟩ := H
  replace H : (if t207 = true then (if a0 < 32 then (backseatref01_Width.j0 k a0 true) else ((backseatref01_in.f a0 127 159).bind fun t208 => (backseatref01_Width.j0 k a0 t208))) else (backseatref01_Width.j0 k a0 true)) = some r := H
  have A3 := Aside0.mk A30
  clear A30
  by_cases c4 : t207 = true
  ·subst c4
   have H1 : (if a0 < 32 then (backseatref01_Width.j0 k a0 true) else ((backseatref01_in.f a0 127 159).bind fun t208 => (backseatref01_Width.j0 k a0 t208))) = some r := by rw [if_pos rfl] at H; exact H
   clear H
   have H := H1
   clear H1
   by_cases c5 : a0 < 32
   ·rw [if_pos c5] at H
    have c5b0 : decide (a0 < 32) = true := decide_eq_true c5
    clear c5
    (first | rw [c5b0] | (simp only [i64_w, i32_w]; rw [c5b0]) | skip)
    have H' := Aside0.mk H
    clear H
    go_wp2_with (first | ((with_reducible refine gate_callee (f := 94) rfl ?_); refine goesL_ (some 4) rfl rfl Tryd.func94 (by kernel_rfl) rfl #[.int .i32 a0] rfl zl ?_; (with_reducible refine (backseatref01_Is.calls a0 true _ A3.out).mono ?_); rintro e w' ⟨rfl, ⟨nd, rfl⟩⟩; refine ⟨_, rfl, ?_⟩))
    go_meet
    case rel => exact ⟨_, (true), zf, H', ⟨by first | omega | exact Nat.le_refl _⟩, by repeat (first | exact Drawn0.refl _ | apply Drawn0.step)⟩
   ·rw [if_neg c5] at H
    have c5b0 : decide (a0 < 32) = false := decide_eq_false c5
    clear c5
    (first | rw [c5b0] | (simp only [i64_w, i32_w]; rw [c5b0]) | skip)
    replace H := Option.bind_eq_some_iff.mp H
    obtain ⟨t208, A60, H⟩ := H
    replace H : (backseatref01_Width.j0 k a0 t208) = some r := H
    have A6 := Aside0.mk A60
    clear A60
    have H' := Aside0.mk H
    clear H
    go_wp2_with (first | ((with_reducible refine gate_callee (f := 94) rfl ?_); refine goesL_ (some 4) rfl rfl Tryd.func94 (by kernel_rfl) rfl #[.int .i32 a0] rfl zl ?_; (with_reducible refine (backseatref01_Is.calls a0 true _ A3.out).mono ?_); rintro e w' ⟨rfl, ⟨nd, rfl⟩⟩; refine ⟨_, rfl, ?_⟩) | (go_at_call 95; (with_reducible refine (backseatref01_in.calls a0 127 159 t208 _ A6.out).mono ?_); rintro e w' ⟨rfl, ⟨nd, rfl⟩⟩))
    go_meet
    case rel => exact ⟨_, (t208), zf, H', ⟨by first | omega | exact Nat.le_refl _⟩, by repeat (first | exact Drawn0.refl _ | apply Drawn0.step)⟩
  ·replace c4 := Bool.eq_false_iff.mpr c4
   subst c4
   have H1 : (backseatref01_Width.j0 k a0 true) = some r := by rw [if_neg (show ¬ (false = true) by decide)] at H; exact H
   clear H
   have H := H1
   clear H1
   have H' := Aside0.mk H
   clear H
   go_wp2_with (first | ((with_reducible refine gate_callee (f := 94) rfl ?_); refine goesL_ (some 4) rfl rfl Tryd.func94 (by kernel_rfl) rfl #[.int .i32 a0] rfl zl ?_; (with_reducible refine (backseatref01_Is.calls a0 false _ A3.out).mono ?_); rintro e w' ⟨rfl, ⟨nd, rfl⟩⟩; refine ⟨_, rfl, ?_⟩))
   go_meet
   case rel => exact ⟨_, (true), zf, H', ⟨by first | omega | exact Nat.le_refl _⟩, by repeat (first | exact Drawn0.refl _ | apply Drawn0.step)⟩
 case rest =>
  clear HC2
  obtain ⟨kq, x13_1, rfl, HA, HJ1, ⟨mc1, rfl⟩⟩ := hcut
  cases kq with
  | zero => exact absurd HA.out (by simp [backseatref01_Width.j0])
  | succ kj1 =>
   have H := HA.out
   clear HA
   simp only [backseatref01_Width.j0] at H
   by_cases c7 : x13_1 = true
   ·subst c7
    have H1 : (some (-1)) = some r := by rw [if_pos rfl] at H; exact H
    clear H
    have H := H1
    clear H1
    obtain rfl := Option.some.inj H
    go_wp2
    go_ret
    exact ⟨by first | rfl | (simp; done) | (simp [*]; done), by repeat (first | exact Drawn0.refl _ | apply Drawn0.step)⟩
   ·replace c7 := Bool.eq_false_iff.mpr c7
    subst c7
    have H1 : ((backseatref01_in.f a0 768 879).bind fun t209 => (if t209 = true then (backseatref01_Width.j1 kj1 a0 true) else ((backseatref01_in.f a0 8203 8205).bind fun t210 => (if t210 = true then (backseatref01_Width.j1 kj1 a0 true) else ((backseatref01_in.f a0 65024 65039).bind fun t211 => (backseatref01_Width.j1 kj1 a0 t211)))))) = some r := by rw [if_neg (show ¬ (false = true) by decide)] at H; exact H
    clear H
    have H := H1
    clear H1
    have HC8 := Aside0.mk H
    clear H
    go_upto_region 3 with (fail)
    go_cut [23] (fun v23 wc => ∃ (kq : Nat) (x23_7 : Bool), v23 = .bool x23_7 ∧ Aside0 (backseatref01_Width.j1 kq a0 x23_7 = some r) ∧ Aside0 (kq ≤ kj1) ∧ Drawn0 w wc)
    case first =>
     have H := HC8.out
     clear HC8
     replace H := Option.bind_eq_some_iff.mp H
     obtain ⟨t209, A90, H⟩ := H
     replace H : (if t209 = true then (backseatref01_Width.j1 kj1 a0 true) else ((backseatref01_in.f a0 8203 8205).bind fun t210 => (if t210 = true then (backseatref01_Width.j1 kj1 a0 true) else ((backseatref01_in.f a0 65024 65039).bind fun t211 => (backseatref01_Width.j1 kj1 a0 t211))))) = some r := H
     have A9 := Aside0.mk A90
     clear A90
     by_cases c10 : t209 = true
     ·subst c10
      have H1 : (backseatref01_Width.j1 kj1 a0 true) = some r := by rw [if_pos rfl] at H; exact H
      clear H
      have H := H1
      clear H1
      have H' := Aside0.mk H
      clear H
      go_wp2_with (first | ((with_reducible refine gate_callee (f := 95) rfl ?_); refine goesL_ (some 15) rfl rfl Tryd.func95 (by kernel_rfl) rfl #[.int .i32 a0, .int .i32 768, .int .i32 879] rfl zl ?_; (with_reducible refine (backseatref01_in.calls a0 768 879 true _ A9.out).mono ?_); rintro e w' ⟨rfl, ⟨nd, rfl⟩⟩; refine ⟨_, rfl, ?_⟩))
      go_meet
      case rel => exact ⟨_, (true), zf, H', ⟨by have := HJ1.out; first | omega | exact Nat.le_refl _⟩, by repeat (first | exact Drawn0.refl _ | apply Drawn0.step)⟩
     ·replace c10 := Bool.eq_false_iff.mpr c10
      subst c10
      have H1 : ((backseatref01_in.f a0 8203 8205).bind fun t210 => (if t210 = true then (backseatref01_Width.j1 kj1 a0 true) else ((backseatref01_in.f a0 65024 65039).bind fun t211 => (backseatref01_Width.j1 kj1 a0 t211)))) = some r := by rw [if_neg (show ¬ (false = true) by decide)] at H; exact H
      clear H
      have H := H1
      clear H1
      replace H := Option.bind_eq_some_iff.mp H
      obtain ⟨t210, A110, H⟩ := H
      replace H : (if t210 = true then (backseatref01_Width.j1 kj1 a0 true) else ((backseatref01_in.f a0 65024 65039).bind fun t211 => (backseatref01_Width.j1 kj1 a0 t211))) = some r := H
      have A11 := Aside0.mk A110
      clear A110
      by_cases c12 : t210 = true
      ·subst c12
       have H1 : (backseatref01_Width.j1 kj1 a0 true) = some r := by rw [if_pos rfl] at H; exact H
       clear H
       have H := H1
       clear H1
       have H' := Aside0.mk H
       clear H
       go_wp2_with (first | ((with_reducible refine gate_callee (f := 95) rfl ?_); refine goesL_ (some 15) rfl rfl Tryd.func95 (by kernel_rfl) rfl #[.int .i32 a0, .int .i32 768, .int .i32 879] rfl zl ?_; (with_reducible refine (backseatref01_in.calls a0 768 879 false _ A9.out).mono ?_); rintro e w' ⟨rfl, ⟨nd, rfl⟩⟩; refine ⟨_, rfl, ?_⟩) | (go_at_call 95; (with_reducible refine (backseatref01_in.calls a0 8203 8205 true _ A11.out).mono ?_); rintro e w' ⟨rfl, ⟨nd, rfl⟩⟩))
       go_meet
       case rel => exact ⟨_, (true), zf, H', ⟨by have := HJ1.out; first | omega | exact Nat.le_refl _⟩, by repeat (first | exact Drawn0.refl _ | apply Drawn0.step)⟩
      ·replace c12 := Bool.eq_false_iff.mpr c12
       subst c12
       have H1 : ((backseatref01_in.f a0 65024 65039).bind fun t211 => (backseatref01_Width.j1 kj1 a0 t211)) = some r := by rw [if_neg (show ¬ (false = true) by decide)] at H; exact H
       clear H
       have H := H1
       clear H1
       replace H := Option.bind_eq_some_iff.mp H
       obtain ⟨t211, A130, H⟩ := H
       replace H : (backseatref01_Width.j1 kj1 a0 t211) = some r := H
       have A13 := Aside0.mk A130
       clear A130
       have H' := Aside0.mk H
       clear H
       go_wp2_with (first | ((with_reducible refine gate_callee (f := 95) rfl ?_); refine goesL_ (some 15) rfl rfl Tryd.func95 (by kernel_rfl) rfl #[.int .i32 a0, .int .i32 768, .int .i32 879] rfl zl ?_; (with_reducible refine (backseatref01_in.calls a0 768 879 false _ A9.out).mono ?_); rintro e w' ⟨rfl, ⟨nd, rfl⟩⟩; refine ⟨_, rfl, ?_⟩) | (go_at_call 95; (with_reducible refine (backseatref01_in.calls a0 8203 8205 false _ A11.out).mono ?_); rintro e w' ⟨rfl, ⟨nd, rfl⟩⟩) | (go_at_call 95; (with_reducible refine (backseatref01_in.calls a0 65024 65039 t211 _ A13.out).mono ?_); rintro e w' ⟨rfl, ⟨nd, rfl⟩⟩))
       go_meet
       case rel => exact ⟨_, (t211), zf, H', ⟨by have := HJ1.out; first | omega | exact Nat.le_refl _⟩, by repeat (first | exact Drawn0.refl _ | apply Drawn0.step)⟩
    case rest =>
     clear HC8
     try clear c7
     obtain ⟨kq, x23_7, rfl, HA, HJ7, ⟨mc7, rfl⟩⟩ := hcut
     cases kq with
     | zero => exact absurd HA.out (by simp [backseatref01_Width.j1])
     | succ kj7 =>
      have H := HA.out
      clear HA
      simp only [backseatref01_Width.j1] at H
      by_cases c14 : x23_7 = true
      ·subst c14
       have H1 : (some 0) = some r := by rw [if_pos rfl] at H; exact H
       clear H
       have H := H1
       clear H1
       obtain rfl := Option.some.inj H
       go_wp2
       go_ret
       exact ⟨by first | rfl | (simp; done) | (simp [*]; done), by repeat (first | exact Drawn0.refl _ | apply Drawn0.step)⟩
      ·replace c14 := Bool.eq_false_iff.mpr c14
       subst c14
       have H1 : ((backseatref01_in.f a0 4352 4447).bind fun t212 => (if t212 = true then (backseatref01_Width.j2 kj7 a0 true) else ((backseatref01_in.f a0 12353 19903).bind fun t213 => (if t213 = true then (backseatref01_Width.j2 kj7 a0 true) else ((backseatref01_in.f a0 19968 40959).bind fun t214 => (if t214 = true then (backseatref01_Width.j2 kj7 a0 true) else ((backseatref01_in.f a0 44032 55203).bind fun t215 => (backseatref01_Width.j2 kj7 a0 t215)))))))) = some r := by rw [if_neg (show ¬ (false = true) by decide)] at H; exact H
       clear H
       have H := H1
       clear H1
       have HC15 := Aside0.mk H
       clear H
       go_upto_region 5 with (fail)
       go_cut [37] (fun v37 wc => ∃ (kq : Nat) (x37_14 : Bool), v37 = .bool x37_14 ∧ Aside0 (backseatref01_Width.j2 kq a0 x37_14 = some r) ∧ Aside0 (kq ≤ kj7) ∧ Drawn0 w wc)
       case first =>
        have H := HC15.out
        clear HC15
        replace H := Option.bind_eq_some_iff.mp H
        obtain ⟨t212, A160, H⟩ := H
        replace H : (if t212 = true then (backseatref01_Width.j2 kj7 a0 true) else ((backseatref01_in.f a0 12353 19903).bind fun t213 => (if t213 = true then (backseatref01_Width.j2 kj7 a0 true) else ((backseatref01_in.f a0 19968 40959).bind fun t214 => (if t214 = true then (backseatref01_Width.j2 kj7 a0 true) else ((backseatref01_in.f a0 44032 55203).bind fun t215 => (backseatref01_Width.j2 kj7 a0 t215))))))) = some r := H
        have A16 := Aside0.mk A160
        clear A160
        by_cases c17 : t212 = true
        ·subst c17
         have H1 : (backseatref01_Width.j2 kj7 a0 true) = some r := by rw [if_pos rfl] at H; exact H
         clear H
         have H := H1
         clear H1
         have H' := Aside0.mk H
         clear H
         go_wp2_with (first | ((with_reducible refine gate_callee (f := 95) rfl ?_); refine goesL_ (some 25) rfl rfl Tryd.func95 (by kernel_rfl) rfl #[.int .i32 a0, .int .i32 4352, .int .i32 4447] rfl zl ?_; (with_reducible refine (backseatref01_in.calls a0 4352 4447 true _ A16.out).mono ?_); rintro e w' ⟨rfl, ⟨nd, rfl⟩⟩; refine ⟨_, rfl, ?_⟩))
         go_meet
         case rel => exact ⟨_, (true), zf, H', ⟨by have := HJ1.out; have := HJ7.out; first | omega | exact Nat.le_refl _⟩, by repeat (first | exact Drawn0.refl _ | apply Drawn0.step)⟩
        ·replace c17 := Bool.eq_false_iff.mpr c17
         subst c17
         have H1 : ((backseatref01_in.f a0 12353 19903).bind fun t213 => (if t213 = true then (backseatref01_Width.j2 kj7 a0 true) else ((backseatref01_in.f a0 19968 40959).bind fun t214 => (if t214 = true then (backseatref01_Width.j2 kj7 a0 true) else ((backseatref01_in.f a0 44032 55203).bind fun t215 => (backseatref01_Width.j2 kj7 a0 t215)))))) = some r := by rw [if_neg (show ¬ (false = true) by decide)] at H; exact H
         clear H
         have H := H1
         clear H1
         replace H := Option.bind_eq_some_iff.mp H
         obtain ⟨t213, A180, H⟩ := H
         replace H : (if t213 = true then (backseatref01_Width.j2 kj7 a0 true) else ((backseatref01_in.f a0 19968 40959).bind fun t214 => (if t214 = true then (backseatref01_Width.j2 kj7 a0 true) else ((backseatref01_in.f a0 44032 55203).bind fun t215 => (backseatref01_Width.j2 kj7 a0 t215))))) = some r := H
         have A18 := Aside0.mk A180
         clear A180
         by_cases c19 : t213 = true
         ·subst c19
          have H1 : (backseatref01_Width.j2 kj7 a0 true) = some r := by rw [if_pos rfl] at H; exact H
          clear H
          have H := H1
          clear H1
          have H' := Aside0.mk H
          clear H
          go_wp2_with (first | ((with_reducible refine gate_callee (f := 95) rfl ?_); refine goesL_ (some 25) rfl rfl Tryd.func95 (by kernel_rfl) rfl #[.int .i32 a0, .int .i32 4352, .int .i32 4447] rfl zl ?_; (with_reducible refine (backseatref01_in.calls a0 4352 4447 false _ A16.out).mono ?_); rintro e w' ⟨rfl, ⟨nd, rfl⟩⟩; refine ⟨_, rfl, ?_⟩) | (go_at_call 95; (with_reducible refine (backseatref01_in.calls a0 12353 19903 true _ A18.out).mono ?_); rintro e w' ⟨rfl, ⟨nd, rfl⟩⟩))
          go_meet
          case rel => exact ⟨_, (true), zf, H', ⟨by have := HJ1.out; have := HJ7.out; first | omega | exact Nat.le_refl _⟩, by repeat (first | exact Drawn0.refl _ | apply Drawn0.step)⟩
         ·replace c19 := Bool.eq_false_iff.mpr c19
          subst c19
          have H1 : ((backseatref01_in.f a0 19968 40959).bind fun t214 => (if t214 = true then (backseatref01_Width.j2 kj7 a0 true) else ((backseatref01_in.f a0 44032 55203).bind fun t215 => (backseatref01_Width.j2 kj7 a0 t215)))) = some r := by rw [if_neg (show ¬ (false = true) by decide)] at H; exact H
          clear H
          have H := H1
          clear H1
          replace H := Option.bind_eq_some_iff.mp H
          obtain ⟨t214, A200, H⟩ := H
          replace H : (if t214 = true then (backseatref01_Width.j2 kj7 a0 true) else ((backseatref01_in.f a0 44032 55203).bind fun t215 => (backseatref01_Width.j2 kj7 a0 t215))) = some r := H
          have A20 := Aside0.mk A200
          clear A200
          by_cases c21 : t214 = true
          ·subst c21
           have H1 : (backseatref01_Width.j2 kj7 a0 true) = some r := by rw [if_pos rfl] at H; exact H
           clear H
           have H := H1
           clear H1
           have H' := Aside0.mk H
           clear H
           go_wp2_with (first | ((with_reducible refine gate_callee (f := 95) rfl ?_); refine goesL_ (some 25) rfl rfl Tryd.func95 (by kernel_rfl) rfl #[.int .i32 a0, .int .i32 4352, .int .i32 4447] rfl zl ?_; (with_reducible refine (backseatref01_in.calls a0 4352 4447 false _ A16.out).mono ?_); rintro e w' ⟨rfl, ⟨nd, rfl⟩⟩; refine ⟨_, rfl, ?_⟩) | (go_at_call 95; (with_reducible refine (backseatref01_in.calls a0 12353 19903 false _ A18.out).mono ?_); rintro e w' ⟨rfl, ⟨nd, rfl⟩⟩) | (go_at_call 95; (with_reducible refine (backseatref01_in.calls a0 19968 40959 true _ A20.out).mono ?_); rintro e w' ⟨rfl, ⟨nd, rfl⟩⟩))
           go_meet
           case rel => exact ⟨_, (true), zf, H', ⟨by have := HJ1.out; have := HJ7.out; first | omega | exact Nat.le_refl _⟩, by repeat (first | exact Drawn0.refl _ | apply Drawn0.step)⟩
          ·replace c21 := Bool.eq_false_iff.mpr c21
           subst c21
           have H1 : ((backseatref01_in.f a0 44032 55203).bind fun t215 => (backseatref01_Width.j2 kj7 a0 t215)) = some r := by rw [if_neg (show ¬ (false = true) by decide)] at H; exact H
           clear H
           have H := H1
           clear H1
           replace H := Option.bind_eq_some_iff.mp H
           obtain ⟨t215, A220, H⟩ := H
           replace H : (backseatref01_Width.j2 kj7 a0 t215) = some r := H
           have A22 := Aside0.mk A220
           clear A220
           have H' := Aside0.mk H
           clear H
           go_wp2_with (first | ((with_reducible refine gate_callee (f := 95) rfl ?_); refine goesL_ (some 25) rfl rfl Tryd.func95 (by kernel_rfl) rfl #[.int .i32 a0, .int .i32 4352, .int .i32 4447] rfl zl ?_; (with_reducible refine (backseatref01_in.calls a0 4352 4447 false _ A16.out).mono ?_); rintro e w' ⟨rfl, ⟨nd, rfl⟩⟩; refine ⟨_, rfl, ?_⟩) | (go_at_call 95; (with_reducible refine (backseatref01_in.calls a0 12353 19903 false _ A18.out).mono ?_); rintro e w' ⟨rfl, ⟨nd, rfl⟩⟩) | (go_at_call 95; (with_reducible refine (backseatref01_in.calls a0 19968 40959 false _ A20.out).mono ?_); rintro e w' ⟨rfl, ⟨nd, rfl⟩⟩) | (go_at_call 95; (with_reducible refine (backseatref01_in.calls a0 44032 55203 t215 _ A22.out).mono ?_); rintro e w' ⟨rfl, ⟨nd, rfl⟩⟩))
           go_meet
           case rel => exact ⟨_, (t215), zf, H', ⟨by have := HJ1.out; have := HJ7.out; first | omega | exact Nat.le_refl _⟩, by repeat (first | exact Drawn0.refl _ | apply Drawn0.step)⟩
       case rest =>
        clear HC15
        try clear c7
        try clear c14
        obtain ⟨kq, x37_14, rfl, HA, HJ14, ⟨mc14, rfl⟩⟩ := hcut
        cases kq with
        | zero => exact absurd HA.out (by simp [backseatref01_Width.j2])
        | succ kj14 =>
         have H := HA.out
         clear HA
         simp only [backseatref01_Width.j2] at H
         by_cases c23 : x37_14 = true
         ·subst c23
          have H1 : (some 2) = some r := by rw [if_pos rfl] at H; exact H
          clear H
          have H := H1
          clear H1
          obtain rfl := Option.some.inj H
          go_wp2
          go_ret
          exact ⟨by first | rfl | (simp; done) | (simp [*]; done), by repeat (first | exact Drawn0.refl _ | apply Drawn0.step)⟩
         ·replace c23 := Bool.eq_false_iff.mpr c23
          subst c23
          have H1 : ((backseatref01_in.f a0 63744 64255).bind fun t216 => (if t216 = true then (some 2) else ((backseatref01_in.f a0 65281 65376).bind fun t217 => (if t217 = true then (some 2) else ((backseatref01_in.f a0 127744 129791).bind fun t218 => (if t218 = true then (some 2) else ((backseatref01_in.f a0 131072 262141).bind fun t219 => (if t219 = true then (some 2) else (some 1))))))))) = some r := by rw [if_neg (show ¬ (false = true) by decide)] at H; exact H
          clear H
          have H := H1
          clear H1
          replace H := Option.bind_eq_some_iff.mp H
          obtain ⟨t216, A240, H⟩ := H
          replace H : (if t216 = true then (some 2) else ((backseatref01_in.f a0 65281 65376).bind fun t217 => (if t217 = true then (some 2) else ((backseatref01_in.f a0 127744 129791).bind fun t218 => (if t218 = true then (some 2) else ((backseatref01_in.f a0 131072 262141).bind fun t219 => (if t219 = true then (some 2) else (some 1)))))))) = some r := H
          have A24 := Aside0.mk A240
          clear A240
          by_cases c25 : t216 = true
          ·subst c25
           have H1 : (some 2) = some r := by rw [if_pos rfl] at H; exact H
           clear H
           have H := H1
           clear H1
           obtain rfl := Option.some.inj H
           go_wp2_with (first | ((with_reducible refine gate_callee (f := 95) rfl ?_); refine goesL_ (some 39) rfl rfl Tryd.func95 (by kernel_rfl) rfl #[.int .i32 a0, .int .i32 63744, .int .i32 64255] rfl zl ?_; (with_reducible refine (backseatref01_in.calls a0 63744 64255 true _ A24.out).mono ?_); rintro e w' ⟨rfl, ⟨nd, rfl⟩⟩; refine ⟨_, rfl, ?_⟩))
           go_ret
           exact ⟨by first | rfl | (simp; done) | (simp [*]; done), by repeat (first | exact Drawn0.refl _ | apply Drawn0.step)⟩
          ·replace c25 := Bool.eq_false_iff.mpr c25
           subst c25
           have H1 : ((backseatref01_in.f a0 65281 65376).bind fun t217 => (if t217 = true then (some 2) else ((backseatref01_in.f a0 127744 129791).bind fun t218 => (if t218 = true then (some 2) else ((backseatref01_in.f a0 131072 262141).bind fun t219 => (if t219 = true then (some 2) else (some 1))))))) = some r := by rw [if_neg (show ¬ (false = true) by decide)] at H; exact H
           clear H
           have H := H1
           clear H1
           replace H := Option.bind_eq_some_iff.mp H
           obtain ⟨t217, A260, H⟩ := H
           replace H : (if t217 = true then (some 2) else ((backseatref01_in.f a0 127744 129791).bind fun t218 => (if t218 = true then (some 2) else ((backseatref01_in.f a0 131072 262141).bind fun t219 => (if t219 = true then (some 2) else (some 1)))))) = some r := H
           have A26 := Aside0.mk A260
           clear A260
           by_cases c27 : t217 = true
           ·subst c27
            have H1 : (some 2) = some r := by rw [if_pos rfl] at H; exact H
            clear H
            have H := H1
            clear H1
            obtain rfl := Option.some.inj H
            go_wp2_with (first | ((with_reducible refine gate_callee (f := 95) rfl ?_); refine goesL_ (some 39) rfl rfl Tryd.func95 (by kernel_rfl) rfl #[.int .i32 a0, .int .i32 63744, .int .i32 64255] rfl zl ?_; (with_reducible refine (backseatref01_in.calls a0 63744 64255 false _ A24.out).mono ?_); rintro e w' ⟨rfl, ⟨nd, rfl⟩⟩; refine ⟨_, rfl, ?_⟩) | (go_at_call 95; (with_reducible refine (backseatref01_in.calls a0 65281 65376 true _ A26.out).mono ?_); rintro e w' ⟨rfl, ⟨nd, rfl⟩⟩))
            go_ret
            exact ⟨by first | rfl | (simp; done) | (simp [*]; done), by repeat (first | exact Drawn0.refl _ | apply Drawn0.step)⟩
           ·replace c27 := Bool.eq_false_iff.mpr c27
            subst c27
            have H1 : ((backseatref01_in.f a0 127744 129791).bind fun t218 => (if t218 = true then (some 2) else ((backseatref01_in.f a0 131072 262141).bind fun t219 => (if t219 = true then (some 2) else (some 1))))) = some r := by rw [if_neg (show ¬ (false = true) by decide)] at H; exact H
            clear H
            have H := H1
            clear H1
            replace H := Option.bind_eq_some_iff.mp H
            obtain ⟨t218, A280, H⟩ := H
            replace H : (if t218 = true then (some 2) else ((backseatref01_in.f a0 131072 262141).bind fun t219 => (if t219 = true then (some 2) else (some 1)))) = some r := H
            have A28 := Aside0.mk A280
            clear A280
            by_cases c29 : t218 = true
            ·subst c29
             have H1 : (some 2) = some r := by rw [if_pos rfl] at H; exact H
             clear H
             have H := H1
             clear H1
             obtain rfl := Option.some.inj H
             go_wp2_with (first | ((with_reducible refine gate_callee (f := 95) rfl ?_); refine goesL_ (some 39) rfl rfl Tryd.func95 (by kernel_rfl) rfl #[.int .i32 a0, .int .i32 63744, .int .i32 64255] rfl zl ?_; (with_reducible refine (backseatref01_in.calls a0 63744 64255 false _ A24.out).mono ?_); rintro e w' ⟨rfl, ⟨nd, rfl⟩⟩; refine ⟨_, rfl, ?_⟩) | (go_at_call 95; (with_reducible refine (backseatref01_in.calls a0 65281 65376 false _ A26.out).mono ?_); rintro e w' ⟨rfl, ⟨nd, rfl⟩⟩) | (go_at_call 95; (with_reducible refine (backseatref01_in.calls a0 127744 129791 true _ A28.out).mono ?_); rintro e w' ⟨rfl, ⟨nd, rfl⟩⟩))
             go_ret
             exact ⟨by first | rfl | (simp; done) | (simp [*]; done), by repeat (first | exact Drawn0.refl _ | apply Drawn0.step)⟩
            ·replace c29 := Bool.eq_false_iff.mpr c29
             subst c29
             have H1 : ((backseatref01_in.f a0 131072 262141).bind fun t219 => (if t219 = true then (some 2) else (some 1))) = some r := by rw [if_neg (show ¬ (false = true) by decide)] at H; exact H
             clear H
             have H := H1
             clear H1
             replace H := Option.bind_eq_some_iff.mp H
             obtain ⟨t219, A300, H⟩ := H
             replace H : (if t219 = true then (some 2) else (some 1)) = some r := H
             have A30 := Aside0.mk A300
             clear A300
             by_cases c31 : t219 = true
             ·subst c31
              have H1 : (some 2) = some r := by rw [if_pos rfl] at H; exact H
              clear H
              have H := H1
              clear H1
              obtain rfl := Option.some.inj H
              go_wp2_with (first | ((with_reducible refine gate_callee (f := 95) rfl ?_); refine goesL_ (some 39) rfl rfl Tryd.func95 (by kernel_rfl) rfl #[.int .i32 a0, .int .i32 63744, .int .i32 64255] rfl zl ?_; (with_reducible refine (backseatref01_in.calls a0 63744 64255 false _ A24.out).mono ?_); rintro e w' ⟨rfl, ⟨nd, rfl⟩⟩; refine ⟨_, rfl, ?_⟩) | (go_at_call 95; (with_reducible refine (backseatref01_in.calls a0 65281 65376 false _ A26.out).mono ?_); rintro e w' ⟨rfl, ⟨nd, rfl⟩⟩) | (go_at_call 95; (with_reducible refine (backseatref01_in.calls a0 127744 129791 false _ A28.out).mono ?_); rintro e w' ⟨rfl, ⟨nd, rfl⟩⟩) | (go_at_call 95; (with_reducible refine (backseatref01_in.calls a0 131072 262141 true _ A30.out).mono ?_); rintro e w' ⟨rfl, ⟨nd, rfl⟩⟩))
              go_ret
              exact ⟨by first | rfl | (simp; done) | (simp [*]; done), by repeat (first | exact Drawn0.refl _ | apply Drawn0.step)⟩
             ·replace c31 := Bool.eq_false_iff.mpr c31
              subst c31
              have H1 : (some 1) = some r := by rw [if_neg (show ¬ (false = true) by decide)] at H; exact H
              clear H
              have H := H1
              clear H1
              obtain rfl := Option.some.inj H
              go_wp2_with (first | ((with_reducible refine gate_callee (f := 95) rfl ?_); refine goesL_ (some 39) rfl rfl Tryd.func95 (by kernel_rfl) rfl #[.int .i32 a0, .int .i32 63744, .int .i32 64255] rfl zl ?_; (with_reducible refine (backseatref01_in.calls a0 63744 64255 false _ A24.out).mono ?_); rintro e w' ⟨rfl, ⟨nd, rfl⟩⟩; refine ⟨_, rfl, ?_⟩) | (go_at_call 95; (with_reducible refine (backseatref01_in.calls a0 65281 65376 false _ A26.out).mono ?_); rintro e w' ⟨rfl, ⟨nd, rfl⟩⟩) | (go_at_call 95; (with_reducible refine (backseatref01_in.calls a0 127744 129791 false _ A28.out).mono ?_); rintro e w' ⟨rfl, ⟨nd, rfl⟩⟩) | (go_at_call 95; (with_reducible refine (backseatref01_in.calls a0 131072 262141 false _ A30.out).mono ?_); rintro e w' ⟨rfl, ⟨nd, rfl⟩⟩))
              go_ret
              exact ⟨by first | rfl | (simp; done) | (simp [*]; done), by repeat (first | exact Drawn0.refl _ | apply Drawn0.step)⟩
mutual
def backseatref01_need.j0 : Nat → Int → Bool → Option (Int)
 | 0, _, _ => none
 | k + 1, x0, x10 => if x10 = true then (some 2) else (if x0 ≥ 224 then (backseatref01_need.j1 k x0 (decide (x0 < 240))) else (backseatref01_need.j1 k x0 false))
def backseatref01_need.j1 : Nat → Int → Bool → Option (Int)
 | 0, _, _ => none
 | k + 1, x0, x16 => if x16 = true then (some 3) else (if x0 ≥ 240 then (if x0 < 245 then (some 4) else (some 0)) else (some 0))
end
def backseatref01_need.f (k : Nat) (a0 : Int) : Option (Int) := if a0 < 128 then (some 1) else (if a0 ≥ 194 then (backseatref01_need.j0 k a0 (decide (a0 < 224))) else (backseatref01_need.j0 k a0 false))
set_option maxHeartbeats 8000000 in
set_option maxRecDepth 100000 in
theorem backseatref01_need.calls (k : Nat) (a0 : Int) (r : Int) (w : World) (h : backseatref01_need.f k a0 = some r) :
  Calls Tryd.prog 91 #[.int .u8 a0] w fun e w' => e = .returned (.int .i64 r) ∧ Drawn0 w w' := by
 have H : (if a0 < 128 then (some 1) else (if a0 ≥ 194 then (backseatref01_need.j0 k a0 (decide (a0 < 224))) else (backseatref01_need.j0 k a0 false))) = some r := h
 clear h
 by_cases c2 : a0 < 128
 ·rw [if_pos c2] at H
  have c2b0 : decide (a0 < 128) = true := decide_eq_true c2
  clear c2
  obtain rfl := Option.some.inj H
  go_enter Tryd.func91, Tryd.ntmps91
  go_wp2
  go_ret
  exact ⟨by first | rfl | (simp; done) | (simp [*]; done), by repeat (first | exact Drawn0.refl _ | apply Drawn0.step)⟩
 ·rw [if_neg c2] at H
  have c2b0 : decide (a0 < 128) = false := decide_eq_false c2
  clear c2
  have HC3 := Aside0.mk H
  clear H
  go_enter Tryd.func91, Tryd.ntmps91
  go_upto_region 3 with (fail)
  go_cut [10] (fun v10 wc => ∃ (kq : Nat) (x10_2 : Bool), v10 = .bool x10_2 ∧ Aside0 (backseatref01_need.j0 kq a0 x10_2 = some r) ∧ Aside0 (kq ≤ k) ∧ Drawn0 w wc)
  case first =>
   have H := HC3.out
   clear HC3
   by_cases c4 : a0 ≥ 194
   ·rw [if_pos c4] at H
    have c4b0 : decide (194 ≤ a0) = true := decide_eq_true c4
    clear c4
    (first | rw [c4b0] | (simp only [i64_w, i32_w]; rw [c4b0]) | skip)
    have H' := Aside0.mk H
    clear H
    go_wp2
    go_meet
    case rel => exact ⟨_, (decide (a0 < 224)), zf, H', ⟨by first | omega | exact Nat.le_refl _⟩, by repeat (first | exact Drawn0.refl _ | apply Drawn0.step)⟩
   ·rw [if_neg c4] at H
    have c4b0 : decide (194 ≤ a0) = false := decide_eq_false c4
    clear c4
    (first | rw [c4b0] | (simp only [i64_w, i32_w]; rw [c4b0]) | skip)
    have H' := Aside0.mk H
    clear H
    go_wp2
    go_meet
    case rel => exact ⟨_, (false), zf, H', ⟨by first | omega | exact Nat.le_refl _⟩, by repeat (first | exact Drawn0.refl _ | apply Drawn0.step)⟩
  case rest =>
   clear HC3
   try clear c2
   try clear c2b0
   obtain ⟨kq, x10_2, rfl, HA, HJ2, ⟨mc2, rfl⟩⟩ := hcut
   cases kq with
   | zero => exact absurd HA.out (by simp [backseatref01_need.j0])
   | succ kj2 =>
    have H := HA.out
    clear HA
    simp only [backseatref01_need.j0] at H
    by_cases c5 : x10_2 = true
    ·subst c5
     have H1 : (some 2) = some r := by rw [if_pos rfl] at H; exact H
     clear H
     have H := H1
     clear H1
     obtain rfl := Option.some.inj H
     go_wp2
     go_ret
     exact ⟨by first | rfl | (simp; done) | (simp [*]; done), by repeat (first | exact Drawn0.refl _ | apply Drawn0.step)⟩
    ·replace c5 := Bool.eq_false_iff.mpr c5
     subst c5
     have H1 : (if a0 ≥ 224 then (backseatref01_need.j1 kj2 a0 (decide (a0 < 240))) else (backseatref01_need.j1 kj2 a0 false)) = some r := by rw [if_neg (show ¬ (false = true) by decide)] at H; exact H
     clear H
     have H := H1
     clear H1
     have HC6 := Aside0.mk H
     clear H
     go_upto_region 5 with (fail)
     go_cut [16] (fun v16 wc => ∃ (kq : Nat) (x16_5 : Bool), v16 = .bool x16_5 ∧ Aside0 (backseatref01_need.j1 kq a0 x16_5 = some r) ∧ Aside0 (kq ≤ kj2) ∧ Drawn0 w wc)
     case first =>
      have H := HC6.out
      clear HC6
      by_cases c7 : a0 ≥ 224
      ·rw [if_pos c7] at H
       have c7b0 : decide (224 ≤ a0) = true := decide_eq_true c7
       clear c7
       (first | rw [c7b0] | (simp only [i64_w, i32_w]; rw [c7b0]) | skip)
       have H' := Aside0.mk H
       clear H
       go_wp2
       go_meet
       case rel => exact ⟨_, (decide (a0 < 240)), zf, H', ⟨by have := HJ2.out; first | omega | exact Nat.le_refl _⟩, by repeat (first | exact Drawn0.refl _ | apply Drawn0.step)⟩
      ·rw [if_neg c7] at H
       have c7b0 : decide (224 ≤ a0) = false := decide_eq_false c7
       clear c7
       (first | rw [c7b0] | (simp only [i64_w, i32_w]; rw [c7b0]) | skip)
       have H' := Aside0.mk H
       clear H
       go_wp2
       go_meet
       case rel => exact ⟨_, (false), zf, H', ⟨by have := HJ2.out; first | omega | exact Nat.le_refl _⟩, by repeat (first | exact Drawn0.refl _ | apply Drawn0.step)⟩
     case rest =>
      clear HC6
      try clear c2
      try clear c2b0
      try clear c5
      obtain ⟨kq, x16_5, rfl, HA, HJ5, ⟨mc5, rfl⟩⟩ := hcut
      cases kq with
      | zero => exact absurd HA.out (by simp [backseatref01_need.j1])
      | succ kj5 =>
       have H := HA.out
       clear HA
       simp only [backseatref01_need.j1] at H
       by_cases c8 : x16_5 = true
       ·subst c8
        have H1 : (some 3) = some r := by rw [if_pos rfl] at H; exact H
        clear H
        have H := H1
        clear H1
        obtain rfl := Option.some.inj H
        go_wp2
        go_ret
        exact ⟨by first | rfl | (simp; done) | (simp [*]; done), by repeat (first | exact Drawn0.refl _ | apply Drawn0.step)⟩
       ·replace c8 := Bool.eq_false_iff.mpr c8
        subst c8
        have H1 : (if a0 ≥ 240 then (if a0 < 245 then (some 4) else (some 0)) else (some 0)) = some r := by rw [if_neg (show ¬ (false = true) by decide)] at H; exact H
        clear H
        have H := H1
        clear H1
        by_cases c9 : a0 ≥ 240
        ·rw [if_pos c9] at H
         have c9b0 : decide (240 ≤ a0) = true := decide_eq_true c9
         clear c9
         by_cases c10 : a0 < 245
         ·rw [if_pos c10] at H
          have c10b0 : decide (a0 < 245) = true := decide_eq_true c10
          clear c10
          obtain rfl := Option.some.inj H
          go_wp2
          go_ret
          exact ⟨by first | rfl | (simp; done) | (simp [*]; done), by repeat (first | exact Drawn0.refl _ | apply Drawn0.step)⟩
         ·rw [if_neg c10] at H
          have c10b0 : decide (a0 < 245) = false := decide_eq_false c10
          clear c10
          obtain rfl := Option.some.inj H
          go_wp2
          go_ret
          exact ⟨by first | rfl | (simp; done) | (simp [*]; done), by repeat (first | exact Drawn0.refl _ | apply Drawn0.step)⟩
        ·rw [if_neg c9] at H
         have c9b0 : decide (240 ≤ a0) = false := decide_eq_false c9
         clear c9
         obtain rfl := Option.some.inj H
         go_wp2
         go_ret
         exact ⟨by first | rfl | (simp; done) | (simp [*]; done), by repeat (first | exact Drawn0.refl _ | apply Drawn0.step)⟩
end Go.Proofs.YtckkdaehmccjlaaDoor.P
namespace Go.Proofs.YtckkdaehmccjlaaDoor.P
open Go.RowKit Go.Proofs.YtckkdaehmccjlaaDoorW.PrintWords Go.Proofs.YtckkdaehmccjlaaDoorW.PrintLast Go.Proofs.YtckkdaehmccjlaaDoorW.PrintMore
set_option linter.unusedVariables false
set_option linter.unusedSimpArgs false
def RowB (W : World) (base : Nat) (v : Value) (xs : List Int) : Prop :=
 ∃ g cap, v = .slice (some ⟨g, 0, none⟩) xs.length cap ∧ base ≤ g ∧ g < W.heap.size ∧ xs.length ≤ cap ∧ cap ≤ 9223372036854775807 ∧
  (∀ j u, (nums .u8 xs)[j]? = some u → W.cell? ⟨g, j, none⟩ = some u) ∧ (∀ j, xs.length ≤ j → j < cap → (W.cell? ⟨g, j, none⟩).isSome = true ∧ W.frozen? ⟨g, j, none⟩ = false)
theorem RowB.kept {W W' : World} {base : Nat} {v : Value} {xs : List Int} {row : Option Nat} (h : RowB W base v xs) (hg : W.grownBy W' row) (hne : v.ownBlock ≠ row) : RowB W' base v xs := by
 obtain ⟨g, cap, rfl, hb, hlt, hl, hm, hc, hs⟩ := h
 have e : W'.heap[g]? = W.heap[g]? := hg.block g hlt hne
 refine ⟨g, cap, rfl, hb, Nat.lt_of_lt_of_le hlt hg.size, hl, hm, fun j u hj => ?_, fun j h1 h2 => ?_⟩
 ·have := hc j u hj; unfold World.cell? at this ⊢; rw [e]; exact this
 ·have := hs j h1 h2; unfold World.cell? World.frozen? at this ⊢; rw [e]; exact this
theorem RowB.below {W W' : World} {base : Nat} {v : Value} {xs : List Int} (h : RowB W base v xs) (hb : Below W.heap.size W W') : RowB W' base v xs :=
 h.kept (grown_of_below hb none) (by obtain ⟨g, cap, rfl, _⟩ := h; simp [Value.ownBlock])
theorem RowB.lt {W : World} {base : Nat} {v : Value} {xs : List Int} (h : RowB W base v xs) : ∀ k, v.ownBlock = some k → base ≤ k ∧ k < W.heap.size := by
 obtain ⟨g, cap, rfl, hb, hlt, _⟩ := h
 intro k hk
 have : g = k := by simpa [Value.ownBlock] using hk
 subst this
 exact ⟨hb, hlt⟩
theorem RowB.form {W : World} {base : Nat} {v : Value} {xs : List Int} (h : RowB W base v xs) : ∃ g cap, v = .slice (some ⟨g, 0, none⟩) xs.length cap := by
 obtain ⟨g, cap, e, _⟩ := h
 exact ⟨g, cap, e⟩
theorem RowB.made (W : World) (e : TypeId) (s : ByteArray) (base : Nat) (hb : base ≤ W.heap.size) (hs : s.size ≤ 9223372036854775807) : RowB (Lib.bytesWorld W e s) base (.slice (some ⟨W.heap.size, 0, none⟩) s.size (grownCap W s.size 0 e)) (bytesOf s) := by
 have hn := Lib.bytesWorld_at_new W e s
 have hcs : (Lib.bytesCells W e s).size = grownCap W s.size 0 e := by
  have := grownCap_ge W s.size 0 e
  simp [Lib.bytesCells]
  have e1 : s.data.size = s.size := rfl
  omega
 have hlt : W.heap.size < (Lib.bytesWorld W e s).heap.size := by rw [Lib.bytesWorld_size]; omega
 refine ⟨W.heap.size, _, by rw [bytesOf_length], hb, hlt, by rw [bytesOf_length]; exact grownCap_ge _ _ _ _, grownCap_le_maxLen _ _ _ _ hs, fun j u hj => ?_, fun j h1 h2 => ?_⟩
 ·have hl : j < (bytesOf s).length := by
   have := (List.getElem?_eq_some_iff.1 hj).1
   simpa [nums] using this
  have hr := bytes_reads W e s hs
  obtain ⟨ad, ha, hc⟩ := hr.at_ j (by omega) (by rw [bytesOf_length] at hl; omega)
  cases ha
  rw [add_plain, Int.toNat_natCast] at hc
  rw [hc]
  simp only [nums, List.getElem?_map, Option.map_eq_some_iff] at hj
  obtain ⟨x, hx, rfl⟩ := hj
  unfold rd
  rw [List.getD_eq_getElem?_getD, Int.toNat_natCast, hx]; rfl
 ·constructor
  ·simp only [World.cell?, hn]
   rw [Array.getElem?_eq_getElem (by rw [hcs]; exact h2)]; rfl
  ·simp only [World.frozen?, hn]
   simp; omega
section
variable {P : Program} {ops : Array Oper} {rest : List Oper} {o : Oper} {a : Act} {Q : Exit → Act → World → Prop}
theorem RowB.append {w : World} (hgd : o.guard = none) (s x : Operand) (t e : TypeId)
  (ho : o.op = .call { callee := .builtin .append, args := #[s, x], argTypes := #[t, t] })
  (ht : P.underlying t = some (.slice e)) (hinfo : (P.info? e).map (fun i => (i.zero, i.size, i.bytes)) = some (some (.int .u8 0), 1, 1))
  (base : Nat) (v : Value) (xs : List Int) (hs : a.eval s = v) (hown : RowB w base v xs) (c : Int) (g2 : Nat) (hne : v.ownBlock ≠ some g2) (hx : a.eval x = .slice (some ⟨g2, 0, none⟩) 1 1) (hc : w.cell? ⟨g2, 0, none⟩ = some (.int .u8 c))
  (hl : xs.length < 1000) (hbase : base ≤ w.heap.size)
  (h : ∀ v' w', RowB w' base v' (xs ++ [c]) → w.grownBy w' v.ownBlock → (v'.ownBlock = v.ownBlock ∨ ∃ b, v'.ownBlock = some b ∧ w.heap.size ≤ b) → wpList P ops Q rest (a.put o.dst v') w') : wpList P ops Q (o :: rest) a w := by
 obtain ⟨i0, hi, hz0, hz1, hz2⟩ := info_parts hinfo
 obtain ⟨g, cap, rfl, hb, hlt, hlc, hm, hcells, hroom⟩ := hown
 refine wpList_append_arg w hgd s x t ho e i0 (.int .u8 0) 1 1 ht hi hz0 hz1 hz2 rfl (by decide) g 0 xs.length cap (nums .u8 xs) hs (by simp [nums]) (fun j u hj => by rw [Nat.zero_add]; exact hcells j u hj)
  ⟨g2, 0, none⟩ 1 1 [.int .u8 c] hx rfl (fun j u hj => ?_) (fun u hu => ?_) (fun hr j hj => ?_) (by unfold maxLen; omega) (by omega) (fun hr => ?_) (fun hr v' w' hown' hgrow => ?_)
 ·match j, hj with
  | 0, hj => simp at hj; subst hj; rw [add_plain]; exact hc
 ·simp at hu; subst hu; rfl
 ·simp at hj; subst hj
  simp only [Nat.zero_add, Nat.mul_one, Nat.add_zero]
  exact hroom xs.length (Nat.le_refl _) (by omega)
 ·simp only [Nat.zero_add, Nat.mul_one]
  have hsc : w.setCells g xs.length [.int .u8 c] = w.setCell ⟨g, xs.length, none⟩ (.int .u8 c) := rfl
  rw [hsc]
  obtain ⟨hi1, hf1⟩ := hroom xs.length (Nat.le_refl _) (by omega)
  refine h _ _ ⟨g, cap, by rw [List.length_append]; rfl, hb, by show g < (w.heap.modify _ _).size; rw [Array.size_modify]; exact hlt, by simp; omega, hm, fun j u hj => ?_, fun j h1 h2 => ?_⟩ ⟨rfl, rfl, rfl, by show w.heap.size ≤ (w.heap.modify _ _).size; rw [Array.size_modify]; exact Nat.le_refl _, fun k _ hk => Below.heap_setCell _ _ _ _ (fun e => hk (by simp [Value.ownBlock, e]))⟩ (.inl rfl)
  ·rw [nums_append] at hj
   by_cases hjx : j < xs.length
   ·rw [List.getElem?_append_left (by simpa [nums] using hjx)] at hj
    rw [World.cell?_setCell_other _ _ _ _ (by intro e; injection e with _ e2 _; omega)]
    exact hcells j u hj
   ·have hj0 : j = xs.length := by
     have := (List.getElem?_eq_some_iff.1 hj).1
     simp [nums] at this; omega
    subst hj0
    rw [List.getElem?_append_right (by simp [nums])] at hj
    simp [nums] at hj
    subst hj
    exact World.cell?_setCell_same' _ _ _ hi1
  ·simp at h1
   rw [World.cell?_setCell_other _ _ _ _ (by intro e; injection e with _ e2 _; omega), World.frozen?_setCell]
   exact hroom j (by omega) h2
 ·rcases hown'.2 with ⟨_, h0⟩ | ⟨g', cap', cur, rfl, hb', hg', hn', hc', hsz', htk⟩
  ·omega
  ·refine h _ _ ⟨g', cap', by rw [List.length_append]; rfl, by omega, blk_lt hg', by simp; omega, hc', fun j u hj => ?_, fun j h1 h2 => ?_⟩ ⟨hgrow.os, hgrow.tape, hgrow.output, hgrow.size, fun k hk _ => hgrow.block k hk (by simp)⟩ (.inr ⟨g', rfl, hb'⟩)
   ·rw [nums_append] at hj
    have := hown'.cells (g := g') rfl j u (by simpa [nums] using hj)
    rwa [add_plain] at this
   ·simp at h1
    constructor
    ·simp only [World.cell?, hg']
     rw [Array.getElem?_eq_getElem (by omega)]; rfl
    ·simp [World.frozen?, hg']
end
theorem RowB.string {P : Program} {w : World} {base : Nat} {src dst e : TypeId} {v : Value} {xs : List Int} (hs : P.underlying src = some (.slice e)) (he : P.underlying e = some (.int .u8)) (hd : P.underlying dst = some .string)
  (h : RowB w base v xs) : (convert src dst v).run P w = .ok (.string (strOfNums xs)) w := by
 obtain ⟨g, cap, rfl, hb, hlt, hlc, hm, hcells, hroom⟩ := h
 refine run_convert_bytes_arg w src e hs he g 0 xs.length cap xs rfl (fun i hi => ?_) dst hd
 rw [Nat.zero_add]
 exact hcells i _ (by simp [nums, List.getElem?_eq_getElem hi, List.getD_eq_getElem?_getD])
def valGo : List Int → Int → Int
  | [], r => r
  | c :: t, r => if c < 128 ∨ c > 191 then -1 else valGo t (64 * r + c - 128)
def headOf (n : Nat) : Int := if n = 2 then 192 else if n = 3 then 224 else if n = 4 then 240 else 0
def valueZ : List Int → Int
  | [] => 0
  | [c] => c
  | c :: t => valGo t (c - headOf (t.length + 1))
def backseatref01_value.f (a0 : ByteArray) : Option Int := if 1 ≤ a0.size ∧ a0.size ≤ 4 then some (valueZ (bytesOf a0)) else none
theorem bytesOf_drop (s : ByteArray) (k : Nat) (h : k < s.size) : (bytesOf s).drop k = bt s k :: (bytesOf s).drop (k + 1) := by
  rw [List.drop_eq_getElem_cons (by rw [bytesOf_length]; exact h)]
  congr 1
  have := rd_bytesOf s k
  rw [← this]; unfold rd
  rw [List.getD_eq_getElem?_getD, Int.toNat_natCast, List.getElem?_eq_getElem (by rw [bytesOf_length]; exact h)]
  rfl
theorem valueZ_cons (c : Int) (t : List Int) (h : 0 < t.length) : valueZ (c :: t) = valGo t (c - headOf (t.length + 1)) := by
  cases t with
  | nil => simp at h
  | cons d t => rfl
theorem bytesOf_cons (s : ByteArray) (h : 0 < s.size) : bytesOf s = bt s 0 :: (bytesOf s).drop 1 := by
  have := bytesOf_drop s 0 h
  rwa [List.drop_zero] at this
theorem valueZ_one (s : ByteArray) (h : s.size = 1) : valueZ (bytesOf s) = bt s 0 := by
  rw [bytesOf_cons s (by omega), List.drop_eq_nil_of_le (by rw [bytesOf_length]; omega)]; rfl
theorem valueZ_more (s : ByteArray) (h : 1 < s.size) : valueZ (bytesOf s) = valGo ((bytesOf s).drop 1) (bt s 0 - headOf s.size) := by
  conv => lhs; rw [bytesOf_cons s (by omega)]
  rw [valueZ_cons _ _ (by rw [List.length_drop, bytesOf_length]; omega), List.length_drop, bytesOf_length, show s.size - 1 + 1 = s.size by omega]
set_option maxHeartbeats 4000000 in
set_option maxRecDepth 100000 in
theorem value_any (s : ByteArray) (w : World) (h1 : 1 ≤ s.size) (h4 : s.size ≤ 4) :
    Calls Tryd.prog 93 #[.string s] w fun e w' => e = .returned (.int .i32 (valueZ (bytesOf s))) ∧ Below w.heap.size w w' := by
  have hm : s.size ≤ 9223372036854775807 := by omega
  go_enter Tryd.func93, Tryd.ntmps93
  go_wp2
  go_loopg [3, 4] 4 (fun kq r i wr => ∃ (k : Nat) (x : Int), k ≤ s.size ∧ i = .int .i64 k ∧ r = .int .i32 x ∧ Aside0 (kq + k = 4) ∧ Aside0 ((k = 0 ∧ x = 0) ∨ (1 ≤ k ∧ 1 < s.size ∧ valueZ (bytesOf s) = valGo ((bytesOf s).drop k) x ∧ 100 - 400 * 64 ^ (k - 1) ≤ x ∧ x ≤ 400 * 64 ^ (k - 1) - 100)) ∧ Aside0 (Below w.heap.size w wr))
  case atStart => exact ⟨0, 0, Nat.zero_le _, rfl, rfl, ⟨rfl⟩, ⟨.inl ⟨rfl, rfl⟩⟩, ⟨Below.refl _ _⟩⟩
  case round =>
    obtain ⟨k, x, hk, rfl, rfl, HG, HV, HB⟩ := hrel
    by_cases hlt : k < s.size
    · obtain ⟨c, hc⟩ : ∃ c : UInt8, s[k] = c := ⟨_, rfl⟩
      have hcl := c.toNat_lt
      have hbt : bt s k = c.toNat := by rw [← hc]; exact (bt_at s k (by simpa using hlt)).symm
      have HD := Aside0.mk (bytesOf_drop s k hlt)
      have HBT := Aside0.mk hbt
      clear hbt
      by_cases h0 : k = 0
      · subst h0
        obtain rfl : x = 0 := by rcases HV.out with h | h; exact h.2; omega
        have hs : s.size = 1 ∨ s.size = 2 ∨ s.size = 3 ∨ s.size = 4 := by omega
        clear HV h1 h4 hm
        rcases hs with hs | hs | hs | hs
        · have HQ := Aside0.mk (valueZ_one s hs)
          go_wp2
          go_ret
          exact ⟨by rw [HQ.out, show bt s 0 = c.toNat from HBT.out]; rfl, HB.out.alloc HB.out.size _⟩
        all_goals
          have HQ := Aside0.mk (valueZ_more s (by omega))
          go_wp2
          go_roundg (gk - 1)
          case measure => have := HG.out; omega
          case rel =>
            refine ⟨1, _, by omega, by go_num, rfl, ⟨by have := HG.out; omega⟩, ⟨.inr ⟨by omega, by omega, ?_, by omega, by omega⟩⟩, ⟨HB.out.alloc HB.out.size _⟩⟩
            rw [HQ.out, show bt s 0 = c.toNat from HBT.out, hs]; rfl
      · obtain ⟨hk1, hs1, hval, hb1, hb2⟩ : 1 ≤ k ∧ 1 < s.size ∧ valueZ (bytesOf s) = valGo ((bytesOf s).drop k) x ∧ 100 - 400 * 64 ^ (k - 1) ≤ x ∧ x ≤ 400 * 64 ^ (k - 1) - 100 := by rcases HV.out with h | h; exact absurd h.1 h0; exact h
        have HVal : Aside0 (valueZ (bytesOf s) = if (c.toNat : Int) < 128 ∨ (c.toNat : Int) > 191 then -1 else valGo ((bytesOf s).drop (k + 1)) (64 * x + c.toNat - 128)) := ⟨by
          rw [hval, HD.out, HBT.out]; rfl⟩
        have hk : k = 1 ∨ k = 2 ∨ k = 3 := by omega
        have hb : ∃ M : Int, M = 400 * 64 ^ (k - 1) ∧ M ≤ 1638400 := by rcases hk with rfl | rfl | rfl <;> exact ⟨_, rfl, by decide⟩
        have HP : Aside0 (100 - 400 * 64 ^ (k + 1 - 1) ≤ 64 * x + (c.toNat : Int) - 128 ∧ 64 * x + (c.toNat : Int) - 128 ≤ 400 * 64 ^ (k + 1 - 1) - 100 ∨ (c.toNat : Int) < 128 ∨ (c.toNat : Int) > 191) := ⟨by
          by_cases hc : (c.toNat : Int) < 128 ∨ (c.toNat : Int) > 191
          · exact .inr hc
          · left; rcases hk with rfl | rfl | rfl <;> simp at hb1 hb2 ⊢ <;> omega⟩
        obtain ⟨M, hM, hM2⟩ := hb
        rw [← hM] at hb1 hb2
        have hx1 : -1638400 ≤ x := by omega
        have hx2 : x ≤ 1638400 := by omega
        have h01 : ((k : Int) == 0) = false := by simpa using h0
        have HK := Aside0.mk hk
        clear HV h1 hM hM2 hb1 hb2 hval hk
        go_wp2
        all_goals
          first
          | (have hy : (c.toNat : Int) < 128 := by assumption
             go_ret
             exact ⟨by rw [HVal.out, if_pos (.inl hy)]; rfl, HB.out⟩)
          | (have hy : (191 : Int) < (c.toNat : Int) := by omega
             go_ret
             exact ⟨by rw [HVal.out, if_pos (.inr hy)]; rfl, HB.out⟩)
          | (have hy : ¬ ((c.toNat : Int) < 128 ∨ (c.toNat : Int) > 191) := by omega
             go_roundg (gk - 1)
             case measure => have := HG.out; omega
             case rel =>
               refine ⟨k + 1, _, by omega, by go_num, rfl, ⟨by have := HG.out; omega⟩, ⟨.inr ⟨by omega, by omega, ?_, ?_, ?_⟩⟩, HB⟩
               · rw [HVal.out, if_neg hy]
               · rcases HP.out with h | h
                 · exact h.1
                 · exact absurd h hy
               · rcases HP.out with h | h
                 · exact h.2
                 · exact absurd h hy)
    · have HQ : Aside0 (valueZ (bytesOf s) = x) := ⟨by
        rcases HV.out with h | h
        · omega
        · rw [h.2.2.1, List.drop_eq_nil_of_le (by rw [bytesOf_length]; omega)]; rfl⟩
      clear HV
      go_wp2
      go_ret
      exact ⟨by rw [HQ.out]; rfl, HB.out⟩
theorem backseatref01_value.calls (a0 : ByteArray) (r : Int) (w : World) (h : backseatref01_value.f a0 = some r) :
    Calls Tryd.prog 93 #[.string a0] w fun e w' => e = .returned (.int .i32 r) ∧ Below w.heap.size w w' := by
  unfold backseatref01_value.f at h
  split at h
  · rename_i hs
    have e := Option.some.inj h
    subst e
    exact value_any a0 w hs.1 hs.2
  · cases h
def contOK (l : List Int) : Bool := l.all fun c => decide (128 ≤ c) && decide (c ≤ 191)
def floorOf (n : Nat) : Int := if n = 2 then 128 else if n = 3 then 2048 else if n = 4 then 65536 else 0
def begZ (lo hi fl : Int) : Bool := !(decide (hi < fl) || decide (lo > 1114111)) && (decide (lo < 55296) || decide (hi > 57343))
def begB (l : List Int) (n : Nat) : Bool :=
  contOK (l.drop 1) && begZ (valueZ (l ++ List.replicate (n - l.length) 128)) (valueZ (l ++ List.replicate (n - l.length) 191)) (floorOf n)
def backseatref01_begins.f (a0 : ByteArray) (a1 : Int) : Option Bool :=
  if 1 ≤ a0.size ∧ (a0.size : Int) ≤ a1 ∧ a1 ≤ 4 then some (begB (bytesOf a0) a1.toNat) else none
theorem contOK_snoc (l : List Int) (k : Nat) (h : k < l.length) : contOK (l.take (k + 1)) = (contOK (l.take k) && (decide (128 ≤ l[k]) && decide (l[k] ≤ 191))) := by
  unfold contOK
  rw [List.take_succ_eq_append_getElem h, List.all_append]
  simp
theorem bytesOf_get (s : ByteArray) (k : Nat) (h : k < s.size) : (bytesOf s)[k]'(by rw [bytesOf_length]; exact h) = bt s k := by
  have := rd_bytesOf s k
  rw [← this]; unfold rd
  rw [List.getD_eq_getElem?_getD, Int.toNat_natCast, List.getElem?_eq_getElem (by rw [bytesOf_length]; exact h)]
  rfl
theorem bytesOf_str (xs : List Int) (h : ∀ x ∈ xs, 0 ≤ x ∧ x ≤ 255) : bytesOf (strOfNums xs) = xs := by
  unfold bytesOf
  rw [strOfNums_data, List.map_map]
  conv => rhs; rw [← List.map_id xs]
  apply List.map_congr_left
  intro x hx
  have := h x hx
  simp only [Function.comp, id]
  rw [UInt8.toNat_ofNat']
  omega
theorem bytesOf_range (s : ByteArray) : ∀ x ∈ bytesOf s, 0 ≤ x ∧ x ≤ 255 := by
  intro x hx
  unfold bytesOf at hx
  obtain ⟨b, _, rfl⟩ := List.mem_map.1 hx
  have := b.toNat_lt
  omega
theorem pad_range (s : ByteArray) (j : Nat) (c : Int) (h0 : 0 ≤ c) (h1 : c ≤ 255) : ∀ x ∈ bytesOf s ++ List.replicate j c, 0 ≤ x ∧ x ≤ 255 := by
  intro x hx
  rcases List.mem_append.1 hx with h | h
  · exact bytesOf_range s x h
  · obtain rfl := (List.mem_replicate.1 h).2
    exact ⟨h0, h1⟩
set_option maxHeartbeats 4000000 in
set_option maxRecDepth 100000 in
theorem begins_any (s : ByteArray) (n : Nat) (w : World) (h1 : 1 ≤ s.size) (hn : s.size ≤ n) (h4 : n ≤ 4) :
    Calls Tryd.prog 92 #[.string s, .int .i64 n] w fun e w' => e = .returned (.bool (begB (bytesOf s) n)) ∧ Below w.heap.size w w' := by
  have hm : s.size ≤ 9223372036854775807 := by omega
  have hgt : ¬ ((s.size : Int) > n) := by omega
  go_enter Tryd.func92, Tryd.ntmps92
  go_wp2
  clear hgt
  go_loop [5] (fun i => ∃ k : Nat, k + 1 ≤ s.size ∧ i = .int .i64 ((k : Int) + 1) ∧ Aside0 (contOK (((bytesOf s).drop 1).take k) = true)) (fun i => s.size - (intOf i).toNat)
  case atStart => exact ⟨0, by omega, rfl, ⟨rfl⟩⟩
  case round =>
    obtain ⟨k, hk, rfl, HC⟩ := hrel
    by_cases hlt : k + 1 < s.size
    · obtain ⟨c, hc⟩ : ∃ c : UInt8, s[k + 1] = c := ⟨_, rfl⟩
      have hcl := c.toNat_lt
      have HS : Aside0 (contOK (((bytesOf s).drop 1).take (k + 1)) = (decide (128 ≤ (c.toNat : Int)) && decide ((c.toNat : Int) ≤ 191))) := ⟨by
        rw [contOK_snoc _ _ (by rw [List.length_drop, bytesOf_length]; omega), HC.out, Bool.true_and, List.getElem_drop]
        have hb : (bytesOf s)[1 + k]'(by rw [bytesOf_length]; omega) = c.toNat := by
          rw [bytesOf_get s (1 + k) (by omega), ← hc]
          have := bt_at s ((1 + k : Nat) : Int) (by simp; omega)
          rw [← this]
          simp [Nat.add_comm]
        rw [hb]⟩
      have HT : Aside0 (contOK (((bytesOf s).drop 1).take (k + 1)) = false → begB (bytesOf s) n = false) := ⟨fun h => by
        unfold begB
        have : contOK ((bytesOf s).drop 1) = false := by
          unfold contOK at h ⊢
          rw [← List.take_append_drop (k + 1) ((bytesOf s).drop 1), List.all_append, h]; rfl
        rw [this]; rfl⟩
      go_wp2
      all_goals
        first
        | (have hy : 128 ≤ (c.toNat : Int) ∧ (c.toNat : Int) ≤ 191 := by assumption
           go_round
           case rel => exact ⟨k + 1, by omega, by go_num, ⟨by rw [HS.out, decide_eq_true hy.1, decide_eq_true hy.2]; rfl⟩⟩
           case measure => simp [intOf]; omega)
        | (have hy : (c.toNat : Int) < 128 ∨ (191 : Int) < (c.toNat : Int) := by first | assumption | (left; assumption)
           go_ret
           exact ⟨by rw [HT.out (by rw [HS.out]; rcases hy with hy | hy <;> simp <;> omega)]; rfl, Below.refl _ _⟩)
    · have HC2 : Aside0 (contOK ((bytesOf s).drop 1) = true) := ⟨by
        have := HC.out
        rwa [List.take_of_length_le (by rw [List.length_drop, bytesOf_length]; omega)] at this⟩
      clear HC
      have kb := fun W => print_bytes (P := Tryd.prog) 9 75 5 Tryd.underlying9 Tryd.underlying75 Tryd.underlying5 s W
      go_upto_region 10 with (fail)
      go_loopg [6, 7] (n - s.size) (fun kq v6 v7 wr => ∃ j : Nat, s.size + j ≤ n ∧ Aside0 (kq + (s.size + j) = n) ∧ Aside0 (RowB wr w.heap.size v6 (bytesOf s ++ List.replicate j 128)) ∧ Aside0 (RowB wr w.heap.size v7 (bytesOf s ++ List.replicate j 191)) ∧ Aside0 (v6.ownBlock ≠ v7.ownBlock) ∧ Aside0 (Below w.heap.size w wr))
      case atStart =>
        refine ⟨0, by omega, ⟨by omega⟩, ⟨?_⟩, ⟨?_⟩, ⟨?_⟩, ⟨?_⟩⟩
        · rw [List.replicate_zero, List.append_nil]
          exact (RowB.made w _ s _ (Nat.le_refl _) hm).below (bytes_below (Below.refl _ _) (Nat.le_refl _) _ _)
        · rw [List.replicate_zero, List.append_nil]
          exact RowB.made _ _ s _ (by rw [Lib.bytesWorld_size]; omega) hm
        · simp [Value.ownBlock, Lib.bytesWorld_size]
        · exact bytes_below (bytes_below (Below.refl _ _) (Nat.le_refl _) _ _) (by rw [Lib.bytesWorld_size]; omega) _ _
      case round =>
        obtain ⟨j, hj, HG, H6, H7, HN, HB⟩ := hrel
        obtain ⟨g6, c6, rfl⟩ := H6.out.form
        obtain ⟨g7, c7, rfl⟩ := H7.out.form
        have hl6 : (bytesOf s ++ List.replicate j (128 : Int)).length = s.size + j := by rw [List.length_append, bytesOf_length, List.length_replicate]
        have hl7 : (bytesOf s ++ List.replicate j (191 : Int)).length = s.size + j := by rw [List.length_append, bytesOf_length, List.length_replicate]
        rw [hl6] at H6
        rw [hl7] at H7
        rw [hl6, hl7]
        have HL6 := Aside0.mk hl6
        have HL7 := Aside0.mk hl7
        have HNV : g6 ≠ g7 := by have := HN.out; simpa [Value.ownBlock] using this
        have hg6l : g6 < wr.heap.size := (H6.out.lt g6 rfl).2
        have hg7l : g7 < wr.heap.size := (H7.out.lt g7 rfl).2
        clear kb hl6 hl7
        by_cases hlt : s.size + j < n
        · have Q1 : Aside0 ((Value.slice (some ⟨g6, 0, none⟩) (s.size + j) c6).ownBlock ≠ some wr.heap.size) := ⟨fun h => by injection h with h; exact absurd h (Nat.ne_of_lt hg6l)⟩
          have Q2 : Aside0 ((bytesOf s ++ List.replicate j (128 : Int)).length < 1000) := ⟨by rw [HL6.out]; omega⟩
          have Q3 : Aside0 ((bytesOf s ++ List.replicate j (191 : Int)).length < 1000) := ⟨by rw [HL7.out]; omega⟩
          have Q4 : Aside0 (∀ o, w.heap.size ≤ (wr.alloc o).heap.size) := ⟨fun o => by rw [World.size_alloc]; have := HB.out.size; omega⟩
          go_wp2_with (first | (at_builtin; refine RowB.append rfl (.tmp 39) (.tmp 40) 75 5 rfl Tryd.underlying75 (by kernel_rfl) w.heap.size _ (bytesOf s ++ List.replicate j 128) rfl (H6.out.below (below_alloc (Below.refl _ _) _)) 128 wr.heap.size Q1.out rfl (by rw [World.cell?_alloc_new]; rfl) Q2.out (Q4.out _) ?_; intro v6 w6 hr6 hg6 hat6; have HR6 := Aside0.mk hr6; have HG6 := Aside0.mk hg6; have HA6 := Aside0.mk hat6; clear hr6 hg6 hat6; have H7b : Aside0 (RowB w6 w.heap.size (.slice (some ⟨g7, 0, none⟩) (s.size + j) c7) (bytesOf s ++ List.replicate j 191)) := ⟨(H7.out.below (below_alloc (Below.refl _ _) _)).kept HG6.out (fun h => by injection h with h; exact HNV h.symm)⟩; have Q5 : Aside0 (wr.heap.size + 1 ≤ w6.heap.size) := ⟨by have := HG6.out.size; rwa [World.size_alloc] at this⟩; have Q6 : Aside0 (∀ o, w.heap.size ≤ (w6.alloc o).heap.size) := ⟨fun o => by rw [World.size_alloc]; have := Q5.out; have := HB.out.size; omega⟩; have Q7 : Aside0 ((Value.slice (some ⟨g7, 0, none⟩) (s.size + j) c7).ownBlock ≠ some w6.heap.size) := ⟨fun h => by injection h with h; have := Q5.out; exact absurd h (Nat.ne_of_lt (show g7 < w6.heap.size by omega))⟩) | (at_builtin; refine RowB.append rfl (.tmp 42) (.tmp 43) 75 5 rfl Tryd.underlying75 (by kernel_rfl) w.heap.size _ (bytesOf s ++ List.replicate j 191) rfl (H7b.out.below (below_alloc (Below.refl _ _) _)) 191 w6.heap.size Q7.out rfl (by rw [World.cell?_alloc_new]; rfl) Q3.out (Q6.out _) ?_; intro v7 w7 hr7 hg7 hat7; have HR7 := Aside0.mk hr7; have HG7 := Aside0.mk hg7; have HA7 := Aside0.mk hat7; clear hr7 hg7 hat7))
          go_roundg (gk - 1)
          case measure => have := HG.out; omega
          case rel =>
            have hN : v6.ownBlock ≠ some g7 := by
              rcases HA6.out with h | ⟨b, h, hb⟩
              · rw [h]; intro e; injection e with e; exact HNV e
              · rw [h]; intro e; injection e with e; rw [World.size_alloc] at hb; omega
            refine ⟨j + 1, by omega, ⟨by have := HG.out; omega⟩, ⟨?_⟩, ⟨?_⟩, ⟨?_⟩, ⟨?_⟩⟩
            · have := (HR6.out.below (below_alloc (Below.refl _ _) _)).kept HG7.out hN
              rwa [List.append_assoc, ← List.replicate_succ'] at this
            · have := HR7.out
              rwa [List.append_assoc, ← List.replicate_succ'] at this
            · rcases HA7.out with h | ⟨b, h, hb⟩
              · rw [h]; exact hN
              · intro e
                rw [h] at e
                have := (HR6.out.lt b e).2
                rw [World.size_alloc] at hb
                omega
            · have hb0 := HB.out.size
              have h5 := Q5.out
              refine pw_below_grown (Below.alloc (pw_below_grown (Below.alloc HB.out hb0 _) _ (by rw [World.size_alloc]; omega) HG6.out (fun k hk => ?_)) (by omega) _) _ (by rw [World.size_alloc]; omega) HG7.out (fun k hk => ?_)
              · exact (H6.out.lt k hk).1
              · exact (H7b.out.lt k hk).1
        · have hj2 : s.size + j = n := by omega
          have HW : Aside0 (begB (bytesOf s) n = begZ (valueZ (bytesOf s ++ List.replicate j 128)) (valueZ (bytesOf s ++ List.replicate j 191)) (floorOf n)) := ⟨by
            unfold begB
            rw [HC2.out, Bool.true_and, bytesOf_length, show n - s.size = j by omega]⟩
          have c6v : Calls Tryd.prog 93 #[.string (strOfNums (bytesOf s ++ List.replicate j 128))] wr fun e w' => e = .returned (.int .i32 (valueZ (bytesOf s ++ List.replicate j 128))) ∧ Below wr.heap.size wr w' := by
            have := value_any (strOfNums (bytesOf s ++ List.replicate j 128)) wr (by rw [strOfNums_size, HL6.out]; omega) (by rw [strOfNums_size, HL6.out]; omega)
            rwa [bytesOf_str _ (pad_range s j 128 (by omega) (by omega))] at this
          have c7v : ∀ W : World, Calls Tryd.prog 93 #[.string (strOfNums (bytesOf s ++ List.replicate j 191))] W fun e w' => e = .returned (.int .i32 (valueZ (bytesOf s ++ List.replicate j 191))) ∧ Below W.heap.size W w' := fun W => by
            have := value_any (strOfNums (bytesOf s ++ List.replicate j 191)) W (by rw [strOfNums_size, HL7.out]; omega) (by rw [strOfNums_size, HL7.out]; omega)
            rwa [bytesOf_str _ (pad_range s j 191 (by omega) (by omega))] at this
          have k6 := RowB.string (P := Tryd.prog) (src := 75) (dst := 9) Tryd.underlying75 Tryd.underlying5 Tryd.underlying9 H6.out
          have k7 := fun (W : World) (hb : Below wr.heap.size wr W) => RowB.string (P := Tryd.prog) (src := 75) (dst := 9) Tryd.underlying75 Tryd.underlying5 Tryd.underlying9 (H7.out.below hb)
          have K7 := Aside0.mk k7
          have C6 := Aside0.mk c6v
          have C7 := Aside0.mk c7v
          clear c6v c7v k7
          generalize valueZ (bytesOf s ++ List.replicate j 128) = lo at HW C6 C7
          generalize valueZ (bytesOf s ++ List.replicate j 191) = hi at HW C6 C7
          have HBE : Aside0 (∀ fl, begZ lo hi fl = (!(decide (hi < fl) || decide (lo > 1114111)) && (decide (lo < 55296) || decide (hi > 57343)))) := ⟨fun _ => rfl⟩
          have hnn : n = 1 ∨ n = 2 ∨ n = 3 ∨ n = 4 := by omega
          obtain ⟨fl, hfl⟩ : ∃ fl, fl = floorOf n := ⟨_, rfl⟩
          rw [← hfl] at HW
          have HFL := Aside0.mk hfl
          have hge : ¬ ((s.size : Int) + (j : Int) < (n : Int)) := by omega
          clear hlt hj2 HL6 HL7 hfl
          rcases hnn with rfl | rfl | rfl | rfl
          all_goals
            go_wp2_with (first | (go_at_call 93; ((with_reducible refine C6.out.mono ?_); rintro e w8 ⟨rfl, hb8⟩; have k7 := K7.out w8 hb8; have HB8 := Aside0.mk hb8; clear hb8)) | (go_at_call 93; ((with_reducible refine (C7.out _).mono ?_); rintro e w9 ⟨rfl, hb9⟩; have HB9 := Aside0.mk hb9; clear hb9)))
            all_goals
              have hfl := HFL.out
              simp [floorOf] at hfl
              first
              | (have e1 : (decide (hi < fl) || decide (lo > 1114111)) = true := by simp; omega
                 clear hfl
                 go_ret
                 exact ⟨by rw [HW.out, HBE.out, e1]; rfl, (below_step (below_step HB.out HB8.out) HB9.out).alloc (below_step (below_step HB.out HB8.out) HB9.out).size _⟩)
              | (have e1 : (decide (hi < fl) || decide (lo > 1114111)) = false := by simp; omega
                 clear hfl
                 first
                 | (have e2 : decide (lo < 55296) = true := decide_eq_true (by omega)
                    go_ret
                    exact ⟨by rw [HW.out, HBE.out, e1, e2]; rfl, (below_step (below_step HB.out HB8.out) HB9.out).alloc (below_step (below_step HB.out HB8.out) HB9.out).size _⟩)
                 | (go_ret
                    exact ⟨by rw [HW.out, HBE.out, e1]; rfl, (below_step (below_step HB.out HB8.out) HB9.out).alloc (below_step (below_step HB.out HB8.out) HB9.out).size _⟩))
theorem backseatref01_begins.calls (a0 : ByteArray) (a1 : Int) (r : Bool) (w : World) (h : backseatref01_begins.f a0 a1 = some r) :
    Calls Tryd.prog 92 #[.string a0, .int .i64 a1] w fun e w' => e = .returned (.bool r) ∧ Below w.heap.size w w' := by
  unfold backseatref01_begins.f at h
  split at h
  · rename_i hs
    have e := Option.some.inj h
    subst e
    have := begins_any a0 a1.toNat w hs.1 (by omega) (by omega)
    rwa [show ((a1.toNat : Nat) : Int) = a1 by omega] at this
  · cases h
end Go.Proofs.YtckkdaehmccjlaaDoor.P
namespace Go.Proofs.YtckkdaehmccjlaaDoor.P
open Go.RowKit Go.Proofs.YtckkdaehmccjlaaDoorW.PrintWords Go.Proofs.YtckkdaehmccjlaaDoorW.PrintLast Go.Proofs.YtckkdaehmccjlaaDoorW.PrintMore
attribute [local go_sem] max2_int min2_int max_two min_two max_three min_three max_four min_four   -- for this text's walks alone
set_option linter.unusedVariables false
set_option linter.unusedSimpArgs false
mutual
def backseatref01_First.j1 : Nat → ByteArray → Int → Int → Option (Int × Int × Int)
 | 0, _, _, _ => none
 | k + 1, x0, x3, x4 => if x4 = x3 then (if 0 ≤ x3 then (if x3 ≤ (x0.size : Int) then ((backseatref01_value.f (x0.extract 0 (x3 : Int).toNat)).bind fun t206 => (some (t206, x3, 0))) else (none)) else (none)) else (if x4 = (x0.size : Int) then (some (0, 0, 2)) else (some (0, x4, 4)))
def backseatref01_First.l0 : Nat → ByteArray → Int → Int → Option (Int × Int × Int)
 | 0, _, _, _ => none
 | k + 1, x0, x3, x4 => if x4 < x3 then (if x4 < (x0.size : Int) then (if 0 ≤ (wrap64 (x4 + 1)) then (if (wrap64 (x4 + 1)) ≤ (x0.size : Int) then ((backseatref01_begins.f (x0.extract 0 ((wrap64 (x4 + 1)) : Int).toNat) x3).bind fun t205 => (if t205 = true then (backseatref01_First.l0 k x0 x3 (wrap64 (x4 + 1))) else (backseatref01_First.j1 k x0 x3 x4))) else (none)) else (none)) else (backseatref01_First.j1 k x0 x3 x4)) else (backseatref01_First.j1 k x0 x3 x4)
end
def backseatref01_First.f (k : Nat) (a0 : ByteArray) : Option (Int × Int × Int) := if (a0.size : Int) = 0 then (some (0, 0, 2)) else (if 0 < (a0.size : Int) then ((backseatref01_need.f k (bt a0 0)).bind fun t204 => (if t204 = 0 then (some (0, 1, 4)) else (backseatref01_First.l0 k a0 t204 1))) else (none))
set_option maxHeartbeats 8000000 in
set_option maxRecDepth 100000 in
theorem backseatref01_First.calls (k : Nat) (a0 : ByteArray) (r1 : Int) (r2 : Int) (r3 : Int) (w : World) (h : backseatref01_First.f k a0 = some (r1, r2, r3)) :
  Calls Tryd.prog 74 #[.string a0] w fun e w' => e = .returned (.agg #[.int .i32 r1, .int .i64 r2, .int .i64 r3]) ∧ Below w.heap.size w w' := by
 have hu106 := Tryd.underlying106
 have HB := Aside0.mk (Below.refl w.heap.size w)
 have H : (if (a0.size : Int) = 0 then (some (0, 0, 2)) else (if 0 < (a0.size : Int) then ((backseatref01_need.f k (bt a0 0)).bind fun t204 => (if t204 = 0 then (some (0, 1, 4)) else (backseatref01_First.l0 k a0 t204 1))) else (none))) = some (r1, r2, r3) := h
 clear h
 by_cases c2 : (a0.size : Int) = 0
 ·rw [if_pos c2] at H
  have c2b0 : ((a0.size : Int) == 0) = true := beq_iff_eq.mpr c2
  have c2b1 : ((a0.size : Int) != 0) = false := bne_eq_false_iff_eq.mpr c2
  clear c2
  simp only [Option.some.injEq, Prod.mk.injEq] at H
  obtain ⟨rfl, rfl, rfl⟩ := H
  go_enter Tryd.func74, Tryd.ntmps74
  go_wp2_with (first | ((with_reducible refine gate_dst (N := 2) rfl ?_); (try (refine gate_guard (by rfl) ?_; dsimp only)); refine box_event ?hg (N := 2) ?hd (cs := #[.int .i32 0, .int .i64 0, .int .i64 0]) (t := 106) ?hr ?_; (case hd => rfl); (case hg => rfl); (case hr => exact zo); intro gb203 hg w3 hbox hb; have BK203 := Aside0.mk (hbox); have GW203 := Aside0.mk ((zg hg : w.heap.size ≤ gb203)); have GE203 := Aside0.mk ((zg hg : w.heap.size ≤ gb203)); replace HB := (zs HB hb); clear hb hbox hg; obtain ⟨hcz4_0, hcz4_1, hcz4_2, hfz4_0, hfz4_1, hfz4_2⟩ := zq3 (w := w3) BK203))
  refine bodyPost_ret (results_cell_row rfl _ _ gb203 106 #[.int .i32 0, .int .i64 0, .int .i64 2] (0, 0) _ rfl (by refine blk_put (cs := #[.int .i32 0, .int .i64 0, .int .i64 0]) ?_ 2 _ rfl; refine blk_put (cs := #[.int .i32 0, .int .i64 0, .int .i64 0]) ?_ 1 _ rfl; refine blk_put (cs := #[.int .i32 0, .int .i64 0, .int .i64 0]) ?_ 0 _ rfl; exact BK203.out) Tryd.underlying106 rfl (by kernel_rfl)) rfl ?_
  exact ⟨ze, zb⟩
 ·rw [if_neg c2] at H
  have c2b0 : ((a0.size : Int) == 0) = false := beq_eq_false_iff_ne.mpr c2
  have c2b1 : ((a0.size : Int) != 0) = true := bne_iff_ne.mpr c2
  by_cases c5 : 0 < (a0.size : Int)
  ·rw [if_pos c5] at H
   have c5b0 : decide (0 < (a0.size : Int)) = true := decide_eq_true c5
   have c5b1 : decide (0 < a0.size) = true := decide_eq_true (by omega)
   clear c5
   replace H := Option.bind_eq_some_iff.mp H
   obtain ⟨t204, A70, H⟩ := H
   replace H : (if t204 = 0 then (some (0, 1, 4)) else (backseatref01_First.l0 k a0 t204 1)) = some (r1, r2, r3) := H
   have A7 := Aside0.mk A70
   clear A70
   by_cases c8 : t204 = 0
   ·rw [if_pos c8] at H
    have c8b0 : (t204 == 0) = true := beq_iff_eq.mpr c8
    have c8b1 : (t204 != 0) = false := bne_eq_false_iff_eq.mpr c8
    clear c8
    simp only [Option.some.injEq, Prod.mk.injEq] at H
    obtain ⟨rfl, rfl, rfl⟩ := H
    go_enter Tryd.func74, Tryd.ntmps74
    go_wp2_with (first | ((with_reducible refine gate_dst (N := 2) rfl ?_); (try (refine gate_guard (by rfl) ?_; dsimp only)); refine box_event ?hg (N := 2) ?hd (cs := #[.int .i32 0, .int .i64 0, .int .i64 0]) (t := 106) ?hr ?_; (case hd => rfl); (case hg => rfl); (case hr => exact zo); intro gb203 hg w9 hbox hb; have BK203 := Aside0.mk (hbox); have GW203 := Aside0.mk ((zg hg : w.heap.size ≤ gb203)); have GE203 := Aside0.mk ((zg hg : w.heap.size ≤ gb203)); replace HB := (zs HB hb); clear hb hbox hg; have p6 : 0 ≤ (0 : Int) := (by omega); have q6 : 0 < a0.size := (by have : (0 : Int) < (a0.size : Int) := of_decide_eq_true za; omega); have hx6 : ∀ h : 0 < a0.size, ((a0[0]'h).toNat : Int) = bt a0 0 := bt_at a0 0; clear p6; have qi6 : (0 < (a0.size : Int)) = True := eq_true (of_decide_eq_true za); replace q6 := eq_true q6) | ((with_reducible refine gate_callee (f := 91) rfl ?_); refine goesL_ (some 11) rfl rfl Tryd.func91 (by kernel_rfl) rfl #[.int .u8 (bt a0 0)] rfl zl ?_; (with_reducible refine (backseatref01_need.calls k (bt a0 0) t204 _ A7.out).mono ?_); rintro e w' ⟨rfl, ⟨nd, rfl⟩⟩; refine ⟨_, rfl, ?_⟩; (try (rw [drewN_self w9]; generalize hq_ : World.drewN w9 _ = w9; have n0_ : Aside0 (w9.heap[gb203]? = some (.cells #[.int .i32 0, .int .i64 0, .int .i64 0] 106 (0, 0))) := ⟨by rw [← hq_]; exact (by exact BK203.out)⟩; have n1_ : Aside0 (Below w.heap.size w w9) := ⟨by rw [← hq_]; exact zb⟩; clear BK203 HB hq_; have BK203 := n0_; have HB := n1_; clear n0_ n1_)); obtain ⟨hcz10_0, hcz10_1, hcz10_2, hfz10_0, hfz10_1, hfz10_2⟩ := zq3 (w := w9) BK203))
    refine bodyPost_ret (results_cell_row rfl _ _ gb203 106 #[.int .i32 0, .int .i64 1, .int .i64 4] (0, 0) _ rfl (by refine blk_put (cs := #[.int .i32 0, .int .i64 1, .int .i64 0]) ?_ 2 _ rfl; refine blk_put (cs := #[.int .i32 0, .int .i64 0, .int .i64 0]) ?_ 1 _ rfl; refine blk_put (cs := #[.int .i32 0, .int .i64 0, .int .i64 0]) ?_ 0 _ rfl; exact BK203.out) Tryd.underlying106 rfl (by kernel_rfl)) rfl ?_
    exact ⟨ze, zb⟩
   ·rw [if_neg c8] at H
    have c8b0 : (t204 == 0) = false := beq_eq_false_iff_ne.mpr c8
    have c8b1 : (t204 != 0) = true := bne_iff_ne.mpr c8
    have HC11 := Aside0.mk H
    clear H
    go_enter Tryd.func74, Tryd.ntmps74
    go_upto_block 0 with (first | ((with_reducible refine gate_dst (N := 2) rfl ?_); (try (refine gate_guard (by rfl) ?_; dsimp only)); refine box_event ?hg (N := 2) ?hd (cs := #[.int .i32 0, .int .i64 0, .int .i64 0]) (t := 106) ?hr ?_; (case hd => rfl); (case hg => rfl); (case hr => exact zo); intro gb203 hg w12 hbox hb; have BK203 := Aside0.mk (hbox); have GW203 := Aside0.mk ((zg hg : w.heap.size ≤ gb203)); have GE203 := Aside0.mk ((zg hg : w.heap.size ≤ gb203)); replace HB := (zs HB hb); clear hb hbox hg; have p6 : 0 ≤ (0 : Int) := (by omega); have q6 : 0 < a0.size := (by have : (0 : Int) < (a0.size : Int) := of_decide_eq_true za; omega); have hx6 : ∀ h : 0 < a0.size, ((a0[0]'h).toNat : Int) = bt a0 0 := bt_at a0 0; clear p6; have qi6 : (0 < (a0.size : Int)) = True := eq_true (of_decide_eq_true za); replace q6 := eq_true q6) | ((with_reducible refine gate_callee (f := 91) rfl ?_); refine goesL_ (some 11) rfl rfl Tryd.func91 (by kernel_rfl) rfl #[.int .u8 (bt a0 0)] rfl zl ?_; (with_reducible refine (backseatref01_need.calls k (bt a0 0) t204 _ A7.out).mono ?_); rintro e w' ⟨rfl, ⟨nd, rfl⟩⟩; refine ⟨_, rfl, ?_⟩))
    (try simp only [Act.put, List.setIfInBounds_toArray, List.set_cons_zero, List.set_cons_succ])
    go_cut [4] (fun v4 wc => ∃ (kq : Nat) (x4_10 : Int), v4 = .int .i64 x4_10 ∧ Aside0 (backseatref01_First.j1 kq a0 t204 x4_10 = some (r1, r2, r3)) ∧ Aside0 (kq ≤ k) ∧ Aside0 (wc.heap[gb203]? = some (.cells #[.int .i32 0, .int .i64 0, .int .i64 0] 106 (0, 0))) ∧ Aside0 (Below w.heap.size w wc))
    case first =>
     have H := HC11.out
     clear HC11
     have H' := Aside0.mk H
     clear H
     go_wp2
     go_loopg [4] k (fun kq v4 w' => ∃ (x4_1 : Int), v4 = .int .i64 x4_1 ∧ Aside0 (backseatref01_First.l0 kq a0 t204 x4_1 = some (r1, r2, r3)) ∧ Aside0 (kq ≤ k) ∧ Aside0 (w'.heap[gb203]? = some (.cells #[.int .i32 0, .int .i64 0, .int .i64 0] 106 (0, 0))) ∧ Aside0 (Below w.heap.size w w'))
     case atStart => exact ⟨(1), zf, H', ⟨Nat.le_refl _⟩, ⟨by exact BK203.out⟩, ⟨zb⟩⟩
     case round =>
      clear H'
      try clear c2
      try clear c2b0
      try clear c2b1
      try clear c5
      try clear c5b0
      try clear c5b1
      try clear p6
      try clear q6
      try clear hx6
      try clear qi6
      try clear c8
      try clear c8b0
      try clear c8b1
      try clear p6
      try clear q6
      obtain ⟨x4_1, rfl, HA, HK1, BK203, HB⟩ := hrel
      cases gk with
      | zero => exact absurd HA.out (by simp [backseatref01_First.l0])
      | succ k1 =>
       have H := HA.out
       clear HA
       simp only [backseatref01_First.l0] at H
       by_cases c13 : x4_1 < t204
       ·rw [if_pos c13] at H
        have c13b0 : decide (x4_1 < t204) = true := decide_eq_true c13
        clear c13
        (first | rw [c13b0] | (simp only [i64_w, i32_w]; rw [c13b0]) | skip)
        by_cases c14 : x4_1 < (a0.size : Int)
        ·rw [if_pos c14] at H
         have c14b0 : decide (x4_1 < (a0.size : Int)) = true := decide_eq_true c14
         clear c14
         obtain ⟨ji15, hji15⟩ : ∃ j_ : Int, (wrap64 (x4_1 + 1)) = j_ := ⟨_, rfl⟩
         replace H : (if 0 ≤ (ji15) then (if (ji15) ≤ (a0.size : Int) then ((backseatref01_begins.f (a0.extract 0 ((ji15) : Int).toNat) t204).bind fun t205 => (if t205 = true then (backseatref01_First.l0 k1 a0 t204 ji15) else (backseatref01_First.j1 k1 a0 t204 x4_1))) else (none)) else (none)) = some (r1, r2, r3) := by first | (rw [hji15] at H; exact H) | (simp only [hji15] at H ⊢; exact H)
         have hji15w : (IntKind.i64.wrap (x4_1 + 1)) = ji15 := (i64_w _).trans hji15
         by_cases c16 : 0 ≤ (ji15)
         ·rw [if_pos c16] at H
          have c16b0 := eq_true c16
          have c16b1 : decide (0 ≤ (ji15)) = true := decide_eq_true c16
          clear c16
          by_cases c17 : (ji15) ≤ (a0.size : Int)
          ·rw [if_pos c17] at H
           have c17b0 := eq_true c17
           have c17b1 : decide ((ji15) ≤ (a0.size : Int)) = true := decide_eq_true c17
           clear c17
           replace H := Option.bind_eq_some_iff.mp H
           obtain ⟨t205, A180, H⟩ := H
           replace H : (if t205 = true then (backseatref01_First.l0 k1 a0 t204 ji15) else (backseatref01_First.j1 k1 a0 t204 x4_1)) = some (r1, r2, r3) := H
           have A18 := Aside0.mk A180
           clear A180
           by_cases c19 : t205 = true
           ·subst c19
            have H1 : (backseatref01_First.l0 k1 a0 t204 ji15) = some (r1, r2, r3) := by rw [if_pos rfl] at H; exact H
            clear H
            have H := H1
            clear H1
            have H' := Aside0.mk H
            clear H
            go_wp2_with (first | (go_at_call 92; (with_reducible refine (backseatref01_begins.calls (a0.extract 0 ((ji15) : Int).toNat) t204 true _ A18.out).mono ?_); rintro e w20 ⟨rfl, hb⟩; replace BK203 := (zk BK203 hb); replace HB := (zs HB hb); (try clear hb)))
            go_roundg k1
            case measure => have := HK1.out; omega
            case rel => exact ⟨(ji15), (by first | rfl | (simp; done) | (simp only [← hji15] <;> (first | rfl | (simp; done))) | (simp [*]; done) | (simp; simp only [decide_eq_true_eq, eq_iff_iff, iff_true] at *; omega)), H', ⟨by have := HK1.out; omega⟩, ⟨by exact BK203.out⟩, ⟨zb⟩⟩
           ·replace c19 := Bool.eq_false_iff.mpr c19
            subst c19
            have H1 : (backseatref01_First.j1 k1 a0 t204 x4_1) = some (r1, r2, r3) := by rw [if_neg (show ¬ (false = true) by decide)] at H; exact H
            clear H
            have H := H1
            clear H1
            have H' := Aside0.mk H
            clear H
            go_wp2_with (first | (go_at_call 92; (with_reducible refine (backseatref01_begins.calls (a0.extract 0 ((ji15) : Int).toNat) t204 false _ A18.out).mono ?_); rintro e w21 ⟨rfl, hb⟩; replace BK203 := (zk BK203 hb); replace HB := (zs HB hb); (try clear hb)))
            go_meet
            case rel => exact ⟨_, (x4_1), zf, H', ⟨by have := HK1.out; first | omega | exact Nat.le_refl _⟩, ⟨by exact BK203.out⟩, ⟨zb⟩⟩
          ·rw [if_neg c17] at H
           exact absurd H (by simp)
         ·rw [if_neg c16] at H
          exact absurd H (by simp)
        ·rw [if_neg c14] at H
         have c14b0 : decide (x4_1 < (a0.size : Int)) = false := decide_eq_false c14
         clear c14
         have H' := Aside0.mk H
         clear H
         go_wp2
         go_meet
         case rel => exact ⟨_, (x4_1), zf, H', ⟨by have := HK1.out; first | omega | exact Nat.le_refl _⟩, ⟨by exact BK203.out⟩, ⟨zb⟩⟩
       ·rw [if_neg c13] at H
        have c13b0 : decide (x4_1 < t204) = false := decide_eq_false c13
        clear c13
        (first | rw [c13b0] | (simp only [i64_w, i32_w]; rw [c13b0]) | skip)
        have H' := Aside0.mk H
        clear H
        go_wp2
        go_meet
        case rel => exact ⟨_, (x4_1), zf, H', ⟨by have := HK1.out; first | omega | exact Nat.le_refl _⟩, ⟨by exact BK203.out⟩, ⟨zb⟩⟩
    case rest =>
     clear HC11
     try clear c2
     try clear c2b0
     try clear c2b1
     try clear c5
     try clear c5b0
     try clear c5b1
     try clear p6
     try clear q6
     try clear hx6
     try clear qi6
     try clear c8
     try clear c8b0
     try clear c8b1
     try clear p6
     try clear q6
     obtain ⟨kq, x4_10, rfl, HA, HJ10, BK203, HB⟩ := hcut
     cases kq with
     | zero => exact absurd HA.out (by simp [backseatref01_First.j1])
     | succ kj10 =>
      have H := HA.out
      clear HA
      simp only [backseatref01_First.j1] at H
      by_cases c22 : x4_10 = t204
      ·rw [if_pos c22] at H
       have c22b0 : (x4_10 == t204) = true := beq_iff_eq.mpr c22
       have c22b1 : (x4_10 != t204) = false := bne_eq_false_iff_eq.mpr c22
       clear c22
       by_cases c23 : 0 ≤ t204
       ·rw [if_pos c23] at H
        have c23b0 := eq_true c23
        have c23b1 : decide (0 ≤ t204) = true := decide_eq_true c23
        clear c23
        by_cases c24 : t204 ≤ (a0.size : Int)
        ·rw [if_pos c24] at H
         have c24b0 := eq_true c24
         have c24b1 : decide (t204 ≤ (a0.size : Int)) = true := decide_eq_true c24
         clear c24
         replace H := Option.bind_eq_some_iff.mp H
         obtain ⟨t206, A250, H⟩ := H
         replace H : (some (t206, t204, 0)) = some (r1, r2, r3) := H
         have A25 := Aside0.mk A250
         clear A250
         simp only [Option.some.injEq, Prod.mk.injEq] at H
         obtain ⟨rfl, rfl, rfl⟩ := H
         go_wp2_with (first | ((with_reducible refine gate_callee (f := 93) rfl ?_); refine goesL_ (some 40) rfl rfl Tryd.func93 (by kernel_rfl) rfl #[.string (a0.extract 0 (t204 : Int).toNat)] rfl zl ?_; (with_reducible refine (backseatref01_value.calls (a0.extract 0 (t204 : Int).toNat) t206 _ A25.out).mono ?_); rintro e w26 ⟨rfl, hb⟩; refine ⟨_, rfl, ?_⟩; replace BK203 := (zk BK203 hb); replace HB := (zs HB hb); (try clear hb); obtain ⟨hcz27_0, hcz27_1, hcz27_2, hfz27_0, hfz27_1, hfz27_2⟩ := zq3 (w := w26) BK203))
         refine bodyPost_ret (results_cell_row rfl _ _ gb203 106 #[.int .i32 t206, .int .i64 t204, .int .i64 0] (0, 0) _ rfl (by refine blk_put (cs := #[.int .i32 t206, .int .i64 t204, .int .i64 0]) ?_ 2 _ rfl; refine blk_put (cs := #[.int .i32 t206, .int .i64 0, .int .i64 0]) ?_ 1 _ rfl; refine blk_put (cs := #[.int .i32 0, .int .i64 0, .int .i64 0]) ?_ 0 _ rfl; exact BK203.out) Tryd.underlying106 rfl (by kernel_rfl)) rfl ?_
         exact ⟨ze, zb⟩
        ·rw [if_neg c24] at H
         exact absurd H (by simp)
       ·rw [if_neg c23] at H
        exact absurd H (by simp)
      ·rw [if_neg c22] at H
       have c22b0 : (x4_10 == t204) = false := beq_eq_false_iff_ne.mpr c22
       have c22b1 : (x4_10 != t204) = true := bne_iff_ne.mpr c22
       by_cases c28 : x4_10 = (a0.size : Int)
       ·rw [if_pos c28] at H
        have c28b0 : (x4_10 == (a0.size : Int)) = true := beq_iff_eq.mpr c28
        have c28b1 : (x4_10 != (a0.size : Int)) = false := bne_eq_false_iff_eq.mpr c28
        clear c28
        simp only [Option.some.injEq, Prod.mk.injEq] at H
        obtain ⟨rfl, rfl, rfl⟩ := H
        obtain ⟨hcz29_0, hcz29_1, hcz29_2, hfz29_0, hfz29_1, hfz29_2⟩ := zq3 (w := wc) BK203
        go_wp2
        refine bodyPost_ret (results_cell_row rfl _ _ gb203 106 #[.int .i32 0, .int .i64 0, .int .i64 2] (0, 0) _ rfl (by refine blk_put (cs := #[.int .i32 0, .int .i64 0, .int .i64 0]) ?_ 2 _ rfl; refine blk_put (cs := #[.int .i32 0, .int .i64 0, .int .i64 0]) ?_ 1 _ rfl; refine blk_put (cs := #[.int .i32 0, .int .i64 0, .int .i64 0]) ?_ 0 _ rfl; exact BK203.out) Tryd.underlying106 rfl (by kernel_rfl)) rfl ?_
        exact ⟨ze, zb⟩
       ·rw [if_neg c28] at H
        have c28b0 : (x4_10 == (a0.size : Int)) = false := beq_eq_false_iff_ne.mpr c28
        have c28b1 : (x4_10 != (a0.size : Int)) = true := bne_iff_ne.mpr c28
        simp only [Option.some.injEq, Prod.mk.injEq] at H
        obtain ⟨rfl, rfl, rfl⟩ := H
        obtain ⟨hcz30_0, hcz30_1, hcz30_2, hfz30_0, hfz30_1, hfz30_2⟩ := zq3 (w := wc) BK203
        go_wp2
        refine bodyPost_ret (results_cell_row rfl _ _ gb203 106 #[.int .i32 0, .int .i64 x4_10, .int .i64 4] (0, 0) _ rfl (by refine blk_put (cs := #[.int .i32 0, .int .i64 x4_10, .int .i64 0]) ?_ 2 _ rfl; refine blk_put (cs := #[.int .i32 0, .int .i64 0, .int .i64 0]) ?_ 1 _ rfl; refine blk_put (cs := #[.int .i32 0, .int .i64 0, .int .i64 0]) ?_ 0 _ rfl; exact BK203.out) Tryd.underlying106 rfl (by kernel_rfl)) rfl ?_
        exact ⟨ze, zb⟩
  ·rw [if_neg c5] at H
   exact absurd H (by simp)
mutual
def backseatref04_Right.j0 : Nat → Bool → ByteArray → Int → Int → Int → Int → Option (Bool)
 | 0, _, _, _, _, _, _ => none
 | k + 1, x20, x221000, x221001, x221002, x221003, x221004 => if x20 = true then (some false) else (if x221000.toList = ([] : List UInt8) then (some (decide (x221001 < 2))) else ((backseatref01_First.f k x221000).bind fun bt222 => (if bt222.2.2 = 0 then (if x221001 = 0 then (backseatref04_Right.j1 k true x221000 x221001 x221002 x221003 x221004 bt222.1 bt222.2.1 bt222.2.2) else ((backseatref01_Width.f k bt222.1).bind fun t226 => (backseatref04_Right.j1 k (t226 != x221001) x221000 x221001 x221002 x221003 x221004 bt222.1 bt222.2.1 bt222.2.2))) else (backseatref04_Right.j1 k true x221000 x221001 x221002 x221003 x221004 bt222.1 bt222.2.1 bt222.2.2))))
def backseatref04_Right.j1 : Nat → Bool → ByteArray → Int → Int → Int → Int → Int → Int → Int → Option (Bool)
 | 0, _, _, _, _, _, _, _, _, _ => none
 | k + 1, x45, x221000, x221001, x221002, x221003, x221004, x226000, x226001, x226002 => if x45 = true then (some false) else (if 0 ≤ x226001 then (if x226001 ≤ (x221000.size : Int) then (backseatref04_Right.l0 k (x221000.extract (x226001 : Int).toNat x221000.size) 0) else (none)) else (none))
def backseatref04_Right.l0 : Nat → ByteArray → Int → Option (Bool)
 | 0, _, _ => none
 | k + 1, x4, x5 => if (x4.size : Int) > 0 then ((backseatref01_First.f k x4).bind fun bt227 => (if bt227.2.2 = 0 then ((backseatref01_Width.f k bt227.1).bind fun t231 => (if t231 = 0 then (if 0 ≤ bt227.2.1 then (if bt227.2.1 ≤ (x4.size : Int) then (backseatref04_Right.l0 k (x4.extract (bt227.2.1 : Int).toNat x4.size) (wrap64 (x5 + 1))) else (none)) else (none)) else (some false))) else (some false))) else (some (decide (x5 ≤ 2)))
end
def backseatref04_Right.f (k : Nat) (a0_0 : ByteArray) (a0_1 : Int) (a0_2 : Int) (a0_3 : Int) (a0_4 : Int) : Option (Bool) := (backseatref04_Look.f a0_2 a0_3 a0_4).bind fun t221 => (if t221 = true then (if a0_1 < 0 then (backseatref04_Right.j0 k true a0_0 a0_1 a0_2 a0_3 a0_4) else (backseatref04_Right.j0 k (decide (a0_1 > 2)) a0_0 a0_1 a0_2 a0_3 a0_4)) else (backseatref04_Right.j0 k true a0_0 a0_1 a0_2 a0_3 a0_4))
set_option maxHeartbeats 8000000 in
set_option maxRecDepth 100000 in
theorem backseatref04_Right.calls (k : Nat) (a0_0 : ByteArray) (a0_1 : Int) (a0_2 : Int) (a0_3 : Int) (a0_4 : Int) (r : Bool) (w : World) (h : backseatref04_Right.f k a0_0 a0_1 a0_2 a0_3 a0_4 = some r) :
  Calls Tryd.prog 53 #[.agg #[.string a0_0, .int .i64 a0_1, .int .i64 a0_2, .int .i64 a0_3, .int .i64 a0_4]] w fun e w' => e = .returned (.bool r) ∧ Below w.heap.size w w' := by
 have hu60 := Tryd.underlying60
 have hu58 := Tryd.underlying58
 have hu106 := Tryd.underlying106
 have HB := Aside0.mk (Below.refl w.heap.size w)
 have H : ((backseatref04_Look.f a0_2 a0_3 a0_4).bind fun t221 => (if t221 = true then (if a0_1 < 0 then (backseatref04_Right.j0 k true a0_0 a0_1 a0_2 a0_3 a0_4) else (backseatref04_Right.j0 k (decide (a0_1 > 2)) a0_0 a0_1 a0_2 a0_3 a0_4)) else (backseatref04_Right.j0 k true a0_0 a0_1 a0_2 a0_3 a0_4))) = some r := h
 clear h
 have HC2 := Aside0.mk H
 clear H
 go_enter Tryd.func53, Tryd.ntmps53
 go_upto_region 1 with (first | ((with_reducible refine gate_dst (N := 1) rfl ?_); refine box_event ?hg (N := 1) ?hd (cs := #[.string a0_0, .int .i64 a0_1, .int .i64 a0_2, .int .i64 a0_3, .int .i64 a0_4]) (t := 60) ?hr ?_; (case hd => rfl); (case hg => rfl); (case hr => exact zo); intro gb220 hg w3 hbox hb; have BK220 := Aside0.mk (hbox); have GW220 := Aside0.mk ((zg hg : w.heap.size ≤ gb220)); have GE220 := Aside0.mk ((zg hg : w.heap.size ≤ gb220)); replace HB := (zs HB hb); clear hb hbox hg))
 repeat (go_quiet (first | ((with_reducible refine gate_dst (N := 1) rfl ?_); refine box_event ?hg (N := 1) ?hd (cs := #[.string a0_0, .int .i64 a0_1, .int .i64 a0_2, .int .i64 a0_3, .int .i64 a0_4]) (t := 60) ?hr ?_; (case hd => rfl); (case hg => rfl); (case hr => exact zo); intro gb220 hg w3 hbox hb; have BK220 := Aside0.mk (hbox); have GW220 := Aside0.mk ((zg hg : w.heap.size ≤ gb220)); have GE220 := Aside0.mk ((zg hg : w.heap.size ≤ gb220)); replace HB := (zs HB hb); clear hb hbox hg)); go_upto_region 1 with (first | ((with_reducible refine gate_dst (N := 1) rfl ?_); refine box_event ?hg (N := 1) ?hd (cs := #[.string a0_0, .int .i64 a0_1, .int .i64 a0_2, .int .i64 a0_3, .int .i64 a0_4]) (t := 60) ?hr ?_; (case hd => rfl); (case hg => rfl); (case hr => exact zo); intro gb220 hg w3 hbox hb; have BK220 := Aside0.mk (hbox); have GW220 := Aside0.mk ((zg hg : w.heap.size ≤ gb220)); have GE220 := Aside0.mk ((zg hg : w.heap.size ≤ gb220)); replace HB := (zs HB hb); clear hb hbox hg)))
 (try simp only [Act.put, List.setIfInBounds_toArray, List.set_cons_zero, List.set_cons_succ])
 go_cut [20] (fun v20 wc => ∃ (kq : Nat) (x20_1 : Bool), v20 = .bool x20_1 ∧ Aside0 (backseatref04_Right.j0 kq x20_1 a0_0 a0_1 a0_2 a0_3 a0_4 = some r) ∧ Aside0 (kq ≤ k) ∧ Aside0 (wc.heap[gb220]? = some (.cells #[.string a0_0, .int .i64 a0_1, .int .i64 a0_2, .int .i64 a0_3, .int .i64 a0_4] 60 (0, 0))) ∧ Aside0 (Below w.heap.size w wc))
 case first =>
  have H := HC2.out
  clear HC2
  replace H := Option.bind_eq_some_iff.mp H
  obtain ⟨t221, A40, H⟩ := H
  replace H : (if t221 = true then (if a0_1 < 0 then (backseatref04_Right.j0 k true a0_0 a0_1 a0_2 a0_3 a0_4) else (backseatref04_Right.j0 k (decide (a0_1 > 2)) a0_0 a0_1 a0_2 a0_3 a0_4)) else (backseatref04_Right.j0 k true a0_0 a0_1 a0_2 a0_3 a0_4)) = some r := H
  have A4 := Aside0.mk A40
  clear A40
  by_cases c5 : t221 = true
  ·subst c5
   have H1 : (if a0_1 < 0 then (backseatref04_Right.j0 k true a0_0 a0_1 a0_2 a0_3 a0_4) else (backseatref04_Right.j0 k (decide (a0_1 > 2)) a0_0 a0_1 a0_2 a0_3 a0_4)) = some r := by rw [if_pos rfl] at H; exact H
   clear H
   have H := H1
   clear H1
   by_cases c6 : a0_1 < 0
   ·rw [if_pos c6] at H
    have c6b0 : decide (a0_1 < 0) = true := decide_eq_true c6
    clear c6
    (first | rw [c6b0] | (simp only [i64_w, i32_w]; rw [c6b0]) | skip)
    have H' := Aside0.mk H
    clear H
    obtain ⟨hcz7_0, hcz7_1, hcz7_2, hcz7_3, hcz7_4, hfz7_0, hfz7_1, hfz7_2, hfz7_3, hfz7_4⟩ := zq5 (w := w3) BK220
    go_wp2_with (first | (go_at_call 73; (with_reducible refine (backseatref04_Look.calls a0_2 a0_3 a0_4 true _ A4.out).mono ?_); rintro e w8 ⟨rfl, hb⟩; replace BK220 := (zk BK220 hb); replace HB := (zs HB hb); (try clear hb); obtain ⟨hcz9_0, hcz9_1, hcz9_2, hcz9_3, hcz9_4, hfz9_0, hfz9_1, hfz9_2, hfz9_3, hfz9_4⟩ := zq5 (w := w8) BK220))
    repeat (go_quiet (first | (go_at_call 73; (with_reducible refine (backseatref04_Look.calls a0_2 a0_3 a0_4 true _ A4.out).mono ?_); rintro e w8 ⟨rfl, hb⟩; replace BK220 := (zk BK220 hb); replace HB := (zs HB hb); (try clear hb); obtain ⟨hcz9_0, hcz9_1, hcz9_2, hcz9_3, hcz9_4, hfz9_0, hfz9_1, hfz9_2, hfz9_3, hfz9_4⟩ := zq5 (w := w8) BK220)); try go_wp2_with (first | (go_at_call 73; (with_reducible refine (backseatref04_Look.calls a0_2 a0_3 a0_4 true _ A4.out).mono ?_); rintro e w8 ⟨rfl, hb⟩; replace BK220 := (zk BK220 hb); replace HB := (zs HB hb); (try clear hb); obtain ⟨hcz9_0, hcz9_1, hcz9_2, hcz9_3, hcz9_4, hfz9_0, hfz9_1, hfz9_2, hfz9_3, hfz9_4⟩ := zq5 (w := w8) BK220)))
    go_meet
    case rel => exact ⟨_, (true), zf, H', ⟨by first | omega | exact Nat.le_refl _⟩, ⟨by exact BK220.out⟩, ⟨zb⟩⟩
   ·rw [if_neg c6] at H
    have c6b0 : decide (a0_1 < 0) = false := decide_eq_false c6
    clear c6
    (first | rw [c6b0] | (simp only [i64_w, i32_w]; rw [c6b0]) | skip)
    have H' := Aside0.mk H
    clear H
    obtain ⟨hcz10_0, hcz10_1, hcz10_2, hcz10_3, hcz10_4, hfz10_0, hfz10_1, hfz10_2, hfz10_3, hfz10_4⟩ := zq5 (w := w3) BK220
    go_wp2_with (first | (go_at_call 73; (with_reducible refine (backseatref04_Look.calls a0_2 a0_3 a0_4 true _ A4.out).mono ?_); rintro e w11 ⟨rfl, hb⟩; replace BK220 := (zk BK220 hb); replace HB := (zs HB hb); (try clear hb); obtain ⟨hcz12_0, hcz12_1, hcz12_2, hcz12_3, hcz12_4, hfz12_0, hfz12_1, hfz12_2, hfz12_3, hfz12_4⟩ := zq5 (w := w11) BK220))
    repeat (go_quiet (first | (go_at_call 73; (with_reducible refine (backseatref04_Look.calls a0_2 a0_3 a0_4 true _ A4.out).mono ?_); rintro e w11 ⟨rfl, hb⟩; replace BK220 := (zk BK220 hb); replace HB := (zs HB hb); (try clear hb); obtain ⟨hcz12_0, hcz12_1, hcz12_2, hcz12_3, hcz12_4, hfz12_0, hfz12_1, hfz12_2, hfz12_3, hfz12_4⟩ := zq5 (w := w11) BK220)); try go_wp2_with (first | (go_at_call 73; (with_reducible refine (backseatref04_Look.calls a0_2 a0_3 a0_4 true _ A4.out).mono ?_); rintro e w11 ⟨rfl, hb⟩; replace BK220 := (zk BK220 hb); replace HB := (zs HB hb); (try clear hb); obtain ⟨hcz12_0, hcz12_1, hcz12_2, hcz12_3, hcz12_4, hfz12_0, hfz12_1, hfz12_2, hfz12_3, hfz12_4⟩ := zq5 (w := w11) BK220)))
    go_meet
    case rel => exact ⟨_, (decide (a0_1 > 2)), zf, H', ⟨by first | omega | exact Nat.le_refl _⟩, ⟨by exact BK220.out⟩, ⟨zb⟩⟩
  ·replace c5 := Bool.eq_false_iff.mpr c5
   subst c5
   have H1 : (backseatref04_Right.j0 k true a0_0 a0_1 a0_2 a0_3 a0_4) = some r := by rw [if_neg (show ¬ (false = true) by decide)] at H; exact H
   clear H
   have H := H1
   clear H1
   have H' := Aside0.mk H
   clear H
   obtain ⟨hcz13_0, hcz13_1, hcz13_2, hcz13_3, hcz13_4, hfz13_0, hfz13_1, hfz13_2, hfz13_3, hfz13_4⟩ := zq5 (w := w3) BK220
   go_wp2_with (first | (go_at_call 73; (with_reducible refine (backseatref04_Look.calls a0_2 a0_3 a0_4 false _ A4.out).mono ?_); rintro e w14 ⟨rfl, hb⟩; replace BK220 := (zk BK220 hb); replace HB := (zs HB hb); (try clear hb)))
   repeat (go_quiet (first | (go_at_call 73; (with_reducible refine (backseatref04_Look.calls a0_2 a0_3 a0_4 false _ A4.out).mono ?_); rintro e w14 ⟨rfl, hb⟩; replace BK220 := (zk BK220 hb); replace HB := (zs HB hb); (try clear hb))); try go_wp2_with (first | (go_at_call 73; (with_reducible refine (backseatref04_Look.calls a0_2 a0_3 a0_4 false _ A4.out).mono ?_); rintro e w14 ⟨rfl, hb⟩; replace BK220 := (zk BK220 hb); replace HB := (zs HB hb); (try clear hb))))
   go_meet
   case rel => exact ⟨_, (true), zf, H', ⟨by first | omega | exact Nat.le_refl _⟩, ⟨by exact BK220.out⟩, ⟨zb⟩⟩
 case rest =>
  clear HC2
  obtain ⟨kq, x20_1, rfl, HA, HJ1, BK220, HB⟩ := hcut
  cases kq with
  | zero => exact absurd HA.out (by simp [backseatref04_Right.j0])
  | succ kj1 =>
   have H := HA.out
   clear HA
   simp only [backseatref04_Right.j0] at H
   by_cases c15 : x20_1 = true
   ·subst c15
    have H1 : (some false) = some r := by rw [if_pos rfl] at H; exact H
    clear H
    have H := H1
    clear H1
    obtain rfl := Option.some.inj H
    go_wp2
    repeat (go_quiet (fail); try go_wp2)
    go_ret
    exact ⟨ze, zb⟩
   ·replace c15 := Bool.eq_false_iff.mpr c15
    subst c15
    have H1 : (if a0_0.toList = ([] : List UInt8) then (some (decide (a0_1 < 2))) else ((backseatref01_First.f kj1 a0_0).bind fun bt222 => (if bt222.2.2 = 0 then (if a0_1 = 0 then (backseatref04_Right.j1 kj1 true a0_0 a0_1 a0_2 a0_3 a0_4 bt222.1 bt222.2.1 bt222.2.2) else ((backseatref01_Width.f kj1 bt222.1).bind fun t226 => (backseatref04_Right.j1 kj1 (t226 != a0_1) a0_0 a0_1 a0_2 a0_3 a0_4 bt222.1 bt222.2.1 bt222.2.2))) else (backseatref04_Right.j1 kj1 true a0_0 a0_1 a0_2 a0_3 a0_4 bt222.1 bt222.2.1 bt222.2.2)))) = some r := by rw [if_neg (show ¬ (false = true) by decide)] at H; exact H
    clear H
    have H := H1
    clear H1
    by_cases c16 : a0_0.toList = ([] : List UInt8)
    ·rw [if_pos c16] at H
     have c16b0 : (a0_0.toList == ([] : List UInt8)) = true := beq_iff_eq.mpr c16
     have c16b1 : (a0_0.toList != ([] : List UInt8)) = false := bne_eq_false_iff_eq.mpr c16
     clear c16
     obtain rfl := Option.some.inj H
     obtain ⟨hcz17_0, hcz17_1, hcz17_2, hcz17_3, hcz17_4, hfz17_0, hfz17_1, hfz17_2, hfz17_3, hfz17_4⟩ := zq5 (w := wc) BK220
     go_wp2
     repeat (go_quiet (fail); try go_wp2)
     go_ret
     exact ⟨ze, zb⟩
    ·rw [if_neg c16] at H
     have c16b0 : (a0_0.toList == ([] : List UInt8)) = false := beq_eq_false_iff_ne.mpr c16
     have c16b1 : (a0_0.toList != ([] : List UInt8)) = true := bne_iff_ne.mpr c16
     replace H := Option.bind_eq_some_iff.mp H
     obtain ⟨⟨t222, t223, t224⟩, A180, H⟩ := H
     replace H : (if t224 = 0 then (if a0_1 = 0 then (backseatref04_Right.j1 kj1 true a0_0 a0_1 a0_2 a0_3 a0_4 t222 t223 t224) else ((backseatref01_Width.f kj1 t222).bind fun t226 => (backseatref04_Right.j1 kj1 (t226 != a0_1) a0_0 a0_1 a0_2 a0_3 a0_4 t222 t223 t224))) else (backseatref04_Right.j1 kj1 true a0_0 a0_1 a0_2 a0_3 a0_4 t222 t223 t224)) = some r := H
     have A18 := Aside0.mk A180
     clear A180
     have HC19 := Aside0.mk H
     clear H
     obtain ⟨hcz20_0, hcz20_1, hcz20_2, hcz20_3, hcz20_4, hfz20_0, hfz20_1, hfz20_2, hfz20_3, hfz20_4⟩ := zq5 (w := wc) BK220
     go_upto_region 6 with (first | (go_at_call 74; (with_reducible refine (backseatref01_First.calls kj1 a0_0 t222 t223 t224 _ A18.out).mono ?_); rintro e w21 ⟨rfl, hb⟩; replace BK220 := (zk BK220 hb); replace HB := (zs HB hb); (try clear hb)) | ((with_reducible refine gate_dst (N := 3) rfl ?_); refine box_event ?hg (N := 3) ?hd (cs := #[.int .i32 0, .int .i64 0, .int .i64 0]) (t := 106) ?hr ?_; (case hd => rfl); (case hg => rfl); (case hr => exact zo); intro gb225 hg w22 hbox hb; have n0_ := (zk BK220 hb); have n1_ := (zs HB hb); have n2_ := Aside0.mk (hbox); have n3_ := Aside0.mk ((zg hg : w.heap.size ≤ gb225)); have n4_ := Aside0.mk ((zg hg : w.heap.size ≤ gb225)); have n5_ := Aside0.mk ((by rw [hg]; exact Nat.ne_of_lt (blk_lt (g := gb220) (o := .cells #[.string a0_0, .int .i64 a0_1, .int .i64 a0_2, .int .i64 a0_3, .int .i64 a0_4] 60 (0, 0)) (by exact BK220.out)) : gb220 ≠ gb225)); have n6_ := Aside0.mk ((by rw [hg]; exact Nat.ne_of_gt (blk_lt (g := gb220) (o := .cells #[.string a0_0, .int .i64 a0_1, .int .i64 a0_2, .int .i64 a0_3, .int .i64 a0_4] 60 (0, 0)) (by exact BK220.out)) : gb225 ≠ gb220)); clear BK220; clear HB; have BK220 := n0_; have HB := n1_; have BK225 := n2_; have GW225 := n3_; have GE225 := n4_; have NB220_225 := n5_; have NB225_220 := n6_; clear n0_ n1_ n2_ n3_ n4_ n5_ n6_; clear hb hbox hg; have hnb23 := NB225_220.out; have hnc23 := NB220_225.out; obtain ⟨hcz24_0, hcz24_1, hcz24_2, hfz24_0, hfz24_1, hfz24_2⟩ := zq3 (w := w22) BK225))
     repeat (go_quiet (first | (go_at_call 74; (with_reducible refine (backseatref01_First.calls kj1 a0_0 t222 t223 t224 _ A18.out).mono ?_); rintro e w21 ⟨rfl, hb⟩; replace BK220 := (zk BK220 hb); replace HB := (zs HB hb); (try clear hb)) | ((with_reducible refine gate_dst (N := 3) rfl ?_); refine box_event ?hg (N := 3) ?hd (cs := #[.int .i32 0, .int .i64 0, .int .i64 0]) (t := 106) ?hr ?_; (case hd => rfl); (case hg => rfl); (case hr => exact zo); intro gb225 hg w22 hbox hb; have n0_ := (zk BK220 hb); have n1_ := (zs HB hb); have n2_ := Aside0.mk (hbox); have n3_ := Aside0.mk ((zg hg : w.heap.size ≤ gb225)); have n4_ := Aside0.mk ((zg hg : w.heap.size ≤ gb225)); have n5_ := Aside0.mk ((by rw [hg]; exact Nat.ne_of_lt (blk_lt (g := gb220) (o := .cells #[.string a0_0, .int .i64 a0_1, .int .i64 a0_2, .int .i64 a0_3, .int .i64 a0_4] 60 (0, 0)) (by exact BK220.out)) : gb220 ≠ gb225)); have n6_ := Aside0.mk ((by rw [hg]; exact Nat.ne_of_gt (blk_lt (g := gb220) (o := .cells #[.string a0_0, .int .i64 a0_1, .int .i64 a0_2, .int .i64 a0_3, .int .i64 a0_4] 60 (0, 0)) (by exact BK220.out)) : gb225 ≠ gb220)); clear BK220; clear HB; have BK220 := n0_; have HB := n1_; have BK225 := n2_; have GW225 := n3_; have GE225 := n4_; have NB220_225 := n5_; have NB225_220 := n6_; clear n0_ n1_ n2_ n3_ n4_ n5_ n6_; clear hb hbox hg; have hnb23 := NB225_220.out; have hnc23 := NB220_225.out; obtain ⟨hcz24_0, hcz24_1, hcz24_2, hfz24_0, hfz24_1, hfz24_2⟩ := zq3 (w := w22) BK225)); go_upto_region 6 with (first | (go_at_call 74; (with_reducible refine (backseatref01_First.calls kj1 a0_0 t222 t223 t224 _ A18.out).mono ?_); rintro e w21 ⟨rfl, hb⟩; replace BK220 := (zk BK220 hb); replace HB := (zs HB hb); (try clear hb)) | ((with_reducible refine gate_dst (N := 3) rfl ?_); refine box_event ?hg (N := 3) ?hd (cs := #[.int .i32 0, .int .i64 0, .int .i64 0]) (t := 106) ?hr ?_; (case hd => rfl); (case hg => rfl); (case hr => exact zo); intro gb225 hg w22 hbox hb; have n0_ := (zk BK220 hb); have n1_ := (zs HB hb); have n2_ := Aside0.mk (hbox); have n3_ := Aside0.mk ((zg hg : w.heap.size ≤ gb225)); have n4_ := Aside0.mk ((zg hg : w.heap.size ≤ gb225)); have n5_ := Aside0.mk ((by rw [hg]; exact Nat.ne_of_lt (blk_lt (g := gb220) (o := .cells #[.string a0_0, .int .i64 a0_1, .int .i64 a0_2, .int .i64 a0_3, .int .i64 a0_4] 60 (0, 0)) (by exact BK220.out)) : gb220 ≠ gb225)); have n6_ := Aside0.mk ((by rw [hg]; exact Nat.ne_of_gt (blk_lt (g := gb220) (o := .cells #[.string a0_0, .int .i64 a0_1, .int .i64 a0_2, .int .i64 a0_3, .int .i64 a0_4] 60 (0, 0)) (by exact BK220.out)) : gb225 ≠ gb220)); clear BK220; clear HB; have BK220 := n0_; have HB := n1_; have BK225 := n2_; have GW225 := n3_; have GE225 := n4_; have NB220_225 := n5_; have NB225_220 := n6_; clear n0_ n1_ n2_ n3_ n4_ n5_ n6_; clear hb hbox hg; have hnb23 := NB225_220.out; have hnc23 := NB220_225.out; obtain ⟨hcz24_0, hcz24_1, hcz24_2, hfz24_0, hfz24_1, hfz24_2⟩ := zq3 (w := w22) BK225)))
     (try simp only [Act.put, List.setIfInBounds_toArray, List.set_cons_zero, List.set_cons_succ])
     go_cut [45] (fun v45 wc => ∃ (kq : Nat) (x45_18 : Bool), v45 = .bool x45_18 ∧ Aside0 (backseatref04_Right.j1 kq x45_18 a0_0 a0_1 a0_2 a0_3 a0_4 t222 t223 t224 = some r) ∧ Aside0 (kq ≤ kj1) ∧ Aside0 (wc.heap[gb220]? = some (.cells #[.string a0_0, .int .i64 a0_1, .int .i64 a0_2, .int .i64 a0_3, .int .i64 a0_4] 60 (0, 0))) ∧ Aside0 (wc.heap[gb225]? = some (.cells #[.int .i32 t222, .int .i64 t223, .int .i64 t224] 106 (0, 0))) ∧ Aside0 (Below w.heap.size w wc))
     case first =>
      have H := HC19.out
      clear HC19
      by_cases c25 : t224 = 0
      ·rw [if_pos c25] at H
       have c25b0 : (t224 == 0) = true := beq_iff_eq.mpr c25
       have c25b1 : (t224 != 0) = false := bne_eq_false_iff_eq.mpr c25
       clear c25
       (first | rw [c25b0] | (simp only [i64_w, i32_w]; rw [c25b0]) | skip)
       by_cases c26 : a0_1 = 0
       ·rw [if_pos c26] at H
        have c26b0 : (a0_1 == 0) = true := beq_iff_eq.mpr c26
        have c26b1 : (a0_1 != 0) = false := bne_eq_false_iff_eq.mpr c26
        clear c26
        have H' := Aside0.mk H
        clear H
        have hnb27 := NB225_220.out
        have hnc27 := NB220_225.out
        obtain ⟨hcz28_0, hcz28_1, hcz28_2, hfz28_0, hfz28_1, hfz28_2⟩ := zq3 (w := w22) BK225
        obtain ⟨hcz29_0, hcz29_1, hcz29_2, hcz29_3, hcz29_4, hfz29_0, hfz29_1, hfz29_2, hfz29_3, hfz29_4⟩ := zq5 (w := w22) BK220
        go_wp2
        repeat (go_quiet (fail); try go_wp2)
        go_meet
        case rel => exact ⟨_, (true), zf, H', ⟨by have := HJ1.out; first | omega | exact Nat.le_refl _⟩, ⟨by refine blk_far ?_ NB220_225.out _; refine blk_far ?_ NB220_225.out _; refine blk_far ?_ NB220_225.out _; exact BK220.out⟩, ⟨by refine blk_put (cs := #[.int .i32 t222, .int .i64 t223, .int .i64 0]) ?_ 2 _ rfl; refine blk_put (cs := #[.int .i32 t222, .int .i64 0, .int .i64 0]) ?_ 1 _ rfl; refine blk_put (cs := #[.int .i32 0, .int .i64 0, .int .i64 0]) ?_ 0 _ rfl; exact BK225.out⟩, ⟨zb⟩⟩
       ·rw [if_neg c26] at H
        have c26b0 : (a0_1 == 0) = false := beq_eq_false_iff_ne.mpr c26
        have c26b1 : (a0_1 != 0) = true := bne_iff_ne.mpr c26
        replace H := Option.bind_eq_some_iff.mp H
        obtain ⟨t226, A300, H⟩ := H
        replace H : (backseatref04_Right.j1 kj1 (t226 != a0_1) a0_0 a0_1 a0_2 a0_3 a0_4 t222 t223 t224) = some r := H
        have A30 := Aside0.mk A300
        clear A300
        have H' := Aside0.mk H
        clear H
        have hnb31 := NB225_220.out
        have hnc31 := NB220_225.out
        obtain ⟨hcz32_0, hcz32_1, hcz32_2, hfz32_0, hfz32_1, hfz32_2⟩ := zq3 (w := w22) BK225
        obtain ⟨hcz33_0, hcz33_1, hcz33_2, hcz33_3, hcz33_4, hfz33_0, hfz33_1, hfz33_2, hfz33_3, hfz33_4⟩ := zq5 (w := w22) BK220
        go_wp2_with (first | (go_at_call 75; (with_reducible refine (backseatref01_Width.calls kj1 t222 t226 _ A30.out).mono ?_); rintro e w' ⟨rfl, ⟨nd, rfl⟩⟩; (try first | exact ⟨rfl, _, World.drewN_drewN _ _ _⟩ | exact ⟨rfl, _, Eq.trans (World.drewN_drewN _ _ _) (congrArg (World.drewN _) (Nat.add_assoc _ _ _))⟩)))
        repeat (go_quiet (first | (go_at_call 75; (with_reducible refine (backseatref01_Width.calls kj1 t222 t226 _ A30.out).mono ?_); rintro e w' ⟨rfl, ⟨nd, rfl⟩⟩; (try first | exact ⟨rfl, _, World.drewN_drewN _ _ _⟩ | exact ⟨rfl, _, Eq.trans (World.drewN_drewN _ _ _) (congrArg (World.drewN _) (Nat.add_assoc _ _ _))⟩))); try go_wp2_with (first | (go_at_call 75; (with_reducible refine (backseatref01_Width.calls kj1 t222 t226 _ A30.out).mono ?_); rintro e w' ⟨rfl, ⟨nd, rfl⟩⟩; (try first | exact ⟨rfl, _, World.drewN_drewN _ _ _⟩ | exact ⟨rfl, _, Eq.trans (World.drewN_drewN _ _ _) (congrArg (World.drewN _) (Nat.add_assoc _ _ _))⟩))))
        go_meet
        case rel => exact ⟨_, ((t226 != a0_1)), zf, H', ⟨by have := HJ1.out; first | omega | exact Nat.le_refl _⟩, ⟨by refine blk_far ?_ NB220_225.out _; refine blk_far ?_ NB220_225.out _; refine blk_far ?_ NB220_225.out _; exact BK220.out⟩, ⟨by refine blk_put (cs := #[.int .i32 t222, .int .i64 t223, .int .i64 0]) ?_ 2 _ rfl; refine blk_put (cs := #[.int .i32 t222, .int .i64 0, .int .i64 0]) ?_ 1 _ rfl; refine blk_put (cs := #[.int .i32 0, .int .i64 0, .int .i64 0]) ?_ 0 _ rfl; exact BK225.out⟩, ⟨zb⟩⟩
      ·rw [if_neg c25] at H
       have c25b0 : (t224 == 0) = false := beq_eq_false_iff_ne.mpr c25
       have c25b1 : (t224 != 0) = true := bne_iff_ne.mpr c25
       (first | rw [c25b0] | (simp only [i64_w, i32_w]; rw [c25b0]) | skip)
       have H' := Aside0.mk H
       clear H
       have hnb34 := NB225_220.out
       have hnc34 := NB220_225.out
       obtain ⟨hcz35_0, hcz35_1, hcz35_2, hfz35_0, hfz35_1, hfz35_2⟩ := zq3 (w := w22) BK225
       go_wp2
       repeat (go_quiet (fail); try go_wp2)
       go_meet
       case rel => exact ⟨_, (true), zf, H', ⟨by have := HJ1.out; first | omega | exact Nat.le_refl _⟩, ⟨by refine blk_far ?_ NB220_225.out _; refine blk_far ?_ NB220_225.out _; refine blk_far ?_ NB220_225.out _; exact BK220.out⟩, ⟨by refine blk_put (cs := #[.int .i32 t222, .int .i64 t223, .int .i64 0]) ?_ 2 _ rfl; refine blk_put (cs := #[.int .i32 t222, .int .i64 0, .int .i64 0]) ?_ 1 _ rfl; refine blk_put (cs := #[.int .i32 0, .int .i64 0, .int .i64 0]) ?_ 0 _ rfl; exact BK225.out⟩, ⟨zb⟩⟩
     case rest =>
      clear HC19
      try clear c15
      try clear c16
      try clear c16b0
      try clear c16b1
      try clear hcz20_0
      try clear hcz20_1
      try clear hcz20_2
      try clear hcz20_3
      try clear hcz20_4
      try clear hcz24_0
      try clear hcz24_1
      try clear hcz24_2
      try clear hfz20_0
      try clear hfz20_1
      try clear hfz20_2
      try clear hfz20_3
      try clear hfz20_4
      try clear hfz24_0
      try clear hfz24_1
      try clear hfz24_2
      obtain ⟨kq, x45_18, rfl, HA, HJ18, BK220, BK225, HB⟩ := hcut
      cases kq with
      | zero => exact absurd HA.out (by simp [backseatref04_Right.j1])
      | succ kj18 =>
       have H := HA.out
       clear HA
       simp only [backseatref04_Right.j1] at H
       by_cases c36 : x45_18 = true
       ·subst c36
        have H1 : (some false) = some r := by rw [if_pos rfl] at H; exact H
        clear H
        have H := H1
        clear H1
        obtain rfl := Option.some.inj H
        go_wp2
        repeat (go_quiet (fail); try go_wp2)
        go_ret
        exact ⟨ze, zb⟩
       ·replace c36 := Bool.eq_false_iff.mpr c36
        subst c36
        have H1 : (if 0 ≤ t223 then (if t223 ≤ (a0_0.size : Int) then (backseatref04_Right.l0 kj18 (a0_0.extract (t223 : Int).toNat a0_0.size) 0) else (none)) else (none)) = some r := by rw [if_neg (show ¬ (false = true) by decide)] at H; exact H
        clear H
        have H := H1
        clear H1
        by_cases c37 : 0 ≤ t223
        ·rw [if_pos c37] at H
         have c37b0 := eq_true c37
         have c37b1 : decide (0 ≤ t223) = true := decide_eq_true c37
         clear c37
         by_cases c38 : t223 ≤ (a0_0.size : Int)
         ·rw [if_pos c38] at H
          have c38b0 := eq_true c38
          have c38b1 : decide (t223 ≤ (a0_0.size : Int)) = true := decide_eq_true c38
          clear c38
          have H' := Aside0.mk H
          clear H
          have hnb39 := NB220_225.out
          have hnc39 := NB225_220.out
          obtain ⟨hcz40_0, hcz40_1, hcz40_2, hcz40_3, hcz40_4, hfz40_0, hfz40_1, hfz40_2, hfz40_3, hfz40_4⟩ := zq5 (w := wc) BK220
          obtain ⟨hcz41_0, hcz41_1, hcz41_2, hfz41_0, hfz41_1, hfz41_2⟩ := zq3 (w := wc) BK225
          go_wp2
          repeat (go_quiet (fail); try go_wp2)
          go_loopg [4, 5] kj18 (fun kq v4 v5 w' => ∃ (x4_3 : ByteArray) (x5_3 : Int), v4 = .string x4_3 ∧ v5 = .int .i64 x5_3 ∧ Aside0 (backseatref04_Right.l0 kq x4_3 x5_3 = some r) ∧ Aside0 (kq ≤ kj18) ∧ Aside0 (w'.heap[gb220]? = some (.cells #[.string a0_0, .int .i64 a0_1, .int .i64 a0_2, .int .i64 a0_3, .int .i64 a0_4] 60 (0, 0))) ∧ Aside0 (w'.heap[gb225]? = some (.cells #[.int .i32 t222, .int .i64 t223, .int .i64 t224] 106 (0, 0))) ∧ Aside0 (Below w.heap.size w w'))
          case atStart => exact ⟨(a0_0.extract (t223 : Int).toNat a0_0.size), (0), zf, zf, H', ⟨Nat.le_refl _⟩, ⟨by exact BK220.out⟩, ⟨by exact BK225.out⟩, ⟨zb⟩⟩
          case round =>
           clear H'
           try clear c15
           try clear c16
           try clear c16b0
           try clear c16b1
           try clear c36
           try clear c37
           try clear c37b0
           try clear c37b1
           try clear c38
           try clear c38b0
           try clear c38b1
           try clear hcz20_0
           try clear hcz20_1
           try clear hcz20_2
           try clear hcz20_3
           try clear hcz20_4
           try clear hcz24_0
           try clear hcz24_1
           try clear hcz24_2
           try clear hcz40_0
           try clear hcz40_1
           try clear hcz40_2
           try clear hcz40_3
           try clear hcz40_4
           try clear hcz41_0
           try clear hcz41_1
           try clear hcz41_2
           try clear hfz20_0
           try clear hfz20_1
           try clear hfz20_2
           try clear hfz20_3
           try clear hfz20_4
           try clear hfz24_0
           try clear hfz24_1
           try clear hfz24_2
           try clear hfz40_0
           try clear hfz40_1
           try clear hfz40_2
           try clear hfz40_3
           try clear hfz40_4
           try clear hfz41_0
           try clear hfz41_1
           try clear hfz41_2
           obtain ⟨x4_3, x5_3, rfl, rfl, HA, HK3, BK220, BK225, HB⟩ := hrel
           cases gk with
           | zero => exact absurd HA.out (by simp [backseatref04_Right.l0])
           | succ k3 =>
            have H := HA.out
            clear HA
            simp only [backseatref04_Right.l0] at H
            by_cases c42 : (x4_3.size : Int) > 0
            ·rw [if_pos c42] at H
             have c42b0 : decide (0 < (x4_3.size : Int)) = true := decide_eq_true c42
             have c42b1 : decide (0 < x4_3.size) = true := decide_eq_true (by omega)
             clear c42
             replace H := Option.bind_eq_some_iff.mp H
             obtain ⟨⟨t227, t228, t229⟩, A430, H⟩ := H
             replace H : (if t229 = 0 then ((backseatref01_Width.f k3 t227).bind fun t231 => (if t231 = 0 then (if 0 ≤ t228 then (if t228 ≤ (x4_3.size : Int) then (backseatref04_Right.l0 k3 (x4_3.extract (t228 : Int).toNat x4_3.size) (wrap64 (x5_3 + 1))) else (none)) else (none)) else (some false))) else (some false)) = some r := H
             have A43 := Aside0.mk A430
             clear A430
             by_cases c44 : t229 = 0
             ·rw [if_pos c44] at H
              have c44b0 : (t229 == 0) = true := beq_iff_eq.mpr c44
              have c44b1 : (t229 != 0) = false := bne_eq_false_iff_eq.mpr c44
              clear c44
              replace H := Option.bind_eq_some_iff.mp H
              obtain ⟨t231, A450, H⟩ := H
              replace H : (if t231 = 0 then (if 0 ≤ t228 then (if t228 ≤ (x4_3.size : Int) then (backseatref04_Right.l0 k3 (x4_3.extract (t228 : Int).toNat x4_3.size) (wrap64 (x5_3 + 1))) else (none)) else (none)) else (some false)) = some r := H
              have A45 := Aside0.mk A450
              clear A450
              by_cases c46 : t231 = 0
              ·rw [if_pos c46] at H
               have c46b0 : (t231 == 0) = true := beq_iff_eq.mpr c46
               have c46b1 : (t231 != 0) = false := bne_eq_false_iff_eq.mpr c46
               clear c46
               by_cases c47 : 0 ≤ t228
               ·rw [if_pos c47] at H
                have c47b0 := eq_true c47
                have c47b1 : decide (0 ≤ t228) = true := decide_eq_true c47
                clear c47
                by_cases c48 : t228 ≤ (x4_3.size : Int)
                ·rw [if_pos c48] at H
                 have c48b0 := eq_true c48
                 have c48b1 : decide (t228 ≤ (x4_3.size : Int)) = true := decide_eq_true c48
                 clear c48
                 have H' := Aside0.mk H
                 clear H
                 go_wp2_with (first | (go_at_call 74; (with_reducible refine (backseatref01_First.calls k3 x4_3 t227 t228 t229 _ A43.out).mono ?_); rintro e w49 ⟨rfl, hb⟩; replace BK220 := (zk BK220 hb); replace BK225 := (zk BK225 hb); replace HB := (zs HB hb); (try clear hb)) | ((with_reducible refine gate_dst (N := 6) rfl ?_); refine box_event ?hg (N := 6) ?hd (cs := #[.int .i32 0, .int .i64 0, .int .i64 0]) (t := 106) ?hr ?_; (case hd => rfl); (case hg => rfl); (case hr => exact zo); intro gb230 hg w50 hbox hb; have n0_ := (zk BK220 hb); have n1_ := (zk BK225 hb); have n2_ := (zs HB hb); have n3_ := Aside0.mk (hbox); have n4_ := Aside0.mk ((zg hg : w.heap.size ≤ gb230)); have n5_ := Aside0.mk ((zg hg : w.heap.size ≤ gb230)); have n6_ := Aside0.mk ((by rw [hg]; exact Nat.ne_of_lt (blk_lt (g := gb220) (o := .cells #[.string a0_0, .int .i64 a0_1, .int .i64 a0_2, .int .i64 a0_3, .int .i64 a0_4] 60 (0, 0)) (by exact BK220.out)) : gb220 ≠ gb230)); have n7_ := Aside0.mk ((by rw [hg]; exact Nat.ne_of_gt (blk_lt (g := gb220) (o := .cells #[.string a0_0, .int .i64 a0_1, .int .i64 a0_2, .int .i64 a0_3, .int .i64 a0_4] 60 (0, 0)) (by exact BK220.out)) : gb230 ≠ gb220)); have n8_ := Aside0.mk ((by rw [hg]; exact Nat.ne_of_lt (blk_lt (g := gb225) (o := .cells #[.int .i32 t222, .int .i64 t223, .int .i64 t224] 106 (0, 0)) (by exact BK225.out)) : gb225 ≠ gb230)); have n9_ := Aside0.mk ((by rw [hg]; exact Nat.ne_of_gt (blk_lt (g := gb225) (o := .cells #[.int .i32 t222, .int .i64 t223, .int .i64 t224] 106 (0, 0)) (by exact BK225.out)) : gb230 ≠ gb225)); clear BK220; clear BK225; clear HB; have BK220 := n0_; have BK225 := n1_; have HB := n2_; have BK230 := n3_; have GW230 := n4_; have GE230 := n5_; have NB220_230 := n6_; have NB230_220 := n7_; have NB225_230 := n8_; have NB230_225 := n9_; clear n0_ n1_ n2_ n3_ n4_ n5_ n6_ n7_ n8_ n9_; clear hb hbox hg; have hnb51 := NB230_220.out; have hnc51 := NB220_230.out; have hnb52 := NB230_225.out; have hnc52 := NB225_230.out; obtain ⟨hcz53_0, hcz53_1, hcz53_2, hfz53_0, hfz53_1, hfz53_2⟩ := zq3 (w := w50) BK230) | (go_at_call 75; (with_reducible refine (backseatref01_Width.calls k3 t227 t231 _ A45.out).mono ?_); rintro e w' ⟨rfl, ⟨nd, rfl⟩⟩; (try first | exact ⟨rfl, _, World.drewN_drewN _ _ _⟩ | exact ⟨rfl, _, Eq.trans (World.drewN_drewN _ _ _) (congrArg (World.drewN _) (Nat.add_assoc _ _ _))⟩)))
                 repeat (go_quiet (first | (go_at_call 74; (with_reducible refine (backseatref01_First.calls k3 x4_3 t227 t228 t229 _ A43.out).mono ?_); rintro e w49 ⟨rfl, hb⟩; replace BK220 := (zk BK220 hb); replace BK225 := (zk BK225 hb); replace HB := (zs HB hb); (try clear hb)) | ((with_reducible refine gate_dst (N := 6) rfl ?_); refine box_event ?hg (N := 6) ?hd (cs := #[.int .i32 0, .int .i64 0, .int .i64 0]) (t := 106) ?hr ?_; (case hd => rfl); (case hg => rfl); (case hr => exact zo); intro gb230 hg w50 hbox hb; have n0_ := (zk BK220 hb); have n1_ := (zk BK225 hb); have n2_ := (zs HB hb); have n3_ := Aside0.mk (hbox); have n4_ := Aside0.mk ((zg hg : w.heap.size ≤ gb230)); have n5_ := Aside0.mk ((zg hg : w.heap.size ≤ gb230)); have n6_ := Aside0.mk ((by rw [hg]; exact Nat.ne_of_lt (blk_lt (g := gb220) (o := .cells #[.string a0_0, .int .i64 a0_1, .int .i64 a0_2, .int .i64 a0_3, .int .i64 a0_4] 60 (0, 0)) (by exact BK220.out)) : gb220 ≠ gb230)); have n7_ := Aside0.mk ((by rw [hg]; exact Nat.ne_of_gt (blk_lt (g := gb220) (o := .cells #[.string a0_0, .int .i64 a0_1, .int .i64 a0_2, .int .i64 a0_3, .int .i64 a0_4] 60 (0, 0)) (by exact BK220.out)) : gb230 ≠ gb220)); have n8_ := Aside0.mk ((by rw [hg]; exact Nat.ne_of_lt (blk_lt (g := gb225) (o := .cells #[.int .i32 t222, .int .i64 t223, .int .i64 t224] 106 (0, 0)) (by exact BK225.out)) : gb225 ≠ gb230)); have n9_ := Aside0.mk ((by rw [hg]; exact Nat.ne_of_gt (blk_lt (g := gb225) (o := .cells #[.int .i32 t222, .int .i64 t223, .int .i64 t224] 106 (0, 0)) (by exact BK225.out)) : gb230 ≠ gb225)); clear BK220; clear BK225; clear HB; have BK220 := n0_; have BK225 := n1_; have HB := n2_; have BK230 := n3_; have GW230 := n4_; have GE230 := n5_; have NB220_230 := n6_; have NB230_220 := n7_; have NB225_230 := n8_; have NB230_225 := n9_; clear n0_ n1_ n2_ n3_ n4_ n5_ n6_ n7_ n8_ n9_; clear hb hbox hg; have hnb51 := NB230_220.out; have hnc51 := NB220_230.out; have hnb52 := NB230_225.out; have hnc52 := NB225_230.out; obtain ⟨hcz53_0, hcz53_1, hcz53_2, hfz53_0, hfz53_1, hfz53_2⟩ := zq3 (w := w50) BK230) | (go_at_call 75; (with_reducible refine (backseatref01_Width.calls k3 t227 t231 _ A45.out).mono ?_); rintro e w' ⟨rfl, ⟨nd, rfl⟩⟩; (try first | exact ⟨rfl, _, World.drewN_drewN _ _ _⟩ | exact ⟨rfl, _, Eq.trans (World.drewN_drewN _ _ _) (congrArg (World.drewN _) (Nat.add_assoc _ _ _))⟩))); try go_wp2_with (first | (go_at_call 74; (with_reducible refine (backseatref01_First.calls k3 x4_3 t227 t228 t229 _ A43.out).mono ?_); rintro e w49 ⟨rfl, hb⟩; replace BK220 := (zk BK220 hb); replace BK225 := (zk BK225 hb); replace HB := (zs HB hb); (try clear hb)) | ((with_reducible refine gate_dst (N := 6) rfl ?_); refine box_event ?hg (N := 6) ?hd (cs := #[.int .i32 0, .int .i64 0, .int .i64 0]) (t := 106) ?hr ?_; (case hd => rfl); (case hg => rfl); (case hr => exact zo); intro gb230 hg w50 hbox hb; have n0_ := (zk BK220 hb); have n1_ := (zk BK225 hb); have n2_ := (zs HB hb); have n3_ := Aside0.mk (hbox); have n4_ := Aside0.mk ((zg hg : w.heap.size ≤ gb230)); have n5_ := Aside0.mk ((zg hg : w.heap.size ≤ gb230)); have n6_ := Aside0.mk ((by rw [hg]; exact Nat.ne_of_lt (blk_lt (g := gb220) (o := .cells #[.string a0_0, .int .i64 a0_1, .int .i64 a0_2, .int .i64 a0_3, .int .i64 a0_4] 60 (0, 0)) (by exact BK220.out)) : gb220 ≠ gb230)); have n7_ := Aside0.mk ((by rw [hg]; exact Nat.ne_of_gt (blk_lt (g := gb220) (o := .cells #[.string a0_0, .int .i64 a0_1, .int .i64 a0_2, .int .i64 a0_3, .int .i64 a0_4] 60 (0, 0)) (by exact BK220.out)) : gb230 ≠ gb220)); have n8_ := Aside0.mk ((by rw [hg]; exact Nat.ne_of_lt (blk_lt (g := gb225) (o := .cells #[.int .i32 t222, .int .i64 t223, .int .i64 t224] 106 (0, 0)) (by exact BK225.out)) : gb225 ≠ gb230)); have n9_ := Aside0.mk ((by rw [hg]; exact Nat.ne_of_gt (blk_lt (g := gb225) (o := .cells #[.int .i32 t222, .int .i64 t223, .int .i64 t224] 106 (0, 0)) (by exact BK225.out)) : gb230 ≠ gb225)); clear BK220; clear BK225; clear HB; have BK220 := n0_; have BK225 := n1_; have HB := n2_; have BK230 := n3_; have GW230 := n4_; have GE230 := n5_; have NB220_230 := n6_; have NB230_220 := n7_; have NB225_230 := n8_; have NB230_225 := n9_; clear n0_ n1_ n2_ n3_ n4_ n5_ n6_ n7_ n8_ n9_; clear hb hbox hg; have hnb51 := NB230_220.out; have hnc51 := NB220_230.out; have hnb52 := NB230_225.out; have hnc52 := NB225_230.out; obtain ⟨hcz53_0, hcz53_1, hcz53_2, hfz53_0, hfz53_1, hfz53_2⟩ := zq3 (w := w50) BK230) | (go_at_call 75; (with_reducible refine (backseatref01_Width.calls k3 t227 t231 _ A45.out).mono ?_); rintro e w' ⟨rfl, ⟨nd, rfl⟩⟩; (try first | exact ⟨rfl, _, World.drewN_drewN _ _ _⟩ | exact ⟨rfl, _, Eq.trans (World.drewN_drewN _ _ _) (congrArg (World.drewN _) (Nat.add_assoc _ _ _))⟩))))
                 go_roundg k3
                 case measure => have := HJ1.out; have := HJ18.out; have := HK3.out; omega
                 case rel => exact ⟨(x4_3.extract (t228 : Int).toNat x4_3.size), (wrap64 (x5_3 + 1)), zf, zf, H', ⟨by have := HJ1.out; have := HJ18.out; have := HK3.out; omega⟩, ⟨by refine blk_far ?_ NB220_230.out _; refine blk_far ?_ NB220_230.out _; refine blk_far ?_ NB220_230.out _; exact BK220.out⟩, ⟨by refine blk_far ?_ NB225_230.out _; refine blk_far ?_ NB225_230.out _; refine blk_far ?_ NB225_230.out _; exact BK225.out⟩, ⟨zb⟩⟩
                ·rw [if_neg c48] at H
                 exact absurd H (by simp)
               ·rw [if_neg c47] at H
                exact absurd H (by simp)
              ·rw [if_neg c46] at H
               have c46b0 : (t231 == 0) = false := beq_eq_false_iff_ne.mpr c46
               have c46b1 : (t231 != 0) = true := bne_iff_ne.mpr c46
               obtain rfl := Option.some.inj H
               go_wp2_with (first | (go_at_call 74; (with_reducible refine (backseatref01_First.calls k3 x4_3 t227 t228 t229 _ A43.out).mono ?_); rintro e w54 ⟨rfl, hb⟩; replace BK220 := (zk BK220 hb); replace BK225 := (zk BK225 hb); replace HB := (zs HB hb); (try clear hb)) | ((with_reducible refine gate_dst (N := 6) rfl ?_); refine box_event ?hg (N := 6) ?hd (cs := #[.int .i32 0, .int .i64 0, .int .i64 0]) (t := 106) ?hr ?_; (case hd => rfl); (case hg => rfl); (case hr => exact zo); intro gb230 hg w55 hbox hb; have n0_ := (zk BK220 hb); have n1_ := (zk BK225 hb); have n2_ := (zs HB hb); have n3_ := Aside0.mk (hbox); have n4_ := Aside0.mk ((zg hg : w.heap.size ≤ gb230)); have n5_ := Aside0.mk ((zg hg : w.heap.size ≤ gb230)); have n6_ := Aside0.mk ((by rw [hg]; exact Nat.ne_of_lt (blk_lt (g := gb220) (o := .cells #[.string a0_0, .int .i64 a0_1, .int .i64 a0_2, .int .i64 a0_3, .int .i64 a0_4] 60 (0, 0)) (by exact BK220.out)) : gb220 ≠ gb230)); have n7_ := Aside0.mk ((by rw [hg]; exact Nat.ne_of_gt (blk_lt (g := gb220) (o := .cells #[.string a0_0, .int .i64 a0_1, .int .i64 a0_2, .int .i64 a0_3, .int .i64 a0_4] 60 (0, 0)) (by exact BK220.out)) : gb230 ≠ gb220)); have n8_ := Aside0.mk ((by rw [hg]; exact Nat.ne_of_lt (blk_lt (g := gb225) (o := .cells #[.int .i32 t222, .int .i64 t223, .int .i64 t224] 106 (0, 0)) (by exact BK225.out)) : gb225 ≠ gb230)); have n9_ := Aside0.mk ((by rw [hg]; exact Nat.ne_of_gt (blk_lt (g := gb225) (o := .cells #[.int .i32 t222, .int .i64 t223, .int .i64 t224] 106 (0, 0)) (by exact BK225.out)) : gb230 ≠ gb225)); clear BK220; clear BK225; clear HB; have BK220 := n0_; have BK225 := n1_; have HB := n2_; have BK230 := n3_; have GW230 := n4_; have GE230 := n5_; have NB220_230 := n6_; have NB230_220 := n7_; have NB225_230 := n8_; have NB230_225 := n9_; clear n0_ n1_ n2_ n3_ n4_ n5_ n6_ n7_ n8_ n9_; clear hb hbox hg; have hnb56 := NB230_220.out; have hnc56 := NB220_230.out; have hnb57 := NB230_225.out; have hnc57 := NB225_230.out; obtain ⟨hcz58_0, hcz58_1, hcz58_2, hfz58_0, hfz58_1, hfz58_2⟩ := zq3 (w := w55) BK230) | (go_at_call 75; (with_reducible refine (backseatref01_Width.calls k3 t227 t231 _ A45.out).mono ?_); rintro e w' ⟨rfl, ⟨nd, rfl⟩⟩; (try first | exact ⟨rfl, _, World.drewN_drewN _ _ _⟩ | exact ⟨rfl, _, Eq.trans (World.drewN_drewN _ _ _) (congrArg (World.drewN _) (Nat.add_assoc _ _ _))⟩)))
               repeat (go_quiet (first | (go_at_call 74; (with_reducible refine (backseatref01_First.calls k3 x4_3 t227 t228 t229 _ A43.out).mono ?_); rintro e w54 ⟨rfl, hb⟩; replace BK220 := (zk BK220 hb); replace BK225 := (zk BK225 hb); replace HB := (zs HB hb); (try clear hb)) | ((with_reducible refine gate_dst (N := 6) rfl ?_); refine box_event ?hg (N := 6) ?hd (cs := #[.int .i32 0, .int .i64 0, .int .i64 0]) (t := 106) ?hr ?_; (case hd => rfl); (case hg => rfl); (case hr => exact zo); intro gb230 hg w55 hbox hb; have n0_ := (zk BK220 hb); have n1_ := (zk BK225 hb); have n2_ := (zs HB hb); have n3_ := Aside0.mk (hbox); have n4_ := Aside0.mk ((zg hg : w.heap.size ≤ gb230)); have n5_ := Aside0.mk ((zg hg : w.heap.size ≤ gb230)); have n6_ := Aside0.mk ((by rw [hg]; exact Nat.ne_of_lt (blk_lt (g := gb220) (o := .cells #[.string a0_0, .int .i64 a0_1, .int .i64 a0_2, .int .i64 a0_3, .int .i64 a0_4] 60 (0, 0)) (by exact BK220.out)) : gb220 ≠ gb230)); have n7_ := Aside0.mk ((by rw [hg]; exact Nat.ne_of_gt (blk_lt (g := gb220) (o := .cells #[.string a0_0, .int .i64 a0_1, .int .i64 a0_2, .int .i64 a0_3, .int .i64 a0_4] 60 (0, 0)) (by exact BK220.out)) : gb230 ≠ gb220)); have n8_ := Aside0.mk ((by rw [hg]; exact Nat.ne_of_lt (blk_lt (g := gb225) (o := .cells #[.int .i32 t222, .int .i64 t223, .int .i64 t224] 106 (0, 0)) (by exact BK225.out)) : gb225 ≠ gb230)); have n9_ := Aside0.mk ((by rw [hg]; exact Nat.ne_of_gt (blk_lt (g := gb225) (o := .cells #[.int .i32 t222, .int .i64 t223, .int .i64 t224] 106 (0, 0)) (by exact BK225.out)) : gb230 ≠ gb225)); clear BK220; clear BK225; clear HB; have BK220 := n0_; have BK225 := n1_; have HB := n2_; have BK230 := n3_; have GW230 := n4_; have GE230 := n5_; have NB220_230 := n6_; have NB230_220 := n7_; have NB225_230 := n8_; have NB230_225 := n9_; clear n0_ n1_ n2_ n3_ n4_ n5_ n6_ n7_ n8_ n9_; clear hb hbox hg; have hnb56 := NB230_220.out; have hnc56 := NB220_230.out; have hnb57 := NB230_225.out; have hnc57 := NB225_230.out; obtain ⟨hcz58_0, hcz58_1, hcz58_2, hfz58_0, hfz58_1, hfz58_2⟩ := zq3 (w := w55) BK230) | (go_at_call 75; (with_reducible refine (backseatref01_Width.calls k3 t227 t231 _ A45.out).mono ?_); rintro e w' ⟨rfl, ⟨nd, rfl⟩⟩; (try first | exact ⟨rfl, _, World.drewN_drewN _ _ _⟩ | exact ⟨rfl, _, Eq.trans (World.drewN_drewN _ _ _) (congrArg (World.drewN _) (Nat.add_assoc _ _ _))⟩))); try go_wp2_with (first | (go_at_call 74; (with_reducible refine (backseatref01_First.calls k3 x4_3 t227 t228 t229 _ A43.out).mono ?_); rintro e w54 ⟨rfl, hb⟩; replace BK220 := (zk BK220 hb); replace BK225 := (zk BK225 hb); replace HB := (zs HB hb); (try clear hb)) | ((with_reducible refine gate_dst (N := 6) rfl ?_); refine box_event ?hg (N := 6) ?hd (cs := #[.int .i32 0, .int .i64 0, .int .i64 0]) (t := 106) ?hr ?_; (case hd => rfl); (case hg => rfl); (case hr => exact zo); intro gb230 hg w55 hbox hb; have n0_ := (zk BK220 hb); have n1_ := (zk BK225 hb); have n2_ := (zs HB hb); have n3_ := Aside0.mk (hbox); have n4_ := Aside0.mk ((zg hg : w.heap.size ≤ gb230)); have n5_ := Aside0.mk ((zg hg : w.heap.size ≤ gb230)); have n6_ := Aside0.mk ((by rw [hg]; exact Nat.ne_of_lt (blk_lt (g := gb220) (o := .cells #[.string a0_0, .int .i64 a0_1, .int .i64 a0_2, .int .i64 a0_3, .int .i64 a0_4] 60 (0, 0)) (by exact BK220.out)) : gb220 ≠ gb230)); have n7_ := Aside0.mk ((by rw [hg]; exact Nat.ne_of_gt (blk_lt (g := gb220) (o := .cells #[.string a0_0, .int .i64 a0_1, .int .i64 a0_2, .int .i64 a0_3, .int .i64 a0_4] 60 (0, 0)) (by exact BK220.out)) : gb230 ≠ gb220)); have n8_ := Aside0.mk ((by rw [hg]; exact Nat.ne_of_lt (blk_lt (g := gb225) (o := .cells #[.int .i32 t222, .int .i64 t223, .int .i64 t224] 106 (0, 0)) (by exact BK225.out)) : gb225 ≠ gb230)); have n9_ := Aside0.mk ((by rw [hg]; exact Nat.ne_of_gt (blk_lt (g := gb225) (o := .cells #[.int .i32 t222, .int .i64 t223, .int .i64 t224] 106 (0, 0)) (by exact BK225.out)) : gb230 ≠ gb225)); clear BK220; clear BK225; clear HB; have BK220 := n0_; have BK225 := n1_; have HB := n2_; have BK230 := n3_; have GW230 := n4_; have GE230 := n5_; have NB220_230 := n6_; have NB230_220 := n7_; have NB225_230 := n8_; have NB230_225 := n9_; clear n0_ n1_ n2_ n3_ n4_ n5_ n6_ n7_ n8_ n9_; clear hb hbox hg; have hnb56 := NB230_220.out; have hnc56 := NB220_230.out; have hnb57 := NB230_225.out; have hnc57 := NB225_230.out; obtain ⟨hcz58_0, hcz58_1, hcz58_2, hfz58_0, hfz58_1, hfz58_2⟩ := zq3 (w := w55) BK230) | (go_at_call 75; (with_reducible refine (backseatref01_Width.calls k3 t227 t231 _ A45.out).mono ?_); rintro e w' ⟨rfl, ⟨nd, rfl⟩⟩; (try first | exact ⟨rfl, _, World.drewN_drewN _ _ _⟩ | exact ⟨rfl, _, Eq.trans (World.drewN_drewN _ _ _) (congrArg (World.drewN _) (Nat.add_assoc _ _ _))⟩))))
               go_ret
               exact ⟨ze, zb⟩
             ·rw [if_neg c44] at H
              have c44b0 : (t229 == 0) = false := beq_eq_false_iff_ne.mpr c44
              have c44b1 : (t229 != 0) = true := bne_iff_ne.mpr c44
              obtain rfl := Option.some.inj H
              go_wp2_with (first | (go_at_call 74; (with_reducible refine (backseatref01_First.calls k3 x4_3 t227 t228 t229 _ A43.out).mono ?_); rintro e w59 ⟨rfl, hb⟩; replace BK220 := (zk BK220 hb); replace BK225 := (zk BK225 hb); replace HB := (zs HB hb); (try clear hb)) | ((with_reducible refine gate_dst (N := 6) rfl ?_); refine box_event ?hg (N := 6) ?hd (cs := #[.int .i32 0, .int .i64 0, .int .i64 0]) (t := 106) ?hr ?_; (case hd => rfl); (case hg => rfl); (case hr => exact zo); intro gb230 hg w60 hbox hb; have n0_ := (zk BK220 hb); have n1_ := (zk BK225 hb); have n2_ := (zs HB hb); have n3_ := Aside0.mk (hbox); have n4_ := Aside0.mk ((zg hg : w.heap.size ≤ gb230)); have n5_ := Aside0.mk ((zg hg : w.heap.size ≤ gb230)); have n6_ := Aside0.mk ((by rw [hg]; exact Nat.ne_of_lt (blk_lt (g := gb220) (o := .cells #[.string a0_0, .int .i64 a0_1, .int .i64 a0_2, .int .i64 a0_3, .int .i64 a0_4] 60 (0, 0)) (by exact BK220.out)) : gb220 ≠ gb230)); have n7_ := Aside0.mk ((by rw [hg]; exact Nat.ne_of_gt (blk_lt (g := gb220) (o := .cells #[.string a0_0, .int .i64 a0_1, .int .i64 a0_2, .int .i64 a0_3, .int .i64 a0_4] 60 (0, 0)) (by exact BK220.out)) : gb230 ≠ gb220)); have n8_ := Aside0.mk ((by rw [hg]; exact Nat.ne_of_lt (blk_lt (g := gb225) (o := .cells #[.int .i32 t222, .int .i64 t223, .int .i64 t224] 106 (0, 0)) (by exact BK225.out)) : gb225 ≠ gb230)); have n9_ := Aside0.mk ((by rw [hg]; exact Nat.ne_of_gt (blk_lt (g := gb225) (o := .cells #[.int .i32 t222, .int .i64 t223, .int .i64 t224] 106 (0, 0)) (by exact BK225.out)) : gb230 ≠ gb225)); clear BK220; clear BK225; clear HB; have BK220 := n0_; have BK225 := n1_; have HB := n2_; have BK230 := n3_; have GW230 := n4_; have GE230 := n5_; have NB220_230 := n6_; have NB230_220 := n7_; have NB225_230 := n8_; have NB230_225 := n9_; clear n0_ n1_ n2_ n3_ n4_ n5_ n6_ n7_ n8_ n9_; clear hb hbox hg; have hnb61 := NB230_220.out; have hnc61 := NB220_230.out; have hnb62 := NB230_225.out; have hnc62 := NB225_230.out; obtain ⟨hcz63_0, hcz63_1, hcz63_2, hfz63_0, hfz63_1, hfz63_2⟩ := zq3 (w := w60) BK230))
              repeat (go_quiet (first | (go_at_call 74; (with_reducible refine (backseatref01_First.calls k3 x4_3 t227 t228 t229 _ A43.out).mono ?_); rintro e w59 ⟨rfl, hb⟩; replace BK220 := (zk BK220 hb); replace BK225 := (zk BK225 hb); replace HB := (zs HB hb); (try clear hb)) | ((with_reducible refine gate_dst (N := 6) rfl ?_); refine box_event ?hg (N := 6) ?hd (cs := #[.int .i32 0, .int .i64 0, .int .i64 0]) (t := 106) ?hr ?_; (case hd => rfl); (case hg => rfl); (case hr => exact zo); intro gb230 hg w60 hbox hb; have n0_ := (zk BK220 hb); have n1_ := (zk BK225 hb); have n2_ := (zs HB hb); have n3_ := Aside0.mk (hbox); have n4_ := Aside0.mk ((zg hg : w.heap.size ≤ gb230)); have n5_ := Aside0.mk ((zg hg : w.heap.size ≤ gb230)); have n6_ := Aside0.mk ((by rw [hg]; exact Nat.ne_of_lt (blk_lt (g := gb220) (o := .cells #[.string a0_0, .int .i64 a0_1, .int .i64 a0_2, .int .i64 a0_3, .int .i64 a0_4] 60 (0, 0)) (by exact BK220.out)) : gb220 ≠ gb230)); have n7_ := Aside0.mk ((by rw [hg]; exact Nat.ne_of_gt (blk_lt (g := gb220) (o := .cells #[.string a0_0, .int .i64 a0_1, .int .i64 a0_2, .int .i64 a0_3, .int .i64 a0_4] 60 (0, 0)) (by exact BK220.out)) : gb230 ≠ gb220)); have n8_ := Aside0.mk ((by rw [hg]; exact Nat.ne_of_lt (blk_lt (g := gb225) (o := .cells #[.int .i32 t222, .int .i64 t223, .int .i64 t224] 106 (0, 0)) (by exact BK225.out)) : gb225 ≠ gb230)); have n9_ := Aside0.mk ((by rw [hg]; exact Nat.ne_of_gt (blk_lt (g := gb225) (o := .cells #[.int .i32 t222, .int .i64 t223, .int .i64 t224] 106 (0, 0)) (by exact BK225.out)) : gb230 ≠ gb225)); clear BK220; clear BK225; clear HB; have BK220 := n0_; have BK225 := n1_; have HB := n2_; have BK230 := n3_; have GW230 := n4_; have GE230 := n5_; have NB220_230 := n6_; have NB230_220 := n7_; have NB225_230 := n8_; have NB230_225 := n9_; clear n0_ n1_ n2_ n3_ n4_ n5_ n6_ n7_ n8_ n9_; clear hb hbox hg; have hnb61 := NB230_220.out; have hnc61 := NB220_230.out; have hnb62 := NB230_225.out; have hnc62 := NB225_230.out; obtain ⟨hcz63_0, hcz63_1, hcz63_2, hfz63_0, hfz63_1, hfz63_2⟩ := zq3 (w := w60) BK230)); try go_wp2_with (first | (go_at_call 74; (with_reducible refine (backseatref01_First.calls k3 x4_3 t227 t228 t229 _ A43.out).mono ?_); rintro e w59 ⟨rfl, hb⟩; replace BK220 := (zk BK220 hb); replace BK225 := (zk BK225 hb); replace HB := (zs HB hb); (try clear hb)) | ((with_reducible refine gate_dst (N := 6) rfl ?_); refine box_event ?hg (N := 6) ?hd (cs := #[.int .i32 0, .int .i64 0, .int .i64 0]) (t := 106) ?hr ?_; (case hd => rfl); (case hg => rfl); (case hr => exact zo); intro gb230 hg w60 hbox hb; have n0_ := (zk BK220 hb); have n1_ := (zk BK225 hb); have n2_ := (zs HB hb); have n3_ := Aside0.mk (hbox); have n4_ := Aside0.mk ((zg hg : w.heap.size ≤ gb230)); have n5_ := Aside0.mk ((zg hg : w.heap.size ≤ gb230)); have n6_ := Aside0.mk ((by rw [hg]; exact Nat.ne_of_lt (blk_lt (g := gb220) (o := .cells #[.string a0_0, .int .i64 a0_1, .int .i64 a0_2, .int .i64 a0_3, .int .i64 a0_4] 60 (0, 0)) (by exact BK220.out)) : gb220 ≠ gb230)); have n7_ := Aside0.mk ((by rw [hg]; exact Nat.ne_of_gt (blk_lt (g := gb220) (o := .cells #[.string a0_0, .int .i64 a0_1, .int .i64 a0_2, .int .i64 a0_3, .int .i64 a0_4] 60 (0, 0)) (by exact BK220.out)) : gb230 ≠ gb220)); have n8_ := Aside0.mk ((by rw [hg]; exact Nat.ne_of_lt (blk_lt (g := gb225) (o := .cells #[.int .i32 t222, .int .i64 t223, .int .i64 t224] 106 (0, 0)) (by exact BK225.out)) : gb225 ≠ gb230)); have n9_ := Aside0.mk ((by rw [hg]; exact Nat.ne_of_gt (blk_lt (g := gb225) (o := .cells #[.int .i32 t222, .int .i64 t223, .int .i64 t224] 106 (0, 0)) (by exact BK225.out)) : gb230 ≠ gb225)); clear BK220; clear BK225; clear HB; have BK220 := n0_; have BK225 := n1_; have HB := n2_; have BK230 := n3_; have GW230 := n4_; have GE230 := n5_; have NB220_230 := n6_; have NB230_220 := n7_; have NB225_230 := n8_; have NB230_225 := n9_; clear n0_ n1_ n2_ n3_ n4_ n5_ n6_ n7_ n8_ n9_; clear hb hbox hg; have hnb61 := NB230_220.out; have hnc61 := NB220_230.out; have hnb62 := NB230_225.out; have hnc62 := NB225_230.out; obtain ⟨hcz63_0, hcz63_1, hcz63_2, hfz63_0, hfz63_1, hfz63_2⟩ := zq3 (w := w60) BK230)))
              go_ret
              exact ⟨ze, zb⟩
            ·rw [if_neg c42] at H
             have c42b0 : decide (0 < (x4_3.size : Int)) = false := decide_eq_false c42
             have c42b1 : decide (0 < x4_3.size) = false := decide_eq_false (by omega)
             clear c42
             obtain rfl := Option.some.inj H
             go_wp2
             repeat (go_quiet (fail); try go_wp2)
             go_ret
             exact ⟨ze, zb⟩
         ·rw [if_neg c38] at H
          exact absurd H (by simp)
        ·rw [if_neg c37] at H
         exact absurd H (by simp)
def backseatref06_Fits.l0 : Nat → Int → List (S60) → Int → Int → List (S60) → Bool → Option (Bool)
 | 0, _, _, _, _, _, _ => none
 | k + 1, x1, x8, x9, x10, x237000, x237001 => if x10 < x9 then (if 0 ≤ x10 then (if x10 < (x8.length : Int) then ((backseatref04_Right.f k ((rd_T60 x8 x10).f0) ((rd_T60 x8 x10).f1) ((rd_T60 x8 x10).f2.f0) ((rd_T60 x8 x10).f2.f1) ((rd_T60 x8 x10).f2.f2)).bind fun t239 => (if t239 = true then ((backseatref06_half.f x237000 x10).bind fun t240 => (if t240 = true then (some false) else (backseatref06_Fits.l0 k x1 x8 x9 (wrap64 (x10 + 1)) x237000 x237001))) else (some false))) else (none)) else (none)) else (some ((x237000.length : Int) == x1))
def backseatref06_Fits.f (k : Nat) (l0_0 : List (S60)) (a0_1 : Bool) (a1 : Int) : Option (Bool) := backseatref06_Fits.l0 k a1 l0_0 (l0_0.length : Int) 0 l0_0 a0_1
set_option maxHeartbeats 8000000 in
set_option maxRecDepth 100000 in
theorem backseatref06_Fits.calls (k : Nat) (A0_0 : Option Addr) (c0_0 : Nat) (l0_0 : List (S60)) (a0_1 : Bool) (a1 : Int) (r : Bool) (w : World) (hr0_0 : Kd.C k60 w A0_0 l0_0.length l0_0) (hc0_0 : l0_0.length ≤ c0_0) (h : backseatref06_Fits.f k l0_0 a0_1 a1 = some r) :
  Calls Tryd.prog 27 #[.agg #[.slice A0_0 l0_0.length c0_0, .bool a0_1], .int .i64 a1] w fun e w' => e = .returned (.bool r) ∧ Below w.heap.size w w' := by
 have hu38 := Tryd.underlying38
 have hu60 := Tryd.underlying60
 have HR0_0 := Aside0.mk hr0_0
 have HC0_0 := Aside0.mk hc0_0
 clear hr0_0 hc0_0
 have HB := Aside0.mk (Below.refl w.heap.size w)
 have H : (backseatref06_Fits.l0 k a1 l0_0 (l0_0.length : Int) 0 l0_0 a0_1) = some r := h
 clear h
 have H' := Aside0.mk H
 clear H
 go_enter Tryd.func27, Tryd.ntmps27
 go_wp2_with (first | ((with_reducible refine gate_dst (N := 2) rfl ?_); refine box_event ?hg (N := 2) ?hd (cs := #[.slice A0_0 l0_0.length c0_0, .bool a0_1]) (t := 38) ?hr ?_; (case hd => rfl); (case hg => rfl); (case hr => exact zo); intro gb236 hg w3 hbox hb; have BK236 := Aside0.mk (hbox); have GW236 := Aside0.mk ((zg hg : w.heap.size ≤ gb236)); have GE236 := Aside0.mk ((zg hg : w.heap.size ≤ gb236)); replace HB := (zs HB hb); clear hb hbox hg; obtain ⟨hcz4_0, hcz4_1, hfz4_0, hfz4_1⟩ := zq2 (w := w3) BK236))
 go_loopg [10] k (fun kq v10 w' => ∃ (x10_1 : Int), v10 = .int .i64 x10_1 ∧ Aside0 (backseatref06_Fits.l0 kq a1 l0_0 (l0_0.length : Int) x10_1 l0_0 a0_1 = some r) ∧ Aside0 (kq ≤ k) ∧ Aside0 (w'.heap[gb236]? = some (.cells #[(.slice A0_0 l0_0.length c0_0), .bool a0_1] 38 (0, 0))) ∧ Aside0 (Below w.heap.size w w'))
 case atStart => exact ⟨(0), zf, H', ⟨Nat.le_refl _⟩, ⟨by exact BK236.out⟩, ⟨zb⟩⟩
 case round =>
  clear H'
  try clear hcz4_0
  try clear hcz4_1
  try clear hfz4_0
  try clear hfz4_1
  obtain ⟨x10_1, rfl, HA, HK1, BK236, HB⟩ := hrel
  cases gk with
  | zero => exact absurd HA.out (by simp [backseatref06_Fits.l0])
  | succ k1 =>
   have H := HA.out
   clear HA
   simp only [backseatref06_Fits.l0] at H
   by_cases c5 : x10_1 < (l0_0.length : Int)
   ·rw [if_pos c5] at H
    have c5b0 : decide (x10_1 < (l0_0.length : Int)) = true := decide_eq_true c5
    clear c5
    by_cases c6 : 0 ≤ x10_1
    ·rw [if_pos c6] at H
     have c6b0 : decide (0 ≤ x10_1) = true := decide_eq_true c6
     clear c6
     by_cases c7 : x10_1 < (l0_0.length : Int)
     ·rw [if_pos c7] at H
      have c7b0 : decide (x10_1 < (l0_0.length : Int)) = true := decide_eq_true c7
      clear c7
      replace H := Option.bind_eq_some_iff.mp H
      obtain ⟨t239, A80, H⟩ := H
      replace H : (if t239 = true then ((backseatref06_half.f l0_0 x10_1).bind fun t240 => (if t240 = true then (some false) else (backseatref06_Fits.l0 k1 a1 l0_0 (l0_0.length : Int) (wrap64 (x10_1 + 1)) l0_0 a0_1))) else (some false)) = some r := H
      have A8 := Aside0.mk A80
      clear A80
      by_cases c9 : t239 = true
      ·subst c9
       have H1 : ((backseatref06_half.f l0_0 x10_1).bind fun t240 => (if t240 = true then (some false) else (backseatref06_Fits.l0 k1 a1 l0_0 (l0_0.length : Int) (wrap64 (x10_1 + 1)) l0_0 a0_1))) = some r := by rw [if_pos rfl] at H; exact H
       clear H
       have H := H1
       clear H1
       replace H := Option.bind_eq_some_iff.mp H
       obtain ⟨t240, A100, H⟩ := H
       replace H : (if t240 = true then (some false) else (backseatref06_Fits.l0 k1 a1 l0_0 (l0_0.length : Int) (wrap64 (x10_1 + 1)) l0_0 a0_1)) = some r := H
       have A10 := Aside0.mk A100
       clear A100
       by_cases c11 : t240 = true
       ·subst c11
        have H1 : (some false) = some r := by rw [if_pos rfl] at H; exact H
        clear H
        have H := H1
        clear H1
        obtain rfl := Option.some.inj H
        have p237 : 0 ≤ (x10_1 : Int) := of_decide_eq_true za
        have q237 : x10_1 < (l0_0.length : Int) := of_decide_eq_true za
        obtain ⟨ad237, e237, hx237_0, hx237_1, hx237_2, hx237_3, hx237_4⟩ := at_T60 HR0_0.out x10_1 p237 q237
        cases e237
        replace hx237_0 := zc HB hx237_0
        replace hx237_1 := zc HB hx237_1
        replace hx237_2 := zc HB hx237_2
        replace hx237_3 := zc HB hx237_3
        replace hx237_4 := zc HB hx237_4
        replace p237 := eq_true p237
        replace q237 := eq_true q237
        go_wp2_with (first | ((with_reducible refine gate_dst (N := 6) rfl ?_); refine box_event ?hg (N := 6) ?hd (cs := #[.string (⟨#[]⟩ : ByteArray), .int .i64 0, .int .i64 0, .int .i64 0, .int .i64 0]) (t := 60) ?hr ?_; (case hd => rfl); (case hg => rfl); (case hr => exact zo); intro gb238 hg w12 hbox hb; have n0_ := (zk BK236 hb); have n1_ := (zs HB hb); have n2_ := Aside0.mk (hbox); have n3_ := Aside0.mk ((zg hg : w.heap.size ≤ gb238)); have n4_ := Aside0.mk ((zg hg : w.heap.size ≤ gb238)); have n5_ := Aside0.mk ((by rw [hg]; exact Nat.ne_of_lt (blk_lt (g := gb236) (o := .cells #[.slice (some ad237) l0_0.length c0_0, .bool a0_1] 38 (0, 0)) (by exact BK236.out)) : gb236 ≠ gb238)); have n6_ := Aside0.mk ((by rw [hg]; exact Nat.ne_of_gt (blk_lt (g := gb236) (o := .cells #[.slice (some ad237) l0_0.length c0_0, .bool a0_1] 38 (0, 0)) (by exact BK236.out)) : gb238 ≠ gb236)); clear BK236; clear HB; have BK236 := n0_; have HB := n1_; have BK238 := n2_; have GW238 := n3_; have GE238 := n4_; have NB236_238 := n5_; have NB238_236 := n6_; clear n0_ n1_ n2_ n3_ n4_ n5_ n6_; clear hb hbox hg; have hnb13 := NB238_236.out; have hnc13 := NB236_238.out; obtain ⟨hcz14_0, hcz14_1, hcz14_2, hcz14_3, hcz14_4, hfz14_0, hfz14_1, hfz14_2, hfz14_3, hfz14_4⟩ := zq5 (w := w12) BK238) | ((with_reducible refine gate_callee (f := 53) rfl ?_); refine goesL_ (some 16) rfl rfl Tryd.func53 (by kernel_rfl) rfl #[.agg #[.string ((rd_T60 l0_0 x10_1).f0), .int .i64 ((rd_T60 l0_0 x10_1).f1), .int .i64 ((rd_T60 l0_0 x10_1).f2.f0), .int .i64 ((rd_T60 l0_0 x10_1).f2.f1), .int .i64 ((rd_T60 l0_0 x10_1).f2.f2)]] rfl zl ?_; (with_reducible refine (backseatref04_Right.calls k1 ((rd_T60 l0_0 x10_1).f0) ((rd_T60 l0_0 x10_1).f1) ((rd_T60 l0_0 x10_1).f2.f0) ((rd_T60 l0_0 x10_1).f2.f1) ((rd_T60 l0_0 x10_1).f2.f2) true _ A8.out).mono ?_); rintro e w15 ⟨rfl, hb⟩; refine ⟨_, rfl, ?_⟩; replace BK236 := Aside0.mk (blk_below (g := gb236) (o := .cells #[.slice (some ad237) l0_0.length c0_0, .bool a0_1] 38 (0, 0)) (by refine blk_far ?_ NB236_238.out _; refine blk_far ?_ NB236_238.out _; refine blk_far ?_ NB236_238.out _; refine blk_far ?_ NB236_238.out _; refine blk_far ?_ NB236_238.out _; exact BK236.out) hb); replace BK238 := Aside0.mk (blk_below (g := gb238) (o := .cells #[.string ((rd_T60 l0_0 x10_1).f0), .int .i64 ((rd_T60 l0_0 x10_1).f1), .int .i64 ((rd_T60 l0_0 x10_1).f2.f0), .int .i64 ((rd_T60 l0_0 x10_1).f2.f1), .int .i64 ((rd_T60 l0_0 x10_1).f2.f2)] 60 (0, 0)) (by refine blk_put (cs := #[.string ((rd_T60 l0_0 x10_1).f0), .int .i64 ((rd_T60 l0_0 x10_1).f1), .int .i64 ((rd_T60 l0_0 x10_1).f2.f0), .int .i64 ((rd_T60 l0_0 x10_1).f2.f1), .int .i64 0]) ?_ 4 _ rfl; refine blk_put (cs := #[.string ((rd_T60 l0_0 x10_1).f0), .int .i64 ((rd_T60 l0_0 x10_1).f1), .int .i64 ((rd_T60 l0_0 x10_1).f2.f0), .int .i64 0, .int .i64 0]) ?_ 3 _ rfl; refine blk_put (cs := #[.string ((rd_T60 l0_0 x10_1).f0), .int .i64 ((rd_T60 l0_0 x10_1).f1), .int .i64 0, .int .i64 0, .int .i64 0]) ?_ 2 _ rfl; refine blk_put (cs := #[.string ((rd_T60 l0_0 x10_1).f0), .int .i64 0, .int .i64 0, .int .i64 0, .int .i64 0]) ?_ 1 _ rfl; refine blk_put (cs := #[.string (⟨#[]⟩ : ByteArray), .int .i64 0, .int .i64 0, .int .i64 0, .int .i64 0]) ?_ 0 _ rfl; exact BK238.out) hb); replace HB := (zs HB hb); (try clear hb); obtain ⟨hcz16_0, hcz16_1, hfz16_0, hfz16_1⟩ := zq2 (w := w15) BK236) | (go_at_call 54; (with_reducible refine (backseatref06_half.calls _ _ l0_0 x10_1 true _ ?side1 ?side2 A10.out).mono ?_); (case side1 => repeat (first | exact (Kd.C_below HR0_0.out HB.out) | (with_reducible refine Kd.C_alloc ?_ _) | (with_reducible refine Kd.C_drewN ?_ _) | (with_reducible refine Kd.C_drew ?_))); (case side2 => exact HC0_0.out); rintro e w' ⟨rfl, ⟨nd, rfl⟩⟩))
        go_ret
        exact ⟨ze, zb⟩
       ·replace c11 := Bool.eq_false_iff.mpr c11
        subst c11
        have H1 : (backseatref06_Fits.l0 k1 a1 l0_0 (l0_0.length : Int) (wrap64 (x10_1 + 1)) l0_0 a0_1) = some r := by rw [if_neg (show ¬ (false = true) by decide)] at H; exact H
        clear H
        have H := H1
        clear H1
        have H' := Aside0.mk H
        clear H
        have p237 : 0 ≤ (x10_1 : Int) := of_decide_eq_true za
        have q237 : x10_1 < (l0_0.length : Int) := of_decide_eq_true za
        obtain ⟨ad237, e237, hx237_0, hx237_1, hx237_2, hx237_3, hx237_4⟩ := at_T60 HR0_0.out x10_1 p237 q237
        cases e237
        replace hx237_0 := zc HB hx237_0
        replace hx237_1 := zc HB hx237_1
        replace hx237_2 := zc HB hx237_2
        replace hx237_3 := zc HB hx237_3
        replace hx237_4 := zc HB hx237_4
        replace p237 := eq_true p237
        replace q237 := eq_true q237
        go_wp2_with (first | ((with_reducible refine gate_dst (N := 6) rfl ?_); refine box_event ?hg (N := 6) ?hd (cs := #[.string (⟨#[]⟩ : ByteArray), .int .i64 0, .int .i64 0, .int .i64 0, .int .i64 0]) (t := 60) ?hr ?_; (case hd => rfl); (case hg => rfl); (case hr => exact zo); intro gb238 hg w17 hbox hb; have n0_ := (zk BK236 hb); have n1_ := (zs HB hb); have n2_ := Aside0.mk (hbox); have n3_ := Aside0.mk ((zg hg : w.heap.size ≤ gb238)); have n4_ := Aside0.mk ((zg hg : w.heap.size ≤ gb238)); have n5_ := Aside0.mk ((by rw [hg]; exact Nat.ne_of_lt (blk_lt (g := gb236) (o := .cells #[.slice (some ad237) l0_0.length c0_0, .bool a0_1] 38 (0, 0)) (by exact BK236.out)) : gb236 ≠ gb238)); have n6_ := Aside0.mk ((by rw [hg]; exact Nat.ne_of_gt (blk_lt (g := gb236) (o := .cells #[.slice (some ad237) l0_0.length c0_0, .bool a0_1] 38 (0, 0)) (by exact BK236.out)) : gb238 ≠ gb236)); clear BK236; clear HB; have BK236 := n0_; have HB := n1_; have BK238 := n2_; have GW238 := n3_; have GE238 := n4_; have NB236_238 := n5_; have NB238_236 := n6_; clear n0_ n1_ n2_ n3_ n4_ n5_ n6_; clear hb hbox hg; have hnb18 := NB238_236.out; have hnc18 := NB236_238.out; obtain ⟨hcz19_0, hcz19_1, hcz19_2, hcz19_3, hcz19_4, hfz19_0, hfz19_1, hfz19_2, hfz19_3, hfz19_4⟩ := zq5 (w := w17) BK238) | ((with_reducible refine gate_callee (f := 53) rfl ?_); refine goesL_ (some 16) rfl rfl Tryd.func53 (by kernel_rfl) rfl #[.agg #[.string ((rd_T60 l0_0 x10_1).f0), .int .i64 ((rd_T60 l0_0 x10_1).f1), .int .i64 ((rd_T60 l0_0 x10_1).f2.f0), .int .i64 ((rd_T60 l0_0 x10_1).f2.f1), .int .i64 ((rd_T60 l0_0 x10_1).f2.f2)]] rfl zl ?_; (with_reducible refine (backseatref04_Right.calls k1 ((rd_T60 l0_0 x10_1).f0) ((rd_T60 l0_0 x10_1).f1) ((rd_T60 l0_0 x10_1).f2.f0) ((rd_T60 l0_0 x10_1).f2.f1) ((rd_T60 l0_0 x10_1).f2.f2) true _ A8.out).mono ?_); rintro e w20 ⟨rfl, hb⟩; refine ⟨_, rfl, ?_⟩; replace BK236 := Aside0.mk (blk_below (g := gb236) (o := .cells #[.slice (some ad237) l0_0.length c0_0, .bool a0_1] 38 (0, 0)) (by refine blk_far ?_ NB236_238.out _; refine blk_far ?_ NB236_238.out _; refine blk_far ?_ NB236_238.out _; refine blk_far ?_ NB236_238.out _; refine blk_far ?_ NB236_238.out _; exact BK236.out) hb); replace BK238 := Aside0.mk (blk_below (g := gb238) (o := .cells #[.string ((rd_T60 l0_0 x10_1).f0), .int .i64 ((rd_T60 l0_0 x10_1).f1), .int .i64 ((rd_T60 l0_0 x10_1).f2.f0), .int .i64 ((rd_T60 l0_0 x10_1).f2.f1), .int .i64 ((rd_T60 l0_0 x10_1).f2.f2)] 60 (0, 0)) (by refine blk_put (cs := #[.string ((rd_T60 l0_0 x10_1).f0), .int .i64 ((rd_T60 l0_0 x10_1).f1), .int .i64 ((rd_T60 l0_0 x10_1).f2.f0), .int .i64 ((rd_T60 l0_0 x10_1).f2.f1), .int .i64 0]) ?_ 4 _ rfl; refine blk_put (cs := #[.string ((rd_T60 l0_0 x10_1).f0), .int .i64 ((rd_T60 l0_0 x10_1).f1), .int .i64 ((rd_T60 l0_0 x10_1).f2.f0), .int .i64 0, .int .i64 0]) ?_ 3 _ rfl; refine blk_put (cs := #[.string ((rd_T60 l0_0 x10_1).f0), .int .i64 ((rd_T60 l0_0 x10_1).f1), .int .i64 0, .int .i64 0, .int .i64 0]) ?_ 2 _ rfl; refine blk_put (cs := #[.string ((rd_T60 l0_0 x10_1).f0), .int .i64 0, .int .i64 0, .int .i64 0, .int .i64 0]) ?_ 1 _ rfl; refine blk_put (cs := #[.string (⟨#[]⟩ : ByteArray), .int .i64 0, .int .i64 0, .int .i64 0, .int .i64 0]) ?_ 0 _ rfl; exact BK238.out) hb); replace HB := (zs HB hb); (try clear hb); obtain ⟨hcz21_0, hcz21_1, hfz21_0, hfz21_1⟩ := zq2 (w := w20) BK236) | (go_at_call 54; (with_reducible refine (backseatref06_half.calls _ _ l0_0 x10_1 false _ ?side1 ?side2 A10.out).mono ?_); (case side1 => repeat (first | exact (Kd.C_below HR0_0.out HB.out) | (with_reducible refine Kd.C_alloc ?_ _) | (with_reducible refine Kd.C_drewN ?_ _) | (with_reducible refine Kd.C_drew ?_))); (case side2 => exact HC0_0.out); rintro e w' ⟨rfl, ⟨nd, rfl⟩⟩))
        go_roundg k1
        case measure => have := HK1.out; omega
        case rel => exact ⟨(wrap64 (x10_1 + 1)), zf, H', ⟨by have := HK1.out; omega⟩, ⟨by exact BK236.out⟩, ⟨zb⟩⟩
      ·replace c9 := Bool.eq_false_iff.mpr c9
       subst c9
       have H1 : (some false) = some r := by rw [if_neg (show ¬ (false = true) by decide)] at H; exact H
       clear H
       have H := H1
       clear H1
       obtain rfl := Option.some.inj H
       have p237 : 0 ≤ (x10_1 : Int) := of_decide_eq_true za
       have q237 : x10_1 < (l0_0.length : Int) := of_decide_eq_true za
       obtain ⟨ad237, e237, hx237_0, hx237_1, hx237_2, hx237_3, hx237_4⟩ := at_T60 HR0_0.out x10_1 p237 q237
       cases e237
       replace hx237_0 := zc HB hx237_0
       replace hx237_1 := zc HB hx237_1
       replace hx237_2 := zc HB hx237_2
       replace hx237_3 := zc HB hx237_3
       replace hx237_4 := zc HB hx237_4
       replace p237 := eq_true p237
       replace q237 := eq_true q237
       go_wp2_with (first | ((with_reducible refine gate_dst (N := 6) rfl ?_); refine box_event ?hg (N := 6) ?hd (cs := #[.string (⟨#[]⟩ : ByteArray), .int .i64 0, .int .i64 0, .int .i64 0, .int .i64 0]) (t := 60) ?hr ?_; (case hd => rfl); (case hg => rfl); (case hr => exact zo); intro gb238 hg w22 hbox hb; have n0_ := (zk BK236 hb); have n1_ := (zs HB hb); have n2_ := Aside0.mk (hbox); have n3_ := Aside0.mk ((zg hg : w.heap.size ≤ gb238)); have n4_ := Aside0.mk ((zg hg : w.heap.size ≤ gb238)); have n5_ := Aside0.mk ((by rw [hg]; exact Nat.ne_of_lt (blk_lt (g := gb236) (o := .cells #[.slice (some ad237) l0_0.length c0_0, .bool a0_1] 38 (0, 0)) (by exact BK236.out)) : gb236 ≠ gb238)); have n6_ := Aside0.mk ((by rw [hg]; exact Nat.ne_of_gt (blk_lt (g := gb236) (o := .cells #[.slice (some ad237) l0_0.length c0_0, .bool a0_1] 38 (0, 0)) (by exact BK236.out)) : gb238 ≠ gb236)); clear BK236; clear HB; have BK236 := n0_; have HB := n1_; have BK238 := n2_; have GW238 := n3_; have GE238 := n4_; have NB236_238 := n5_; have NB238_236 := n6_; clear n0_ n1_ n2_ n3_ n4_ n5_ n6_; clear hb hbox hg; have hnb23 := NB238_236.out; have hnc23 := NB236_238.out; obtain ⟨hcz24_0, hcz24_1, hcz24_2, hcz24_3, hcz24_4, hfz24_0, hfz24_1, hfz24_2, hfz24_3, hfz24_4⟩ := zq5 (w := w22) BK238) | ((with_reducible refine gate_callee (f := 53) rfl ?_); refine goesL_ (some 16) rfl rfl Tryd.func53 (by kernel_rfl) rfl #[.agg #[.string ((rd_T60 l0_0 x10_1).f0), .int .i64 ((rd_T60 l0_0 x10_1).f1), .int .i64 ((rd_T60 l0_0 x10_1).f2.f0), .int .i64 ((rd_T60 l0_0 x10_1).f2.f1), .int .i64 ((rd_T60 l0_0 x10_1).f2.f2)]] rfl zl ?_; (with_reducible refine (backseatref04_Right.calls k1 ((rd_T60 l0_0 x10_1).f0) ((rd_T60 l0_0 x10_1).f1) ((rd_T60 l0_0 x10_1).f2.f0) ((rd_T60 l0_0 x10_1).f2.f1) ((rd_T60 l0_0 x10_1).f2.f2) false _ A8.out).mono ?_); rintro e w25 ⟨rfl, hb⟩; refine ⟨_, rfl, ?_⟩; replace BK236 := Aside0.mk (blk_below (g := gb236) (o := .cells #[.slice (some ad237) l0_0.length c0_0, .bool a0_1] 38 (0, 0)) (by refine blk_far ?_ NB236_238.out _; refine blk_far ?_ NB236_238.out _; refine blk_far ?_ NB236_238.out _; refine blk_far ?_ NB236_238.out _; refine blk_far ?_ NB236_238.out _; exact BK236.out) hb); replace BK238 := Aside0.mk (blk_below (g := gb238) (o := .cells #[.string ((rd_T60 l0_0 x10_1).f0), .int .i64 ((rd_T60 l0_0 x10_1).f1), .int .i64 ((rd_T60 l0_0 x10_1).f2.f0), .int .i64 ((rd_T60 l0_0 x10_1).f2.f1), .int .i64 ((rd_T60 l0_0 x10_1).f2.f2)] 60 (0, 0)) (by refine blk_put (cs := #[.string ((rd_T60 l0_0 x10_1).f0), .int .i64 ((rd_T60 l0_0 x10_1).f1), .int .i64 ((rd_T60 l0_0 x10_1).f2.f0), .int .i64 ((rd_T60 l0_0 x10_1).f2.f1), .int .i64 0]) ?_ 4 _ rfl; refine blk_put (cs := #[.string ((rd_T60 l0_0 x10_1).f0), .int .i64 ((rd_T60 l0_0 x10_1).f1), .int .i64 ((rd_T60 l0_0 x10_1).f2.f0), .int .i64 0, .int .i64 0]) ?_ 3 _ rfl; refine blk_put (cs := #[.string ((rd_T60 l0_0 x10_1).f0), .int .i64 ((rd_T60 l0_0 x10_1).f1), .int .i64 0, .int .i64 0, .int .i64 0]) ?_ 2 _ rfl; refine blk_put (cs := #[.string ((rd_T60 l0_0 x10_1).f0), .int .i64 0, .int .i64 0, .int .i64 0, .int .i64 0]) ?_ 1 _ rfl; refine blk_put (cs := #[.string (⟨#[]⟩ : ByteArray), .int .i64 0, .int .i64 0, .int .i64 0, .int .i64 0]) ?_ 0 _ rfl; exact BK238.out) hb); replace HB := (zs HB hb); (try clear hb)))
       go_ret
       exact ⟨ze, zb⟩
     ·rw [if_neg c7] at H
      exact absurd H (by simp)
    ·rw [if_neg c6] at H
     exact absurd H (by simp)
   ·rw [if_neg c5] at H
    have c5b0 : decide (x10_1 < (l0_0.length : Int)) = false := decide_eq_false c5
    clear c5
    obtain rfl := Option.some.inj H
    obtain ⟨hcz26_0, hcz26_1, hfz26_0, hfz26_1⟩ := zq2 (w := wr) BK236
    go_wp2
    go_ret
    exact ⟨ze, zb⟩
def backseatref08_May.l0 : Nat → List (S38) → List (S38) → Int → Int → Option (Bool)
 | 0, _, _, _, _ => none
 | k + 1, x0, x5, x6, x7 => if x7 < x6 then (if 0 ≤ x7 then (if x7 < (x5.length : Int) then (if (((rd_T38 x5 x7).f0).length : Int) < 1 then (some false) else (if (((rd_T38 x5 x7).f0).length : Int) > 80 then (some false) else ((backseatref06_Fits.f k ((rd_T38 x5 x7).f0) ((rd_T38 x5 x7).f1) (((rd_T38 x5 x7).f0).length : Int)).bind fun t243 => (if t243 = true then (backseatref08_May.l0 k x0 x5 x6 (wrap64 (x7 + 1))) else (some false))))) else (none)) else (none)) else (some (decide ((x0.length : Int) ≤ 200)))
def backseatref08_May.f (k : Nat) (l0 : List (S38)) : Option (Bool) := backseatref08_May.l0 k l0 l0 (l0.length : Int) 0
set_option maxHeartbeats 8000000 in
set_option maxRecDepth 100000 in
theorem backseatref08_May.calls (k : Nat) (A0 : Option Addr) (c0 : Nat) (l0 : List (S38)) (r : Bool) (w : World) (hr0 : Kd.C k38 w A0 l0.length l0) (hc0 : l0.length ≤ c0) (h : backseatref08_May.f k l0 = some r) :
  Calls Tryd.prog 11 #[.slice A0 l0.length c0] w fun e w' => e = .returned (.bool r) ∧ Below w.heap.size w w' := by
 have hu38 := Tryd.underlying38
 have HR0 := Aside0.mk hr0
 have HC0 := Aside0.mk hc0
 clear hr0 hc0
 have HB := Aside0.mk (Below.refl w.heap.size w)
 have H : (backseatref08_May.l0 k l0 l0 (l0.length : Int) 0) = some r := h
 clear h
 have H' := Aside0.mk H
 clear H
 go_enter Tryd.func11, Tryd.ntmps11
 go_wp2
 go_loopg [7] k (fun kq v7 w' => ∃ (x7_1 : Int), v7 = .int .i64 x7_1 ∧ Aside0 (backseatref08_May.l0 kq l0 l0 (l0.length : Int) x7_1 = some r) ∧ Aside0 (kq ≤ k) ∧ Aside0 (Below w.heap.size w w'))
 case atStart => exact ⟨(0), zf, H', ⟨Nat.le_refl _⟩, ⟨zb⟩⟩
 case round =>
  clear H'
  obtain ⟨x7_1, rfl, HA, HK1, HB⟩ := hrel
  cases gk with
  | zero => exact absurd HA.out (by simp [backseatref08_May.l0])
  | succ k1 =>
   have H := HA.out
   clear HA
   simp only [backseatref08_May.l0] at H
   by_cases c2 : x7_1 < (l0.length : Int)
   ·rw [if_pos c2] at H
    have c2b0 : decide (x7_1 < (l0.length : Int)) = true := decide_eq_true c2
    clear c2
    by_cases c3 : 0 ≤ x7_1
    ·rw [if_pos c3] at H
     have c3b0 : decide (0 ≤ x7_1) = true := decide_eq_true c3
     clear c3
     by_cases c4 : x7_1 < (l0.length : Int)
     ·rw [if_pos c4] at H
      have c4b0 : decide (x7_1 < (l0.length : Int)) = true := decide_eq_true c4
      clear c4
      by_cases c5 : (((rd_T38 l0 x7_1).f0).length : Int) < 1
      ·rw [if_pos c5] at H
       have c5b0 : decide ((((rd_T38 l0 x7_1).f0).length : Int) < 1) = true := decide_eq_true c5
       have c5b1 : decide (((rd_T38 l0 x7_1).f0).length < 1) = true := decide_eq_true (by omega)
       clear c5
       obtain rfl := Option.some.inj H
       have p241 : 0 ≤ (x7_1 : Int) := of_decide_eq_true za
       have q241 : x7_1 < (l0.length : Int) := of_decide_eq_true za
       obtain ⟨ad241, A241_0, c241_0, e241, hx241_0, hx241_1, hl241_0, hi241_0⟩ := at_T38 HR0.out x7_1 p241 q241
       cases e241
       replace hx241_0 := zc HB hx241_0
       replace hx241_1 := zc HB hx241_1
       have HR241_0 := Aside0.mk hi241_0
       have HC241_0 := Aside0.mk hl241_0
       clear hi241_0 hl241_0
       replace p241 := eq_true p241
       replace q241 := eq_true q241
       go_wp2_with (first | ((with_reducible refine gate_dst (N := 4) rfl ?_); (try (refine gate_guard (by rfl) ?_; dsimp only)); refine box_event ?hg (N := 4) ?hd (cs := #[.slice none 0 0, .bool false]) (t := 38) ?hr ?_; (case hd => rfl); (case hg => rfl); (case hr => exact zo); intro gb242 hg w6 hbox hb; have BK242 := Aside0.mk (hbox); have GW242 := Aside0.mk ((zg hg : w.heap.size ≤ gb242)); have GE242 := Aside0.mk ((zg hg : w.heap.size ≤ gb242)); replace HB := (zs HB hb); clear hb hbox hg; obtain ⟨hcz7_0, hcz7_1, hfz7_0, hfz7_1⟩ := zq2 (w := w6) BK242))
       go_ret
       exact ⟨ze, zb⟩
      ·rw [if_neg c5] at H
       have c5b0 : decide ((((rd_T38 l0 x7_1).f0).length : Int) < 1) = false := decide_eq_false c5
       have c5b1 : decide (((rd_T38 l0 x7_1).f0).length < 1) = false := decide_eq_false (by omega)
       clear c5
       by_cases c8 : (((rd_T38 l0 x7_1).f0).length : Int) > 80
       ·rw [if_pos c8] at H
        have c8b0 : decide (80 < (((rd_T38 l0 x7_1).f0).length : Int)) = true := decide_eq_true c8
        have c8b1 : decide (80 < ((rd_T38 l0 x7_1).f0).length) = true := decide_eq_true (by omega)
        clear c8
        obtain rfl := Option.some.inj H
        have p241 : 0 ≤ (x7_1 : Int) := of_decide_eq_true za
        have q241 : x7_1 < (l0.length : Int) := of_decide_eq_true za
        obtain ⟨ad241, A241_0, c241_0, e241, hx241_0, hx241_1, hl241_0, hi241_0⟩ := at_T38 HR0.out x7_1 p241 q241
        cases e241
        replace hx241_0 := zc HB hx241_0
        replace hx241_1 := zc HB hx241_1
        have HR241_0 := Aside0.mk hi241_0
        have HC241_0 := Aside0.mk hl241_0
        clear hi241_0 hl241_0
        replace p241 := eq_true p241
        replace q241 := eq_true q241
        go_wp2_with (first | ((with_reducible refine gate_dst (N := 4) rfl ?_); (try (refine gate_guard (by rfl) ?_; dsimp only)); refine box_event ?hg (N := 4) ?hd (cs := #[.slice none 0 0, .bool false]) (t := 38) ?hr ?_; (case hd => rfl); (case hg => rfl); (case hr => exact zo); intro gb242 hg w9 hbox hb; have BK242 := Aside0.mk (hbox); have GW242 := Aside0.mk ((zg hg : w.heap.size ≤ gb242)); have GE242 := Aside0.mk ((zg hg : w.heap.size ≤ gb242)); replace HB := (zs HB hb); clear hb hbox hg; obtain ⟨hcz10_0, hcz10_1, hfz10_0, hfz10_1⟩ := zq2 (w := w9) BK242))
        go_ret
        exact ⟨ze, zb⟩
       ·rw [if_neg c8] at H
        have c8b0 : decide (80 < (((rd_T38 l0 x7_1).f0).length : Int)) = false := decide_eq_false c8
        have c8b1 : decide (80 < ((rd_T38 l0 x7_1).f0).length) = false := decide_eq_false (by omega)
        clear c8
        replace H := Option.bind_eq_some_iff.mp H
        obtain ⟨t243, A110, H⟩ := H
        replace H : (if t243 = true then (backseatref08_May.l0 k1 l0 l0 (l0.length : Int) (wrap64 (x7_1 + 1))) else (some false)) = some r := H
        have A11 := Aside0.mk A110
        clear A110
        by_cases c12 : t243 = true
        ·subst c12
         have H1 : (backseatref08_May.l0 k1 l0 l0 (l0.length : Int) (wrap64 (x7_1 + 1))) = some r := by rw [if_pos rfl] at H; exact H
         clear H
         have H := H1
         clear H1
         have H' := Aside0.mk H
         clear H
         have p241 : 0 ≤ (x7_1 : Int) := of_decide_eq_true za
         have q241 : x7_1 < (l0.length : Int) := of_decide_eq_true za
         obtain ⟨ad241, A241_0, c241_0, e241, hx241_0, hx241_1, hl241_0, hi241_0⟩ := at_T38 HR0.out x7_1 p241 q241
         cases e241
         replace hx241_0 := zc HB hx241_0
         replace hx241_1 := zc HB hx241_1
         have HR241_0 := Aside0.mk hi241_0
         have HC241_0 := Aside0.mk hl241_0
         clear hi241_0 hl241_0
         replace p241 := eq_true p241
         replace q241 := eq_true q241
         go_wp2_with (first | ((with_reducible refine gate_dst (N := 4) rfl ?_); (try (refine gate_guard (by rfl) ?_; dsimp only)); refine box_event ?hg (N := 4) ?hd (cs := #[.slice none 0 0, .bool false]) (t := 38) ?hr ?_; (case hd => rfl); (case hg => rfl); (case hr => exact zo); intro gb242 hg w13 hbox hb; have BK242 := Aside0.mk (hbox); have GW242 := Aside0.mk ((zg hg : w.heap.size ≤ gb242)); have GE242 := Aside0.mk ((zg hg : w.heap.size ≤ gb242)); replace HB := (zs HB hb); clear hb hbox hg; obtain ⟨hcz14_0, hcz14_1, hfz14_0, hfz14_1⟩ := zq2 (w := w13) BK242) | (go_at_call 27; (with_reducible refine (backseatref06_Fits.calls k1 _ _ ((rd_T38 l0 x7_1).f0) ((rd_T38 l0 x7_1).f1) (((rd_T38 l0 x7_1).f0).length : Int) true _ ?side1 ?side2 A11.out).mono ?_); (case side1 => exact Kd.C_below HR241_0.out zb); (case side2 => exact HC241_0.out); rintro e w15 ⟨rfl, hb⟩; replace BK242 := Aside0.mk (blk_below (g := gb242) (o := .cells #[.slice A241_0 ((rd_T38 l0 x7_1).f0).length c241_0, .bool ((rd_T38 l0 x7_1).f1)] 38 (0, 0)) (by refine blk_put (cs := #[.slice A241_0 ((rd_T38 l0 x7_1).f0).length c241_0, .bool false]) ?_ 1 _ rfl; refine blk_put (cs := #[.slice none 0 0, .bool false]) ?_ 0 _ rfl; exact BK242.out) hb); replace HB := (zs HB hb); (try clear hb)))
         go_roundg k1
         case measure => have := HK1.out; omega
         case rel => exact ⟨(wrap64 (x7_1 + 1)), zf, H', ⟨by have := HK1.out; omega⟩, ⟨zb⟩⟩
        ·replace c12 := Bool.eq_false_iff.mpr c12
         subst c12
         have H1 : (some false) = some r := by rw [if_neg (show ¬ (false = true) by decide)] at H; exact H
         clear H
         have H := H1
         clear H1
         obtain rfl := Option.some.inj H
         have p241 : 0 ≤ (x7_1 : Int) := of_decide_eq_true za
         have q241 : x7_1 < (l0.length : Int) := of_decide_eq_true za
         obtain ⟨ad241, A241_0, c241_0, e241, hx241_0, hx241_1, hl241_0, hi241_0⟩ := at_T38 HR0.out x7_1 p241 q241
         cases e241
         replace hx241_0 := zc HB hx241_0
         replace hx241_1 := zc HB hx241_1
         have HR241_0 := Aside0.mk hi241_0
         have HC241_0 := Aside0.mk hl241_0
         clear hi241_0 hl241_0
         replace p241 := eq_true p241
         replace q241 := eq_true q241
         go_wp2_with (first | ((with_reducible refine gate_dst (N := 4) rfl ?_); (try (refine gate_guard (by rfl) ?_; dsimp only)); refine box_event ?hg (N := 4) ?hd (cs := #[.slice none 0 0, .bool false]) (t := 38) ?hr ?_; (case hd => rfl); (case hg => rfl); (case hr => exact zo); intro gb242 hg w16 hbox hb; have BK242 := Aside0.mk (hbox); have GW242 := Aside0.mk ((zg hg : w.heap.size ≤ gb242)); have GE242 := Aside0.mk ((zg hg : w.heap.size ≤ gb242)); replace HB := (zs HB hb); clear hb hbox hg; obtain ⟨hcz17_0, hcz17_1, hfz17_0, hfz17_1⟩ := zq2 (w := w16) BK242) | (go_at_call 27; (with_reducible refine (backseatref06_Fits.calls k1 _ _ ((rd_T38 l0 x7_1).f0) ((rd_T38 l0 x7_1).f1) (((rd_T38 l0 x7_1).f0).length : Int) false _ ?side1 ?side2 A11.out).mono ?_); (case side1 => exact Kd.C_below HR241_0.out zb); (case side2 => exact HC241_0.out); rintro e w18 ⟨rfl, hb⟩; replace BK242 := Aside0.mk (blk_below (g := gb242) (o := .cells #[.slice A241_0 ((rd_T38 l0 x7_1).f0).length c241_0, .bool ((rd_T38 l0 x7_1).f1)] 38 (0, 0)) (by refine blk_put (cs := #[.slice A241_0 ((rd_T38 l0 x7_1).f0).length c241_0, .bool false]) ?_ 1 _ rfl; refine blk_put (cs := #[.slice none 0 0, .bool false]) ?_ 0 _ rfl; exact BK242.out) hb); replace HB := (zs HB hb); (try clear hb)))
         go_ret
         exact ⟨ze, zb⟩
     ·rw [if_neg c4] at H
      exact absurd H (by simp)
    ·rw [if_neg c3] at H
     exact absurd H (by simp)
   ·rw [if_neg c2] at H
    have c2b0 : decide (x7_1 < (l0.length : Int)) = false := decide_eq_false c2
    clear c2
    obtain rfl := Option.some.inj H
    go_wp2
    go_ret
    exact ⟨ze, zb⟩
mutual
def flow_Flow.j0 : Nat → Int → List (List (S60)) → Bool → Option ((List (S38)) × Int)
 | 0, _, _, _ => none
 | k + 1, x1, x6, x25 => if x25 = true then (some (([] : List (S38)), 1)) else (flow_Flow.l0 k x1 ([] : List (S38)) x6 (x6.length : Int) 0)
def flow_Flow.l0 : Nat → Int → List (S38) → List (List (S60)) → Int → Int → Option ((List (S38)) × Int)
 | 0, _, _, _, _, _ => none
 | k + 1, x1, x8, x26, x27, x28 => if x28 < x27 then (if 0 ≤ x28 then (if x28 < (x26.length : Int) then ((flow_fold.f (rd_L4 x26 x28) x1).bind fun t531 => (if x8.length + t531.length < 4398046511104 then (flow_Flow.l0 k x1 (x8 ++ t531) x26 x27 (wrap64 (x28 + 1))) else (none))) else (none)) else (none)) else (some (x8, 0))
end
def flow_Flow.f (k : Nat) (l0 : List (S38)) (a1 : Int) : Option ((List (S38)) × Int) := (flow_Join.f k l0).bind fun bt526 => (if bt526.2 = 0 then (if a1 < 1 then (flow_Flow.j0 k a1 bt526.1 true) else (flow_Flow.j0 k a1 bt526.1 (decide (a1 > 80)))) else (flow_Flow.j0 k a1 bt526.1 true))
set_option maxHeartbeats 8000000 in
set_option maxRecDepth 100000 in
theorem flow_Flow.calls (k : Nat) (A0 : Option Addr) (c0 : Nat) (l0 : List (S38)) (a1 : Int) (r1 : List (S38)) (r2 : Int) (w : World) (hr0 : Kd.C k38 w A0 l0.length l0) (hc0 : l0.length ≤ c0) (h : flow_Flow.f k l0 a1 = some (r1, r2)) (hT : Tabs w := by first | exact Aside0.out (by with_reducible assumption) | exact Tabs.keepA (by with_reducible assumption) (by repeat (first | (with_reducible exact Aside0.out (by with_reducible assumption)) | (with_reducible apply below_alloc) | (with_reducible apply pw_below_drewN) | (with_reducible apply below_drew1) | (with_reducible refine below_set ?_ (Aside0.out (by with_reducible assumption)))))) :
  Calls Tryd.prog 26 #[.slice A0 l0.length c0, .int .i64 a1] w fun e w' => ∃ v0_ : Value, e = .returned (.tuple #[v0_, .int .i64 r2]) ∧ Kd.N k38 38 w' w.heap.size (fun k_ => (w.heap.size ≤ k_)) v0_ r1 ∧ Below w.heap.size w w' := by
 have HT := Aside0.mk (show Tabs w from hT)
 clear hT
 have HR0 := Aside0.mk hr0
 have HC0 := Aside0.mk hc0
 clear hr0 hc0
 have HB := Aside0.mk (Below.refl w.heap.size w)
 have H : ((flow_Join.f k l0).bind fun bt526 => (if bt526.2 = 0 then (if a1 < 1 then (flow_Flow.j0 k a1 bt526.1 true) else (flow_Flow.j0 k a1 bt526.1 (decide (a1 > 80)))) else (flow_Flow.j0 k a1 bt526.1 true))) = some (r1, r2) := h
 clear h
 replace H := Option.bind_eq_some_iff.mp H
 obtain ⟨⟨t526, t529⟩, A30, H⟩ := H
 replace H : (if t529 = 0 then (if a1 < 1 then (flow_Flow.j0 k a1 t526 true) else (flow_Flow.j0 k a1 t526 (decide (a1 > 80)))) else (flow_Flow.j0 k a1 t526 true)) = some (r1, r2) := H
 have A3 := Aside0.mk A30
 clear A30
 have HC4 := Aside0.mk H
 clear H
 go_enter Tryd.func26, Tryd.ntmps26
 go_upto_region 2 with (first | ((with_reducible refine gate_callee (f := 18) rfl ?_); refine goesL_ (some 13) rfl rfl Tryd.func18 (by kernel_rfl) rfl #[.slice A0 l0.length c0] rfl zl ?_; (with_reducible refine (flow_Join.calls k _ _ l0 t526 t529 _ ?side1 ?side2 A3.out).mono ?_); (case side1 => repeat (first | exact HR0.out | (with_reducible refine Kd.C_alloc ?_ _) | (with_reducible refine Kd.C_drewN ?_ _) | (with_reducible refine Kd.C_drew ?_))); (case side2 => exact HC0.out); rintro e w5 ⟨v527, rfl, ho0, hb⟩; refine ⟨_, rfl, ?_⟩; have HO528 := Aside0.mk (Kd.N_lower (Kd.N_mono (ok' := fun k_ => (w.heap.size ≤ k_)) ho0 (fun k_ hk_ => (Nat.le_trans (below_size zb) hk_))) (below_size zb)); replace HB := (zs HB hb); (try clear hb); (try clear ho0)))
 (try simp only [Act.put, List.setIfInBounds_toArray, List.set_cons_zero, List.set_cons_succ])
 go_cut [25] (fun v25 wc => ∃ (kq : Nat) (x25_3 : Bool), v25 = .bool x25_3 ∧ Aside0 (flow_Flow.j0 kq a1 t526 x25_3 = some (r1, r2)) ∧ Aside0 (kq ≤ k) ∧ Aside0 (Kd.N (Kd.slice 60 k60) 36 wc w.heap.size (fun k_ => (w.heap.size ≤ k_)) v527 t526) ∧ Aside0 (Below w.heap.size w wc))
 case first =>
  have H := HC4.out
  clear HC4
  by_cases c6 : t529 = 0
  ·rw [if_pos c6] at H
   have c6b0 : (t529 == 0) = true := beq_iff_eq.mpr c6
   have c6b1 : (t529 != 0) = false := bne_eq_false_iff_eq.mpr c6
   clear c6
   (first | rw [c6b0] | (simp only [i64_w, i32_w]; rw [c6b0]) | skip)
   by_cases c7 : a1 < 1
   ·rw [if_pos c7] at H
    have c7b0 : decide (a1 < 1) = true := decide_eq_true c7
    clear c7
    have H' := Aside0.mk H
    clear H
    go_wp2
    go_meet
    case rel => exact ⟨_, (true), zf, H', ⟨by first | omega | exact Nat.le_refl _⟩, ⟨by (with_reducible repeat (first | apply Kd.N_alloc | apply Kd.N_drewN | apply Kd.N_drew)); exact HO528.out⟩, ⟨zb⟩⟩
   ·rw [if_neg c7] at H
    have c7b0 : decide (a1 < 1) = false := decide_eq_false c7
    clear c7
    have H' := Aside0.mk H
    clear H
    go_wp2
    go_meet
    case rel => exact ⟨_, (decide (a1 > 80)), zf, H', ⟨by first | omega | exact Nat.le_refl _⟩, ⟨by (with_reducible repeat (first | apply Kd.N_alloc | apply Kd.N_drewN | apply Kd.N_drew)); exact HO528.out⟩, ⟨zb⟩⟩
  ·rw [if_neg c6] at H
   have c6b0 : (t529 == 0) = false := beq_eq_false_iff_ne.mpr c6
   have c6b1 : (t529 != 0) = true := bne_iff_ne.mpr c6
   (first | rw [c6b0] | (simp only [i64_w, i32_w]; rw [c6b0]) | skip)
   have H' := Aside0.mk H
   clear H
   go_wp2
   go_meet
   case rel => exact ⟨_, (true), zf, H', ⟨by first | omega | exact Nat.le_refl _⟩, ⟨by (with_reducible repeat (first | apply Kd.N_alloc | apply Kd.N_drewN | apply Kd.N_drew)); exact HO528.out⟩, ⟨zb⟩⟩
 case rest =>
  clear HC4
  obtain ⟨kq, x25_3, rfl, HA, HJ3, HO_6, HB⟩ := hcut
  cases kq with
  | zero => exact absurd HA.out (by simp [flow_Flow.j0])
  | succ kj3 =>
   have H := HA.out
   clear HA
   simp only [flow_Flow.j0] at H
   by_cases c8 : x25_3 = true
   ·subst c8
    have H1 : (some (([] : List (S38)), 1)) = some (r1, r2) := by rw [if_pos rfl] at H; exact H
    clear H
    have H := H1
    clear H1
    simp only [Option.some.injEq, Prod.mk.injEq] at H
    obtain ⟨rfl, rfl⟩ := H
    go_wp2
    go_ret2
    exact ⟨_, ze, by first | exact Kd.S_nil _ _ _ _ _ | exact Kd.N_nil _ _ _ _ _ | exact Kd.V_nil _ _ _ _ _ | exact Kd.Q_nil _ _ _ _ _ | exact Kd.R_nil _ _ _ _ _, zb⟩
   ·replace c8 := Bool.eq_false_iff.mpr c8
    subst c8
    have H1 : (flow_Flow.l0 kj3 a1 ([] : List (S38)) t526 (t526.length : Int) 0) = some (r1, r2) := by rw [if_neg (show ¬ (false = true) by decide)] at H; exact H
    clear H
    have H := H1
    clear H1
    have H' := Aside0.mk H
    clear H
    obtain ⟨Ao9, co9, eo9⟩ := Kd.N_slice HO_6.out
    subst eo9
    go_wp2
    go_loopg [8, 28] kj3 (fun kq v8 v28 w' => ∃ (x8_2 : List (S38)) (x28_2 : Int), v28 = .int .i64 x28_2 ∧ Aside0 (flow_Flow.l0 kq a1 x8_2 t526 (t526.length : Int) x28_2 = some (r1, r2)) ∧ Aside0 (kq ≤ kj3) ∧ Aside0 (Kd.N k38 38 w' w.heap.size (fun k_ => (w.heap.size ≤ k_) ∧ some k_ ≠ ((.slice Ao9 t526.length co9) : Value).ownBlock) v8 x8_2) ∧ Aside0 (Kd.N (Kd.slice 60 k60) 36 w' w.heap.size (fun k_ => (w.heap.size ≤ k_) ∧ some k_ ≠ (v8 : Value).ownBlock) (.slice Ao9 t526.length co9) t526) ∧ Aside0 (Below w.heap.size w w'))
    case atStart => exact ⟨(([] : List (S38))), (0), zf, H', ⟨Nat.le_refl _⟩, ⟨by first | exact Kd.S_nil _ _ _ _ _ | exact Kd.N_nil _ _ _ _ _ | exact Kd.V_nil _ _ _ _ _ | exact Kd.Q_nil _ _ _ _ _ | exact Kd.R_nil _ _ _ _ _⟩, ⟨by (with_reducible repeat (first | apply Kd.N_alloc | apply Kd.N_drewN | apply Kd.N_drew)); exact Kd.N_mono HO_6.out (fun _ hk => ⟨hk, (by simp [Value.ownBlock])⟩)⟩, ⟨zb⟩⟩
    case round =>
     clear H'
     try clear c8
     obtain ⟨x8_2, x28_2, rfl, HA, HK2, HO_8, HO_26, HB⟩ := hrel
     cases gk with
     | zero => exact absurd HA.out (by simp [flow_Flow.l0])
     | succ k2 =>
      have H := HA.out
      clear HA
      simp only [flow_Flow.l0] at H
      by_cases c10 : x28_2 < (t526.length : Int)
      ·rw [if_pos c10] at H
       have c10b0 : decide (x28_2 < (t526.length : Int)) = true := decide_eq_true c10
       clear c10
       by_cases c11 : 0 ≤ x28_2
       ·rw [if_pos c11] at H
        have c11b0 : decide (0 ≤ x28_2) = true := decide_eq_true c11
        clear c11
        by_cases c12 : x28_2 < (t526.length : Int)
        ·rw [if_pos c12] at H
         have c12b0 : decide (x28_2 < (t526.length : Int)) = true := decide_eq_true c12
         clear c12
         replace H := Option.bind_eq_some_iff.mp H
         obtain ⟨t531, A130, H⟩ := H
         replace H : (if x8_2.length + t531.length < 4398046511104 then (flow_Flow.l0 k2 a1 (x8_2 ++ t531) t526 (t526.length : Int) (wrap64 (x28_2 + 1))) else (none)) = some (r1, r2) := H
         have A13 := Aside0.mk A130
         clear A130
         by_cases c14 : x8_2.length + t531.length < 4398046511104
         ·rw [if_pos c14] at H
          have LMc14 := Aside0.mk c14
          clear c14
          obtain ⟨y534, hy534⟩ : ∃ y_ : List (S38), y_ = (x8_2 ++ t531) := ⟨_, rfl⟩
          replace H : (flow_Flow.l0 k2 a1 y534 t526 (t526.length : Int) (wrap64 (x28_2 + 1))) = some (r1, r2) := by first | (rw [hy534]; with_reducible exact H) | (have H2_ := (Option.bind_some _ _).symm.trans H; rw [hy534]; with_reducible exact H2_) | (have H2_ := (Option.bind_some _ _).symm.trans H; with_reducible exact H2_) | with_reducible exact H | (rw [hy534]; exact H) | exact H
          have Ny534 := Aside0.mk hy534
          clear hy534
          have H' := Aside0.mk H
          clear H
          have p530 : 0 ≤ (x28_2 : Int) := of_decide_eq_true za
          have q530 : x28_2 < (t526.length : Int) := of_decide_eq_true za
          obtain ⟨ad530, A530_0, c530_0, e530, hx530_0, hl530_0, hi530_0⟩ := at_L4 (Kd.N_reads' HO_26.out).2.2 x28_2 p530 q530
          cases e530
          obtain ⟨ce530, hce530, hMe530, hcc530⟩ := Kd.N_get HO_26.out [] x28_2 p530 (by first | exact q530 | exact of_decide_eq_true za | (have e_ := (Kd.N_reads' HO_26.out).1; omega))
          obtain ⟨ua530_0, uc530_0, rfl, ul530_0, ge530_0⟩ := Kd.FK_slice_open hMe530
          have hv530_0 := hcc530 0 _ rfl
          rw [Nat.add_zero, show ((Kd.slice 60 k60)).sz = 1 from rfl, Nat.mul_one] at hv530_0
          replace hv530_0 := Option.some.inj (hv530_0.symm.trans hx530_0)
          injection hv530_0 with hva_ hvn_ hvc_
          rw [hva_] at ge530_0
          rw [hvc_] at ul530_0
          have HL530_0 := Aside0.mk (show Kd.V k60 60 _ w.heap.size _ _ (rd_L4 t526 x28_2) from Kd.V_mk ul530_0 ge530_0)
          clear hva_ hvn_ hvc_ ge530_0 ul530_0
          clear hcc530 hce530
          have HR530_0 := Aside0.mk hi530_0
          have HC530_0 := Aside0.mk hl530_0
          clear hi530_0 hl530_0
          replace p530 := eq_true p530
          replace q530 := eq_true q530
          go_wp2_with (first | ((with_reducible refine gate_callee (f := 52) rfl ?_); refine goesL_ (some 35) rfl rfl Tryd.func52 (by kernel_rfl) rfl #[.slice A530_0 (rd_L4 t526 x28_2).length c530_0, .int .i64 a1] rfl zl ?_; (with_reducible refine (flow_fold.calls _ _ (rd_L4 t526 x28_2) a1 t531 _ ?side1 ?side2 A13.out).mono ?_); (case side1 => repeat (first | exact (by repeat (first | (with_reducible exact HR530_0.out) | (with_reducible refine Kd.C_alloc ?_ _) | (with_reducible refine Kd.C_drewN ?_ _) | (with_reducible refine Kd.C_drew ?_) | exact HR530_0.out)) | (with_reducible refine Kd.C_alloc ?_ _) | (with_reducible refine Kd.C_drewN ?_ _) | (with_reducible refine Kd.C_drew ?_))); (case side2 => exact HC530_0.out); rintro e w15 ⟨v532, rfl, ho0, hb⟩; refine ⟨_, rfl, ?_⟩; have n0_ := Aside0.mk (Kd.N_elder' (zNa HO_8) (by first | exact Kd.N_base ho0 | exact Kd.S_base ho0) hb); have n1_ := Aside0.mk (Kd.N_elder' (zNa HO_26) (by first | exact Kd.N_base ho0 | exact Kd.S_base ho0) hb); have n2_ := Aside0.mk (Kd.V_elder' (by (with_reducible repeat (first | apply Kd.V_alloc | apply Kd.V_drewN | apply Kd.V_drew)); exact HL530_0.out) (by first | exact Kd.N_base ho0 | exact Kd.S_base ho0) hb); have n3_ := Aside0.mk (Kd.N_lower (Kd.N_mono (ok' := fun k_ => (w.heap.size ≤ k_) ∧ some k_ ≠ (u8 : Value).ownBlock ∧ some k_ ≠ (.slice (some ad530) t526.length co9 : Value).ownBlock) ho0 (fun k_ hk_ => ⟨(Nat.le_trans (below_size zb) hk_), (Kd.fresh' (Kd.N_lt (zNa HO_8)) k_ hk_), (Kd.fresh' (Kd.N_lt (zNa HO_26)) k_ hk_)⟩)) (below_size zb)); have n4_ := Aside0.mk (Kd.C_below (by repeat (first | (with_reducible exact HR530_0.out) | (with_reducible refine Kd.C_alloc ?_ _) | (with_reducible refine Kd.C_drewN ?_ _) | (with_reducible refine Kd.C_drew ?_) | exact HR530_0.out)) hb); have n5_ := (zs HB hb); clear HO_8; clear HO_26; clear HL530_0; clear HR530_0; clear HB; have HO_8 := n0_; have HO_26 := n1_; have HL530_0 := n2_; have HO533 := n3_; have HR530_0 := n4_; have HB := n5_; clear n0_ n1_ n2_ n3_ n4_ n5_; (try clear hb); (try clear hk); (try clear ho0); obtain ⟨Ao17, co17, eo17⟩ := Kd.N_slice HO533.out; subst eo17) | ((with_reducible refine gate_builtin (b := .append) (xs := #[.tmp 32, .tmp 35]) rfl ?_); at_builtin; refine Kd.N_append_rows k38 (w0 := w) w.heap.size rfl (.tmp 32) (.tmp 35) 22 38 (.agg #[(.slice none 0 0), (.bool false)]) 32 rfl Tryd.underlying22 info38 rfl (by decide) (by omega) u8 x8_2 t531 _ _ _ (fun k_ => (w.heap.size ≤ k_) ∧ some k_ ≠ (.slice (some ad530) t526.length co9 : Value).ownBlock) (fun k_ => ((fun k_ => (w.heap.size ≤ k_) ∧ some k_ ≠ (.slice (some ad530) t526.length co9 : Value).ownBlock)) k_ ∧ some k_ ≠ (u8 : Value).ownBlock) rfl rfl ?aO ?aR (fun _ hk => hk) ?aF ?aB ?aS ?aL ?_; (case aR => exact (by skip; exact Kd.N_F (Kd.N_mono (ok' := (fun k_ => ((fun k_ => (w.heap.size ≤ k_) ∧ some k_ ≠ (.slice (some ad530) t526.length co9 : Value).ownBlock)) k_ ∧ some k_ ≠ (u8 : Value).ownBlock)) (HO533.out) (fun k_ hk => ⟨⟨hk.1, hk.2.2⟩, hk.2.1⟩)))); (case aB => exact zb); (case aF => exact (fun k_ hk => ⟨(Nat.le_trans (below_size zb) hk), Kd.fresh' (Kd.N_lt (zNa HO_26)) k_ hk⟩)); (case aO => exact (by (with_reducible repeat (first | apply Kd.N_alloc | apply Kd.N_drewN | apply Kd.N_drew)); exact Kd.N_mono HO_8.out (fun _ hk => ⟨hk.1.1, hk.1.2⟩))); (case aS => exact (below_size zb)); (case aL => have := LMc14.out; omega); intro v535 w16 ho hb hg hat; rw [← Ny534.out] at ho; have n0_ := Aside0.mk (Kd.N_afterv (ok := (fun k_ => (w.heap.size ≤ k_) ∧ some k_ ≠ (.slice Ao17 t531.length co17 : Value).ownBlock)) (by (with_reducible repeat (first | apply Kd.N_alloc | apply Kd.N_drewN | apply Kd.N_drew)); exact Kd.N_mono HO_26.out (fun _ hk => ⟨⟨hk.1.1, hk.2⟩, hk.1.2⟩)) hg hat); have n1_ := Aside0.mk (Kd.V_afterv (ok := (fun k_ => (w.heap.size ≤ k_) ∧ some k_ ≠ (.slice (some ad530) t526.length co9 : Value).ownBlock ∧ some k_ ≠ (.slice Ao17 t531.length co17 : Value).ownBlock)) (by (with_reducible repeat (first | apply Kd.V_alloc | apply Kd.V_drewN | apply Kd.V_drew)); exact Kd.V_mono HL530_0.out (fun _ hk => ⟨⟨hk.1.1.1, ⟨hk.1.2, hk.2⟩⟩, hk.1.1.2⟩)) hg hat); have n2_ := Aside0.mk (Kd.N_afterv (ok := (fun k_ => (w.heap.size ≤ k_) ∧ some k_ ≠ (.slice (some ad530) t526.length co9 : Value).ownBlock)) (by (with_reducible repeat (first | apply Kd.N_alloc | apply Kd.N_drewN | apply Kd.N_drew)); exact Kd.N_mono HO533.out (fun _ hk => ⟨⟨hk.1, hk.2.2⟩, hk.2.1⟩)) hg hat); have n3_ := Aside0.mk (hb); have n4_ := Aside0.mk (ho); clear HO_26; clear HL530_0; clear HO533; clear HB; clear HO_8; have HO_26 := n0_; have HL530_0 := n1_; have HO533 := n2_; have HB := n3_; have HO536 := n4_; clear n0_ n1_ n2_ n3_ n4_; clear ho hb hg hat))
          go_roundg k2
          case measure => have := HJ3.out; have := HK2.out; omega
          case rel => exact ⟨(y534), (wrap64 (x28_2 + 1)), zf, H', ⟨by have := HJ3.out; have := HK2.out; omega⟩, ⟨by (with_reducible repeat (first | apply Kd.N_alloc | apply Kd.N_drewN | apply Kd.N_drew)); exact HO536.out⟩, ⟨by (with_reducible repeat (first | apply Kd.N_alloc | apply Kd.N_drewN | apply Kd.N_drew)); exact Kd.N_mono HO_26.out (fun _ hk => ⟨hk.1.1, hk.2⟩)⟩, ⟨zb⟩⟩
         ·rw [if_neg c14] at H
          exact absurd H (by simp)
        ·rw [if_neg c12] at H
         exact absurd H (by simp)
       ·rw [if_neg c11] at H
        exact absurd H (by simp)
      ·rw [if_neg c10] at H
       have c10b0 : decide (x28_2 < (t526.length : Int)) = false := decide_eq_false c10
       clear c10
       simp only [Option.some.injEq, Prod.mk.injEq] at H
       obtain ⟨rfl, rfl⟩ := H
       go_wp2
       go_ret2
       exact ⟨_, ze, by (with_reducible repeat (first | apply Kd.N_alloc | apply Kd.N_drewN | apply Kd.N_drew)); exact Kd.N_mono HO_8.out (fun _ hk => hk.1), zb⟩
def backseatlaw08_alive.f (k : Nat)  : Option (Bool) := (flow_Fold.f k (([(⟨(⟨#[97]⟩ : ByteArray), 1, (⟨0, 0, 0⟩ : S58)⟩ : S60), (⟨(⟨#[98]⟩ : ByteArray), 1, (⟨0, 0, 0⟩ : S58)⟩ : S60), (⟨(⟨#[99]⟩ : ByteArray), 1, (⟨0, 0, 0⟩ : S58)⟩ : S60)] : List (S60))) 2).bind fun bt452 => ((flow_Letters.f k bt452.1).bind fun bt456 => (if bt452.2 = 0 then (if bt456.2 = 0 then (if (bt452.1.length : Int) = 2 then (if 0 < (bt452.1.length : Int) then (if (rd_T38 bt452.1 0).f1 = true then (if 1 < (bt452.1.length : Int) then (if ((rd_T38 bt452.1 1).f1 = true) then (some false) else (if (bt456.1.length : Int) = 1 then (if 0 < (bt456.1.length : Int) then (some ((rdOf ByteArray.empty bt456.1 0).toList == ([97, 98, 99] : List UInt8))) else (none)) else (some false))) else (none)) else (some false)) else (none)) else (some false)) else (some false)) else (some false)))
set_option maxHeartbeats 8000000 in
set_option maxRecDepth 100000 in
theorem backseatlaw08_alive.calls (k : Nat)  (r : Bool) (w : World) (h : backseatlaw08_alive.f k  = some r) (hT : Tabs w := by first | exact Aside0.out (by with_reducible assumption) | exact Tabs.keepA (by with_reducible assumption) (by repeat (first | (with_reducible exact Aside0.out (by with_reducible assumption)) | (with_reducible apply below_alloc) | (with_reducible apply pw_below_drewN) | (with_reducible apply below_drew1) | (with_reducible refine below_set ?_ (Aside0.out (by with_reducible assumption)))))) :
  Calls Tryd.prog 20 #[] w fun e w' => e = .returned (.bool r) ∧ Below w.heap.size w w' := by
 have HT := Aside0.mk (show Tabs w from hT)
 clear hT
 have hu60 := Tryd.underlying60
 have HB := Aside0.mk (Below.refl w.heap.size w)
 have H : ((flow_Fold.f k (([(⟨(⟨#[97]⟩ : ByteArray), 1, (⟨0, 0, 0⟩ : S58)⟩ : S60), (⟨(⟨#[98]⟩ : ByteArray), 1, (⟨0, 0, 0⟩ : S58)⟩ : S60), (⟨(⟨#[99]⟩ : ByteArray), 1, (⟨0, 0, 0⟩ : S58)⟩ : S60)] : List (S60))) 2).bind fun bt452 => ((flow_Letters.f k bt452.1).bind fun bt456 => (if bt452.2 = 0 then (if bt456.2 = 0 then (if (bt452.1.length : Int) = 2 then (if 0 < (bt452.1.length : Int) then (if (rd_T38 bt452.1 0).f1 = true then (if 1 < (bt452.1.length : Int) then (if ((rd_T38 bt452.1 1).f1 = true) then (some false) else (if (bt456.1.length : Int) = 1 then (if 0 < (bt456.1.length : Int) then (some ((rdOf ByteArray.empty bt456.1 0).toList == ([97, 98, 99] : List UInt8))) else (none)) else (some false))) else (none)) else (some false)) else (none)) else (some false)) else (some false)) else (some false)))) = some r := h
 clear h
 obtain ⟨y449, hy449⟩ : ∃ y_ : List (S60), y_ = (([(⟨(⟨#[97]⟩ : ByteArray), 1, (⟨0, 0, 0⟩ : S58)⟩ : S60), (⟨(⟨#[98]⟩ : ByteArray), 1, (⟨0, 0, 0⟩ : S58)⟩ : S60), (⟨(⟨#[99]⟩ : ByteArray), 1, (⟨0, 0, 0⟩ : S58)⟩ : S60)] : List (S60))) := ⟨_, rfl⟩
 replace H : ((flow_Fold.f k y449 2).bind fun bt452 => ((flow_Letters.f k bt452.1).bind fun bt456 => (if bt452.2 = 0 then (if bt456.2 = 0 then (if (bt452.1.length : Int) = 2 then (if 0 < (bt452.1.length : Int) then (if (rd_T38 bt452.1 0).f1 = true then (if 1 < (bt452.1.length : Int) then (if ((rd_T38 bt452.1 1).f1 = true) then (some false) else (if (bt456.1.length : Int) = 1 then (if 0 < (bt456.1.length : Int) then (some ((rdOf ByteArray.empty bt456.1 0).toList == ([97, 98, 99] : List UInt8))) else (none)) else (some false))) else (none)) else (some false)) else (none)) else (some false)) else (some false)) else (some false)))) = some r := by first | (rw [hy449]; with_reducible exact H) | (have H2_ := (Option.bind_some _ _).symm.trans H; rw [hy449]; with_reducible exact H2_) | (have H2_ := (Option.bind_some _ _).symm.trans H; with_reducible exact H2_) | with_reducible exact H | (rw [hy449]; exact H) | exact H
 have Ny449 := Aside0.mk hy449
 clear hy449
 replace H := Option.bind_eq_some_iff.mp H
 obtain ⟨⟨t452, t455⟩, A10, H⟩ := H
 replace H : ((flow_Letters.f k t452).bind fun bt456 => (if t455 = 0 then (if bt456.2 = 0 then (if (t452.length : Int) = 2 then (if 0 < (t452.length : Int) then (if (rd_T38 t452 0).f1 = true then (if 1 < (t452.length : Int) then (if ((rd_T38 t452 1).f1 = true) then (some false) else (if (bt456.1.length : Int) = 1 then (if 0 < (bt456.1.length : Int) then (some ((rdOf ByteArray.empty bt456.1 0).toList == ([97, 98, 99] : List UInt8))) else (none)) else (some false))) else (none)) else (some false)) else (none)) else (some false)) else (some false)) else (some false))) = some r := H
 have A1 := Aside0.mk A10
 clear A10
 replace H := Option.bind_eq_some_iff.mp H
 obtain ⟨⟨t456, t457⟩, A20, H⟩ := H
 replace H : (if t455 = 0 then (if t457 = 0 then (if (t452.length : Int) = 2 then (if 0 < (t452.length : Int) then (if (rd_T38 t452 0).f1 = true then (if 1 < (t452.length : Int) then (if ((rd_T38 t452 1).f1 = true) then (some false) else (if (t456.length : Int) = 1 then (if 0 < (t456.length : Int) then (some ((rdOf ByteArray.empty t456 0).toList == ([97, 98, 99] : List UInt8))) else (none)) else (some false))) else (none)) else (some false)) else (none)) else (some false)) else (some false)) else (some false)) = some r := H
 have A2 := Aside0.mk A20
 clear A20
 by_cases c3 : t455 = 0
 ·rw [if_pos c3] at H
  have c3b0 : (t455 == 0) = true := beq_iff_eq.mpr c3
  have c3b1 : (t455 != 0) = false := bne_eq_false_iff_eq.mpr c3
  clear c3
  by_cases c4 : t457 = 0
  ·rw [if_pos c4] at H
   have c4b0 : (t457 == 0) = true := beq_iff_eq.mpr c4
   have c4b1 : (t457 != 0) = false := bne_eq_false_iff_eq.mpr c4
   clear c4
   by_cases c5 : (t452.length : Int) = 2
   ·rw [if_pos c5] at H
    have c5b0 : ((t452.length : Int) == 2) = true := beq_iff_eq.mpr c5
    have c5b1 : ((t452.length : Int) != 2) = false := bne_eq_false_iff_eq.mpr c5
    clear c5
    by_cases c6 : 0 < (t452.length : Int)
    ·rw [if_pos c6] at H
     have c6b0 : decide (0 < (t452.length : Int)) = true := decide_eq_true c6
     have c6b1 : decide (0 < t452.length) = true := decide_eq_true (by omega)
     clear c6
     obtain ⟨bq7, hbq7⟩ : ∃ b_ : Bool, b_ = ((rd_T38 t452 0).f1) := ⟨_, rfl⟩
     replace H : (if bq7 = true then (if 1 < (t452.length : Int) then (if ((rd_T38 t452 1).f1 = true) then (some false) else (if (t456.length : Int) = 1 then (if 0 < (t456.length : Int) then (some ((rdOf ByteArray.empty t456 0).toList == ([97, 98, 99] : List UInt8))) else (none)) else (some false))) else (none)) else (some false)) = some r := by rw [← hbq7] at H; exact H
     have Nbq7 := Aside0.mk hbq7
     clear hbq7
     by_cases c8 : bq7 = true
     ·subst c8
      have H1 : (if 1 < (t452.length : Int) then (if ((rd_T38 t452 1).f1 = true) then (some false) else (if (t456.length : Int) = 1 then (if 0 < (t456.length : Int) then (some ((rdOf ByteArray.empty t456 0).toList == ([97, 98, 99] : List UInt8))) else (none)) else (some false))) else (none)) = some r := by rw [if_pos rfl] at H; exact H
      clear H
      have H := H1
      clear H1
      by_cases c9 : 1 < (t452.length : Int)
      ·rw [if_pos c9] at H
       have c9b0 : decide (1 < (t452.length : Int)) = true := decide_eq_true c9
       have c9b1 : decide (1 < t452.length) = true := decide_eq_true (by omega)
       clear c9
       obtain ⟨bq10, hbq10⟩ : ∃ b_ : Bool, b_ = ((rd_T38 t452 1).f1) := ⟨_, rfl⟩
       replace H : (if (bq10 = true) then (some false) else (if (t456.length : Int) = 1 then (if 0 < (t456.length : Int) then (some ((rdOf ByteArray.empty t456 0).toList == ([97, 98, 99] : List UInt8))) else (none)) else (some false))) = some r := by rw [← hbq10] at H; exact H
       have Nbq10 := Aside0.mk hbq10
       clear hbq10
       by_cases c11 : (bq10 = true)
       ·subst c11
        have H1 : (some false) = some r := by rw [if_pos rfl] at H; exact H
        clear H
        have H := H1
        clear H1
        obtain rfl := Option.some.inj H
        go_enter Tryd.func20, Tryd.ntmps20
        go_wp2_with (first | ((with_reducible refine gate_dst (N := 9) rfl ?_); (try (refine gate_guard (by rfl) ?_; dsimp only)); refine Kd.R_lit k60 _ 60 ?hg (N := 9) ?hd (xs := ([(⟨(⟨#[97]⟩ : ByteArray), 1, (⟨0, 0, 0⟩ : S58)⟩ : S60), (⟨(⟨#[98]⟩ : ByteArray), 1, (⟨0, 0, 0⟩ : S58)⟩ : S60), (⟨(⟨#[99]⟩ : ByteArray), 1, (⟨0, 0, 0⟩ : S58)⟩ : S60)] : List (S60))) (inner := [.string (⟨#[97]⟩ : ByteArray), .int .i64 1, .int .i64 0, .int .i64 0, .int .i64 0, .string (⟨#[98]⟩ : ByteArray), .int .i64 1, .int .i64 0, .int .i64 0, .int .i64 0, .string (⟨#[99]⟩ : ByteArray), .int .i64 1, .int .i64 0, .int .i64 0, .int .i64 0]) (ok := fun _ => True) (okp := fun _ => True) ?hr ?hp (fun _ hk => hk) trivial (Below.refl _ _) (Nat.le_refl _) (by simp) ?_; (case hd => rfl); (case hg => rfl); (case hr => exact zo); (case hp => exact (Reps.c5 (show Kd.M k60 _ _ _ (⟨(⟨#[97]⟩ : ByteArray), 1, (⟨0, 0, 0⟩ : S58)⟩ : S60) [.string (⟨#[97]⟩ : ByteArray), .int .i64 1, .int .i64 0, .int .i64 0, .int .i64 0] from (k60_mkM _ _ _ (⟨(⟨#[97]⟩ : ByteArray), 1, (⟨0, 0, 0⟩ : S58)⟩ : S60) )) (Reps.c5 (show Kd.M k60 _ _ _ (⟨(⟨#[98]⟩ : ByteArray), 1, (⟨0, 0, 0⟩ : S58)⟩ : S60) [.string (⟨#[98]⟩ : ByteArray), .int .i64 1, .int .i64 0, .int .i64 0, .int .i64 0] from (k60_mkM _ _ _ (⟨(⟨#[98]⟩ : ByteArray), 1, (⟨0, 0, 0⟩ : S58)⟩ : S60) )) (Reps.c5 (show Kd.M k60 _ _ _ (⟨(⟨#[99]⟩ : ByteArray), 1, (⟨0, 0, 0⟩ : S58)⟩ : S60) [.string (⟨#[99]⟩ : ByteArray), .int .i64 1, .int .i64 0, .int .i64 0, .int .i64 0] from (k60_mkM _ _ _ (⟨(⟨#[99]⟩ : ByteArray), 1, (⟨0, 0, 0⟩ : S58)⟩ : S60) )) (Reps.none _ _))))); intro v450 w12 ho13 hb hg_ hnew_; clear hg_ hnew_; (first | rw [← Ny449.out] at ho13 | (simp only [Int.reduceToNat] at ho13; rw [← Ny449.out] at ho13)); have HO451 := Aside0.mk (Kd.R_lower ho13 (below_size zb)); replace HB := (zs HB hb); clear hb ho13; obtain ⟨Ao14, co14, eo14⟩ := Kd.R_slice HO451.out; subst eo14) | ((with_reducible refine gate_callee (f := 25) rfl ?_); refine goesL_ (some 12) rfl rfl Tryd.func25 (by kernel_rfl) rfl #[.slice Ao14 y449.length co14, .int .i64 2] rfl zl ?_; (with_reducible refine (flow_Fold.calls k _ _ y449 2 t452 t455 _ ?side1 ?side2 A1.out).mono ?_); (case side1 => repeat (first | exact (Kd.R_reads' HO451.out).2.2 | (with_reducible refine Kd.C_alloc ?_ _) | (with_reducible refine Kd.C_drewN ?_ _) | (with_reducible refine Kd.C_drew ?_))); (case side2 => exact (Kd.R_reads' HO451.out).2.1); rintro e w15 ⟨v453, rfl, ho0, hb⟩; refine ⟨_, rfl, ?_⟩; have n0_ := (zR HO451 hb); have n1_ := Aside0.mk (Kd.N_lower (Kd.N_mono (ok' := fun k_ => some k_ ≠ (.slice Ao14 y449.length co14 : Value).ownBlock) ho0 (fun k_ hk_ => (Kd.fresh' (Kd.R_lt (zRa HO451)) k_ hk_))) (below_size zb)); have n2_ := (zs HB hb); clear HO451; clear HB; have HO451 := n0_; have HO454 := n1_; have HB := n2_; clear n0_ n1_ n2_; (try clear hb); (try clear hk); (try clear ho0); obtain ⟨Ao16, co16, eo16⟩ := Kd.N_slice HO454.out; subst eo16) | ((with_reducible refine gate_callee (f := 19) rfl ?_); refine goesL_ (some 17) rfl rfl Tryd.func19 (by kernel_rfl) rfl #[.slice Ao16 t452.length co16] rfl zl ?_; (with_reducible refine (flow_Letters.calls k _ _ t452 t456 t457 _ ?side1 ?side2 A2.out).mono ?_); (case side1 => repeat (first | exact (Kd.N_reads' HO454.out).2.2 | (with_reducible refine Kd.C_alloc ?_ _) | (with_reducible refine Kd.C_drewN ?_ _) | (with_reducible refine Kd.C_drew ?_))); (case side2 => exact (Kd.N_reads' HO454.out).2.1); rintro e w17 ⟨v458, rfl, ho0, hb⟩; refine ⟨_, rfl, ?_⟩; replace HO451 := (zR HO451 hb); replace HO454 := Aside0.mk (Kd.N_elder' (zNa HO454) (Kd.R_base ho0) hb); have HO459 := Aside0.mk (Kd.R_lower ho0 (below_size zb)); replace HB := (zs HB hb); (try clear hb); (try clear hk); (try clear ho0); have p460 : 0 ≤ (0 : Int) := (by omega); have q460 : 0 < (t452.length : Int) := of_decide_eq_true za; obtain ⟨ad460, A460_0, c460_0, e460, hx460_0, hx460_1, hl460_0, hi460_0⟩ := at_T38 (Kd.N_reads' HO454.out).2.2 0 p460 q460; (try rw [← Nbq7.out] at hx460_1); (try rw [← Nbq10.out] at hx460_1); cases e460; obtain ⟨ce460, hce460, hMe460, hcc460⟩ := Kd.N_get HO454.out z38 0 p460 (by first | exact q460 | exact of_decide_eq_true za | (have e_ := (Kd.N_reads' HO454.out).1; omega)); obtain ⟨ua460_0, uc460_0, rfl, ul460_0, ge460_0⟩ := k38_openF hMe460; have hv460_0 := hcc460 0 _ rfl; rw [Nat.add_zero] at hv460_0; replace hv460_0 := Option.some.inj (hv460_0.symm.trans hx460_0); injection hv460_0 with hva_ hvn_ hvc_; rw [hva_] at ge460_0; rw [hvc_] at ul460_0; have HL460_0 := Aside0.mk (show Kd.V k60 60 _ w.heap.size _ _ ((rd_T38 t452 0).f0) from Kd.V_mk ul460_0 ge460_0); clear hva_ hvn_ hvc_ ge460_0 ul460_0; clear hcc460 hce460; have qi460 : (0 < t452.length) = True := eq_true (by omega); (try rw [show ((0 : Int)).toNat = 0 from rfl] at hx460_0); (try rw [show 0 * 2 = 0 from rfl] at hx460_0); (try rw [Addr.add_zero'] at hx460_0); (try rw [show ((0 : Int)).toNat = 0 from rfl] at hx460_1); (try rw [show 0 * 2 = 0 from rfl] at hx460_1); (try rw [Addr.add_zero'] at hx460_1); have HR460_0 := Aside0.mk hi460_0; have HC460_0 := Aside0.mk hl460_0; clear hi460_0 hl460_0; replace p460 := eq_true p460; replace q460 := eq_true q460; have p461 : 0 ≤ (1 : Int) := (by omega); have q461 : 1 < (t452.length : Int) := of_decide_eq_true za; obtain ⟨ad461, A461_0, c461_0, e461, hx461_0, hx461_1, hl461_0, hi461_0⟩ := at_T38 (Kd.N_reads' HO454.out).2.2 1 p461 q461; (try rw [← Nbq7.out] at hx461_1); (try rw [← Nbq10.out] at hx461_1); obtain rfl : ad460 = ad461 := (by injection e461); obtain ⟨ce461, hce461, hMe461, hcc461⟩ := Kd.N_get HO454.out z38 1 p461 (by first | exact q461 | exact of_decide_eq_true za | (have e_ := (Kd.N_reads' HO454.out).1; omega)); obtain ⟨ua461_0, uc461_0, rfl, ul461_0, ge461_0⟩ := k38_openF hMe461; have hv461_0 := hcc461 0 _ rfl; rw [Nat.add_zero] at hv461_0; replace hv461_0 := Option.some.inj (hv461_0.symm.trans hx461_0); injection hv461_0 with hva_ hvn_ hvc_; rw [hva_] at ge461_0; rw [hvc_] at ul461_0; have HL461_0 := Aside0.mk (show Kd.V k60 60 _ w.heap.size _ _ ((rd_T38 t452 1).f0) from Kd.V_mk ul461_0 ge461_0); clear hva_ hvn_ hvc_ ge461_0 ul461_0; clear hcc461 hce461; (try simp only [show (1 : Int).toNat = 1 from rfl, Nat.reduceMul, Nat.reduceEqDiff, Go.Addr.add, ↓reduceIte] at hx461_0); (try simp only [show (1 : Int).toNat = 1 from rfl, Nat.reduceMul, Nat.reduceEqDiff, Go.Addr.add, ↓reduceIte] at hx461_1); have qi461 : (1 < t452.length) = True := eq_true (by omega); (try rw [show ((1 : Int)).toNat = 1 from rfl] at hx461_0); (try rw [show 1 * 2 = 2 from rfl] at hx461_0); (try rw [show ((1 : Int)).toNat = 1 from rfl] at hx461_1); (try rw [show 1 * 2 = 2 from rfl] at hx461_1); have HR461_0 := Aside0.mk hi461_0; have HC461_0 := Aside0.mk hl461_0; clear hi461_0 hl461_0; replace p461 := eq_true p461; replace q461 := eq_true q461))
        go_ret
        exact ⟨ze, zb⟩
       ·replace c11 := Bool.eq_false_iff.mpr c11
        subst c11
        have H1 : (if (t456.length : Int) = 1 then (if 0 < (t456.length : Int) then (some ((rdOf ByteArray.empty t456 0).toList == ([97, 98, 99] : List UInt8))) else (none)) else (some false)) = some r := by rw [if_neg (show ¬ (false = true) by decide)] at H; exact H
        clear H
        have H := H1
        clear H1
        by_cases c18 : (t456.length : Int) = 1
        ·rw [if_pos c18] at H
         have c18b0 : ((t456.length : Int) == 1) = true := beq_iff_eq.mpr c18
         have c18b1 : ((t456.length : Int) != 1) = false := bne_eq_false_iff_eq.mpr c18
         clear c18
         by_cases c19 : 0 < (t456.length : Int)
         ·rw [if_pos c19] at H
          have c19b0 : decide (0 < (t456.length : Int)) = true := decide_eq_true c19
          have c19b1 : decide (0 < t456.length) = true := decide_eq_true (by omega)
          clear c19
          obtain rfl := Option.some.inj H
          go_enter Tryd.func20, Tryd.ntmps20
          go_wp2_with (first | ((with_reducible refine gate_dst (N := 9) rfl ?_); (try (refine gate_guard (by rfl) ?_; dsimp only)); refine Kd.R_lit k60 _ 60 ?hg (N := 9) ?hd (xs := ([(⟨(⟨#[97]⟩ : ByteArray), 1, (⟨0, 0, 0⟩ : S58)⟩ : S60), (⟨(⟨#[98]⟩ : ByteArray), 1, (⟨0, 0, 0⟩ : S58)⟩ : S60), (⟨(⟨#[99]⟩ : ByteArray), 1, (⟨0, 0, 0⟩ : S58)⟩ : S60)] : List (S60))) (inner := [.string (⟨#[97]⟩ : ByteArray), .int .i64 1, .int .i64 0, .int .i64 0, .int .i64 0, .string (⟨#[98]⟩ : ByteArray), .int .i64 1, .int .i64 0, .int .i64 0, .int .i64 0, .string (⟨#[99]⟩ : ByteArray), .int .i64 1, .int .i64 0, .int .i64 0, .int .i64 0]) (ok := fun _ => True) (okp := fun _ => True) ?hr ?hp (fun _ hk => hk) trivial (Below.refl _ _) (Nat.le_refl _) (by simp) ?_; (case hd => rfl); (case hg => rfl); (case hr => exact zo); (case hp => exact (Reps.c5 (show Kd.M k60 _ _ _ (⟨(⟨#[97]⟩ : ByteArray), 1, (⟨0, 0, 0⟩ : S58)⟩ : S60) [.string (⟨#[97]⟩ : ByteArray), .int .i64 1, .int .i64 0, .int .i64 0, .int .i64 0] from (k60_mkM _ _ _ (⟨(⟨#[97]⟩ : ByteArray), 1, (⟨0, 0, 0⟩ : S58)⟩ : S60) )) (Reps.c5 (show Kd.M k60 _ _ _ (⟨(⟨#[98]⟩ : ByteArray), 1, (⟨0, 0, 0⟩ : S58)⟩ : S60) [.string (⟨#[98]⟩ : ByteArray), .int .i64 1, .int .i64 0, .int .i64 0, .int .i64 0] from (k60_mkM _ _ _ (⟨(⟨#[98]⟩ : ByteArray), 1, (⟨0, 0, 0⟩ : S58)⟩ : S60) )) (Reps.c5 (show Kd.M k60 _ _ _ (⟨(⟨#[99]⟩ : ByteArray), 1, (⟨0, 0, 0⟩ : S58)⟩ : S60) [.string (⟨#[99]⟩ : ByteArray), .int .i64 1, .int .i64 0, .int .i64 0, .int .i64 0] from (k60_mkM _ _ _ (⟨(⟨#[99]⟩ : ByteArray), 1, (⟨0, 0, 0⟩ : S58)⟩ : S60) )) (Reps.none _ _))))); intro v450 w20 ho21 hb hg_ hnew_; clear hg_ hnew_; (first | rw [← Ny449.out] at ho21 | (simp only [Int.reduceToNat] at ho21; rw [← Ny449.out] at ho21)); have HO451 := Aside0.mk (Kd.R_lower ho21 (below_size zb)); replace HB := (zs HB hb); clear hb ho21; obtain ⟨Ao22, co22, eo22⟩ := Kd.R_slice HO451.out; subst eo22) | ((with_reducible refine gate_callee (f := 25) rfl ?_); refine goesL_ (some 12) rfl rfl Tryd.func25 (by kernel_rfl) rfl #[.slice Ao22 y449.length co22, .int .i64 2] rfl zl ?_; (with_reducible refine (flow_Fold.calls k _ _ y449 2 t452 t455 _ ?side1 ?side2 A1.out).mono ?_); (case side1 => repeat (first | exact (Kd.R_reads' HO451.out).2.2 | (with_reducible refine Kd.C_alloc ?_ _) | (with_reducible refine Kd.C_drewN ?_ _) | (with_reducible refine Kd.C_drew ?_))); (case side2 => exact (Kd.R_reads' HO451.out).2.1); rintro e w23 ⟨v453, rfl, ho0, hb⟩; refine ⟨_, rfl, ?_⟩; have n0_ := (zR HO451 hb); have n1_ := Aside0.mk (Kd.N_lower (Kd.N_mono (ok' := fun k_ => some k_ ≠ (.slice Ao22 y449.length co22 : Value).ownBlock) ho0 (fun k_ hk_ => (Kd.fresh' (Kd.R_lt (zRa HO451)) k_ hk_))) (below_size zb)); have n2_ := (zs HB hb); clear HO451; clear HB; have HO451 := n0_; have HO454 := n1_; have HB := n2_; clear n0_ n1_ n2_; (try clear hb); (try clear hk); (try clear ho0); obtain ⟨Ao24, co24, eo24⟩ := Kd.N_slice HO454.out; subst eo24) | ((with_reducible refine gate_callee (f := 19) rfl ?_); refine goesL_ (some 17) rfl rfl Tryd.func19 (by kernel_rfl) rfl #[.slice Ao24 t452.length co24] rfl zl ?_; (with_reducible refine (flow_Letters.calls k _ _ t452 t456 t457 _ ?side1 ?side2 A2.out).mono ?_); (case side1 => repeat (first | exact (Kd.N_reads' HO454.out).2.2 | (with_reducible refine Kd.C_alloc ?_ _) | (with_reducible refine Kd.C_drewN ?_ _) | (with_reducible refine Kd.C_drew ?_))); (case side2 => exact (Kd.N_reads' HO454.out).2.1); rintro e w25 ⟨v458, rfl, ho0, hb⟩; refine ⟨_, rfl, ?_⟩; replace HO451 := (zR HO451 hb); replace HO454 := Aside0.mk (Kd.N_elder' (zNa HO454) (Kd.R_base ho0) hb); have HO459 := Aside0.mk (Kd.R_lower ho0 (below_size zb)); replace HB := (zs HB hb); (try clear hb); (try clear hk); (try clear ho0); have p460 : 0 ≤ (0 : Int) := (by omega); have q460 : 0 < (t452.length : Int) := of_decide_eq_true za; obtain ⟨ad460, A460_0, c460_0, e460, hx460_0, hx460_1, hl460_0, hi460_0⟩ := at_T38 (Kd.N_reads' HO454.out).2.2 0 p460 q460; (try rw [← Nbq7.out] at hx460_1); (try rw [← Nbq10.out] at hx460_1); cases e460; obtain ⟨ce460, hce460, hMe460, hcc460⟩ := Kd.N_get HO454.out z38 0 p460 (by first | exact q460 | exact of_decide_eq_true za | (have e_ := (Kd.N_reads' HO454.out).1; omega)); obtain ⟨ua460_0, uc460_0, rfl, ul460_0, ge460_0⟩ := k38_openF hMe460; have hv460_0 := hcc460 0 _ rfl; rw [Nat.add_zero] at hv460_0; replace hv460_0 := Option.some.inj (hv460_0.symm.trans hx460_0); injection hv460_0 with hva_ hvn_ hvc_; rw [hva_] at ge460_0; rw [hvc_] at ul460_0; have HL460_0 := Aside0.mk (show Kd.V k60 60 _ w.heap.size _ _ ((rd_T38 t452 0).f0) from Kd.V_mk ul460_0 ge460_0); clear hva_ hvn_ hvc_ ge460_0 ul460_0; clear hcc460 hce460; have qi460 : (0 < t452.length) = True := eq_true (by omega); (try rw [show ((0 : Int)).toNat = 0 from rfl] at hx460_0); (try rw [show 0 * 2 = 0 from rfl] at hx460_0); (try rw [Addr.add_zero'] at hx460_0); (try rw [show ((0 : Int)).toNat = 0 from rfl] at hx460_1); (try rw [show 0 * 2 = 0 from rfl] at hx460_1); (try rw [Addr.add_zero'] at hx460_1); have HR460_0 := Aside0.mk hi460_0; have HC460_0 := Aside0.mk hl460_0; clear hi460_0 hl460_0; replace p460 := eq_true p460; replace q460 := eq_true q460; have p461 : 0 ≤ (1 : Int) := (by omega); have q461 : 1 < (t452.length : Int) := of_decide_eq_true za; obtain ⟨ad461, A461_0, c461_0, e461, hx461_0, hx461_1, hl461_0, hi461_0⟩ := at_T38 (Kd.N_reads' HO454.out).2.2 1 p461 q461; (try rw [← Nbq7.out] at hx461_1); (try rw [← Nbq10.out] at hx461_1); obtain rfl : ad460 = ad461 := (by injection e461); obtain ⟨ce461, hce461, hMe461, hcc461⟩ := Kd.N_get HO454.out z38 1 p461 (by first | exact q461 | exact of_decide_eq_true za | (have e_ := (Kd.N_reads' HO454.out).1; omega)); obtain ⟨ua461_0, uc461_0, rfl, ul461_0, ge461_0⟩ := k38_openF hMe461; have hv461_0 := hcc461 0 _ rfl; rw [Nat.add_zero] at hv461_0; replace hv461_0 := Option.some.inj (hv461_0.symm.trans hx461_0); injection hv461_0 with hva_ hvn_ hvc_; rw [hva_] at ge461_0; rw [hvc_] at ul461_0; have HL461_0 := Aside0.mk (show Kd.V k60 60 _ w.heap.size _ _ ((rd_T38 t452 1).f0) from Kd.V_mk ul461_0 ge461_0); clear hva_ hvn_ hvc_ ge461_0 ul461_0; clear hcc461 hce461; (try simp only [show (1 : Int).toNat = 1 from rfl, Nat.reduceMul, Nat.reduceEqDiff, Go.Addr.add, ↓reduceIte] at hx461_0); (try simp only [show (1 : Int).toNat = 1 from rfl, Nat.reduceMul, Nat.reduceEqDiff, Go.Addr.add, ↓reduceIte] at hx461_1); have qi461 : (1 < t452.length) = True := eq_true (by omega); (try rw [show ((1 : Int)).toNat = 1 from rfl] at hx461_0); (try rw [show 1 * 2 = 2 from rfl] at hx461_0); (try rw [show ((1 : Int)).toNat = 1 from rfl] at hx461_1); (try rw [show 1 * 2 = 2 from rfl] at hx461_1); have HR461_0 := Aside0.mk hi461_0; have HC461_0 := Aside0.mk hl461_0; clear hi461_0 hl461_0; replace p461 := eq_true p461; replace q461 := eq_true q461; obtain ⟨Ao26, co26, eo26⟩ := Kd.R_slice HO459.out; subst eo26; have p462 : 0 ≤ (0 : Int) := (by omega); have q462 : 0 < (t456.length : Int) := of_decide_eq_true za; obtain ⟨ad462, e462, hx462_0⟩ := Kd.at_string (Kd.R_reads' HO459.out).2.2 0 p462 q462; cases e462; have qi462 : (0 < t456.length) = True := eq_true (by omega); (try rw [show ((0 : Int)).toNat = 0 from rfl] at hx462_0); (try rw [Addr.add_zero'] at hx462_0); replace p462 := eq_true p462; replace q462 := eq_true q462))
          go_ret
          exact ⟨ze, zb⟩
         ·rw [if_neg c19] at H
          exact absurd H (by simp)
        ·rw [if_neg c18] at H
         have c18b0 : ((t456.length : Int) == 1) = false := beq_eq_false_iff_ne.mpr c18
         have c18b1 : ((t456.length : Int) != 1) = true := bne_iff_ne.mpr c18
         obtain rfl := Option.some.inj H
         go_enter Tryd.func20, Tryd.ntmps20
         go_wp2_with (first | ((with_reducible refine gate_dst (N := 9) rfl ?_); (try (refine gate_guard (by rfl) ?_; dsimp only)); refine Kd.R_lit k60 _ 60 ?hg (N := 9) ?hd (xs := ([(⟨(⟨#[97]⟩ : ByteArray), 1, (⟨0, 0, 0⟩ : S58)⟩ : S60), (⟨(⟨#[98]⟩ : ByteArray), 1, (⟨0, 0, 0⟩ : S58)⟩ : S60), (⟨(⟨#[99]⟩ : ByteArray), 1, (⟨0, 0, 0⟩ : S58)⟩ : S60)] : List (S60))) (inner := [.string (⟨#[97]⟩ : ByteArray), .int .i64 1, .int .i64 0, .int .i64 0, .int .i64 0, .string (⟨#[98]⟩ : ByteArray), .int .i64 1, .int .i64 0, .int .i64 0, .int .i64 0, .string (⟨#[99]⟩ : ByteArray), .int .i64 1, .int .i64 0, .int .i64 0, .int .i64 0]) (ok := fun _ => True) (okp := fun _ => True) ?hr ?hp (fun _ hk => hk) trivial (Below.refl _ _) (Nat.le_refl _) (by simp) ?_; (case hd => rfl); (case hg => rfl); (case hr => exact zo); (case hp => exact (Reps.c5 (show Kd.M k60 _ _ _ (⟨(⟨#[97]⟩ : ByteArray), 1, (⟨0, 0, 0⟩ : S58)⟩ : S60) [.string (⟨#[97]⟩ : ByteArray), .int .i64 1, .int .i64 0, .int .i64 0, .int .i64 0] from (k60_mkM _ _ _ (⟨(⟨#[97]⟩ : ByteArray), 1, (⟨0, 0, 0⟩ : S58)⟩ : S60) )) (Reps.c5 (show Kd.M k60 _ _ _ (⟨(⟨#[98]⟩ : ByteArray), 1, (⟨0, 0, 0⟩ : S58)⟩ : S60) [.string (⟨#[98]⟩ : ByteArray), .int .i64 1, .int .i64 0, .int .i64 0, .int .i64 0] from (k60_mkM _ _ _ (⟨(⟨#[98]⟩ : ByteArray), 1, (⟨0, 0, 0⟩ : S58)⟩ : S60) )) (Reps.c5 (show Kd.M k60 _ _ _ (⟨(⟨#[99]⟩ : ByteArray), 1, (⟨0, 0, 0⟩ : S58)⟩ : S60) [.string (⟨#[99]⟩ : ByteArray), .int .i64 1, .int .i64 0, .int .i64 0, .int .i64 0] from (k60_mkM _ _ _ (⟨(⟨#[99]⟩ : ByteArray), 1, (⟨0, 0, 0⟩ : S58)⟩ : S60) )) (Reps.none _ _))))); intro v450 w27 ho28 hb hg_ hnew_; clear hg_ hnew_; (first | rw [← Ny449.out] at ho28 | (simp only [Int.reduceToNat] at ho28; rw [← Ny449.out] at ho28)); have HO451 := Aside0.mk (Kd.R_lower ho28 (below_size zb)); replace HB := (zs HB hb); clear hb ho28; obtain ⟨Ao29, co29, eo29⟩ := Kd.R_slice HO451.out; subst eo29) | ((with_reducible refine gate_callee (f := 25) rfl ?_); refine goesL_ (some 12) rfl rfl Tryd.func25 (by kernel_rfl) rfl #[.slice Ao29 y449.length co29, .int .i64 2] rfl zl ?_; (with_reducible refine (flow_Fold.calls k _ _ y449 2 t452 t455 _ ?side1 ?side2 A1.out).mono ?_); (case side1 => repeat (first | exact (Kd.R_reads' HO451.out).2.2 | (with_reducible refine Kd.C_alloc ?_ _) | (with_reducible refine Kd.C_drewN ?_ _) | (with_reducible refine Kd.C_drew ?_))); (case side2 => exact (Kd.R_reads' HO451.out).2.1); rintro e w30 ⟨v453, rfl, ho0, hb⟩; refine ⟨_, rfl, ?_⟩; have n0_ := (zR HO451 hb); have n1_ := Aside0.mk (Kd.N_lower (Kd.N_mono (ok' := fun k_ => some k_ ≠ (.slice Ao29 y449.length co29 : Value).ownBlock) ho0 (fun k_ hk_ => (Kd.fresh' (Kd.R_lt (zRa HO451)) k_ hk_))) (below_size zb)); have n2_ := (zs HB hb); clear HO451; clear HB; have HO451 := n0_; have HO454 := n1_; have HB := n2_; clear n0_ n1_ n2_; (try clear hb); (try clear hk); (try clear ho0); obtain ⟨Ao31, co31, eo31⟩ := Kd.N_slice HO454.out; subst eo31) | ((with_reducible refine gate_callee (f := 19) rfl ?_); refine goesL_ (some 17) rfl rfl Tryd.func19 (by kernel_rfl) rfl #[.slice Ao31 t452.length co31] rfl zl ?_; (with_reducible refine (flow_Letters.calls k _ _ t452 t456 t457 _ ?side1 ?side2 A2.out).mono ?_); (case side1 => repeat (first | exact (Kd.N_reads' HO454.out).2.2 | (with_reducible refine Kd.C_alloc ?_ _) | (with_reducible refine Kd.C_drewN ?_ _) | (with_reducible refine Kd.C_drew ?_))); (case side2 => exact (Kd.N_reads' HO454.out).2.1); rintro e w32 ⟨v458, rfl, ho0, hb⟩; refine ⟨_, rfl, ?_⟩; replace HO451 := (zR HO451 hb); replace HO454 := Aside0.mk (Kd.N_elder' (zNa HO454) (Kd.R_base ho0) hb); have HO459 := Aside0.mk (Kd.R_lower ho0 (below_size zb)); replace HB := (zs HB hb); (try clear hb); (try clear hk); (try clear ho0); have p460 : 0 ≤ (0 : Int) := (by omega); have q460 : 0 < (t452.length : Int) := of_decide_eq_true za; obtain ⟨ad460, A460_0, c460_0, e460, hx460_0, hx460_1, hl460_0, hi460_0⟩ := at_T38 (Kd.N_reads' HO454.out).2.2 0 p460 q460; (try rw [← Nbq7.out] at hx460_1); (try rw [← Nbq10.out] at hx460_1); cases e460; obtain ⟨ce460, hce460, hMe460, hcc460⟩ := Kd.N_get HO454.out z38 0 p460 (by first | exact q460 | exact of_decide_eq_true za | (have e_ := (Kd.N_reads' HO454.out).1; omega)); obtain ⟨ua460_0, uc460_0, rfl, ul460_0, ge460_0⟩ := k38_openF hMe460; have hv460_0 := hcc460 0 _ rfl; rw [Nat.add_zero] at hv460_0; replace hv460_0 := Option.some.inj (hv460_0.symm.trans hx460_0); injection hv460_0 with hva_ hvn_ hvc_; rw [hva_] at ge460_0; rw [hvc_] at ul460_0; have HL460_0 := Aside0.mk (show Kd.V k60 60 _ w.heap.size _ _ ((rd_T38 t452 0).f0) from Kd.V_mk ul460_0 ge460_0); clear hva_ hvn_ hvc_ ge460_0 ul460_0; clear hcc460 hce460; have qi460 : (0 < t452.length) = True := eq_true (by omega); (try rw [show ((0 : Int)).toNat = 0 from rfl] at hx460_0); (try rw [show 0 * 2 = 0 from rfl] at hx460_0); (try rw [Addr.add_zero'] at hx460_0); (try rw [show ((0 : Int)).toNat = 0 from rfl] at hx460_1); (try rw [show 0 * 2 = 0 from rfl] at hx460_1); (try rw [Addr.add_zero'] at hx460_1); have HR460_0 := Aside0.mk hi460_0; have HC460_0 := Aside0.mk hl460_0; clear hi460_0 hl460_0; replace p460 := eq_true p460; replace q460 := eq_true q460; have p461 : 0 ≤ (1 : Int) := (by omega); have q461 : 1 < (t452.length : Int) := of_decide_eq_true za; obtain ⟨ad461, A461_0, c461_0, e461, hx461_0, hx461_1, hl461_0, hi461_0⟩ := at_T38 (Kd.N_reads' HO454.out).2.2 1 p461 q461; (try rw [← Nbq7.out] at hx461_1); (try rw [← Nbq10.out] at hx461_1); obtain rfl : ad460 = ad461 := (by injection e461); obtain ⟨ce461, hce461, hMe461, hcc461⟩ := Kd.N_get HO454.out z38 1 p461 (by first | exact q461 | exact of_decide_eq_true za | (have e_ := (Kd.N_reads' HO454.out).1; omega)); obtain ⟨ua461_0, uc461_0, rfl, ul461_0, ge461_0⟩ := k38_openF hMe461; have hv461_0 := hcc461 0 _ rfl; rw [Nat.add_zero] at hv461_0; replace hv461_0 := Option.some.inj (hv461_0.symm.trans hx461_0); injection hv461_0 with hva_ hvn_ hvc_; rw [hva_] at ge461_0; rw [hvc_] at ul461_0; have HL461_0 := Aside0.mk (show Kd.V k60 60 _ w.heap.size _ _ ((rd_T38 t452 1).f0) from Kd.V_mk ul461_0 ge461_0); clear hva_ hvn_ hvc_ ge461_0 ul461_0; clear hcc461 hce461; (try simp only [show (1 : Int).toNat = 1 from rfl, Nat.reduceMul, Nat.reduceEqDiff, Go.Addr.add, ↓reduceIte] at hx461_0); (try simp only [show (1 : Int).toNat = 1 from rfl, Nat.reduceMul, Nat.reduceEqDiff, Go.Addr.add, ↓reduceIte] at hx461_1); have qi461 : (1 < t452.length) = True := eq_true (by omega); (try rw [show ((1 : Int)).toNat = 1 from rfl] at hx461_0); (try rw [show 1 * 2 = 2 from rfl] at hx461_0); (try rw [show ((1 : Int)).toNat = 1 from rfl] at hx461_1); (try rw [show 1 * 2 = 2 from rfl] at hx461_1); have HR461_0 := Aside0.mk hi461_0; have HC461_0 := Aside0.mk hl461_0; clear hi461_0 hl461_0; replace p461 := eq_true p461; replace q461 := eq_true q461; obtain ⟨Ao33, co33, eo33⟩ := Kd.R_slice HO459.out; subst eo33))
         go_ret
         exact ⟨ze, zb⟩
      ·rw [if_neg c9] at H
       exact absurd H (by simp)
     ·replace c8 := Bool.eq_false_iff.mpr c8
      subst c8
      have H1 : (some false) = some r := by rw [if_neg (show ¬ (false = true) by decide)] at H; exact H
      clear H
      have H := H1
      clear H1
      obtain rfl := Option.some.inj H
      go_enter Tryd.func20, Tryd.ntmps20
      go_wp2_with (first | ((with_reducible refine gate_dst (N := 9) rfl ?_); (try (refine gate_guard (by rfl) ?_; dsimp only)); refine Kd.R_lit k60 _ 60 ?hg (N := 9) ?hd (xs := ([(⟨(⟨#[97]⟩ : ByteArray), 1, (⟨0, 0, 0⟩ : S58)⟩ : S60), (⟨(⟨#[98]⟩ : ByteArray), 1, (⟨0, 0, 0⟩ : S58)⟩ : S60), (⟨(⟨#[99]⟩ : ByteArray), 1, (⟨0, 0, 0⟩ : S58)⟩ : S60)] : List (S60))) (inner := [.string (⟨#[97]⟩ : ByteArray), .int .i64 1, .int .i64 0, .int .i64 0, .int .i64 0, .string (⟨#[98]⟩ : ByteArray), .int .i64 1, .int .i64 0, .int .i64 0, .int .i64 0, .string (⟨#[99]⟩ : ByteArray), .int .i64 1, .int .i64 0, .int .i64 0, .int .i64 0]) (ok := fun _ => True) (okp := fun _ => True) ?hr ?hp (fun _ hk => hk) trivial (Below.refl _ _) (Nat.le_refl _) (by simp) ?_; (case hd => rfl); (case hg => rfl); (case hr => exact zo); (case hp => exact (Reps.c5 (show Kd.M k60 _ _ _ (⟨(⟨#[97]⟩ : ByteArray), 1, (⟨0, 0, 0⟩ : S58)⟩ : S60) [.string (⟨#[97]⟩ : ByteArray), .int .i64 1, .int .i64 0, .int .i64 0, .int .i64 0] from (k60_mkM _ _ _ (⟨(⟨#[97]⟩ : ByteArray), 1, (⟨0, 0, 0⟩ : S58)⟩ : S60) )) (Reps.c5 (show Kd.M k60 _ _ _ (⟨(⟨#[98]⟩ : ByteArray), 1, (⟨0, 0, 0⟩ : S58)⟩ : S60) [.string (⟨#[98]⟩ : ByteArray), .int .i64 1, .int .i64 0, .int .i64 0, .int .i64 0] from (k60_mkM _ _ _ (⟨(⟨#[98]⟩ : ByteArray), 1, (⟨0, 0, 0⟩ : S58)⟩ : S60) )) (Reps.c5 (show Kd.M k60 _ _ _ (⟨(⟨#[99]⟩ : ByteArray), 1, (⟨0, 0, 0⟩ : S58)⟩ : S60) [.string (⟨#[99]⟩ : ByteArray), .int .i64 1, .int .i64 0, .int .i64 0, .int .i64 0] from (k60_mkM _ _ _ (⟨(⟨#[99]⟩ : ByteArray), 1, (⟨0, 0, 0⟩ : S58)⟩ : S60) )) (Reps.none _ _))))); intro v450 w34 ho35 hb hg_ hnew_; clear hg_ hnew_; (first | rw [← Ny449.out] at ho35 | (simp only [Int.reduceToNat] at ho35; rw [← Ny449.out] at ho35)); have HO451 := Aside0.mk (Kd.R_lower ho35 (below_size zb)); replace HB := (zs HB hb); clear hb ho35; obtain ⟨Ao36, co36, eo36⟩ := Kd.R_slice HO451.out; subst eo36) | ((with_reducible refine gate_callee (f := 25) rfl ?_); refine goesL_ (some 12) rfl rfl Tryd.func25 (by kernel_rfl) rfl #[.slice Ao36 y449.length co36, .int .i64 2] rfl zl ?_; (with_reducible refine (flow_Fold.calls k _ _ y449 2 t452 t455 _ ?side1 ?side2 A1.out).mono ?_); (case side1 => repeat (first | exact (Kd.R_reads' HO451.out).2.2 | (with_reducible refine Kd.C_alloc ?_ _) | (with_reducible refine Kd.C_drewN ?_ _) | (with_reducible refine Kd.C_drew ?_))); (case side2 => exact (Kd.R_reads' HO451.out).2.1); rintro e w37 ⟨v453, rfl, ho0, hb⟩; refine ⟨_, rfl, ?_⟩; have n0_ := (zR HO451 hb); have n1_ := Aside0.mk (Kd.N_lower (Kd.N_mono (ok' := fun k_ => some k_ ≠ (.slice Ao36 y449.length co36 : Value).ownBlock) ho0 (fun k_ hk_ => (Kd.fresh' (Kd.R_lt (zRa HO451)) k_ hk_))) (below_size zb)); have n2_ := (zs HB hb); clear HO451; clear HB; have HO451 := n0_; have HO454 := n1_; have HB := n2_; clear n0_ n1_ n2_; (try clear hb); (try clear hk); (try clear ho0); obtain ⟨Ao38, co38, eo38⟩ := Kd.N_slice HO454.out; subst eo38) | ((with_reducible refine gate_callee (f := 19) rfl ?_); refine goesL_ (some 17) rfl rfl Tryd.func19 (by kernel_rfl) rfl #[.slice Ao38 t452.length co38] rfl zl ?_; (with_reducible refine (flow_Letters.calls k _ _ t452 t456 t457 _ ?side1 ?side2 A2.out).mono ?_); (case side1 => repeat (first | exact (Kd.N_reads' HO454.out).2.2 | (with_reducible refine Kd.C_alloc ?_ _) | (with_reducible refine Kd.C_drewN ?_ _) | (with_reducible refine Kd.C_drew ?_))); (case side2 => exact (Kd.N_reads' HO454.out).2.1); rintro e w39 ⟨v458, rfl, ho0, hb⟩; refine ⟨_, rfl, ?_⟩; replace HO451 := (zR HO451 hb); replace HO454 := Aside0.mk (Kd.N_elder' (zNa HO454) (Kd.R_base ho0) hb); have HO459 := Aside0.mk (Kd.R_lower ho0 (below_size zb)); replace HB := (zs HB hb); (try clear hb); (try clear hk); (try clear ho0); have p460 : 0 ≤ (0 : Int) := (by omega); have q460 : 0 < (t452.length : Int) := of_decide_eq_true za; obtain ⟨ad460, A460_0, c460_0, e460, hx460_0, hx460_1, hl460_0, hi460_0⟩ := at_T38 (Kd.N_reads' HO454.out).2.2 0 p460 q460; (try rw [← Nbq7.out] at hx460_1); cases e460; obtain ⟨ce460, hce460, hMe460, hcc460⟩ := Kd.N_get HO454.out z38 0 p460 (by first | exact q460 | exact of_decide_eq_true za | (have e_ := (Kd.N_reads' HO454.out).1; omega)); obtain ⟨ua460_0, uc460_0, rfl, ul460_0, ge460_0⟩ := k38_openF hMe460; have hv460_0 := hcc460 0 _ rfl; rw [Nat.add_zero] at hv460_0; replace hv460_0 := Option.some.inj (hv460_0.symm.trans hx460_0); injection hv460_0 with hva_ hvn_ hvc_; rw [hva_] at ge460_0; rw [hvc_] at ul460_0; have HL460_0 := Aside0.mk (show Kd.V k60 60 _ w.heap.size _ _ ((rd_T38 t452 0).f0) from Kd.V_mk ul460_0 ge460_0); clear hva_ hvn_ hvc_ ge460_0 ul460_0; clear hcc460 hce460; have qi460 : (0 < t452.length) = True := eq_true (by omega); (try rw [show ((0 : Int)).toNat = 0 from rfl] at hx460_0); (try rw [show 0 * 2 = 0 from rfl] at hx460_0); (try rw [Addr.add_zero'] at hx460_0); (try rw [show ((0 : Int)).toNat = 0 from rfl] at hx460_1); (try rw [show 0 * 2 = 0 from rfl] at hx460_1); (try rw [Addr.add_zero'] at hx460_1); have HR460_0 := Aside0.mk hi460_0; have HC460_0 := Aside0.mk hl460_0; clear hi460_0 hl460_0; replace p460 := eq_true p460; replace q460 := eq_true q460))
      go_ret
      exact ⟨ze, zb⟩
    ·rw [if_neg c6] at H
     exact absurd H (by simp)
   ·rw [if_neg c5] at H
    have c5b0 : ((t452.length : Int) == 2) = false := beq_eq_false_iff_ne.mpr c5
    have c5b1 : ((t452.length : Int) != 2) = true := bne_iff_ne.mpr c5
    obtain rfl := Option.some.inj H
    go_enter Tryd.func20, Tryd.ntmps20
    go_wp2_with (first | ((with_reducible refine gate_dst (N := 9) rfl ?_); (try (refine gate_guard (by rfl) ?_; dsimp only)); refine Kd.R_lit k60 _ 60 ?hg (N := 9) ?hd (xs := ([(⟨(⟨#[97]⟩ : ByteArray), 1, (⟨0, 0, 0⟩ : S58)⟩ : S60), (⟨(⟨#[98]⟩ : ByteArray), 1, (⟨0, 0, 0⟩ : S58)⟩ : S60), (⟨(⟨#[99]⟩ : ByteArray), 1, (⟨0, 0, 0⟩ : S58)⟩ : S60)] : List (S60))) (inner := [.string (⟨#[97]⟩ : ByteArray), .int .i64 1, .int .i64 0, .int .i64 0, .int .i64 0, .string (⟨#[98]⟩ : ByteArray), .int .i64 1, .int .i64 0, .int .i64 0, .int .i64 0, .string (⟨#[99]⟩ : ByteArray), .int .i64 1, .int .i64 0, .int .i64 0, .int .i64 0]) (ok := fun _ => True) (okp := fun _ => True) ?hr ?hp (fun _ hk => hk) trivial (Below.refl _ _) (Nat.le_refl _) (by simp) ?_; (case hd => rfl); (case hg => rfl); (case hr => exact zo); (case hp => exact (Reps.c5 (show Kd.M k60 _ _ _ (⟨(⟨#[97]⟩ : ByteArray), 1, (⟨0, 0, 0⟩ : S58)⟩ : S60) [.string (⟨#[97]⟩ : ByteArray), .int .i64 1, .int .i64 0, .int .i64 0, .int .i64 0] from (k60_mkM _ _ _ (⟨(⟨#[97]⟩ : ByteArray), 1, (⟨0, 0, 0⟩ : S58)⟩ : S60) )) (Reps.c5 (show Kd.M k60 _ _ _ (⟨(⟨#[98]⟩ : ByteArray), 1, (⟨0, 0, 0⟩ : S58)⟩ : S60) [.string (⟨#[98]⟩ : ByteArray), .int .i64 1, .int .i64 0, .int .i64 0, .int .i64 0] from (k60_mkM _ _ _ (⟨(⟨#[98]⟩ : ByteArray), 1, (⟨0, 0, 0⟩ : S58)⟩ : S60) )) (Reps.c5 (show Kd.M k60 _ _ _ (⟨(⟨#[99]⟩ : ByteArray), 1, (⟨0, 0, 0⟩ : S58)⟩ : S60) [.string (⟨#[99]⟩ : ByteArray), .int .i64 1, .int .i64 0, .int .i64 0, .int .i64 0] from (k60_mkM _ _ _ (⟨(⟨#[99]⟩ : ByteArray), 1, (⟨0, 0, 0⟩ : S58)⟩ : S60) )) (Reps.none _ _))))); intro v450 w40 ho41 hb hg_ hnew_; clear hg_ hnew_; (first | rw [← Ny449.out] at ho41 | (simp only [Int.reduceToNat] at ho41; rw [← Ny449.out] at ho41)); have HO451 := Aside0.mk (Kd.R_lower ho41 (below_size zb)); replace HB := (zs HB hb); clear hb ho41; obtain ⟨Ao42, co42, eo42⟩ := Kd.R_slice HO451.out; subst eo42) | ((with_reducible refine gate_callee (f := 25) rfl ?_); refine goesL_ (some 12) rfl rfl Tryd.func25 (by kernel_rfl) rfl #[.slice Ao42 y449.length co42, .int .i64 2] rfl zl ?_; (with_reducible refine (flow_Fold.calls k _ _ y449 2 t452 t455 _ ?side1 ?side2 A1.out).mono ?_); (case side1 => repeat (first | exact (Kd.R_reads' HO451.out).2.2 | (with_reducible refine Kd.C_alloc ?_ _) | (with_reducible refine Kd.C_drewN ?_ _) | (with_reducible refine Kd.C_drew ?_))); (case side2 => exact (Kd.R_reads' HO451.out).2.1); rintro e w43 ⟨v453, rfl, ho0, hb⟩; refine ⟨_, rfl, ?_⟩; have n0_ := (zR HO451 hb); have n1_ := Aside0.mk (Kd.N_lower (Kd.N_mono (ok' := fun k_ => some k_ ≠ (.slice Ao42 y449.length co42 : Value).ownBlock) ho0 (fun k_ hk_ => (Kd.fresh' (Kd.R_lt (zRa HO451)) k_ hk_))) (below_size zb)); have n2_ := (zs HB hb); clear HO451; clear HB; have HO451 := n0_; have HO454 := n1_; have HB := n2_; clear n0_ n1_ n2_; (try clear hb); (try clear hk); (try clear ho0); obtain ⟨Ao44, co44, eo44⟩ := Kd.N_slice HO454.out; subst eo44) | ((with_reducible refine gate_callee (f := 19) rfl ?_); refine goesL_ (some 17) rfl rfl Tryd.func19 (by kernel_rfl) rfl #[.slice Ao44 t452.length co44] rfl zl ?_; (with_reducible refine (flow_Letters.calls k _ _ t452 t456 t457 _ ?side1 ?side2 A2.out).mono ?_); (case side1 => repeat (first | exact (Kd.N_reads' HO454.out).2.2 | (with_reducible refine Kd.C_alloc ?_ _) | (with_reducible refine Kd.C_drewN ?_ _) | (with_reducible refine Kd.C_drew ?_))); (case side2 => exact (Kd.N_reads' HO454.out).2.1); rintro e w45 ⟨v458, rfl, ho0, hb⟩; refine ⟨_, rfl, ?_⟩; replace HO451 := (zR HO451 hb); replace HO454 := Aside0.mk (Kd.N_elder' (zNa HO454) (Kd.R_base ho0) hb); have HO459 := Aside0.mk (Kd.R_lower ho0 (below_size zb)); replace HB := (zs HB hb); (try clear hb); (try clear hk); (try clear ho0)))
    go_ret
    exact ⟨ze, zb⟩
  ·rw [if_neg c4] at H
   have c4b0 : (t457 == 0) = false := beq_eq_false_iff_ne.mpr c4
   have c4b1 : (t457 != 0) = true := bne_iff_ne.mpr c4
   obtain rfl := Option.some.inj H
   go_enter Tryd.func20, Tryd.ntmps20
   go_wp2_with (first | ((with_reducible refine gate_dst (N := 9) rfl ?_); (try (refine gate_guard (by rfl) ?_; dsimp only)); refine Kd.R_lit k60 _ 60 ?hg (N := 9) ?hd (xs := ([(⟨(⟨#[97]⟩ : ByteArray), 1, (⟨0, 0, 0⟩ : S58)⟩ : S60), (⟨(⟨#[98]⟩ : ByteArray), 1, (⟨0, 0, 0⟩ : S58)⟩ : S60), (⟨(⟨#[99]⟩ : ByteArray), 1, (⟨0, 0, 0⟩ : S58)⟩ : S60)] : List (S60))) (inner := [.string (⟨#[97]⟩ : ByteArray), .int .i64 1, .int .i64 0, .int .i64 0, .int .i64 0, .string (⟨#[98]⟩ : ByteArray), .int .i64 1, .int .i64 0, .int .i64 0, .int .i64 0, .string (⟨#[99]⟩ : ByteArray), .int .i64 1, .int .i64 0, .int .i64 0, .int .i64 0]) (ok := fun _ => True) (okp := fun _ => True) ?hr ?hp (fun _ hk => hk) trivial (Below.refl _ _) (Nat.le_refl _) (by simp) ?_; (case hd => rfl); (case hg => rfl); (case hr => exact zo); (case hp => exact (Reps.c5 (show Kd.M k60 _ _ _ (⟨(⟨#[97]⟩ : ByteArray), 1, (⟨0, 0, 0⟩ : S58)⟩ : S60) [.string (⟨#[97]⟩ : ByteArray), .int .i64 1, .int .i64 0, .int .i64 0, .int .i64 0] from (k60_mkM _ _ _ (⟨(⟨#[97]⟩ : ByteArray), 1, (⟨0, 0, 0⟩ : S58)⟩ : S60) )) (Reps.c5 (show Kd.M k60 _ _ _ (⟨(⟨#[98]⟩ : ByteArray), 1, (⟨0, 0, 0⟩ : S58)⟩ : S60) [.string (⟨#[98]⟩ : ByteArray), .int .i64 1, .int .i64 0, .int .i64 0, .int .i64 0] from (k60_mkM _ _ _ (⟨(⟨#[98]⟩ : ByteArray), 1, (⟨0, 0, 0⟩ : S58)⟩ : S60) )) (Reps.c5 (show Kd.M k60 _ _ _ (⟨(⟨#[99]⟩ : ByteArray), 1, (⟨0, 0, 0⟩ : S58)⟩ : S60) [.string (⟨#[99]⟩ : ByteArray), .int .i64 1, .int .i64 0, .int .i64 0, .int .i64 0] from (k60_mkM _ _ _ (⟨(⟨#[99]⟩ : ByteArray), 1, (⟨0, 0, 0⟩ : S58)⟩ : S60) )) (Reps.none _ _))))); intro v450 w46 ho47 hb hg_ hnew_; clear hg_ hnew_; (first | rw [← Ny449.out] at ho47 | (simp only [Int.reduceToNat] at ho47; rw [← Ny449.out] at ho47)); have HO451 := Aside0.mk (Kd.R_lower ho47 (below_size zb)); replace HB := (zs HB hb); clear hb ho47; obtain ⟨Ao48, co48, eo48⟩ := Kd.R_slice HO451.out; subst eo48) | ((with_reducible refine gate_callee (f := 25) rfl ?_); refine goesL_ (some 12) rfl rfl Tryd.func25 (by kernel_rfl) rfl #[.slice Ao48 y449.length co48, .int .i64 2] rfl zl ?_; (with_reducible refine (flow_Fold.calls k _ _ y449 2 t452 t455 _ ?side1 ?side2 A1.out).mono ?_); (case side1 => repeat (first | exact (Kd.R_reads' HO451.out).2.2 | (with_reducible refine Kd.C_alloc ?_ _) | (with_reducible refine Kd.C_drewN ?_ _) | (with_reducible refine Kd.C_drew ?_))); (case side2 => exact (Kd.R_reads' HO451.out).2.1); rintro e w49 ⟨v453, rfl, ho0, hb⟩; refine ⟨_, rfl, ?_⟩; have n0_ := (zR HO451 hb); have n1_ := Aside0.mk (Kd.N_lower (Kd.N_mono (ok' := fun k_ => some k_ ≠ (.slice Ao48 y449.length co48 : Value).ownBlock) ho0 (fun k_ hk_ => (Kd.fresh' (Kd.R_lt (zRa HO451)) k_ hk_))) (below_size zb)); have n2_ := (zs HB hb); clear HO451; clear HB; have HO451 := n0_; have HO454 := n1_; have HB := n2_; clear n0_ n1_ n2_; (try clear hb); (try clear hk); (try clear ho0); obtain ⟨Ao50, co50, eo50⟩ := Kd.N_slice HO454.out; subst eo50) | ((with_reducible refine gate_callee (f := 19) rfl ?_); refine goesL_ (some 17) rfl rfl Tryd.func19 (by kernel_rfl) rfl #[.slice Ao50 t452.length co50] rfl zl ?_; (with_reducible refine (flow_Letters.calls k _ _ t452 t456 t457 _ ?side1 ?side2 A2.out).mono ?_); (case side1 => repeat (first | exact (Kd.N_reads' HO454.out).2.2 | (with_reducible refine Kd.C_alloc ?_ _) | (with_reducible refine Kd.C_drewN ?_ _) | (with_reducible refine Kd.C_drew ?_))); (case side2 => exact (Kd.N_reads' HO454.out).2.1); rintro e w51 ⟨v458, rfl, ho0, hb⟩; refine ⟨_, rfl, ?_⟩; replace HO451 := (zR HO451 hb); replace HO454 := Aside0.mk (Kd.N_elder' (zNa HO454) (Kd.R_base ho0) hb); have HO459 := Aside0.mk (Kd.R_lower ho0 (below_size zb)); replace HB := (zs HB hb); (try clear hb); (try clear hk); (try clear ho0)))
   go_ret
   exact ⟨ze, zb⟩
 ·rw [if_neg c3] at H
  have c3b0 : (t455 == 0) = false := beq_eq_false_iff_ne.mpr c3
  have c3b1 : (t455 != 0) = true := bne_iff_ne.mpr c3
  obtain rfl := Option.some.inj H
  go_enter Tryd.func20, Tryd.ntmps20
  go_wp2_with (first | ((with_reducible refine gate_dst (N := 9) rfl ?_); (try (refine gate_guard (by rfl) ?_; dsimp only)); refine Kd.R_lit k60 _ 60 ?hg (N := 9) ?hd (xs := ([(⟨(⟨#[97]⟩ : ByteArray), 1, (⟨0, 0, 0⟩ : S58)⟩ : S60), (⟨(⟨#[98]⟩ : ByteArray), 1, (⟨0, 0, 0⟩ : S58)⟩ : S60), (⟨(⟨#[99]⟩ : ByteArray), 1, (⟨0, 0, 0⟩ : S58)⟩ : S60)] : List (S60))) (inner := [.string (⟨#[97]⟩ : ByteArray), .int .i64 1, .int .i64 0, .int .i64 0, .int .i64 0, .string (⟨#[98]⟩ : ByteArray), .int .i64 1, .int .i64 0, .int .i64 0, .int .i64 0, .string (⟨#[99]⟩ : ByteArray), .int .i64 1, .int .i64 0, .int .i64 0, .int .i64 0]) (ok := fun _ => True) (okp := fun _ => True) ?hr ?hp (fun _ hk => hk) trivial (Below.refl _ _) (Nat.le_refl _) (by simp) ?_; (case hd => rfl); (case hg => rfl); (case hr => exact zo); (case hp => exact (Reps.c5 (show Kd.M k60 _ _ _ (⟨(⟨#[97]⟩ : ByteArray), 1, (⟨0, 0, 0⟩ : S58)⟩ : S60) [.string (⟨#[97]⟩ : ByteArray), .int .i64 1, .int .i64 0, .int .i64 0, .int .i64 0] from (k60_mkM _ _ _ (⟨(⟨#[97]⟩ : ByteArray), 1, (⟨0, 0, 0⟩ : S58)⟩ : S60) )) (Reps.c5 (show Kd.M k60 _ _ _ (⟨(⟨#[98]⟩ : ByteArray), 1, (⟨0, 0, 0⟩ : S58)⟩ : S60) [.string (⟨#[98]⟩ : ByteArray), .int .i64 1, .int .i64 0, .int .i64 0, .int .i64 0] from (k60_mkM _ _ _ (⟨(⟨#[98]⟩ : ByteArray), 1, (⟨0, 0, 0⟩ : S58)⟩ : S60) )) (Reps.c5 (show Kd.M k60 _ _ _ (⟨(⟨#[99]⟩ : ByteArray), 1, (⟨0, 0, 0⟩ : S58)⟩ : S60) [.string (⟨#[99]⟩ : ByteArray), .int .i64 1, .int .i64 0, .int .i64 0, .int .i64 0] from (k60_mkM _ _ _ (⟨(⟨#[99]⟩ : ByteArray), 1, (⟨0, 0, 0⟩ : S58)⟩ : S60) )) (Reps.none _ _))))); intro v450 w52 ho53 hb hg_ hnew_; clear hg_ hnew_; (first | rw [← Ny449.out] at ho53 | (simp only [Int.reduceToNat] at ho53; rw [← Ny449.out] at ho53)); have HO451 := Aside0.mk (Kd.R_lower ho53 (below_size zb)); replace HB := (zs HB hb); clear hb ho53; obtain ⟨Ao54, co54, eo54⟩ := Kd.R_slice HO451.out; subst eo54) | ((with_reducible refine gate_callee (f := 25) rfl ?_); refine goesL_ (some 12) rfl rfl Tryd.func25 (by kernel_rfl) rfl #[.slice Ao54 y449.length co54, .int .i64 2] rfl zl ?_; (with_reducible refine (flow_Fold.calls k _ _ y449 2 t452 t455 _ ?side1 ?side2 A1.out).mono ?_); (case side1 => repeat (first | exact (Kd.R_reads' HO451.out).2.2 | (with_reducible refine Kd.C_alloc ?_ _) | (with_reducible refine Kd.C_drewN ?_ _) | (with_reducible refine Kd.C_drew ?_))); (case side2 => exact (Kd.R_reads' HO451.out).2.1); rintro e w55 ⟨v453, rfl, ho0, hb⟩; refine ⟨_, rfl, ?_⟩; have n0_ := (zR HO451 hb); have n1_ := Aside0.mk (Kd.N_lower (Kd.N_mono (ok' := fun k_ => some k_ ≠ (.slice Ao54 y449.length co54 : Value).ownBlock) ho0 (fun k_ hk_ => (Kd.fresh' (Kd.R_lt (zRa HO451)) k_ hk_))) (below_size zb)); have n2_ := (zs HB hb); clear HO451; clear HB; have HO451 := n0_; have HO454 := n1_; have HB := n2_; clear n0_ n1_ n2_; (try clear hb); (try clear hk); (try clear ho0); obtain ⟨Ao56, co56, eo56⟩ := Kd.N_slice HO454.out; subst eo56) | ((with_reducible refine gate_callee (f := 19) rfl ?_); refine goesL_ (some 17) rfl rfl Tryd.func19 (by kernel_rfl) rfl #[.slice Ao56 t452.length co56] rfl zl ?_; (with_reducible refine (flow_Letters.calls k _ _ t452 t456 t457 _ ?side1 ?side2 A2.out).mono ?_); (case side1 => repeat (first | exact (Kd.N_reads' HO454.out).2.2 | (with_reducible refine Kd.C_alloc ?_ _) | (with_reducible refine Kd.C_drewN ?_ _) | (with_reducible refine Kd.C_drew ?_))); (case side2 => exact (Kd.N_reads' HO454.out).2.1); rintro e w57 ⟨v458, rfl, ho0, hb⟩; refine ⟨_, rfl, ?_⟩; replace HO451 := (zR HO451 hb); replace HO454 := Aside0.mk (Kd.N_elder' (zNa HO454) (Kd.R_base ho0) hb); have HO459 := Aside0.mk (Kd.R_lower ho0 (below_size zb)); replace HB := (zs HB hb); (try clear hb); (try clear hk); (try clear ho0)))
  go_ret
  exact ⟨ze, zb⟩
end Go.Proofs.YtckkdaehmccjlaaDoor.P
