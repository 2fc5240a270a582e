/- Texts of this session put together by a program, part 3: Px73, Ev, PFirst, PBeg, PSame, PFst, PWidth, PCell, PMay, Px24, PRow, Px45, PJoins, PFolds, PAlive8, PureFlowFolds, FlowFoldsRow. -/
import Derived.Test.YtckkdaehmccjlaaDoorFOm2
import Derived.Laws.Strings
import Derived.Lib.TrimU
import Derived.Shelf.Unicode.DecodeLastEight
import Derived.KernelRfl
import Derived.Test.YtckkdaehmccjlaaDoorRows
import Derived.Test.YtckkdaehmccjlaaDoorCards
import Derived.Test.YtckkdaehmccjlaaDoorTie
import Derived.WalkKit
import Derived.ProofKit
import Derived.ChangeOld
import Derived.Below
import Derived.PinnedBridge
import Derived.Lay
import Derived.LaidOnce
import Derived.Lib.LaidU8
import Derived.SevenTiedAt
namespace Go.Proofs.YtckkdaehmccjlaaDoor.P
open Go.RowKit Go.Proofs.YtckkdaehmccjlaaDoorW.PrintWords Go.Proofs.YtckkdaehmccjlaaDoorW.PrintLast Go.Proofs.YtckkdaehmccjlaaDoorW.PrintMore
attribute [local go_sem] max2_int min2_int max_two min_two max_three min_three max_four min_four   -- for this text's walks alone
set_option linter.unusedVariables false
set_option linter.unusedSimpArgs false
mutual
def backseatlaw08_FlowFolds.j0 : Nat → List (S60) → List (S38) → Int → List (S38) → Int → List (S38) → Int → Bool → Option (Bool)
 | 0, _, _, _, _, _, _, _, _ => none
 | k + 1, x0, x1, x2, x7, x8, x9, x10, x11 => if x11 = true then ((backseatref06_Fits.f k x0 false (x0.length : Int)).bind fun t613 => (backseatlaw08_FlowFolds.j1 k x0 x1 x2 x7 x8 x9 x10 x11 t613)) else (backseatlaw08_FlowFolds.j1 k x0 x1 x2 x7 x8 x9 x10 x11 false)
def backseatlaw08_FlowFolds.j1 : Nat → List (S60) → List (S38) → Int → List (S38) → Int → List (S38) → Int → Bool → Bool → Option (Bool)
 | 0, _, _, _, _, _, _, _, _, _ => none
 | k + 1, x0, x1, x2, x7, x8, x9, x10, x11, x41 => if x41 = true then (if x8 = 0 then ((backseatref08_Fold.f k x0 x2).bind fun t614 => ((backseatref06_Same.f k x7 t614).bind fun t617 => (if t617 = true then (backseatlaw08_FlowFolds.j2 k x1 x2 x9 x10 x11) else (some false)))) else (some false)) else (if x8 = 1 then (if (x7.length : Int) = 0 then (backseatlaw08_FlowFolds.j2 k x1 x2 x9 x10 x11) else (some false)) else (some false))
def backseatlaw08_FlowFolds.j2 : Nat → List (S38) → Int → List (S38) → Int → Bool → Option (Bool)
 | 0, _, _, _, _, _ => none
 | k + 1, x1, x2, x9, x10, x11 => if x11 = true then ((backseatref08_May.f k x1).bind fun t618 => (backseatlaw08_FlowFolds.j3 k x1 x2 x9 x10 (!t618))) else (backseatlaw08_FlowFolds.j3 k x1 x2 x9 x10 true)
def backseatlaw08_FlowFolds.j3 : Nat → List (S38) → Int → List (S38) → Int → Bool → Option (Bool)
 | 0, _, _, _, _, _ => none
 | k + 1, x1, x2, x9, x10, x65 => if x65 = true then ((backseatlaw08_alive.f k).bind fun t619 => (if t619 = true then (if x10 = 1 then (some ((x9.length : Int) == 0)) else (some false)) else (some false))) else ((backseatlaw08_alive.f k).bind fun t620 => (if t620 = true then (if x10 = 0 then ((backseatref08_Flow.f k x1 x2).bind fun t621 => ((backseatref06_Same.f k x9 t621).bind fun t624 => (some t624))) else (some false)) else (some false)))
end
def backseatlaw08_FlowFolds.f (k : Nat) (l0 : List (S60)) (l1 : List (S38)) (a2 : Int) : Option (Bool) := (backseatlaw08_cells.f k l0 200).bind fun t599 => ((backseatlaw08_few.f k l1).bind fun t602 => ((flow_Fold.f k t599 a2).bind fun bt605 => ((flow_Flow.f k t602 a2).bind fun bt609 => (if a2 ≥ 1 then (backseatlaw08_FlowFolds.j0 k t599 t602 a2 bt605.1 bt605.2 bt609.1 bt609.2 (decide (a2 ≤ 80))) else (backseatlaw08_FlowFolds.j0 k t599 t602 a2 bt605.1 bt605.2 bt609.1 bt609.2 false)))))
set_option maxHeartbeats 8000000 in
set_option maxRecDepth 100000 in
theorem backseatlaw08_FlowFolds.calls (k : Nat) (A0 : Option Addr) (c0 : Nat) (l0 : List (S60)) (A1 : Option Addr) (c1 : Nat) (l1 : List (S38)) (a2 : Int) (r : Bool) (w : World) (hr0 : Kd.C k60 w A0 l0.length l0) (hc0 : l0.length ≤ c0) (hr1 : Kd.C k38 w A1 l1.length l1) (hc1 : l1.length ≤ c1) (h : backseatlaw08_FlowFolds.f k l0 l1 a2 = some r) (hT : Tabs w := by first | exact Aside0.out (by with_reducible assumption) | exact Tabs.keepA (by with_reducible assumption) (by repeat (first | (with_reducible exact Aside0.out (by with_reducible assumption)) | (with_reducible apply below_alloc) | (with_reducible apply pw_below_drewN) | (with_reducible apply below_drew1) | (with_reducible refine below_set ?_ (Aside0.out (by with_reducible assumption)))))) :
  Calls Tryd.prog 6 #[.slice A0 l0.length c0, .slice A1 l1.length c1, .int .i64 a2] w fun e w' => e = .returned (.bool r) ∧ Below w.heap.size w w' := by
 have HT := Aside0.mk (show Tabs w from hT)
 clear hT
 have hu38 := Tryd.underlying38
 have HR0 := Aside0.mk hr0
 have HC0 := Aside0.mk hc0
 clear hr0 hc0
 have HR1 := Aside0.mk hr1
 have HC1 := Aside0.mk hc1
 clear hr1 hc1
 have HB := Aside0.mk (Below.refl w.heap.size w)
 have H : ((backseatlaw08_cells.f k l0 200).bind fun t599 => ((backseatlaw08_few.f k l1).bind fun t602 => ((flow_Fold.f k t599 a2).bind fun bt605 => ((flow_Flow.f k t602 a2).bind fun bt609 => (if a2 ≥ 1 then (backseatlaw08_FlowFolds.j0 k t599 t602 a2 bt605.1 bt605.2 bt609.1 bt609.2 (decide (a2 ≤ 80))) else (backseatlaw08_FlowFolds.j0 k t599 t602 a2 bt605.1 bt605.2 bt609.1 bt609.2 false)))))) = some r := h
 clear h
 replace H := Option.bind_eq_some_iff.mp H
 obtain ⟨t599, A40, H⟩ := H
 replace H : ((backseatlaw08_few.f k l1).bind fun t602 => ((flow_Fold.f k t599 a2).bind fun bt605 => ((flow_Flow.f k t602 a2).bind fun bt609 => (if a2 ≥ 1 then (backseatlaw08_FlowFolds.j0 k t599 t602 a2 bt605.1 bt605.2 bt609.1 bt609.2 (decide (a2 ≤ 80))) else (backseatlaw08_FlowFolds.j0 k t599 t602 a2 bt605.1 bt605.2 bt609.1 bt609.2 false))))) = some r := H
 have A4 := Aside0.mk A40
 clear A40
 replace H := Option.bind_eq_some_iff.mp H
 obtain ⟨t602, A50, H⟩ := H
 replace H : ((flow_Fold.f k t599 a2).bind fun bt605 => ((flow_Flow.f k t602 a2).bind fun bt609 => (if a2 ≥ 1 then (backseatlaw08_FlowFolds.j0 k t599 t602 a2 bt605.1 bt605.2 bt609.1 bt609.2 (decide (a2 ≤ 80))) else (backseatlaw08_FlowFolds.j0 k t599 t602 a2 bt605.1 bt605.2 bt609.1 bt609.2 false)))) = some r := H
 have A5 := Aside0.mk A50
 clear A50
 replace H := Option.bind_eq_some_iff.mp H
 obtain ⟨⟨t605, t608⟩, A60, H⟩ := H
 replace H : ((flow_Flow.f k t602 a2).bind fun bt609 => (if a2 ≥ 1 then (backseatlaw08_FlowFolds.j0 k t599 t602 a2 t605 t608 bt609.1 bt609.2 (decide (a2 ≤ 80))) else (backseatlaw08_FlowFolds.j0 k t599 t602 a2 t605 t608 bt609.1 bt609.2 false))) = some r := H
 have A6 := Aside0.mk A60
 clear A60
 replace H := Option.bind_eq_some_iff.mp H
 obtain ⟨⟨t609, t612⟩, A70, H⟩ := H
 replace H : (if a2 ≥ 1 then (backseatlaw08_FlowFolds.j0 k t599 t602 a2 t605 t608 t609 t612 (decide (a2 ≤ 80))) else (backseatlaw08_FlowFolds.j0 k t599 t602 a2 t605 t608 t609 t612 false)) = some r := H
 have A7 := Aside0.mk A70
 clear A70
 have HC8 := Aside0.mk H
 clear H
 go_enter Tryd.func6, Tryd.ntmps6
 go_upto_region 4 with (first | ((with_reducible refine gate_callee (f := 24) rfl ?_); refine goesL_ (some 13) rfl rfl Tryd.func24 (by kernel_rfl) rfl #[.slice A0 l0.length c0, .int .i64 200] rfl zl ?_; (with_reducible refine (backseatlaw08_cells.calls k _ _ l0 200 t599 _ ?side1 ?side2 A4.out).mono ?_); (case side1 => repeat (first | exact HR0.out | (with_reducible refine Kd.C_alloc ?_ _) | (with_reducible refine Kd.C_drewN ?_ _) | (with_reducible refine Kd.C_drew ?_))); (case side2 => exact HC0.out); rintro e w9 ⟨v600, rfl, ho0, hb⟩; refine ⟨_, rfl, ?_⟩; have HO601 := Aside0.mk (Kd.R_lower ho0 (below_size zb)); replace HB := (zs HB hb); (try clear hb); (try clear ho0)) | ((with_reducible refine gate_callee (f := 17) rfl ?_); refine goesL_ (some 15) rfl rfl Tryd.func17 (by kernel_rfl) rfl #[.slice A1 l1.length c1] rfl zl ?_; (with_reducible refine (backseatlaw08_few.calls k _ _ l1 t602 _ ?side1 ?side2 A5.out).mono ?_); (case side1 => repeat (first | exact (Kd.C_below HR1.out HB.out) | (with_reducible refine Kd.C_alloc ?_ _) | (with_reducible refine Kd.C_drewN ?_ _) | (with_reducible refine Kd.C_drew ?_))); (case side2 => exact HC1.out); rintro e w10 ⟨v603, rfl, ho0, hb⟩; refine ⟨_, rfl, ?_⟩; have n0_ := (zR HO601 hb); have n1_ := Aside0.mk (Kd.N_lower (Kd.N_mono (ok' := fun k_ => some k_ ≠ (v600 : Value).ownBlock) (Kd.S_N (Kd.S_bound ho0)) (fun k_ hk_ => (Kd.fresh' (Kd.R_lt (zRa HO601)) k_ hk_.2.1))) (below_size zb)); have n2_ := (zs HB hb); clear HO601; clear HB; have HO601 := n0_; have HO604 := n1_; have HB := n2_; clear n0_ n1_ n2_; (try clear hb); (try clear ho0); obtain ⟨Ao11, co11, eo11⟩ := Kd.R_slice HO601.out; subst eo11) | ((with_reducible refine gate_callee (f := 25) rfl ?_); refine goesL_ (some 19) rfl rfl Tryd.func25 (by kernel_rfl) rfl #[.slice Ao11 t599.length co11, .int .i64 a2] rfl zl ?_; (with_reducible refine (flow_Fold.calls k _ _ t599 a2 t605 t608 _ ?side1 ?side2 A6.out).mono ?_); (case side1 => repeat (first | exact (Kd.R_reads' HO601.out).2.2 | (with_reducible refine Kd.C_alloc ?_ _) | (with_reducible refine Kd.C_drewN ?_ _) | (with_reducible refine Kd.C_drew ?_))); (case side2 => exact (Kd.R_reads' HO601.out).2.1); rintro e w12 ⟨v606, rfl, ho0, hb⟩; refine ⟨_, rfl, ?_⟩; have n0_ := (zR HO601 hb); have n1_ := Aside0.mk (Kd.N_elder' (zNa HO604) (by first | exact Kd.N_base ho0 | exact Kd.S_base ho0) hb); have n2_ := Aside0.mk (Kd.N_lower (Kd.N_mono (ok' := fun k_ => some k_ ≠ (.slice Ao11 t599.length co11 : Value).ownBlock ∧ some k_ ≠ (v603 : Value).ownBlock) ho0 (fun k_ hk_ => ⟨(Kd.fresh' (Kd.R_lt (zRa HO601)) k_ hk_), (Kd.fresh' (Kd.N_lt (zNa HO604)) k_ hk_)⟩)) (below_size zb)); have n3_ := (zs HB hb); clear HO601; clear HO604; clear HB; have HO601 := n0_; have HO604 := n1_; have HO607 := n2_; have HB := n3_; clear n0_ n1_ n2_ n3_; (try clear hb); (try clear ho0); obtain ⟨Ao13, co13, eo13⟩ := Kd.N_slice HO604.out; subst eo13) | ((with_reducible refine gate_callee (f := 26) rfl ?_); refine goesL_ (some 25) rfl rfl Tryd.func26 (by kernel_rfl) rfl #[.slice Ao13 t602.length co13, .int .i64 a2] rfl zl ?_; (with_reducible refine (flow_Flow.calls k _ _ t602 a2 t609 t612 _ ?side1 ?side2 A7.out).mono ?_); (case side1 => repeat (first | exact (Kd.N_reads' HO604.out).2.2 | (with_reducible refine Kd.C_alloc ?_ _) | (with_reducible refine Kd.C_drewN ?_ _) | (with_reducible refine Kd.C_drew ?_))); (case side2 => exact (Kd.N_reads' HO604.out).2.1); rintro e w14 ⟨v610, rfl, ho0, hb⟩; refine ⟨_, rfl, ?_⟩; have n0_ := (zR HO601 hb); have n1_ := Aside0.mk (Kd.N_elder' (zNa HO604) (by first | exact Kd.N_base ho0 | exact Kd.S_base ho0) hb); have n2_ := Aside0.mk (Kd.N_elder' (zNa HO607) (by first | exact Kd.N_base ho0 | exact Kd.S_base ho0) hb); have n3_ := Aside0.mk (Kd.N_lower (Kd.N_mono (ok' := fun k_ => some k_ ≠ (.slice Ao11 t599.length co11 : Value).ownBlock ∧ some k_ ≠ (.slice Ao13 t602.length co13 : Value).ownBlock ∧ some k_ ≠ (v606 : Value).ownBlock) ho0 (fun k_ hk_ => ⟨(Kd.fresh' (Kd.R_lt (zRa HO601)) k_ hk_), (Kd.fresh' (Kd.N_lt (zNa HO604)) k_ hk_), (Kd.fresh' (Kd.N_lt (zNa HO607)) k_ hk_)⟩)) (below_size zb)); have n4_ := (zs HB hb); clear HO601; clear HO604; clear HO607; clear HB; have HO601 := n0_; have HO604 := n1_; have HO607 := n2_; have HO611 := n3_; have HB := n4_; clear n0_ n1_ n2_ n3_ n4_; (try clear hb); (try clear ho0)))
 (try simp only [Act.put, List.setIfInBounds_toArray, List.set_cons_zero, List.set_cons_succ])
 go_cut [11] (fun v11 wc => ∃ (kq : Nat) (x11_7 : Bool), v11 = .bool x11_7 ∧ Aside0 (backseatlaw08_FlowFolds.j0 kq t599 t602 a2 t605 t608 t609 t612 x11_7 = some r) ∧ Aside0 (kq ≤ k) ∧ Aside0 (Kd.R k60 60 wc w.heap.size (fun _ => True) (.slice Ao11 t599.length co11) t599) ∧ Aside0 (Kd.N k38 38 wc w.heap.size (fun k_ => some k_ ≠ ((.slice Ao11 t599.length co11) : Value).ownBlock ∧ some k_ ≠ (v606 : Value).ownBlock ∧ some k_ ≠ (v610 : Value).ownBlock) (.slice Ao13 t602.length co13) t602) ∧ Aside0 (Kd.N k38 38 wc w.heap.size (fun k_ => some k_ ≠ ((.slice Ao11 t599.length co11) : Value).ownBlock ∧ some k_ ≠ ((.slice Ao13 t602.length co13) : Value).ownBlock ∧ some k_ ≠ (v610 : Value).ownBlock) v606 t605) ∧ Aside0 (Kd.N k38 38 wc w.heap.size (fun k_ => some k_ ≠ ((.slice Ao11 t599.length co11) : Value).ownBlock ∧ some k_ ≠ ((.slice Ao13 t602.length co13) : Value).ownBlock ∧ some k_ ≠ (v606 : Value).ownBlock) v610 t609) ∧ Aside0 (Below w.heap.size w wc))
 case first =>
  have H := HC8.out
  clear HC8
  by_cases c15 : a2 ≥ 1
  ·rw [if_pos c15] at H
   have c15b0 : decide (1 ≤ a2) = true := decide_eq_true c15
   clear c15
   (first | rw [c15b0] | (simp only [i64_w, i32_w]; rw [c15b0]) | skip)
   have H' := Aside0.mk H
   clear H
   go_wp2
   go_meet
   case rel => exact ⟨_, (decide (a2 ≤ 80)), zf, H', ⟨by first | omega | exact Nat.le_refl _⟩, ⟨by (with_reducible repeat (first | apply Kd.R_alloc | apply Kd.R_drewN | apply Kd.R_drew)); exact HO601.out⟩, ⟨by (with_reducible repeat (first | apply Kd.N_alloc | apply Kd.N_drewN | apply Kd.N_drew)); exact Kd.N_mono HO604.out (fun _ hk => ⟨hk.1.1, ⟨hk.1.2, hk.2⟩⟩)⟩, ⟨by (with_reducible repeat (first | apply Kd.N_alloc | apply Kd.N_drewN | apply Kd.N_drew)); exact Kd.N_mono HO607.out (fun _ hk => ⟨hk.1.1, ⟨hk.1.2, hk.2⟩⟩)⟩, ⟨by (with_reducible repeat (first | apply Kd.N_alloc | apply Kd.N_drewN | apply Kd.N_drew)); exact HO611.out⟩, ⟨zb⟩⟩
  ·rw [if_neg c15] at H
   have c15b0 : decide (1 ≤ a2) = false := decide_eq_false c15
   clear c15
   (first | rw [c15b0] | (simp only [i64_w, i32_w]; rw [c15b0]) | skip)
   have H' := Aside0.mk H
   clear H
   go_wp2
   go_meet
   case rel => exact ⟨_, (false), zf, H', ⟨by first | omega | exact Nat.le_refl _⟩, ⟨by (with_reducible repeat (first | apply Kd.R_alloc | apply Kd.R_drewN | apply Kd.R_drew)); exact HO601.out⟩, ⟨by (with_reducible repeat (first | apply Kd.N_alloc | apply Kd.N_drewN | apply Kd.N_drew)); exact Kd.N_mono HO604.out (fun _ hk => ⟨hk.1.1, ⟨hk.1.2, hk.2⟩⟩)⟩, ⟨by (with_reducible repeat (first | apply Kd.N_alloc | apply Kd.N_drewN | apply Kd.N_drew)); exact Kd.N_mono HO607.out (fun _ hk => ⟨hk.1.1, ⟨hk.1.2, hk.2⟩⟩)⟩, ⟨by (with_reducible repeat (first | apply Kd.N_alloc | apply Kd.N_drewN | apply Kd.N_drew)); exact HO611.out⟩, ⟨zb⟩⟩
 case rest =>
  clear HC8
  try clear c1
  obtain ⟨kq, x11_7, rfl, HA, HJ7, HO_0, HO_1, HO_7, HO_9, HB⟩ := hcut
  cases kq with
  | zero => exact absurd HA.out (by simp [backseatlaw08_FlowFolds.j0])
  | succ kj7 =>
   have H := HA.out
   clear HA
   simp only [backseatlaw08_FlowFolds.j0] at H
   have HC16 := Aside0.mk H
   clear H
   go_upto_region 5 with (fail)
   go_cut [41] (fun v41 wc => ∃ (kq : Nat) (x41_15 : Bool), v41 = .bool x41_15 ∧ Aside0 (backseatlaw08_FlowFolds.j1 kq t599 t602 a2 t605 t608 t609 t612 x11_7 x41_15 = some r) ∧ Aside0 (kq ≤ kj7) ∧ Aside0 (Kd.R k60 60 wc w.heap.size (fun _ => True) (.slice Ao11 t599.length co11) t599) ∧ Aside0 (Kd.N k38 38 wc w.heap.size (fun k_ => some k_ ≠ ((.slice Ao11 t599.length co11) : Value).ownBlock ∧ some k_ ≠ (v606 : Value).ownBlock ∧ some k_ ≠ (v610 : Value).ownBlock) (.slice Ao13 t602.length co13) t602) ∧ Aside0 (Kd.N k38 38 wc w.heap.size (fun k_ => some k_ ≠ ((.slice Ao11 t599.length co11) : Value).ownBlock ∧ some k_ ≠ ((.slice Ao13 t602.length co13) : Value).ownBlock ∧ some k_ ≠ (v610 : Value).ownBlock) v606 t605) ∧ Aside0 (Kd.N k38 38 wc w.heap.size (fun k_ => some k_ ≠ ((.slice Ao11 t599.length co11) : Value).ownBlock ∧ some k_ ≠ ((.slice Ao13 t602.length co13) : Value).ownBlock ∧ some k_ ≠ (v606 : Value).ownBlock) v610 t609) ∧ Aside0 (Below w.heap.size w wc))
   case first =>
    have H := HC16.out
    clear HC16
    by_cases c17 : x11_7 = true
    ·subst c17
     have H1 : ((backseatref06_Fits.f kj7 t599 false (t599.length : Int)).bind fun t613 => (backseatlaw08_FlowFolds.j1 kj7 t599 t602 a2 t605 t608 t609 t612 true t613)) = some r := by rw [if_pos rfl] at H; exact H
     clear H
     have H := H1
     clear H1
     replace H := Option.bind_eq_some_iff.mp H
     obtain ⟨t613, A180, H⟩ := H
     replace H : (backseatlaw08_FlowFolds.j1 kj7 t599 t602 a2 t605 t608 t609 t612 true t613) = some r := H
     have A18 := Aside0.mk A180
     clear A180
     have H' := Aside0.mk H
     clear H
     go_wp2_with (first | (go_at_call 27; (with_reducible refine (backseatref06_Fits.calls kj7 _ _ t599 false (t599.length : Int) t613 _ ?side1 ?side2 A18.out).mono ?_); (case side1 => repeat (first | exact (Kd.R_reads' HO_0.out).2.2 | (with_reducible refine Kd.C_alloc ?_ _) | (with_reducible refine Kd.C_drewN ?_ _) | (with_reducible refine Kd.C_drew ?_))); (case side2 => exact (Kd.R_reads' HO_0.out).2.1); rintro e w19 ⟨rfl, hb⟩; replace HO_0 := (zR HO_0 hb); replace HO_1 := (zN HO_1 hb); replace HO_7 := (zN HO_7 hb); replace HO_9 := (zN HO_9 hb); replace HB := (zs HB hb); (try clear hb)))
     go_meet
     case rel => exact ⟨_, (t613), zf, H', ⟨by have := HJ7.out; first | omega | exact Nat.le_refl _⟩, ⟨by (with_reducible repeat (first | apply Kd.R_alloc | apply Kd.R_drewN | apply Kd.R_drew)); exact HO_0.out⟩, ⟨by (with_reducible repeat (first | apply Kd.N_alloc | apply Kd.N_drewN | apply Kd.N_drew)); exact HO_1.out⟩, ⟨by (with_reducible repeat (first | apply Kd.N_alloc | apply Kd.N_drewN | apply Kd.N_drew)); exact HO_7.out⟩, ⟨by (with_reducible repeat (first | apply Kd.N_alloc | apply Kd.N_drewN | apply Kd.N_drew)); exact HO_9.out⟩, ⟨zb⟩⟩
    ·replace c17 := Bool.eq_false_iff.mpr c17
     subst c17
     have H1 : (backseatlaw08_FlowFolds.j1 kj7 t599 t602 a2 t605 t608 t609 t612 false false) = some r := by rw [if_neg (show ¬ (false = true) by decide)] at H; exact H
     clear H
     have H := H1
     clear H1
     have H' := Aside0.mk H
     clear H
     go_wp2
     go_meet
     case rel => exact ⟨_, (false), zf, H', ⟨by have := HJ7.out; first | omega | exact Nat.le_refl _⟩, ⟨by (with_reducible repeat (first | apply Kd.R_alloc | apply Kd.R_drewN | apply Kd.R_drew)); exact HO_0.out⟩, ⟨by (with_reducible repeat (first | apply Kd.N_alloc | apply Kd.N_drewN | apply Kd.N_drew)); exact HO_1.out⟩, ⟨by (with_reducible repeat (first | apply Kd.N_alloc | apply Kd.N_drewN | apply Kd.N_drew)); exact HO_7.out⟩, ⟨by (with_reducible repeat (first | apply Kd.N_alloc | apply Kd.N_drewN | apply Kd.N_drew)); exact HO_9.out⟩, ⟨zb⟩⟩
   case rest =>
    clear HC16
    try clear c1
    obtain ⟨kq, x41_15, rfl, HA, HJ15, HO_0, HO_1, HO_7, HO_9, HB⟩ := hcut
    cases kq with
    | zero => exact absurd HA.out (by simp [backseatlaw08_FlowFolds.j1])
    | succ kj15 =>
     have H := HA.out
     clear HA
     simp only [backseatlaw08_FlowFolds.j1] at H
     have HC20 := Aside0.mk H
     clear H
     go_upto_if 41 with (fail)
     go_cut [] (fun wc => ∃ (kq : Nat), Aside0 (backseatlaw08_FlowFolds.j2 kq t602 a2 t609 t612 x11_7 = some r) ∧ Aside0 (kq ≤ kj15) ∧ Aside0 (Kd.N k38 38 wc w.heap.size (fun k_ => some k_ ≠ (v610 : Value).ownBlock) (.slice Ao13 t602.length co13) t602) ∧ Aside0 (Kd.N k38 38 wc w.heap.size (fun k_ => some k_ ≠ ((.slice Ao13 t602.length co13) : Value).ownBlock) v610 t609) ∧ Aside0 (Below w.heap.size w wc))
     case first =>
      have H := HC20.out
      clear HC20
      by_cases c21 : x41_15 = true
      ·subst c21
       have H1 : (if t608 = 0 then ((backseatref08_Fold.f kj15 t599 a2).bind fun t614 => ((backseatref06_Same.f kj15 t605 t614).bind fun t617 => (if t617 = true then (backseatlaw08_FlowFolds.j2 kj15 t602 a2 t609 t612 x11_7) else (some false)))) else (some false)) = some r := by rw [if_pos rfl] at H; exact H
       clear H
       have H := H1
       clear H1
       by_cases c22 : t608 = 0
       ·rw [if_pos c22] at H
        have c22b0 : (t608 == 0) = true := beq_iff_eq.mpr c22
        have c22b1 : (t608 != 0) = false := bne_eq_false_iff_eq.mpr c22
        clear c22
        (first | rw [c22b0] | (simp only [i64_w, i32_w]; rw [c22b0]) | skip)
        replace H := Option.bind_eq_some_iff.mp H
        obtain ⟨t614, A230, H⟩ := H
        replace H : ((backseatref06_Same.f kj15 t605 t614).bind fun t617 => (if t617 = true then (backseatlaw08_FlowFolds.j2 kj15 t602 a2 t609 t612 x11_7) else (some false))) = some r := H
        have A23 := Aside0.mk A230
        clear A230
        replace H := Option.bind_eq_some_iff.mp H
        obtain ⟨t617, A240, H⟩ := H
        replace H : (if t617 = true then (backseatlaw08_FlowFolds.j2 kj15 t602 a2 t609 t612 x11_7) else (some false)) = some r := H
        have A24 := Aside0.mk A240
        clear A240
        by_cases c25 : t617 = true
        ·subst c25
         have H1 : (backseatlaw08_FlowFolds.j2 kj15 t602 a2 t609 t612 x11_7) = some r := by rw [if_pos rfl] at H; exact H
         clear H
         have H := H1
         clear H1
         have H' := Aside0.mk H
         clear H
         go_wp2_with (first | (go_at_call 29; (with_reducible refine (backseatref08_Fold.calls kj15 _ _ t599 a2 t614 _ ?side1 ?side2 A23.out).mono ?_); (case side1 => repeat (first | exact (Kd.R_reads' HO_0.out).2.2 | (with_reducible refine Kd.C_alloc ?_ _) | (with_reducible refine Kd.C_drewN ?_ _) | (with_reducible refine Kd.C_drew ?_))); (case side2 => exact (Kd.R_reads' HO_0.out).2.1); rintro e w26 ⟨v615, rfl, ho0, hb⟩; have n0_ := (zR HO_0 hb); have n1_ := Aside0.mk (Kd.N_elder' (zNa HO_1) (by first | exact Kd.N_base ho0 | exact Kd.S_base ho0) hb); have n2_ := Aside0.mk (Kd.N_elder' (zNa HO_7) (by first | exact Kd.N_base ho0 | exact Kd.S_base ho0) hb); have n3_ := Aside0.mk (Kd.N_elder' (zNa HO_9) (by first | exact Kd.N_base ho0 | exact Kd.S_base ho0) hb); have n4_ := Aside0.mk (Kd.N_lower (Kd.N_mono (ok' := fun k_ => some k_ ≠ (.slice Ao11 t599.length co11 : Value).ownBlock ∧ some k_ ≠ (.slice Ao13 t602.length co13 : Value).ownBlock ∧ some k_ ≠ (v606 : Value).ownBlock ∧ some k_ ≠ (v610 : Value).ownBlock) (Kd.S_N (Kd.S_bound ho0)) (fun k_ hk_ => ⟨(Kd.fresh' (Kd.R_lt (zRa HO_0)) k_ hk_.2.1), (Kd.fresh' (Kd.N_lt (zNa HO_1)) k_ hk_.2.1), (Kd.fresh' (Kd.N_lt (zNa HO_7)) k_ hk_.2.1), (Kd.fresh' (Kd.N_lt (zNa HO_9)) k_ hk_.2.1)⟩)) (below_size zb)); have n5_ := (zs HB hb); clear HO_0; clear HO_1; clear HO_7; clear HO_9; clear HB; have HO_0 := n0_; have HO_1 := n1_; have HO_7 := n2_; have HO_9 := n3_; have HO616 := n4_; have HB := n5_; clear n0_ n1_ n2_ n3_ n4_ n5_; (try clear hb); (try clear ho0); obtain ⟨Ao27, co27, eo27⟩ := Kd.N_slice HO_7.out; subst eo27; obtain ⟨Ao28, co28, eo28⟩ := Kd.N_slice HO616.out; subst eo28) | (go_at_call 28; (with_reducible refine (backseatref06_Same.calls kj15 _ _ t605 _ _ t614 true _ ?side1 ?side2 ?side3 ?side4 A24.out).mono ?_); (case side1 => repeat (first | exact (Kd.N_reads' HO_7.out).2.2 | (with_reducible refine Kd.C_alloc ?_ _) | (with_reducible refine Kd.C_drewN ?_ _) | (with_reducible refine Kd.C_drew ?_))); (case side2 => exact (Kd.N_reads' HO_7.out).2.1); (case side3 => repeat (first | exact (Kd.N_reads' HO616.out).2.2 | (with_reducible refine Kd.C_alloc ?_ _) | (with_reducible refine Kd.C_drewN ?_ _) | (with_reducible refine Kd.C_drew ?_))); (case side4 => exact (Kd.N_reads' HO616.out).2.1); rintro e w29 ⟨rfl, hb⟩; replace HO_0 := (zR HO_0 hb); replace HO_1 := (zN HO_1 hb); replace HO_7 := (zN HO_7 hb); replace HO_9 := (zN HO_9 hb); replace HO616 := (zN HO616 hb); replace HB := (zs HB hb); (try clear hb)))
         go_meet
         case rel => exact ⟨_, H', ⟨by have := HJ7.out; have := HJ15.out; first | omega | exact Nat.le_refl _⟩, ⟨by (with_reducible repeat (first | apply Kd.N_alloc | apply Kd.N_drewN | apply Kd.N_drew)); exact Kd.N_mono HO_1.out (fun _ hk => hk.1.2.2)⟩, ⟨by (with_reducible repeat (first | apply Kd.N_alloc | apply Kd.N_drewN | apply Kd.N_drew)); exact Kd.N_mono HO_9.out (fun _ hk => hk.1.2.1)⟩, ⟨zb⟩⟩
        ·replace c25 := Bool.eq_false_iff.mpr c25
         subst c25
         have H1 : (some false) = some r := by rw [if_neg (show ¬ (false = true) by decide)] at H; exact H
         clear H
         have H := H1
         clear H1
         obtain rfl := Option.some.inj H
         go_wp2_with (first | (go_at_call 29; (with_reducible refine (backseatref08_Fold.calls kj15 _ _ t599 a2 t614 _ ?side1 ?side2 A23.out).mono ?_); (case side1 => repeat (first | exact (Kd.R_reads' HO_0.out).2.2 | (with_reducible refine Kd.C_alloc ?_ _) | (with_reducible refine Kd.C_drewN ?_ _) | (with_reducible refine Kd.C_drew ?_))); (case side2 => exact (Kd.R_reads' HO_0.out).2.1); rintro e w30 ⟨v615, rfl, ho0, hb⟩; have n0_ := (zR HO_0 hb); have n1_ := Aside0.mk (Kd.N_elder' (zNa HO_1) (by first | exact Kd.N_base ho0 | exact Kd.S_base ho0) hb); have n2_ := Aside0.mk (Kd.N_elder' (zNa HO_7) (by first | exact Kd.N_base ho0 | exact Kd.S_base ho0) hb); have n3_ := Aside0.mk (Kd.N_elder' (zNa HO_9) (by first | exact Kd.N_base ho0 | exact Kd.S_base ho0) hb); have n4_ := Aside0.mk (Kd.N_lower (Kd.N_mono (ok' := fun k_ => some k_ ≠ (.slice Ao11 t599.length co11 : Value).ownBlock ∧ some k_ ≠ (.slice Ao13 t602.length co13 : Value).ownBlock ∧ some k_ ≠ (v606 : Value).ownBlock ∧ some k_ ≠ (v610 : Value).ownBlock) (Kd.S_N (Kd.S_bound ho0)) (fun k_ hk_ => ⟨(Kd.fresh' (Kd.R_lt (zRa HO_0)) k_ hk_.2.1), (Kd.fresh' (Kd.N_lt (zNa HO_1)) k_ hk_.2.1), (Kd.fresh' (Kd.N_lt (zNa HO_7)) k_ hk_.2.1), (Kd.fresh' (Kd.N_lt (zNa HO_9)) k_ hk_.2.1)⟩)) (below_size zb)); have n5_ := (zs HB hb); clear HO_0; clear HO_1; clear HO_7; clear HO_9; clear HB; have HO_0 := n0_; have HO_1 := n1_; have HO_7 := n2_; have HO_9 := n3_; have HO616 := n4_; have HB := n5_; clear n0_ n1_ n2_ n3_ n4_ n5_; (try clear hb); (try clear ho0); obtain ⟨Ao31, co31, eo31⟩ := Kd.N_slice HO_7.out; subst eo31; obtain ⟨Ao32, co32, eo32⟩ := Kd.N_slice HO616.out; subst eo32) | (go_at_call 28; (with_reducible refine (backseatref06_Same.calls kj15 _ _ t605 _ _ t614 false _ ?side1 ?side2 ?side3 ?side4 A24.out).mono ?_); (case side1 => repeat (first | exact (Kd.N_reads' HO_7.out).2.2 | (with_reducible refine Kd.C_alloc ?_ _) | (with_reducible refine Kd.C_drewN ?_ _) | (with_reducible refine Kd.C_drew ?_))); (case side2 => exact (Kd.N_reads' HO_7.out).2.1); (case side3 => repeat (first | exact (Kd.N_reads' HO616.out).2.2 | (with_reducible refine Kd.C_alloc ?_ _) | (with_reducible refine Kd.C_drewN ?_ _) | (with_reducible refine Kd.C_drew ?_))); (case side4 => exact (Kd.N_reads' HO616.out).2.1); rintro e w33 ⟨rfl, hb⟩; replace HO_0 := (zR HO_0 hb); replace HO_1 := (zN HO_1 hb); replace HO_7 := (zN HO_7 hb); replace HO_9 := (zN HO_9 hb); replace HO616 := (zN HO616 hb); replace HB := (zs HB hb); (try clear hb)))
         go_ret
         exact ⟨ze, zb⟩
       ·rw [if_neg c22] at H
        have c22b0 : (t608 == 0) = false := beq_eq_false_iff_ne.mpr c22
        have c22b1 : (t608 != 0) = true := bne_iff_ne.mpr c22
        (first | rw [c22b0] | (simp only [i64_w, i32_w]; rw [c22b0]) | skip)
        obtain rfl := Option.some.inj H
        go_wp2
        go_ret
        exact ⟨ze, zb⟩
      ·replace c21 := Bool.eq_false_iff.mpr c21
       subst c21
       have H1 : (if t608 = 1 then (if (t605.length : Int) = 0 then (backseatlaw08_FlowFolds.j2 kj15 t602 a2 t609 t612 x11_7) else (some false)) else (some false)) = some r := by rw [if_neg (show ¬ (false = true) by decide)] at H; exact H
       clear H
       have H := H1
       clear H1
       by_cases c34 : t608 = 1
       ·rw [if_pos c34] at H
        have c34b0 : (t608 == 1) = true := beq_iff_eq.mpr c34
        have c34b1 : (t608 != 1) = false := bne_eq_false_iff_eq.mpr c34
        clear c34
        by_cases c35 : (t605.length : Int) = 0
        ·rw [if_pos c35] at H
         have c35b0 : ((t605.length : Int) == 0) = true := beq_iff_eq.mpr c35
         have c35b1 : ((t605.length : Int) != 0) = false := bne_eq_false_iff_eq.mpr c35
         clear c35
         have H' := Aside0.mk H
         clear H
         obtain ⟨Ao36, co36, eo36⟩ := Kd.N_slice HO_7.out
         subst eo36
         go_wp2
         go_meet
         case rel => exact ⟨_, H', ⟨by have := HJ7.out; have := HJ15.out; first | omega | exact Nat.le_refl _⟩, ⟨by (with_reducible repeat (first | apply Kd.N_alloc | apply Kd.N_drewN | apply Kd.N_drew)); exact Kd.N_mono HO_1.out (fun _ hk => hk.2.2)⟩, ⟨by (with_reducible repeat (first | apply Kd.N_alloc | apply Kd.N_drewN | apply Kd.N_drew)); exact Kd.N_mono HO_9.out (fun _ hk => hk.2.1)⟩, ⟨zb⟩⟩
        ·rw [if_neg c35] at H
         have c35b0 : ((t605.length : Int) == 0) = false := beq_eq_false_iff_ne.mpr c35
         have c35b1 : ((t605.length : Int) != 0) = true := bne_iff_ne.mpr c35
         have c35b2 : ¬ (t605 = []) := fun h_ => c35 (by rw [h_]; rfl)
         obtain rfl := Option.some.inj H
         obtain ⟨Ao37, co37, eo37⟩ := Kd.N_slice HO_7.out
         subst eo37
         go_wp2
         go_ret
         exact ⟨ze, zb⟩
       ·rw [if_neg c34] at H
        have c34b0 : (t608 == 1) = false := beq_eq_false_iff_ne.mpr c34
        have c34b1 : (t608 != 1) = true := bne_iff_ne.mpr c34
        obtain rfl := Option.some.inj H
        go_wp2
        go_ret
        exact ⟨ze, zb⟩
     case rest =>
      clear HC20
      try clear c1
      obtain ⟨kq, HA, HJ19, HO_1, HO_9, HB⟩ := hcut
      cases kq with
      | zero => exact absurd HA.out (by simp [backseatlaw08_FlowFolds.j2])
      | succ kj19 =>
       have H := HA.out
       clear HA
       simp only [backseatlaw08_FlowFolds.j2] at H
       have HC38 := Aside0.mk H
       clear H
       go_upto_region 10 with (fail)
       go_cut [65] (fun v65 wc => ∃ (kq : Nat) (x65_37 : Bool), v65 = .bool x65_37 ∧ Aside0 (backseatlaw08_FlowFolds.j3 kq t602 a2 t609 t612 x65_37 = some r) ∧ Aside0 (kq ≤ kj19) ∧ Aside0 (Kd.N k38 38 wc w.heap.size (fun k_ => some k_ ≠ (v610 : Value).ownBlock) (.slice Ao13 t602.length co13) t602) ∧ Aside0 (Kd.N k38 38 wc w.heap.size (fun k_ => some k_ ≠ ((.slice Ao13 t602.length co13) : Value).ownBlock) v610 t609) ∧ Aside0 (Below w.heap.size w wc))
       case first =>
        have H := HC38.out
        clear HC38
        by_cases c39 : x11_7 = true
        ·subst c39
         have H1 : ((backseatref08_May.f kj19 t602).bind fun t618 => (backseatlaw08_FlowFolds.j3 kj19 t602 a2 t609 t612 (!t618))) = some r := by rw [if_pos rfl] at H; exact H
         clear H
         have H := H1
         clear H1
         replace H := Option.bind_eq_some_iff.mp H
         obtain ⟨t618, A400, H⟩ := H
         replace H : (backseatlaw08_FlowFolds.j3 kj19 t602 a2 t609 t612 (!t618)) = some r := H
         have A40 := Aside0.mk A400
         clear A400
         have H' := Aside0.mk H
         clear H
         go_wp2_with (first | (go_at_call 11; (with_reducible refine (backseatref08_May.calls kj19 _ _ t602 t618 _ ?side1 ?side2 A40.out).mono ?_); (case side1 => repeat (first | exact (Kd.N_reads' HO_1.out).2.2 | (with_reducible refine Kd.C_alloc ?_ _) | (with_reducible refine Kd.C_drewN ?_ _) | (with_reducible refine Kd.C_drew ?_))); (case side2 => exact (Kd.N_reads' HO_1.out).2.1); rintro e w41 ⟨rfl, hb⟩; replace HO_1 := (zN HO_1 hb); replace HO_9 := (zN HO_9 hb); replace HB := (zs HB hb); (try clear hb)))
         go_meet
         case rel => exact ⟨_, (!t618), zf, H', ⟨by have := HJ7.out; have := HJ15.out; have := HJ19.out; first | omega | exact Nat.le_refl _⟩, ⟨by (with_reducible repeat (first | apply Kd.N_alloc | apply Kd.N_drewN | apply Kd.N_drew)); exact HO_1.out⟩, ⟨by (with_reducible repeat (first | apply Kd.N_alloc | apply Kd.N_drewN | apply Kd.N_drew)); exact HO_9.out⟩, ⟨zb⟩⟩
        ·replace c39 := Bool.eq_false_iff.mpr c39
         subst c39
         have H1 : (backseatlaw08_FlowFolds.j3 kj19 t602 a2 t609 t612 true) = some r := by rw [if_neg (show ¬ (false = true) by decide)] at H; exact H
         clear H
         have H := H1
         clear H1
         have H' := Aside0.mk H
         clear H
         go_wp2
         go_meet
         case rel => exact ⟨_, (true), zf, H', ⟨by have := HJ7.out; have := HJ15.out; have := HJ19.out; first | omega | exact Nat.le_refl _⟩, ⟨by (with_reducible repeat (first | apply Kd.N_alloc | apply Kd.N_drewN | apply Kd.N_drew)); exact HO_1.out⟩, ⟨by (with_reducible repeat (first | apply Kd.N_alloc | apply Kd.N_drewN | apply Kd.N_drew)); exact HO_9.out⟩, ⟨zb⟩⟩
       case rest =>
        clear HC38
        try clear c1
        obtain ⟨kq, x65_37, rfl, HA, HJ37, HO_1, HO_9, HB⟩ := hcut
        cases kq with
        | zero => exact absurd HA.out (by simp [backseatlaw08_FlowFolds.j3])
        | succ kj37 =>
         have H := HA.out
         clear HA
         simp only [backseatlaw08_FlowFolds.j3] at H
         by_cases c42 : x65_37 = true
         ·subst c42
          have H1 : ((backseatlaw08_alive.f kj37).bind fun t619 => (if t619 = true then (if t612 = 1 then (some ((t609.length : Int) == 0)) else (some false)) else (some false))) = some r := by rw [if_pos rfl] at H; exact H
          clear H
          have H := H1
          clear H1
          replace H := Option.bind_eq_some_iff.mp H
          obtain ⟨t619, A430, H⟩ := H
          replace H : (if t619 = true then (if t612 = 1 then (some ((t609.length : Int) == 0)) else (some false)) else (some false)) = some r := H
          have A43 := Aside0.mk A430
          clear A430
          by_cases c44 : t619 = true
          ·subst c44
           have H1 : (if t612 = 1 then (some ((t609.length : Int) == 0)) else (some false)) = some r := by rw [if_pos rfl] at H; exact H
           clear H
           have H := H1
           clear H1
           by_cases c45 : t612 = 1
           ·rw [if_pos c45] at H
            have c45b0 : (t612 == 1) = true := beq_iff_eq.mpr c45
            have c45b1 : (t612 != 1) = false := bne_eq_false_iff_eq.mpr c45
            clear c45
            obtain rfl := Option.some.inj H
            go_wp2_with (first | ((with_reducible refine gate_callee (f := 20) rfl ?_); refine goesL_ (some 66) rfl rfl Tryd.func20 (by kernel_rfl) rfl #[] rfl zl ?_; (with_reducible refine (backseatlaw08_alive.calls kj37  true _ A43.out).mono ?_); rintro e w46 ⟨rfl, hb⟩; refine ⟨_, rfl, ?_⟩; replace HO_1 := (zN HO_1 hb); replace HO_9 := (zN HO_9 hb); replace HB := (zs HB hb); (try clear hb); obtain ⟨Ao47, co47, eo47⟩ := Kd.N_slice HO_9.out; subst eo47))
            go_ret
            exact ⟨ze, zb⟩
           ·rw [if_neg c45] at H
            have c45b0 : (t612 == 1) = false := beq_eq_false_iff_ne.mpr c45
            have c45b1 : (t612 != 1) = true := bne_iff_ne.mpr c45
            obtain rfl := Option.some.inj H
            go_wp2_with (first | ((with_reducible refine gate_callee (f := 20) rfl ?_); refine goesL_ (some 66) rfl rfl Tryd.func20 (by kernel_rfl) rfl #[] rfl zl ?_; (with_reducible refine (backseatlaw08_alive.calls kj37  true _ A43.out).mono ?_); rintro e w48 ⟨rfl, hb⟩; refine ⟨_, rfl, ?_⟩; replace HO_1 := (zN HO_1 hb); replace HO_9 := (zN HO_9 hb); replace HB := (zs HB hb); (try clear hb)))
            go_ret
            exact ⟨ze, zb⟩
          ·replace c44 := Bool.eq_false_iff.mpr c44
           subst c44
           have H1 : (some false) = some r := by rw [if_neg (show ¬ (false = true) by decide)] at H; exact H
           clear H
           have H := H1
           clear H1
           obtain rfl := Option.some.inj H
           go_wp2_with (first | ((with_reducible refine gate_callee (f := 20) rfl ?_); refine goesL_ (some 66) rfl rfl Tryd.func20 (by kernel_rfl) rfl #[] rfl zl ?_; (with_reducible refine (backseatlaw08_alive.calls kj37  false _ A43.out).mono ?_); rintro e w49 ⟨rfl, hb⟩; refine ⟨_, rfl, ?_⟩; replace HO_1 := (zN HO_1 hb); replace HO_9 := (zN HO_9 hb); replace HB := (zs HB hb); (try clear hb)))
           go_ret
           exact ⟨ze, zb⟩
         ·replace c42 := Bool.eq_false_iff.mpr c42
          subst c42
          have H1 : ((backseatlaw08_alive.f kj37).bind fun t620 => (if t620 = true then (if t612 = 0 then ((backseatref08_Flow.f kj37 t602 a2).bind fun t621 => ((backseatref06_Same.f kj37 t609 t621).bind fun t624 => (some t624))) else (some false)) else (some false))) = some r := by rw [if_neg (show ¬ (false = true) by decide)] at H; exact H
          clear H
          have H := H1
          clear H1
          replace H := Option.bind_eq_some_iff.mp H
          obtain ⟨t620, A500, H⟩ := H
          replace H : (if t620 = true then (if t612 = 0 then ((backseatref08_Flow.f kj37 t602 a2).bind fun t621 => ((backseatref06_Same.f kj37 t609 t621).bind fun t624 => (some t624))) else (some false)) else (some false)) = some r := H
          have A50 := Aside0.mk A500
          clear A500
          by_cases c51 : t620 = true
          ·subst c51
           have H1 : (if t612 = 0 then ((backseatref08_Flow.f kj37 t602 a2).bind fun t621 => ((backseatref06_Same.f kj37 t609 t621).bind fun t624 => (some t624))) else (some false)) = some r := by rw [if_pos rfl] at H; exact H
           clear H
           have H := H1
           clear H1
           by_cases c52 : t612 = 0
           ·rw [if_pos c52] at H
            have c52b0 : (t612 == 0) = true := beq_iff_eq.mpr c52
            have c52b1 : (t612 != 0) = false := bne_eq_false_iff_eq.mpr c52
            clear c52
            replace H := Option.bind_eq_some_iff.mp H
            obtain ⟨t621, A530, H⟩ := H
            replace H : ((backseatref06_Same.f kj37 t609 t621).bind fun t624 => (some t624)) = some r := H
            have A53 := Aside0.mk A530
            clear A530
            replace H := Option.bind_eq_some_iff.mp H
            obtain ⟨t624, A540, H⟩ := H
            replace H : (some t624) = some r := H
            have A54 := Aside0.mk A540
            clear A540
            obtain rfl := Option.some.inj H
            go_wp2_with (first | ((with_reducible refine gate_callee (f := 20) rfl ?_); refine goesL_ (some 76) rfl rfl Tryd.func20 (by kernel_rfl) rfl #[] rfl zl ?_; (with_reducible refine (backseatlaw08_alive.calls kj37  true _ A50.out).mono ?_); rintro e w55 ⟨rfl, hb⟩; refine ⟨_, rfl, ?_⟩; replace HO_1 := (zN HO_1 hb); replace HO_9 := (zN HO_9 hb); replace HB := (zs HB hb); (try clear hb)) | (go_at_call 30; (with_reducible refine (backseatref08_Flow.calls kj37 _ _ t602 a2 t621 _ ?side1 ?side2 A53.out).mono ?_); (case side1 => repeat (first | exact (Kd.N_reads' HO_1.out).2.2 | (with_reducible refine Kd.C_alloc ?_ _) | (with_reducible refine Kd.C_drewN ?_ _) | (with_reducible refine Kd.C_drew ?_))); (case side2 => exact (Kd.N_reads' HO_1.out).2.1); rintro e w56 ⟨v622, rfl, ho0, hb⟩; have n0_ := Aside0.mk (Kd.N_elder' (zNa HO_1) (by first | exact Kd.N_base ho0 | exact Kd.S_base ho0) hb); have n1_ := Aside0.mk (Kd.N_elder' (zNa HO_9) (by first | exact Kd.N_base ho0 | exact Kd.S_base ho0) hb); have n2_ := Aside0.mk (Kd.N_lower (Kd.N_mono (ok' := fun k_ => some k_ ≠ (.slice Ao13 t602.length co13 : Value).ownBlock ∧ some k_ ≠ (v610 : Value).ownBlock) ho0 (fun k_ hk_ => ⟨(Kd.fresh' (Kd.N_lt (zNa HO_1)) k_ hk_), (Kd.fresh' (Kd.N_lt (zNa HO_9)) k_ hk_)⟩)) (below_size zb)); have n3_ := (zs HB hb); clear HO_1; clear HO_9; clear HB; have HO_1 := n0_; have HO_9 := n1_; have HO623 := n2_; have HB := n3_; clear n0_ n1_ n2_ n3_; (try clear hb); (try clear ho0); obtain ⟨Ao57, co57, eo57⟩ := Kd.N_slice HO_9.out; subst eo57; obtain ⟨Ao58, co58, eo58⟩ := Kd.N_slice HO623.out; subst eo58) | (go_at_call 28; (with_reducible refine (backseatref06_Same.calls kj37 _ _ t609 _ _ t621 t624 _ ?side1 ?side2 ?side3 ?side4 A54.out).mono ?_); (case side1 => repeat (first | exact (Kd.N_reads' HO_9.out).2.2 | (with_reducible refine Kd.C_alloc ?_ _) | (with_reducible refine Kd.C_drewN ?_ _) | (with_reducible refine Kd.C_drew ?_))); (case side2 => exact (Kd.N_reads' HO_9.out).2.1); (case side3 => repeat (first | exact (Kd.N_reads' HO623.out).2.2 | (with_reducible refine Kd.C_alloc ?_ _) | (with_reducible refine Kd.C_drewN ?_ _) | (with_reducible refine Kd.C_drew ?_))); (case side4 => exact (Kd.N_reads' HO623.out).2.1); rintro e w59 ⟨rfl, hb⟩; replace HO_1 := (zN HO_1 hb); replace HO_9 := (zN HO_9 hb); replace HO623 := (zN HO623 hb); replace HB := (zs HB hb); (try clear hb)))
            go_ret
            exact ⟨ze, zb⟩
           ·rw [if_neg c52] at H
            have c52b0 : (t612 == 0) = false := beq_eq_false_iff_ne.mpr c52
            have c52b1 : (t612 != 0) = true := bne_iff_ne.mpr c52
            obtain rfl := Option.some.inj H
            go_wp2_with (first | ((with_reducible refine gate_callee (f := 20) rfl ?_); refine goesL_ (some 76) rfl rfl Tryd.func20 (by kernel_rfl) rfl #[] rfl zl ?_; (with_reducible refine (backseatlaw08_alive.calls kj37  true _ A50.out).mono ?_); rintro e w60 ⟨rfl, hb⟩; refine ⟨_, rfl, ?_⟩; replace HO_1 := (zN HO_1 hb); replace HO_9 := (zN HO_9 hb); replace HB := (zs HB hb); (try clear hb)))
            go_ret
            exact ⟨ze, zb⟩
          ·replace c51 := Bool.eq_false_iff.mpr c51
           subst c51
           have H1 : (some false) = some r := by rw [if_neg (show ¬ (false = true) by decide)] at H; exact H
           clear H
           have H := H1
           clear H1
           obtain rfl := Option.some.inj H
           go_wp2_with (first | ((with_reducible refine gate_callee (f := 20) rfl ?_); refine goesL_ (some 76) rfl rfl Tryd.func20 (by kernel_rfl) rfl #[] rfl zl ?_; (with_reducible refine (backseatlaw08_alive.calls kj37  false _ A50.out).mono ?_); rintro e w61 ⟨rfl, hb⟩; refine ⟨_, rfl, ?_⟩; replace HO_1 := (zN HO_1 hb); replace HO_9 := (zN HO_9 hb); replace HB := (zs HB hb); (try clear hb)))
           go_ret
           exact ⟨ze, zb⟩
end Go.Proofs.YtckkdaehmccjlaaDoor.P
namespace Go.Proofs.YtckkdaehmccjlaaDoor.P
def Ev {α : Type} (f : Nat → Option α) (v : α) : Prop := ∃ K, ∀ k, K ≤ k → f k = some v
section
variable {α β : Type} {f : Nat → Option α} {v : α}
theorem Ev.of {e : Option α} (h : e = some v) : Ev (fun _ => e) v := ⟨0, fun _ _ => h⟩
theorem Ev.ret (v : α) : Ev (fun _ => some v) v := ⟨0, fun _ _ => rfl⟩
theorem Ev.bind {g : Nat → α → Option β} {b : β} (h : Ev f v) (hg : Ev (fun k => g k v) b) : Ev (fun k => (f k).bind (g k)) b := by
 obtain ⟨K, h⟩ := h
 obtain ⟨L, hg⟩ := hg
 exact ⟨max K L, fun k hk => by show (f k).bind (g k) = _; rw [h k (by omega), Option.bind_some]; exact hg k (by omega)⟩
theorem Ev.succ (h : Ev (fun k => f (k + 1)) v) : Ev f v := by
 obtain ⟨K, h⟩ := h
 refine ⟨K + 1, fun k hk => ?_⟩
 have := h (k - 1) (by omega)
 simpa [show k - 1 + 1 = k by omega] using this
theorem Ev.shift (h : Ev f v) (n : Nat) : Ev (fun k => f (k + n)) v := by
 obtain ⟨K, h⟩ := h
 exact ⟨K, fun k hk => h (k + n) (by omega)⟩
theorem Ev.pos {c : Prop} [Decidable c] {g : Nat → Option α} (h : c) (hf : Ev f v) : Ev (fun k => if c then f k else g k) v := by
 obtain ⟨K, hf⟩ := hf; exact ⟨K, fun k hk => by show (if c then f k else g k) = _; rw [if_pos h]; exact hf k hk⟩
theorem Ev.neg {c : Prop} [Decidable c] {g : Nat → Option α} (h : ¬ c) (hf : Ev g v) : Ev (fun k => if c then f k else g k) v := by
 obtain ⟨K, hf⟩ := hf; exact ⟨K, fun k hk => by show (if c then f k else g k) = _; rw [if_neg h]; exact hf k hk⟩
theorem Ev.same {w : α} (h : Ev f v) (h' : Ev f w) : v = w := by
 obtain ⟨K, h⟩ := h
 obtain ⟨L, h'⟩ := h'
 exact Option.some.inj ((h (max K L) (by omega)).symm.trans (h' (max K L) (by omega)))
theorem Ev.ex (h : Ev f v) : ∃ k, f k = some v := let ⟨K, h⟩ := h; ⟨K, h K (Nat.le_refl _)⟩
end
end Go.Proofs.YtckkdaehmccjlaaDoor.P
namespace Go.Proofs.YtckkdaehmccjlaaDoor.P
open Go.RowKit Go.Proofs.YtckkdaehmccjlaaDoorW.PrintWords Go.Proofs.YtckkdaehmccjlaaDoorW.PrintLast Go.Proofs.YtckkdaehmccjlaaDoorW.PrintMore
set_option linter.unusedVariables false
set_option linter.unusedSimpArgs false
theorem w64 (n : Nat) (h : (n : Int) ≤ 9223372036854775806) : wrap64 ((n : Int) + 1) = ((n + 1 : Nat) : Int) := by
 rw [IntWalk.wrap64_in _ (by omega)]; omega
def okD (s : ByteArray) : Prop := ¬ ((Lib.decodeGo s).1 = 65533 ∧ (Lib.decodeGo s).2 ≤ 1)
theorem pre_bytes (s : ByteArray) (i : Nat) (h : i ≤ s.size) : bytesOf (s.extract 0 i) = (bytesOf s).take i := by
 unfold bytesOf
 rw [← List.map_take]
 congr 1
 rw [show (s.extract 0 i).data = s.data.extract 0 i from ByteArray.data_extract]
 simp
theorem pre_size (s : ByteArray) (i : Nat) (h : i ≤ s.size) : (s.extract 0 i).size = i := by
 simp [ByteArray.size_extract]; omega
theorem ref_loop (s : ByteArray) (nd : Nat) (h1 : 1 ≤ nd) (h4 : nd ≤ 4) (hs : (s.size : Int) ≤ 9223372036854775807) : ∀ m x, x + m = nd → 1 ≤ x → x ≤ s.size →
  ((∀ i, x < i → i ≤ nd → i ≤ s.size ∧ begB (bytesOf (s.extract 0 i)) nd = true) ∧ Ev (fun k => backseatref01_First.l0 k s nd x) (valueZ (bytesOf (s.extract 0 nd)), (nd : Int), 0)) ∨
  ((∃ i, x < i ∧ i ≤ nd ∧ ¬ (i ≤ s.size ∧ begB (bytesOf (s.extract 0 i)) nd = true)) ∧ ∃ a e, e ≠ 0 ∧ Ev (fun k => backseatref01_First.l0 k s nd x) (0, a, e))
 | 0, x, hx, hx1, hxs => by
  obtain rfl : x = nd := by omega
  refine Or.inl ⟨fun i h h' => by omega, Ev.succ ?_⟩
  simp only [backseatref01_First.l0]
  refine Ev.neg (by omega) (Ev.succ ?_)
  simp only [backseatref01_First.j1]
  refine Ev.pos trivial (Ev.pos (by omega) (Ev.pos (by omega) ?_))
  rw [Int.toNat_natCast]
  refine Ev.bind (v := valueZ (bytesOf (s.extract 0 x))) (Ev.of ?_) (Ev.ret _)
  unfold backseatref01_value.f
  rw [if_pos (by rw [pre_size s x hxs]; omega)]
 | m + 1, x, hx, hx1, hxs => by
  by_cases hlt : x < s.size
  ·have hw := w64 x (by omega)
   by_cases hb : begB (bytesOf (s.extract 0 (x + 1))) nd = true
   ·have hstep : ∀ r, Ev (fun k => backseatref01_First.l0 k s nd ((x + 1 : Nat) : Int)) r → Ev (fun k => backseatref01_First.l0 k s nd x) r := fun r hr => by
     refine Ev.succ ?_
     simp only [backseatref01_First.l0]
     refine Ev.pos (by omega) (Ev.pos (by omega) ?_)
     rw [hw]
     refine Ev.pos (by omega) (Ev.pos (by omega) ?_)
     rw [Int.toNat_natCast]
     refine Ev.bind (v := true) (Ev.of ?_) (Ev.pos rfl hr)
     unfold backseatref01_begins.f
     rw [if_pos (by rw [pre_size s (x + 1) (by omega)]; omega), Int.toNat_natCast, hb]
    rcases ref_loop s nd h1 h4 hs m (x + 1) (by omega) (by omega) (by omega) with ⟨ha, he⟩ | ⟨⟨i, hi1, hi2, hi3⟩, a, e, h0, he⟩
    ·refine Or.inl ⟨fun i h h' => ?_, hstep _ he⟩
     by_cases e : i = x + 1
     ·subst e; exact ⟨by omega, hb⟩
     ·exact ha i (by omega) h'
    ·exact Or.inr ⟨⟨i, by omega, hi2, hi3⟩, a, e, h0, hstep _ he⟩
   ·refine Or.inr ⟨⟨x + 1, by omega, by omega, fun h => hb h.2⟩, (x : Int), 4, by decide, Ev.succ ?_⟩
    simp only [backseatref01_First.l0]
    refine Ev.pos (by omega) (Ev.pos (by omega) ?_)
    rw [hw]
    refine Ev.pos (by omega) (Ev.pos (by omega) ?_)
    rw [Int.toNat_natCast]
    refine Ev.bind (v := false) (Ev.of ?_) (Ev.neg (by decide) (Ev.succ ?_))
    ·unfold backseatref01_begins.f
     rw [if_pos (by rw [pre_size s (x + 1) (by omega)]; omega), Int.toNat_natCast]
     cases h : begB (bytesOf (s.extract 0 (x + 1))) nd
     ·rfl
     ·exact absurd h hb
    ·simp only [backseatref01_First.j1]
     exact Ev.neg (by omega) (Ev.neg (by omega) (Ev.ret _))
  ·refine Or.inr ⟨⟨x + 1, by omega, by omega, fun h => by omega⟩, 0, 2, by decide, Ev.succ ?_⟩
   simp only [backseatref01_First.l0]
   refine Ev.pos (by omega) (Ev.neg (by omega) (Ev.succ ?_))
   simp only [backseatref01_First.j1]
   exact Ev.neg (by omega) (Ev.pos (by omega) (Ev.ret _))
def needN (b : Nat) : Nat := if b < 128 then 1 else if b < 194 then 0 else if b < 224 then 2 else if b < 240 then 3 else if b < 245 then 4 else 0
theorem need_ev (b : Nat) : Ev (fun k => backseatref01_need.f k (b : Int)) (needN b : Int) := by
 refine ⟨2, fun k hk => ?_⟩
 obtain ⟨j, rfl⟩ : ∃ j, k = j + 2 := ⟨k - 2, by omega⟩
 have j0t : ∀ k, backseatref01_need.j0 (k + 1) (b : Int) true = some 2 := fun k => by rw [backseatref01_need.j0]; rfl
 have j1t : ∀ k, backseatref01_need.j1 (k + 1) (b : Int) true = some 3 := fun k => by rw [backseatref01_need.j1]; rfl
 show backseatref01_need.f (j + 2) (b : Int) = some (needN b : Int)
 unfold backseatref01_need.f needN
 by_cases c1 : b < 128
 ·rw [if_pos (by omega), if_pos c1]; rfl
 rw [if_neg (by omega), if_neg c1]
 by_cases c2 : b < 194
 ·rw [if_neg (by omega), if_pos c2, backseatref01_need.j0, if_neg (by decide), if_neg (by omega), backseatref01_need.j1, if_neg (by decide), if_neg (by omega)]; rfl
 rw [if_pos (by omega), if_neg c2]
 by_cases c3 : b < 224
 ·rw [decide_eq_true (by omega), j0t, if_pos c3]; rfl
 rw [decide_eq_false (by omega), if_neg c3, backseatref01_need.j0, if_neg (by decide), if_pos (by omega)]
 by_cases c4 : b < 240
 ·rw [decide_eq_true (by omega), j1t, if_pos c4]; rfl
 rw [decide_eq_false (by omega), if_neg c4, backseatref01_need.j1, if_neg (by decide), if_pos (by omega)]
 by_cases c5 : b < 245
 ·rw [if_pos (by omega), if_pos c5]; rfl
 ·rw [if_neg (by omega), if_neg c5]; rfl
end Go.Proofs.YtckkdaehmccjlaaDoor.P
namespace Go.Proofs.YtckkdaehmccjlaaDoor.P
set_option linter.unusedVariables false
set_option linter.unusedSimpArgs false
theorem valGo_ok {c : Int} {t : List Int} {r : Int} (h : 128 ≤ c ∧ c ≤ 191) : valGo (c :: t) r = valGo t (64 * r + c - 128) := by
 show (if c < 128 ∨ c > 191 then -1 else valGo t (64 * r + c - 128)) = _
 rw [if_neg (by omega)]
theorem valGo_nil (r : Int) : valGo [] r = r := rfl
theorem contOK_iff {l : List Int} : contOK l = true ↔ ∀ c ∈ l, 128 ≤ c ∧ c ≤ 191 := by
 unfold contOK; simp [List.all_eq_true]
theorem begZ_iff {lo hi fl : Int} : begZ lo hi fl = true ↔ fl ≤ hi ∧ lo ≤ 1114111 ∧ (lo < 55296 ∨ 57343 < hi) := by
 unfold begZ; simp; omega
theorem beg_iff {b : Int} {t : List Int} {n : Nat} {lo hi : List Int} (hlo : b :: t ++ List.replicate (n - (b :: t).length) 128 = lo) (hhi : b :: t ++ List.replicate (n - (b :: t).length) 191 = hi) :
  begB (b :: t) n = true ↔ (∀ c ∈ t, 128 ≤ c ∧ c ≤ 191) ∧ (floorOf n ≤ valueZ hi ∧ valueZ lo ≤ 1114111 ∧ (valueZ lo < 55296 ∨ 57343 < valueZ hi)) := by
 unfold begB
 rw [Bool.and_eq_true, List.drop_one, List.tail_cons, contOK_iff, begZ_iff, hlo, hhi]
theorem val2 {a b : Int} (hb : 128 ≤ b ∧ b ≤ 191) : valueZ [a, b] = 64 * (a - 192) + b - 128 := by
 simp only [valueZ, valGo_ok hb, valGo_nil]; rfl
theorem val3 {a b c : Int} (hb : 128 ≤ b ∧ b ≤ 191) (hc : 128 ≤ c ∧ c ≤ 191) : valueZ [a, b, c] = 64 * (64 * (a - 224) + b - 128) + c - 128 := by
 simp only [valueZ, valGo_ok hb, valGo_ok hc, valGo_nil]; rfl
theorem val4 {a b c d : Int} (hb : 128 ≤ b ∧ b ≤ 191) (hc : 128 ≤ c ∧ c ≤ 191) (hd : 128 ≤ d ∧ d ≤ 191) : valueZ [a, b, c, d] = 64 * (64 * (64 * (a - 240) + b - 128) + c - 128) + d - 128 := by
 simp only [valueZ, valGo_ok hb, valGo_ok hc, valGo_ok hd, valGo_nil]; rfl
theorem lo8 : (128 : Int) ≤ 128 ∧ (128 : Int) ≤ 191 := by decide
theorem hi8 : (128 : Int) ≤ 191 ∧ (191 : Int) ≤ 191 := by decide
theorem fl2 : floorOf 2 = 128 := rfl
theorem fl3 : floorOf 3 = 2048 := rfl
theorem fl4 : floorOf 4 = 65536 := rfl
theorem all1 {b : Int} : (∀ c ∈ [b], 128 ≤ c ∧ c ≤ 191) ↔ (128 ≤ b ∧ b ≤ 191) := by simp
theorem all2 {b c : Int} : (∀ x ∈ [b, c], 128 ≤ x ∧ x ≤ 191) ↔ (128 ≤ b ∧ b ≤ 191) ∧ (128 ≤ c ∧ c ≤ 191) := by simp
theorem all3 {b c d : Int} : (∀ x ∈ [b, c, d], 128 ≤ x ∧ x ≤ 191) ↔ (128 ≤ b ∧ b ≤ 191) ∧ (128 ≤ c ∧ c ≤ 191) ∧ (128 ≤ d ∧ d ≤ 191) := by simp
theorem beg22 {a b : Int} (h : 194 ≤ a ∧ a < 224) : begB [a, b] 2 = true ↔ 128 ≤ b ∧ b ≤ 191 := by
 rw [beg_iff (lo := [a, b]) (hi := [a, b]) rfl rfl, all1, fl2]
 exact ⟨fun h => h.1, fun hb => ⟨hb, by rw [val2 hb]; omega⟩⟩
theorem beg33 {a b c : Int} (h : 224 ≤ a ∧ a < 240) : begB [a, b, c] 3 = true ↔ (128 ≤ b ∧ b ≤ 191) ∧ (128 ≤ c ∧ c ≤ 191) ∧ 2048 ≤ valueZ [a, b, c] ∧ (valueZ [a, b, c] < 55296 ∨ 57343 < valueZ [a, b, c]) := by
 rw [beg_iff (lo := [a, b, c]) (hi := [a, b, c]) rfl rfl, all2, fl3]
 constructor
 ·rintro ⟨⟨hb, hc⟩, h1, h2, h3⟩; exact ⟨hb, hc, h1, h3⟩
 ·rintro ⟨hb, hc, h1, h3⟩; exact ⟨⟨hb, hc⟩, h1, by rw [val3 hb hc]; omega, h3⟩
theorem beg32 {a b c : Int} (h : 224 ≤ a ∧ a < 240) (hf : begB [a, b, c] 3 = true) : begB [a, b] 3 = true := by
 obtain ⟨hb, hc, h1, h3⟩ := (beg33 h).1 hf
 rw [beg_iff (lo := [a, b, 128]) (hi := [a, b, 191]) rfl rfl, all1, fl3, val3 hb lo8, val3 hb hi8]
 rw [val3 hb hc] at h1 h3
 refine ⟨hb, ?_⟩
 omega
theorem beg44 {a b c d : Int} (h : 240 ≤ a ∧ a < 245) : begB [a, b, c, d] 4 = true ↔ (128 ≤ b ∧ b ≤ 191) ∧ (128 ≤ c ∧ c ≤ 191) ∧ (128 ≤ d ∧ d ≤ 191) ∧ 65536 ≤ valueZ [a, b, c, d] ∧ valueZ [a, b, c, d] ≤ 1114111 := by
 rw [beg_iff (lo := [a, b, c, d]) (hi := [a, b, c, d]) rfl rfl, all3, fl4]
 constructor
 ·rintro ⟨⟨hb, hc, hd⟩, h1, h2, h3⟩; exact ⟨hb, hc, hd, h1, h2⟩
 ·rintro ⟨hb, hc, hd, h1, h2⟩; exact ⟨⟨hb, hc, hd⟩, h1, h2, Or.inr (by omega)⟩
theorem beg43 {a b c d : Int} (h : 240 ≤ a ∧ a < 245) (hf : begB [a, b, c, d] 4 = true) : begB [a, b, c] 4 = true := by
 obtain ⟨hb, hc, hd, h1, h3⟩ := (beg44 h).1 hf
 rw [beg_iff (lo := [a, b, c, 128]) (hi := [a, b, c, 191]) rfl rfl, all2, fl4, val4 hb hc lo8, val4 hb hc hi8]
 rw [val4 hb hc hd] at h1 h3
 refine ⟨⟨hb, hc⟩, ?_⟩
 omega
theorem beg42 {a b c d : Int} (h : 240 ≤ a ∧ a < 245) (hf : begB [a, b, c, d] 4 = true) : begB [a, b] 4 = true := by
 obtain ⟨hb, hc, hd, h1, h3⟩ := (beg44 h).1 hf
 rw [beg_iff (lo := [a, b, 128, 128]) (hi := [a, b, 191, 191]) rfl rfl, all1, fl4, val4 hb lo8 lo8, val4 hb hi8 hi8]
 rw [val4 hb hc hd] at h1 h3
 refine ⟨hb, ?_⟩
 omega
open Go.Lib
theorem need_cases (a : Nat) : (needN a = 0 ∧ 128 ≤ a ∧ (a < 194 ∨ 245 ≤ a)) ∨ (needN a = 1 ∧ a < 128) ∨ (needN a = 2 ∧ 194 ≤ a ∧ a < 224) ∨ (needN a = 3 ∧ 224 ≤ a ∧ a < 240) ∨ (needN a = 4 ∧ 240 ≤ a ∧ a < 245) := by
 unfold needN
 repeat' split
 all_goals omega
theorem dec0 {n a b c d : Nat} (h : 128 ≤ a ∧ (a < 194 ∨ 245 ≤ a)) (ha : a < 256) : decodeN n a b c d = (65533, 1) := by
 unfold decodeN
 repeat' split
 all_goals first | rfl | (exfalso; omega)
theorem dec1 {n a b c d : Nat} (h : a < 128) : decodeN n a b c d = (a, 1) := by
 unfold decodeN; rw [if_pos h]
theorem dec2 {n a b c d : Nat} (h : 194 ≤ a ∧ a < 224) (hb : b < 256) (hk : 2 ≤ n ∧ 128 ≤ b ∧ b ≤ 191) : decodeN n a b c d = (64 * (a - 192) + b - 128, 2) := by
 unfold decodeN
 repeat' split
 all_goals first | (exfalso; omega) | (apply Prod.ext <;> simp only <;> omega)
theorem dec2n {n a b c d : Nat} (h : 194 ≤ a ∧ a < 224) (hb : b < 256) (hk : ¬ (2 ≤ n ∧ 128 ≤ b ∧ b ≤ 191)) : decodeN n a b c d = (65533, 1) := by
 unfold decodeN
 repeat' split
 all_goals first | rfl | (exfalso; omega)
theorem dec3 {n a b c d v : Nat} (h : 224 ≤ a ∧ a < 240) (hb : b < 256) (hc : c < 256) (hv : v = a % 16 * 4096 + b % 64 * 64 + c % 64) (hk : 3 ≤ n ∧ (128 ≤ b ∧ b ≤ 191) ∧ (128 ≤ c ∧ c ≤ 191) ∧ 2048 ≤ v ∧ (v < 55296 ∨ 57343 < v)) : decodeN n a b c d = (v, 3) := by
 subst hv
 unfold decodeN
 rw [if_neg (by omega), if_neg (by omega), if_pos (by omega), if_pos (by omega)]
theorem dec3n {n a b c d v : Nat} (h : 224 ≤ a ∧ a < 240) (hb : b < 256) (hc : c < 256) (hv : v = a % 16 * 4096 + b % 64 * 64 + c % 64) (hk : ¬ (3 ≤ n ∧ (128 ≤ b ∧ b ≤ 191) ∧ (128 ≤ c ∧ c ≤ 191) ∧ 2048 ≤ v ∧ (v < 55296 ∨ 57343 < v))) : decodeN n a b c d = (65533, 1) := by
 subst hv
 unfold decodeN
 rw [if_neg (by omega), if_neg (by omega)]
 by_cases h1 : a / 16 = 14 ∧ (1 < n ∧ b / 64 = 2) ∧ (2 < n ∧ c / 64 = 2)
 ·rw [if_pos h1, if_neg (by omega)]
 ·rw [if_neg h1, if_neg (by omega)]
theorem dec4 {n a b c d v : Nat} (h : 240 ≤ a ∧ a < 245) (hb : b < 256) (hc : c < 256) (hd : d < 256) (hv : v = a % 8 * 262144 + b % 64 * 4096 + c % 64 * 64 + d % 64) (hk : 4 ≤ n ∧ (128 ≤ b ∧ b ≤ 191) ∧ (128 ≤ c ∧ c ≤ 191) ∧ (128 ≤ d ∧ d ≤ 191) ∧ 65536 ≤ v ∧ v ≤ 1114111) : decodeN n a b c d = (v, 4) := by
 subst hv
 unfold decodeN
 rw [if_neg (by omega), if_neg (by omega), if_neg (by omega), if_pos (by omega), if_pos (by omega)]
theorem dec4n {n a b c d v : Nat} (h : 240 ≤ a ∧ a < 245) (hb : b < 256) (hc : c < 256) (hd : d < 256) (hv : v = a % 8 * 262144 + b % 64 * 4096 + c % 64 * 64 + d % 64) (hk : ¬ (4 ≤ n ∧ (128 ≤ b ∧ b ≤ 191) ∧ (128 ≤ c ∧ c ≤ 191) ∧ (128 ≤ d ∧ d ≤ 191) ∧ 65536 ≤ v ∧ v ≤ 1114111)) : decodeN n a b c d = (65533, 1) := by
 subst hv
 unfold decodeN
 rw [if_neg (by omega), if_neg (by omega), if_neg (by omega)]
 by_cases h1 : a / 8 = 30 ∧ (1 < n ∧ b / 64 = 2) ∧ (2 < n ∧ c / 64 = 2) ∧ (3 < n ∧ d / 64 = 2)
 ·rw [if_pos h1, if_neg (by omega)]
 ·rw [if_neg h1]
end Go.Proofs.YtckkdaehmccjlaaDoor.P
namespace Go.Proofs.YtckkdaehmccjlaaDoor.P
open Go.RowKit Go.Proofs.YtckkdaehmccjlaaDoorW.PrintWords Go.Proofs.YtckkdaehmccjlaaDoorW.PrintLast Go.Proofs.YtckkdaehmccjlaaDoorW.PrintMore Go.Lib
set_option linter.unusedVariables false
set_option linter.unusedSimpArgs false
theorem bt_get (s : ByteArray) (i : Nat) (h : i < s.size) : bt s (i : Nat) = ((s.get! i).toNat : Int) := by
  unfold bt
  rw [dif_pos (by simpa using h)]
  congr 2
  simp [ByteArray.get!, getElem!_pos, h]
  rfl
theorem pre1 (s : ByteArray) (h : 1 ≤ s.size) : bytesOf (s.extract 0 1) = [((s.get! 0).toNat : Int)] := by
  rw [pre_bytes s 1 h, bytesOf_cons s (by omega)]; simp [← bt_get s 0 (by omega)]
theorem pre2 (s : ByteArray) (h : 2 ≤ s.size) : bytesOf (s.extract 0 2) = [((s.get! 0).toNat : Int), ((s.get! 1).toNat : Int)] := by
  rw [pre_bytes s 2 h, bytesOf_cons s (by omega), bytesOf_drop s 1 (by omega)]; simp [← bt_get s 0 (by omega), ← bt_get s 1 (by omega)]
theorem pre3 (s : ByteArray) (h : 3 ≤ s.size) : bytesOf (s.extract 0 3) = [((s.get! 0).toNat : Int), ((s.get! 1).toNat : Int), ((s.get! 2).toNat : Int)] := by
  rw [pre_bytes s 3 h, bytesOf_cons s (by omega), bytesOf_drop s 1 (by omega), bytesOf_drop s 2 (by omega)]; simp [← bt_get s 0 (by omega), ← bt_get s 1 (by omega), ← bt_get s 2 (by omega)]
theorem pre4 (s : ByteArray) (h : 4 ≤ s.size) : bytesOf (s.extract 0 4) = [((s.get! 0).toNat : Int), ((s.get! 1).toNat : Int), ((s.get! 2).toNat : Int), ((s.get! 3).toNat : Int)] := by
  rw [pre_bytes s 4 h, bytesOf_cons s (by omega), bytesOf_drop s 1 (by omega), bytesOf_drop s 2 (by omega), bytesOf_drop s 3 (by omega)]; simp [← bt_get s 0 (by omega), ← bt_get s 1 (by omega), ← bt_get s 2 (by omega), ← bt_get s 3 (by omega)]
theorem dec_go (s : ByteArray) (h : s.size ≠ 0) : decodeGo s = decodeN s.size (s.get! 0).toNat (s.get! 1).toNat (s.get! 2).toNat (s.get! 3).toNat := by
  unfold decodeGo; rw [if_neg h, decode_at]; simp
theorem byte_lt (s : ByteArray) (i : Nat) : (s.get! i).toNat < 256 := (s.get! i).toNat_lt
theorem ref_sem (s : ByteArray) (h0 : s.size ≠ 0) : needN (s.get! 0).toNat = 0 ∧ ¬ okD s ∨ 1 ≤ needN (s.get! 0).toNat ∧ needN (s.get! 0).toNat ≤ 4 ∧
    ((∀ i, 1 < i → i ≤ needN (s.get! 0).toNat → i ≤ s.size ∧ begB (bytesOf (s.extract 0 i)) (needN (s.get! 0).toNat) = true) ∧ okD s ∧ (decodeGo s).2 = needN (s.get! 0).toNat ∧ valueZ (bytesOf (s.extract 0 (needN (s.get! 0).toNat))) = (decodeGo s).1 ∨
     (∃ i, 1 < i ∧ i ≤ needN (s.get! 0).toNat ∧ ¬ (i ≤ s.size ∧ begB (bytesOf (s.extract 0 i)) (needN (s.get! 0).toNat) = true)) ∧ ¬ okD s) := by
  unfold okD
  rw [dec_go s h0]
  have ha := byte_lt s 0
  have hb := byte_lt s 1
  have hc := byte_lt s 2
  have hd := byte_lt s 3
  have q1 := pre1 s (by omega)
  have q2 := fun h => pre2 s h
  have q3 := fun h => pre3 s h
  have q4 := fun h => pre4 s h
  generalize (s.get! 0).toNat = a at *
  generalize (s.get! 1).toNat = b at *
  generalize (s.get! 2).toNat = c at *
  generalize (s.get! 3).toNat = d at *
  rcases need_cases a with ⟨e, h⟩ | ⟨e, h⟩ | ⟨e, h⟩ | ⟨e, h⟩ | ⟨e, h⟩
  · left; rw [dec0 h ha]; exact ⟨e, by simp⟩
  · right
    rw [e, dec1 h, q1]
    exact ⟨by omega, by omega, Or.inl ⟨fun i h1 h2 => by omega, by simp; omega, rfl, rfl⟩⟩
  · right
    rw [e]
    refine ⟨by omega, by omega, ?_⟩
    by_cases hk : 2 ≤ s.size ∧ 128 ≤ b ∧ b ≤ 191
    · left
      rw [dec2 h hb hk, q2 hk.1, val2 (by omega)]
      refine ⟨fun i h1 h2 => ?_, by simp, rfl, by simp only; omega⟩
      obtain rfl : i = 2 := by omega
      exact ⟨hk.1, by rw [q2 hk.1]; exact (beg22 (by omega)).2 (by omega)⟩
    · right
      rw [dec2n h hb hk]
      refine ⟨⟨2, by omega, by omega, fun hx => hk ?_⟩, by simp⟩
      rw [q2 hx.1] at hx
      have := (beg22 (by omega)).1 hx.2
      omega
  · right
    rw [e]
    refine ⟨by omega, by omega, ?_⟩
    by_cases hk : 3 ≤ s.size ∧ (128 ≤ b ∧ b ≤ 191) ∧ (128 ≤ c ∧ c ≤ 191) ∧ 2048 ≤ a % 16 * 4096 + b % 64 * 64 + c % 64 ∧ (a % 16 * 4096 + b % 64 * 64 + c % 64 < 55296 ∨ 57343 < a % 16 * 4096 + b % 64 * 64 + c % 64)
    · left
      rw [dec3 h hb hc rfl hk, q3 hk.1, val3 (by omega) (by omega)]
      have hv : (64 * (64 * ((a : Int) - 224) + b - 128) + c - 128 : Int) = ((a % 16 * 4096 + b % 64 * 64 + c % 64 : Nat) : Int) := by omega
      have hf : begB [(a : Int), b, c] 3 = true := (beg33 (by omega)).2 ⟨by omega, by omega, by rw [val3 (by omega) (by omega), hv]; omega, by rw [val3 (by omega) (by omega), hv]; omega⟩
      refine ⟨fun i h1 h2 => ?_, by simp, rfl, hv⟩
      rcases (show i = 2 ∨ i = 3 by omega) with rfl | rfl
      · exact ⟨by omega, by rw [q2 (by omega)]; exact beg32 (by omega) hf⟩
      · exact ⟨by omega, by rw [q3 (by omega)]; exact hf⟩
    · right
      rw [dec3n h hb hc rfl hk]
      refine ⟨⟨3, by omega, by omega, fun hx => hk ?_⟩, by simp⟩
      rw [q3 hx.1] at hx
      obtain ⟨x1, x2, x3, x4⟩ := (beg33 (by omega)).1 hx.2
      rw [val3 x1 x2] at x3 x4
      omega
  · right
    rw [e]
    refine ⟨by omega, by omega, ?_⟩
    by_cases hk : 4 ≤ s.size ∧ (128 ≤ b ∧ b ≤ 191) ∧ (128 ≤ c ∧ c ≤ 191) ∧ (128 ≤ d ∧ d ≤ 191) ∧ 65536 ≤ a % 8 * 262144 + b % 64 * 4096 + c % 64 * 64 + d % 64 ∧ a % 8 * 262144 + b % 64 * 4096 + c % 64 * 64 + d % 64 ≤ 1114111
    · left
      rw [dec4 h hb hc hd rfl hk, q4 hk.1, val4 (by omega) (by omega) (by omega)]
      have hv : (64 * (64 * (64 * ((a : Int) - 240) + b - 128) + c - 128) + d - 128 : Int) = ((a % 8 * 262144 + b % 64 * 4096 + c % 64 * 64 + d % 64 : Nat) : Int) := by omega
      have hf : begB [(a : Int), b, c, d] 4 = true := (beg44 (by omega)).2 ⟨by omega, by omega, by omega, by rw [val4 (by omega) (by omega) (by omega), hv]; omega, by rw [val4 (by omega) (by omega) (by omega), hv]; omega⟩
      refine ⟨fun i h1 h2 => ?_, by simp, rfl, hv⟩
      rcases (show i = 2 ∨ i = 3 ∨ i = 4 by omega) with rfl | rfl | rfl
      · exact ⟨by omega, by rw [q2 (by omega)]; exact beg42 (by omega) hf⟩
      · exact ⟨by omega, by rw [q3 (by omega)]; exact beg43 (by omega) hf⟩
      · exact ⟨by omega, by rw [q4 (by omega)]; exact hf⟩
    · right
      rw [dec4n h hb hc hd rfl hk]
      refine ⟨⟨4, by omega, by omega, fun hx => hk ?_⟩, by simp⟩
      rw [q4 hx.1] at hx
      obtain ⟨x1, x2, x3, x4, x5⟩ := (beg44 (by omega)).1 hx.2
      rw [val4 x1 x2 x3] at x4 x5
      omega
def FirstIs (s : ByteArray) (r : Int × Int × Int) : Prop := (okD s ∧ r = (((decodeGo s).1 : Int), ((decodeGo s).2 : Int), 0)) ∨ (¬ okD s ∧ r.2.2 ≠ 0)
theorem empty_not (s : ByteArray) (h : s.size = 0) : ¬ okD s := by
 unfold okD decodeGo; rw [if_pos h]; simp
theorem ref_first (s : ByteArray) (hs : (s.size : Int) ≤ 9223372036854775807) : ∃ r, Ev (fun k => backseatref01_First.f k s) r ∧ FirstIs s r := by
 by_cases h0 : s.size = 0
 ·exact ⟨(0, 0, 2), by unfold backseatref01_First.f; exact Ev.pos (by omega) (Ev.ret _), Or.inr ⟨empty_not s h0, by simp⟩⟩
 have hb : bt s 0 = ((s.get! 0).toNat : Int) := bt_get s 0 (by omega)
 have hn := need_ev (s.get! 0).toNat
 rw [← hb] at hn
 rcases ref_sem s h0 with ⟨e, hk⟩ | ⟨g1, g4, hx⟩
 ·refine ⟨(0, 1, 4), ?_, Or.inr ⟨hk, by simp⟩⟩
  unfold backseatref01_First.f
  refine Ev.neg (by omega) (Ev.pos (by omega) (Ev.bind hn ?_))
  rw [e]
  exact Ev.pos rfl (Ev.ret _)
 ·have hl := ref_loop s (needN (s.get! 0).toNat) g1 g4 hs (needN (s.get! 0).toNat - 1) 1 (by omega) (Nat.le_refl _) (by omega)
  have hgo : ∀ r, Ev (fun k => backseatref01_First.l0 k s (needN (s.get! 0).toNat) ((1 : Nat) : Int)) r → Ev (fun k => backseatref01_First.f k s) r := fun r hr => by
   unfold backseatref01_First.f
   exact Ev.neg (by omega) (Ev.pos (by omega) (Ev.bind hn (Ev.neg (by omega) hr)))
  rcases hl with ⟨l1, l2⟩ | ⟨⟨i, l1, l2, l3⟩, a, e, le, l4⟩
  ·rcases hx with ⟨x1, x2, x3, x4⟩ | ⟨⟨i, x1, x2, x3⟩, _⟩
   ·exact ⟨_, hgo _ l2, Or.inl ⟨x2, by rw [x3, x4]⟩⟩
   ·exact absurd (l1 i x1 x2) x3
  ·rcases hx with ⟨x1, x2, x3, x4⟩ | ⟨_, x3⟩
   ·exact absurd (x1 i l1 l2) l3
   ·exact ⟨_, hgo _ l4, Or.inr ⟨x3, le⟩⟩
theorem full_of (s : ByteArray) (h : okD s) : fullN s.size (s.get! 0).toNat (s.get! 1).toNat (s.get! 2).toNat = true := by
 have h0 : s.size ≠ 0 := fun e => empty_not s e h
 unfold okD at h
 rw [dec_go s h0] at h
 have ha := byte_lt s 0
 have hb := byte_lt s 1
 have hc := byte_lt s 2
 have hd := byte_lt s 3
 generalize (s.get! 0).toNat = a at *
 generalize (s.get! 1).toNat = b at *
 generalize (s.get! 2).toNat = c at *
 generalize (s.get! 3).toNat = d at *
 have key : ∀ m, Lib.firstT a % 8 = m → m ≤ s.size → fullN s.size a b c = true := fun m h1 h2 => by
  unfold fullN; rw [if_neg h0, if_pos (by omega)]
 rcases need_cases a with ⟨e, g⟩ | ⟨e, g⟩ | ⟨e, g⟩ | ⟨e, g⟩ | ⟨e, g⟩
 ·rw [dec0 g ha] at h; exact absurd ⟨rfl, Nat.le_refl _⟩ h
 ·exact key 0 (by unfold Lib.firstT; rw [if_pos g]) (by omega)
 ·by_cases hk : 2 ≤ s.size ∧ 128 ≤ b ∧ b ≤ 191
  ·exact key 2 (by unfold Lib.firstT; rw [if_neg (by omega), if_neg (by omega), if_pos (by omega)]) hk.1
  ·rw [dec2n g hb hk] at h; exact absurd ⟨rfl, Nat.le_refl _⟩ h
 ·by_cases hk : 3 ≤ s.size ∧ (128 ≤ b ∧ b ≤ 191) ∧ (128 ≤ c ∧ c ≤ 191) ∧ 2048 ≤ a % 16 * 4096 + b % 64 * 64 + c % 64 ∧ (a % 16 * 4096 + b % 64 * 64 + c % 64 < 55296 ∨ 57343 < a % 16 * 4096 + b % 64 * 64 + c % 64)
  ·refine key 3 ?_ hk.1
   unfold Lib.firstT
   rw [if_neg (by omega), if_neg (by omega), if_neg (by omega)]
   repeat' split
   all_goals first | rfl | omega
  ·rw [dec3n g hb hc rfl hk] at h; exact absurd ⟨rfl, Nat.le_refl _⟩ h
 ·by_cases hk : 4 ≤ s.size ∧ (128 ≤ b ∧ b ≤ 191) ∧ (128 ≤ c ∧ c ≤ 191) ∧ (128 ≤ d ∧ d ≤ 191) ∧ 65536 ≤ a % 8 * 262144 + b % 64 * 4096 + c % 64 * 64 + d % 64 ∧ a % 8 * 262144 + b % 64 * 4096 + c % 64 * 64 + d % 64 ≤ 1114111
  ·refine key 4 ?_ hk.1
   have : a < 245 ∧ a ≤ 244 := by omega
   unfold Lib.firstT
   rw [if_neg (by omega), if_neg (by omega), if_neg (by omega), if_neg (by omega), if_neg (by omega), if_neg (by omega), if_neg (by omega)]
   repeat' split
   all_goals first | rfl | omega
  ·rw [dec4n g hb hc hd rfl hk] at h; exact absurd ⟨rfl, Nat.le_refl _⟩ h
theorem utf_loop (s : ByteArray) (hs : (s.size : Int) ≤ 9223372036854775807) : ∀ m x, x + m = s.size → ∃ y : Int, Ev (fun k => utf_First.l0 k s (x : Nat)) (0, y, 4)
 | 0, x, hx => ⟨x, Ev.succ (by simp only [utf_First.l0]; exact Ev.neg (by omega) (Ev.ret _))⟩
 | m + 1, x, hx => by
  have hw := w64 x (by omega)
  by_cases hf : fullN (s.extract 0 (x + 1)).size ((s.extract 0 (x + 1)).get! 0).toNat ((s.extract 0 (x + 1)).get! 1).toNat ((s.extract 0 (x + 1)).get! 2).toNat = true
  ·refine ⟨x, Ev.succ ?_⟩
   simp only [utf_First.l0]
   refine Ev.pos (by omega) ?_
   rw [hw]
   refine Ev.pos (by omega) (Ev.pos (by omega) ?_)
   rw [Int.toNat_natCast]
   exact Ev.bind (v := true) (Ev.of (by unfold utf8_FullRuneInString.f; rw [hf])) (Ev.pos rfl (Ev.ret _))
  ·obtain ⟨y, hy⟩ := utf_loop s hs m (x + 1) (by omega)
   refine ⟨y, Ev.succ ?_⟩
   simp only [utf_First.l0]
   refine Ev.pos (by omega) ?_
   rw [hw]
   refine Ev.pos (by omega) (Ev.pos (by omega) ?_)
   rw [Int.toNat_natCast]
   exact Ev.bind (v := false) (Ev.of (by unfold utf8_FullRuneInString.f; rw [Bool.eq_false_iff.2 hf])) (Ev.neg (by decide) hy)
theorem utf_first (s : ByteArray) (hs : (s.size : Int) ≤ 9223372036854775807) : ∃ r, Ev (fun k => utf_First.f k s) r ∧ FirstIs s r := by
 unfold utf_First.f utf8_FullRuneInString.f utf8_DecodeRuneInString.f
 by_cases hf : fullN s.size (s.get! 0).toNat (s.get! 1).toNat (s.get! 2).toNat = true
 ·have hstep : ∀ r, Ev (fun k => if ((decodeGo s).1 : Int) = 65533 then utf_First.j0 k s (decodeGo s).1 (decodeGo s).2 (decide (((decodeGo s).2 : Int) > 1)) else utf_First.j0 k s (decodeGo s).1 (decodeGo s).2 true) r →
    Ev (fun k => (some (fullN s.size (s.get! 0).toNat (s.get! 1).toNat (s.get! 2).toNat)).bind fun t124 => if t124 = true then (some (((decodeGo s).1 : Int), ((decodeGo s).2 : Int))).bind fun bt125 => if bt125.1 = 65533 then utf_First.j0 k s bt125.1 bt125.2 (decide (bt125.2 > 1)) else utf_First.j0 k s bt125.1 bt125.2 true else some (0, 0, 2)) r := fun r hr =>
   Ev.bind (v := true) (Ev.of (by rw [hf])) (Ev.pos rfl (Ev.bind (v := (((decodeGo s).1 : Int), ((decodeGo s).2 : Int))) (Ev.ret _) hr))
  have ht : Ev (fun k => utf_First.j0 k s (decodeGo s).1 (decodeGo s).2 true) (((decodeGo s).1 : Int), ((decodeGo s).2 : Int), 0) := Ev.succ (by simp only [utf_First.j0]; exact Ev.pos trivial (Ev.ret _))
  by_cases h1 : ((decodeGo s).1 : Int) = 65533
  ·by_cases h2 : ((decodeGo s).2 : Int) > 1
   ·refine ⟨_, hstep _ (Ev.pos h1 ?_), Or.inl ⟨fun h => by omega, rfl⟩⟩
    rw [decide_eq_true h2]; exact ht
   ·obtain ⟨y, hy⟩ := utf_loop s hs (s.size - (decodeGo s).2) (decodeGo s).2 (by
     have : (decodeGo s).2 ≤ 1 := by omega
     have : s.size ≠ 0 := fun e => by rw [e] at hf; simp [fullN] at hf
     omega)
    refine ⟨(0, y, 4), hstep _ (Ev.pos h1 ?_), Or.inr ⟨fun h => h ⟨by omega, by omega⟩, by simp⟩⟩
    rw [decide_eq_false h2]
    exact Ev.succ (by simp only [utf_First.j0]; exact Ev.neg (by decide) hy)
  ·exact ⟨_, hstep _ (Ev.neg h1 ht), Or.inl ⟨fun h => by omega, rfl⟩⟩
 ·refine ⟨(0, 0, 2), Ev.bind (v := false) (Ev.of (by rw [Bool.eq_false_iff.2 hf])) (Ev.neg (by decide) (Ev.ret _)), Or.inr ⟨fun h => hf (full_of s h), by simp⟩⟩
end Go.Proofs.YtckkdaehmccjlaaDoor.P
namespace Go.Proofs.YtckkdaehmccjlaaDoor.P
set_option linter.unusedVariables false
set_option linter.unusedSimpArgs false
def inB (r lo hi : Int) : Bool := decide (lo ≤ r) && decide (r ≤ hi)
theorem in_f (r lo hi : Int) : backseatref01_in.f r lo hi = some (inB r lo hi) := by
 unfold backseatref01_in.f inB
 by_cases h : lo ≤ r <;> simp [h]
theorem is_f (r : Int) : backseatref01_Is.f r = some (Lib.validRune r) := by
 unfold backseatref01_Is.f Lib.validRune
 by_cases h0 : r ≥ 0
 ·by_cases h1 : r ≤ 1114111
  ·by_cases h2 : r < 55296
   ·rw [if_pos h0, if_pos h1, if_pos h2, decide_eq_true (by omega)]
   ·rw [if_pos h0, if_pos h1, if_neg h2]; congr 1; rw [decide_eq_decide]; omega
  ·rw [if_pos h0, if_neg h1, decide_eq_false (by omega)]
 ·rw [if_neg h0, decide_eq_false (by omega)]
def widthP (r : Int) : Int := if noLetter r = true then -1 else if inAny r zeroSpans = true then 0 else if inAny r wideSpans = true then 2 else 1
theorem utf_width (r : Int) : utf_Width.f r = some (widthP r) := rfl
theorem ref_width (r : Int) (k : Nat) : backseatref01_Width.f (k + 3) r = some (widthP r) := by
 have hz : inAny r zeroSpans = (inB r 768 879 || inB r 8203 8205 || inB r 65024 65039) := by simp [inAny, zeroSpans, inB, Bool.or_assoc]
 have hw : inAny r wideSpans = (inB r 4352 4447 || inB r 12353 19903 || inB r 19968 40959 || inB r 44032 55203 || inB r 63744 64255 || inB r 65281 65376 || inB r 127744 129791 || inB r 131072 262141) := by simp [inAny, wideSpans, inB, Bool.or_assoc]
 have hn : noLetter r = (!Lib.validRune r || decide (r < 32) || inB r 127 159) := by
  unfold noLetter inB
  congr 2
  rw [decide_eq_decide]; omega
 unfold widthP
 rw [hz, hw, hn]
 unfold backseatref01_Width.f
 simp only [is_f, in_f, Option.bind_some]
 have j0t : ∀ k, backseatref01_Width.j0 (k + 1) r true = some (-1) := fun k => by simp [backseatref01_Width.j0]
 have j1t : ∀ k, backseatref01_Width.j1 (k + 1) r true = some 0 := fun k => by simp [backseatref01_Width.j1]
 have j2t : ∀ k, backseatref01_Width.j2 (k + 1) r true = some 2 := fun k => by simp [backseatref01_Width.j2]
 have j2f : ∀ k, backseatref01_Width.j2 (k + 1) r false = some (if (inB r 63744 64255 || inB r 65281 65376 || inB r 127744 129791 || inB r 131072 262141) = true then 2 else 1) := fun k => by
  simp only [backseatref01_Width.j2, in_f, Option.bind_some]
  cases inB r 63744 64255 <;> cases inB r 65281 65376 <;> cases inB r 127744 129791 <;> cases inB r 131072 262141 <;> rfl
 have j1f : ∀ k, backseatref01_Width.j1 (k + 2) r false = some (if (inB r 4352 4447 || inB r 12353 19903 || inB r 19968 40959 || inB r 44032 55203 || inB r 63744 64255 || inB r 65281 65376 || inB r 127744 129791 || inB r 131072 262141) = true then 2 else 1) := fun k => by
  simp only [backseatref01_Width.j1, in_f, Option.bind_some]
  cases inB r 4352 4447 <;> cases inB r 12353 19903 <;> cases inB r 19968 40959 <;> cases inB r 44032 55203 <;> simp [j2t, j2f]
 have j0f : ∀ k, backseatref01_Width.j0 (k + 3) r false = some (if (inB r 768 879 || inB r 8203 8205 || inB r 65024 65039) = true then 0 else if (inB r 4352 4447 || inB r 12353 19903 || inB r 19968 40959 || inB r 44032 55203 || inB r 63744 64255 || inB r 65281 65376 || inB r 127744 129791 || inB r 131072 262141) = true then 2 else 1) := fun k => by
  simp only [backseatref01_Width.j0, in_f, Option.bind_some]
  cases inB r 768 879 <;> cases inB r 8203 8205 <;> cases inB r 65024 65039 <;> simp [j1t, j1f]
 cases Lib.validRune r
 ·simp [j0t]
 ·by_cases h : r < 32
  ·simp [h, j0t]
  ·simp only [h, if_true, if_false, decide_false, Bool.not_true, Bool.false_or]
   cases inB r 127 159
   ·rw [j0f]; simp
   ·rw [j0t]; simp
theorem ref_width_ev (r : Int) : Ev (fun k => backseatref01_Width.f k r) (widthP r) := ⟨3, fun k hk => by
 obtain ⟨j, rfl⟩ : ∃ j, k = j + 3 := ⟨k - 3, by omega⟩
 exact ref_width r j⟩
end Go.Proofs.YtckkdaehmccjlaaDoor.P
namespace Go.Proofs.YtckkdaehmccjlaaDoor.P
open Go.RowKit Go.Proofs.YtckkdaehmccjlaaDoorW.PrintWords Go.Proofs.YtckkdaehmccjlaaDoorW.PrintLast Go.Proofs.YtckkdaehmccjlaaDoorW.PrintMore Go.Lib
set_option linter.unusedVariables false
set_option linter.unusedSimpArgs false
theorem toList_nil (s : ByteArray) : s.toList = ([] : List UInt8) ↔ s.size = 0 := by
 rw [ByteArray.toList_eq]
 constructor
 ·intro h; have := congrArg List.length h; rw [Array.length_toList] at this; exact this
 ·intro h; exact List.eq_nil_of_length_eq_zero (by rw [Array.length_toList]; exact h)
theorem cell_in_f (r lo hi : Int) : cell_in.f r lo hi = some (inB r lo hi) := by
 unfold cell_in.f inB
 by_cases h : lo ≤ r <;> simp [h]
theorem ref04_in_f (r lo hi : Int) : backseatref04_in.f r lo hi = some (inB r lo hi) := by
 unfold backseatref04_in.f inB
 by_cases h : lo ≤ r <;> simp [h]
def lookB (x y z : Int) : Bool := inB x 0 256 && (inB y 0 256 && inB z 0 255)
theorem look_f (x y z : Int) : cell_Look.f x y z = some (lookB x y z) := by
 unfold cell_Look.f lookB
 simp only [cell_in_f, Option.bind_some]
 cases inB x 0 256 <;> cases inB y 0 256 <;> simp
theorem ref_look_f (x y z : Int) : backseatref04_Look.f x y z = some (lookB x y z) := by
 unfold backseatref04_Look.f lookB
 simp only [ref04_in_f, Option.bind_some]
 cases inB x 0 256 <;> cases inB y 0 256 <;> simp
theorem inB_iff {r lo hi : Int} : inB r lo hi = true ↔ lo ≤ r ∧ r ≤ hi := by unfold inB; simp
theorem rest_size (s : ByteArray) (n : Nat) (h : n ≤ s.size) : (s.extract n s.size).size = s.size - n := by simp [ByteArray.size_extract]
theorem go_size {s : ByteArray} (h : okD s) : 1 ≤ (decodeGo s).2 ∧ (decodeGo s).2 ≤ s.size := by
 have h0 : s.size ≠ 0 := fun e => empty_not s e h
 exact ⟨by rw [dec_go s h0]; exact decodeN_ge1 _ _ _ _ _, decodeGo_le_size s⟩
def marksI (c : Nat) : Option Nat → Int
 | some m => ((c + m : Nat) : Int)
 | none => -1
def marksB (c : Nat) : Option Nat → Bool
 | some m => decide (((c + m : Nat) : Int) ≤ 2)
 | none => false
theorem marks_same : ∀ (n : Nat) (s : ByteArray) (c : Nat), s.size = n → ((c + n : Nat) : Int) ≤ 9223372036854775806 → ∃ o, Ev (fun k => cell_marks.l0 k s (c : Int)) (marksI c o) ∧ Ev (fun k => backseatref04_Right.l0 k s (c : Int)) (marksB c o) := by
 intro n
 induction n using Nat.strongRecOn with
 | _ n ih =>
  intro s c hn hc
  by_cases h0 : s.size = 0
  ·refine ⟨some 0, Ev.succ ?_, Ev.succ ?_⟩
   ·simp only [cell_marks.l0]
    exact Ev.pos ((toList_nil s).2 h0) (Ev.ret _)
   ·simp only [backseatref04_Right.l0]
    exact Ev.neg (by omega) (Ev.ret _)
  ·obtain ⟨r, hr, hF⟩ := utf_first s (by omega)
   obtain ⟨r', hr', hF'⟩ := ref_first s (by omega)
   have hne : ¬ s.toList = ([] : List UInt8) := fun e => h0 ((toList_nil s).1 e)
   rcases hF with ⟨ok, rfl⟩ | ⟨no, hz⟩
   ·rcases hF' with ⟨_, rfl⟩ | ⟨no, _⟩
    rotate_left
    ·exact absurd ok no
    have hg := go_size ok
    by_cases hw : widthP (decodeGo s).1 = 0
    ·obtain ⟨o, h1, h2⟩ := ih (s.size - (decodeGo s).2) (by omega) (s.extract (decodeGo s).2 s.size) (c + 1) (rest_size s _ hg.2) (by omega)
     have hwr := w64 c (by omega)
     refine ⟨o.map (· + 1), Ev.succ ?_, Ev.succ ?_⟩
     ·simp only [cell_marks.l0]
      refine Ev.neg hne (Ev.bind hr (Ev.pos rfl (Ev.bind (Ev.of (utf_width _)) (Ev.pos hw (Ev.pos (by simp only; omega) (Ev.pos (by simp only; omega) ?_))))))
      rw [hwr]
      have e : marksI c (o.map (· + 1)) = marksI (c + 1) o := by cases o with
       | none => rfl
       | some m => simp only [marksI, Option.map_some]; omega
      rw [e]; exact h1
     ·simp only [backseatref04_Right.l0]
      refine Ev.pos (by omega) (Ev.bind hr' (Ev.pos rfl (Ev.bind (ref_width_ev _) (Ev.pos hw (Ev.pos (by simp only; omega) (Ev.pos (by simp only; omega) ?_))))))
      rw [hwr]
      have e : marksB c (o.map (· + 1)) = marksB (c + 1) o := by cases o with
       | none => rfl
       | some m => simp only [marksB, Option.map_some]; rw [show c + (m + 1) = c + 1 + m by omega]
      rw [e]; exact h2
    ·refine ⟨none, Ev.succ ?_, Ev.succ ?_⟩
     ·simp only [cell_marks.l0]
      exact Ev.neg hne (Ev.bind hr (Ev.pos rfl (Ev.bind (Ev.of (utf_width _)) (Ev.neg hw (Ev.ret _)))))
     ·simp only [backseatref04_Right.l0]
      exact Ev.pos (by omega) (Ev.bind hr' (Ev.pos rfl (Ev.bind (ref_width_ev _) (Ev.neg hw (Ev.ret _)))))
   ·rcases hF' with ⟨ok, rfl⟩ | ⟨_, hz'⟩
    ·exact absurd ok no
    refine ⟨none, Ev.succ ?_, Ev.succ ?_⟩
    ·simp only [cell_marks.l0]
     exact Ev.neg hne (Ev.bind hr (Ev.neg hz (Ev.ret _)))
    ·simp only [backseatref04_Right.l0]
     exact Ev.pos (by omega) (Ev.bind hr' (Ev.neg hz' (Ev.ret _)))
theorem right_same (s : ByteArray) (wd x y z : Int) (hs : (s.size : Int) ≤ 9223372036854775806) : ∃ b, Ev (fun k => cell_Right.f k s wd x y z) b ∧ Ev (fun k => backseatref04_Right.f k s wd x y z) b := by
 have ref0 : Ev (fun k => backseatref04_Right.j0 k true s wd x y z) false := Ev.succ (by simp only [backseatref04_Right.j0]; exact Ev.pos trivial (Ev.ret _))
 have ref1 : ∀ a b c, Ev (fun k => backseatref04_Right.j1 k true s wd x y z a b c) false := fun a b c => Ev.succ (by simp only [backseatref04_Right.j1]; exact Ev.pos trivial (Ev.ret _))
 have prg0 : ∀ n, Ev (fun k => cell_Right.j0 k n true s wd x y z) false := fun n => Ev.succ (by simp only [cell_Right.j0]; exact Ev.pos trivial (Ev.ret _))
 have refNo : (lookB x y z = false ∨ wd < 0 ∨ 2 < wd) → Ev (fun k => backseatref04_Right.f k s wd x y z) false := fun h => by
  unfold backseatref04_Right.f
  refine Ev.bind (Ev.of (ref_look_f x y z)) ?_
  by_cases hl : lookB x y z = true
  ·refine Ev.pos hl ?_
   by_cases h1 : wd < 0
   ·exact Ev.pos h1 ref0
   ·refine Ev.neg h1 ?_
    rw [decide_eq_true (by rcases h with h | h | h <;> first | (rw [h] at hl; cases hl) | omega)]
    exact ref0
  ·exact Ev.neg hl ref0
 have refYes : ∀ b, lookB x y z = true → ¬ wd < 0 → ¬ 2 < wd → Ev (fun k => if s.toList = ([] : List UInt8) then (some (decide (wd < 2))) else ((backseatref01_First.f k s).bind fun bt222 => (if bt222.2.2 = 0 then (if wd = 0 then (backseatref04_Right.j1 k true s wd x y z bt222.1 bt222.2.1 bt222.2.2) else ((backseatref01_Width.f k bt222.1).bind fun t226 => (backseatref04_Right.j1 k (t226 != wd) s wd x y z bt222.1 bt222.2.1 bt222.2.2))) else (backseatref04_Right.j1 k true s wd x y z bt222.1 bt222.2.1 bt222.2.2)))) b → Ev (fun k => backseatref04_Right.f k s wd x y z) b := fun b hl h1 h2 hb => by
  unfold backseatref04_Right.f
  refine Ev.bind (Ev.of (ref_look_f x y z)) (Ev.pos hl (Ev.neg h1 ?_))
  rw [decide_eq_false h2]
  refine Ev.succ ?_
  simp only [backseatref04_Right.j0]
  exact Ev.neg (by decide) hb
 by_cases h0 : s.size = 0
 ·have hE := (toList_nil s).2 h0
  have hp : Ev (fun k => cell_Right.f k s wd x y z) (lookB x y z && inB wd 0 1) := by
   unfold cell_Right.f
   refine Ev.pos hE (Ev.bind (Ev.of (look_f x y z)) ?_)
   cases hl : lookB x y z
   ·exact Ev.neg (by decide) (Ev.ret _)
   ·exact Ev.pos rfl (Ev.bind (Ev.of (cell_in_f _ _ _)) (Ev.ret _))
  refine ⟨_, hp, ?_⟩
  by_cases hl : lookB x y z = true
  ·by_cases h1 : wd < 0
   ·have e : (lookB x y z && inB wd 0 1) = false := by rw [hl]; unfold inB; simp; omega
    rw [e]; exact refNo (Or.inr (Or.inl h1))
   ·by_cases h2 : 2 < wd
    ·have e : (lookB x y z && inB wd 0 1) = false := by rw [hl]; unfold inB; simp; omega
     rw [e]; exact refNo (Or.inr (Or.inr h2))
    ·have e : (lookB x y z && inB wd 0 1) = decide (wd < 2) := by rw [hl]; unfold inB; rw [Bool.true_and, decide_eq_true (by omega), Bool.true_and, decide_eq_decide]; omega
     rw [e]; exact refYes _ hl h1 h2 (Ev.pos hE (Ev.ret _))
  ·have e : (lookB x y z && inB wd 0 1) = false := by rw [Bool.eq_false_iff.2 hl, Bool.false_and]
   rw [e]; exact refNo (Or.inl (Bool.eq_false_iff.2 hl))
 ·have hne : ¬ s.toList = ([] : List UInt8) := fun e => h0 ((toList_nil s).1 e)
  obtain ⟨r, hr, hF⟩ := utf_first s (by omega)
  obtain ⟨r', hr', hF'⟩ := ref_first s (by omega)
  rcases hF with ⟨ok, rfl⟩ | ⟨no, hz⟩
  ·rcases hF' with ⟨_, rfl⟩ | ⟨no, _⟩
   rotate_left
   ·exact absurd ok no
   have hg := go_size ok
   have prgNo : (¬ (1 ≤ wd ∧ wd ≤ 2) ∨ widthP (decodeGo s).1 ≠ wd ∨ lookB x y z = false) → Ev (fun k => cell_Right.f k s wd x y z) false := fun h => by
    unfold cell_Right.f
    refine Ev.neg hne (Ev.bind hr (Ev.pos rfl (Ev.bind (Ev.of (cell_in_f _ _ _)) ?_)))
    by_cases hw : inB wd 1 2 = true
    ·refine Ev.pos hw (Ev.bind (Ev.of (utf_width _)) ?_)
     by_cases hq : widthP (decodeGo s).1 = wd
     ·have hl : lookB x y z = false := by
       rcases h with h | h | h
       ·exact absurd (inB_iff.1 hw) h
       ·exact absurd hq h
       ·exact h
      simp only [hq, bne_self_eq_false]
      refine Ev.succ ?_
      simp only [cell_Right.j0]
      refine Ev.neg (by decide) (Ev.bind (Ev.of (look_f x y z)) ?_)
      rw [hl]; exact Ev.neg (by decide) (Ev.ret _)
     ·have : (widthP (decodeGo s).1 != wd) = true := bne_iff_ne.2 hq
      simp only [this]; exact prg0 _
    ·exact Ev.neg hw (prg0 _)
   by_cases hl : lookB x y z = true
   ·by_cases hw : (1 ≤ wd ∧ wd ≤ 2) ∧ widthP (decodeGo s).1 = wd
    ·obtain ⟨o, m1, m2⟩ := marks_same _ (s.extract (decodeGo s).2 s.size) 0 rfl (by rw [rest_size s _ hg.2]; omega)
     have hbne : (widthP (decodeGo s).1 != wd) = false := by rw [hw.2]; exact bne_self_eq_false _
     refine ⟨marksB 0 o, ?_, ?_⟩
     ·unfold cell_Right.f
      refine Ev.neg hne (Ev.bind hr (Ev.pos rfl (Ev.bind (Ev.of (cell_in_f _ _ _)) (Ev.pos (inB_iff.2 hw.1) (Ev.bind (Ev.of (utf_width _)) ?_)))))
      simp only [hbne]
      refine Ev.succ ?_
      simp only [cell_Right.j0]
      refine Ev.neg (by decide) (Ev.bind (Ev.of (look_f x y z)) (Ev.pos hl (Ev.pos (by omega) (Ev.pos (by omega) ?_))))
      rw [Int.toNat_natCast]
      refine Ev.bind (v := marksI 0 o) ?_ (Ev.bind (Ev.of (cell_in_f _ _ _)) (Ev.of ?_))
      ·unfold cell_marks.f; exact m1
      ·cases o with
       | none => rfl
       | some m => simp only [marksI, marksB, inB]; congr 1
     ·refine refYes _ hl (by omega) (by omega) (Ev.neg hne (Ev.bind hr' (Ev.pos rfl (Ev.neg (by omega) (Ev.bind (ref_width_ev _) ?_)))))
      simp only [hbne]
      refine Ev.succ ?_
      simp only [backseatref04_Right.j1]
      refine Ev.neg (by decide) (Ev.pos (by omega) (Ev.pos (by omega) ?_))
      rw [Int.toNat_natCast]
      exact m2
    ·refine ⟨false, prgNo ((Classical.em (1 ≤ wd ∧ wd ≤ 2)).elim (fun h => Or.inr (Or.inl fun e => hw ⟨h, e⟩)) Or.inl), ?_⟩
     by_cases h1 : wd < 0
     ·exact refNo (Or.inr (Or.inl h1))
     by_cases h2 : 2 < wd
     ·exact refNo (Or.inr (Or.inr h2))
     refine refYes _ hl h1 h2 (Ev.neg hne (Ev.bind hr' (Ev.pos rfl ?_)))
     by_cases h3 : wd = 0
     ·exact Ev.pos h3 (ref1 _ _ _)
     ·refine Ev.neg h3 (Ev.bind (ref_width_ev _) ?_)
      have : (widthP (decodeGo s).1 != wd) = true := bne_iff_ne.2 (fun e => hw ⟨by omega, e⟩)
      simp only [this]; exact ref1 _ _ _
   ·exact ⟨false, prgNo (Or.inr (Or.inr (Bool.eq_false_iff.2 hl))), refNo (Or.inl (Bool.eq_false_iff.2 hl))⟩
  ·rcases hF' with ⟨ok, rfl⟩ | ⟨_, hz'⟩
   ·exact absurd ok no
   refine ⟨false, ?_, ?_⟩
   ·unfold cell_Right.f
    exact Ev.neg hne (Ev.bind hr (Ev.neg hz (prg0 _)))
   ·by_cases hl : lookB x y z = true
    ·by_cases h1 : wd < 0
     ·exact refNo (Or.inr (Or.inl h1))
     by_cases h2 : 2 < wd
     ·exact refNo (Or.inr (Or.inr h2))
     exact refYes _ hl h1 h2 (Ev.neg hne (Ev.bind hr' (Ev.neg hz' (ref1 _ _ _))))
    ·exact refNo (Or.inl (Bool.eq_false_iff.2 hl))
abbrev CellT := S60
abbrev LineT := S38
theorem w64m (n : Nat) (h : 1 ≤ n) (h' : (n : Int) ≤ 9223372036854775806) : wrap64 ((n : Int) - 1) = ((n - 1 : Nat) : Int) := by
 rw [IntWalk.wrap64_in _ (by omega)]; omega
theorem whole_half (l : List CellT) (i : Nat) (h : i < l.length) (hl : (l.length : Int) ≤ 9223372036854775806) : ∃ b, grid_whole.f l i = some b ∧ backseatref06_half.f l i = some (!b) := by
 unfold grid_whole.f backseatref06_half.f
 have p0 : (0 : Int) ≤ (i : Int) := by omega
 have p1 : (i : Int) < (l.length : Int) := by omega
 rw [w64 i (by omega), if_pos p0, if_pos p1, if_pos p0, if_pos p1]
 by_cases h2 : (rd_T60 l i).f1 = 2
 ·rw [if_pos h2, if_pos h2]
  by_cases h3 : ((i + 1 : Nat) : Int) < (l.length : Int)
  ·rw [if_pos h3, if_pos (by omega), if_neg (by omega), if_pos (by omega), if_pos h3]
   exact ⟨_, rfl, by simp [bne]⟩
  ·rw [if_neg h3, if_pos (by omega)]; exact ⟨_, rfl, rfl⟩
 ·rw [if_neg h2, if_neg h2]
  by_cases h4 : (rd_T60 l i).f1 = 0
  ·rw [if_pos h4, if_pos h4]
   by_cases h5 : (i : Int) > 0
   ·have q0 : (0 : Int) ≤ ((i - 1 : Nat) : Int) := by omega
    have q1 : ((i - 1 : Nat) : Int) < (l.length : Int) := by omega
    rw [if_pos h5, if_neg (show ¬ (i : Int) = 0 by omega), w64m i (by omega) (by omega), if_pos q0, if_pos q1, if_pos q0, if_pos q1]
    exact ⟨_, rfl, by simp [bne]⟩
   ·rw [if_neg h5, if_pos (by omega)]; exact ⟨_, rfl, rfl⟩
  ·rw [if_neg h4, if_neg h4]; exact ⟨_, rfl, rfl⟩
def SmallC (l : List CellT) : Prop := (l.length : Int) ≤ 9223372036854775806 ∧ ∀ c ∈ l, (c.f0.size : Int) ≤ 9223372036854775806
theorem rd_mem {l : List CellT} {i : Nat} (h : i < l.length) : rd_T60 l i ∈ l := by
 have e : rd_T60 l i = l[i] := by unfold rd_T60; simp [List.getD_eq_getElem?_getD, h]
 rw [e]; exact List.getElem_mem h
theorem fits_loop (l : List CellT) (b0 : Bool) (n : Int) (hs : SmallC l) : ∀ m i, i + m = l.length → ∃ b, Ev (fun k => grid_Fits.l0 k n l (l.length : Int) (i : Nat) l b0) b ∧ Ev (fun k => backseatref06_Fits.l0 k n l (l.length : Int) (i : Nat) l b0) b
 | 0, i, hi => ⟨((l.length : Int) == n), Ev.succ (by simp only [grid_Fits.l0]; exact Ev.neg (by omega) (Ev.ret _)), Ev.succ (by simp only [backseatref06_Fits.l0]; exact Ev.neg (by omega) (Ev.ret _))⟩
 | m + 1, i, hi => by
  have hlt : i < l.length := by omega
  have hw := w64 i (by have := hs.1; omega)
  obtain ⟨b, hb1, hb2⟩ := fits_loop l b0 n hs m (i + 1) (by omega)
  obtain ⟨c, hc1, hc2⟩ := right_same (rd_T60 l i).f0 (rd_T60 l i).f1 (rd_T60 l i).f2.f0 (rd_T60 l i).f2.f1 (rd_T60 l i).f2.f2 (hs.2 _ (rd_mem hlt))
  obtain ⟨d, hd1, hd2⟩ := whole_half l i hlt hs.1
  cases c with
  | false =>
   refine ⟨false, Ev.succ ?_, Ev.succ ?_⟩
   ·simp only [grid_Fits.l0]; exact Ev.pos (by omega) (Ev.pos (by omega) (Ev.pos (by omega) (Ev.bind hc1 (Ev.neg (by decide) (Ev.ret _)))))
   ·simp only [backseatref06_Fits.l0]; exact Ev.pos (by omega) (Ev.pos (by omega) (Ev.pos (by omega) (Ev.bind hc2 (Ev.neg (by decide) (Ev.ret _)))))
  | true =>
   cases d with
   | false =>
    refine ⟨false, Ev.succ ?_, Ev.succ ?_⟩
    ·simp only [grid_Fits.l0]; exact Ev.pos (by omega) (Ev.pos (by omega) (Ev.pos (by omega) (Ev.bind hc1 (Ev.pos rfl (Ev.bind (Ev.of hd1) (Ev.neg (by decide) (Ev.ret _)))))))
    ·simp only [backseatref06_Fits.l0]; exact Ev.pos (by omega) (Ev.pos (by omega) (Ev.pos (by omega) (Ev.bind hc2 (Ev.pos rfl (Ev.bind (Ev.of hd2) (Ev.pos rfl (Ev.ret _)))))))
   | true =>
    refine ⟨b, Ev.succ ?_, Ev.succ ?_⟩
    ·simp only [grid_Fits.l0]; refine Ev.pos (by omega) (Ev.pos (by omega) (Ev.pos (by omega) (Ev.bind hc1 (Ev.pos rfl (Ev.bind (Ev.of hd1) (Ev.pos rfl ?_)))))); rw [hw]; exact hb1
    ·simp only [backseatref06_Fits.l0]; refine Ev.pos (by omega) (Ev.pos (by omega) (Ev.pos (by omega) (Ev.bind hc2 (Ev.pos rfl (Ev.bind (Ev.of hd2) (Ev.neg (by decide) ?_)))))); rw [hw]; exact hb2
theorem fits_same (l : List CellT) (b0 : Bool) (n : Int) (hs : SmallC l) : ∃ b, Ev (fun k => grid_Fits.f k l b0 n) b ∧ Ev (fun k => backseatref06_Fits.f k l b0 n) b := by
 have := fits_loop l b0 n hs l.length 0 (by omega)
 simpa [grid_Fits.f, backseatref06_Fits.f] using this
noncomputable def oddB (x : LineT) : Bool := open Classical in if h : ∃ b, Ev (fun k => back_odd.f k x.f0 x.f1) b then Classical.choose h else false
theorem odd_ev (x : LineT) (hs : SmallC x.f0) : Ev (fun k => back_odd.f k x.f0 x.f1) (oddB x) ∧
  (oddB x = false → ¬ (x.f0.length : Int) < 1 ∧ ¬ (x.f0.length : Int) > 80 ∧ Ev (fun k => backseatref06_Fits.f k x.f0 x.f1 (x.f0.length : Int)) true) ∧
  (oddB x = true → (x.f0.length : Int) < 1 ∨ (x.f0.length : Int) > 80 ∨ Ev (fun k => backseatref06_Fits.f k x.f0 x.f1 (x.f0.length : Int)) false) := by
 obtain ⟨b, h1, h2⟩ := fits_same x.f0 x.f1 (x.f0.length : Int) hs
 have key : ∃ o, Ev (fun k => back_odd.f k x.f0 x.f1) o ∧ (o = false → ¬ (x.f0.length : Int) < 1 ∧ ¬ (x.f0.length : Int) > 80 ∧ b = true) ∧ (o = true → (x.f0.length : Int) < 1 ∨ (x.f0.length : Int) > 80 ∨ b = false) := by
  unfold back_odd.f
  by_cases c1 : (x.f0.length : Int) < 1
  ·exact ⟨true, Ev.pos c1 (Ev.ret _), (fun h => by cases h), fun _ => Or.inl c1⟩
  by_cases c2 : (x.f0.length : Int) > 80
  ·exact ⟨true, Ev.neg c1 (Ev.pos c2 (Ev.ret _)), (fun h => by cases h), fun _ => Or.inr (Or.inl c2)⟩
  ·exact ⟨!b, Ev.neg c1 (Ev.neg c2 (Ev.bind h1 (Ev.ret _))), fun h => ⟨c1, c2, by simpa using h⟩, fun h => Or.inr (Or.inr (by simpa using h))⟩
 obtain ⟨o, k1, k2, k3⟩ := key
 have e : oddB x = o := by
  unfold oddB
  rw [dif_pos ⟨o, k1⟩]
  exact Ev.same (Classical.choose_spec (⟨o, k1⟩ : ∃ b, Ev (fun k => back_odd.f k x.f0 x.f1) b)) k1
 rw [e]
 refine ⟨k1, fun h => ⟨(k2 h).1, (k2 h).2.1, ?_⟩, fun h => ?_⟩
 ·rw [← (k2 h).2.2]; exact h2
 ·rcases k3 h with h | h | h
  ·exact Or.inl h
  ·exact Or.inr (Or.inl h)
  ·exact Or.inr (Or.inr (by rw [← h]; exact h2))
def SmallL (l : List LineT) : Prop := (l.length : Int) ≤ 1000000000000 ∧ ∀ x ∈ l, SmallC x.f0
theorem oddIn_ev : ∀ l : List LineT, (∀ x ∈ l, SmallC x.f0) → Ev (fun k => oddIn k l) (l.any oddB)
 | [], _ => Ev.ret _
 | x :: t, h => by
  unfold oddIn
  refine Ev.bind (odd_ev x (h x (by simp))).1 ?_
  cases hx : oddB x
  ·simp only [List.any_cons, hx, Bool.false_or]
   exact Ev.neg (by decide) (oddIn_ev t (fun y hy => h y (by simp [hy])))
  ·simp only [List.any_cons, hx, Bool.true_or]
   exact Ev.pos trivial (Ev.ret _)
theorem right_ev (p : List LineT) (hp : p.length ≤ 40) (h : ∀ x ∈ p, SmallC x.f0) : Ev (fun k => back_Right.f k 40 p) (!p.any oddB) := by
 unfold back_Right.f
 exact Ev.pos (by decide) (Ev.pos (by decide) (Ev.pos (by omega) (Ev.bind (oddIn_ev p h) (Ev.ret _))))
theorem ask_ev (l : List LineT) (h : ∀ x ∈ l, SmallC x.f0) : ∀ j, Ev (fun k => askN k l j) (!(l.take (40 * j)).any oddB)
 | 0 => by simp [askN]; exact Ev.ret _
 | j + 1 => by
  have e : l.take (40 * (j + 1)) = l.take (40 * j) ++ piece l j := by
   unfold piece; rw [show 40 * (j + 1) = 40 * j + 40 by omega, List.take_add]
  unfold askN
  refine Ev.bind (ask_ev l h j) (Ev.bind (right_ev (piece l j) (by unfold piece; rw [List.length_take]; omega) (fun x hx => h x (List.mem_of_mem_drop (List.mem_of_mem_take hx)))) ?_)
  rw [e, List.any_append, Bool.not_or]; exact Ev.ret _
theorem may_ev (l : List LineT) (hs : SmallL l) : Ev (fun k => flow_may.f k l) (!l.any oddB && decide (l.length ≤ 200)) := by
 unfold flow_may.f
 refine Ev.pos (by have := hs.1; omega) (Ev.bind (ask_ev l hs.2 (pieces l)) ?_)
 rw [List.take_of_length_le (by unfold pieces; omega)]
 exact Ev.ret _
theorem rd_line {l : List LineT} {i : Nat} (h : i < l.length) : rd_T38 l i = l[i] := by unfold rd_T38; simp [List.getD_eq_getElem?_getD, h]
theorem refmay_loop (l : List LineT) (hs : SmallL l) : ∀ m i, i + m = l.length → Ev (fun k => backseatref08_May.l0 k l l (l.length : Int) (i : Nat)) (!(l.drop i).any oddB && decide (l.length ≤ 200))
 | 0, i, hi => Ev.succ (by
  simp only [backseatref08_May.l0]
  rw [List.drop_eq_nil_of_le (by omega)]
  refine Ev.neg (by omega) ?_
  have e : decide ((l.length : Int) ≤ 200) = (!([] : List LineT).any oddB && decide (l.length ≤ 200)) := by
   rw [List.any_nil, Bool.not_false, Bool.true_and, decide_eq_decide]; omega
  rw [e]; exact Ev.ret _)
 | m + 1, i, hi => by
  have hlt : i < l.length := by omega
  have hw := w64 i (by have := hs.1; omega)
  have hr := refmay_loop l hs m (i + 1) (by omega)
  obtain ⟨h1, h2, h3⟩ := odd_ev l[i] (hs.2 _ (List.getElem_mem hlt))
  rw [List.drop_eq_getElem_cons hlt, List.any_cons]
  refine Ev.succ ?_
  simp only [backseatref08_May.l0]
  rw [rd_line hlt]
  refine Ev.pos (by omega) (Ev.pos (by omega) (Ev.pos (by omega) ?_))
  cases ho : oddB l[i]
  ·obtain ⟨c1, c2, c3⟩ := h2 ho
   rw [Bool.false_or]
   refine Ev.neg c1 (Ev.neg c2 (Ev.bind c3 (Ev.pos rfl ?_)))
   rw [hw]; exact hr
  ·rw [Bool.true_or, Bool.not_true, Bool.false_and]
   by_cases c1 : (l[i].f0.length : Int) < 1
   ·exact Ev.pos c1 (Ev.ret _)
   by_cases c2 : (l[i].f0.length : Int) > 80
   ·exact Ev.neg c1 (Ev.pos c2 (Ev.ret _))
   have c3 := (h3 ho).resolve_left c1 |>.resolve_left c2
   exact Ev.neg c1 (Ev.neg c2 (Ev.bind c3 (Ev.neg (by decide) (Ev.ret _))))
theorem refmay_ev (l : List LineT) (hs : SmallL l) : Ev (fun k => backseatref08_May.f k l) (!l.any oddB && decide (l.length ≤ 200)) := by
 have := refmay_loop l hs l.length 0 (by omega)
 simpa [backseatref08_May.f] using this
end Go.Proofs.YtckkdaehmccjlaaDoor.P
namespace Go.Proofs.YtckkdaehmccjlaaDoor.P
open Go.RowKit Go.Proofs.YtckkdaehmccjlaaDoorW.PrintWords Go.Proofs.YtckkdaehmccjlaaDoorW.PrintLast Go.Proofs.YtckkdaehmccjlaaDoorW.PrintMore
attribute [local go_sem] max2_int min2_int max_two min_two max_three min_three max_four min_four   -- for this text's walks alone
set_option linter.unusedVariables false
set_option linter.unusedSimpArgs false
def backseatref08_Say.l0 : Nat → ByteArray → List (S60) → Int → Int → Option (ByteArray)
 | 0, _, _, _, _ => none
 | k + 1, x3, x6, x7, x8 => if x8 < x7 then (if 0 ≤ x8 then (if x8 < (x6.length : Int) then (if ((rd_T60 x6 x8).f0).toList = ([] : List UInt8) then (if ((rd_T60 x6 x8).f1) = 1 then (if x3.size + 1 ≤ 9223372036854775807 then (if (x3 ++ (⟨#[32]⟩ : ByteArray)).size + ((rd_T60 x6 x8).f0).size ≤ 9223372036854775807 then (backseatref08_Say.l0 k ((x3 ++ (⟨#[32]⟩ : ByteArray)) ++ ((rd_T60 x6 x8).f0)) x6 x7 (wrap64 (x8 + 1))) else (none)) else (none)) else (if x3.size + ((rd_T60 x6 x8).f0).size ≤ 9223372036854775807 then (backseatref08_Say.l0 k (x3 ++ ((rd_T60 x6 x8).f0)) x6 x7 (wrap64 (x8 + 1))) else (none))) else (if x3.size + ((rd_T60 x6 x8).f0).size ≤ 9223372036854775807 then (backseatref08_Say.l0 k (x3 ++ ((rd_T60 x6 x8).f0)) x6 x7 (wrap64 (x8 + 1))) else (none))) else (none)) else (none)) else (some x3)
def backseatref08_Say.f (k : Nat) (l0 : List (S60)) : Option (ByteArray) := backseatref08_Say.l0 k (⟨#[]⟩ : ByteArray) l0 (l0.length : Int) 0
set_option maxHeartbeats 8000000 in
set_option maxRecDepth 100000 in
theorem backseatref08_Say.calls (k : Nat) (A0 : Option Addr) (c0 : Nat) (l0 : List (S60)) (r : ByteArray) (w : World) (hr0 : Kd.C k60 w A0 l0.length l0) (hc0 : l0.length ≤ c0) (h : backseatref08_Say.f k l0 = some r) :
  Calls Tryd.prog 23 #[.slice A0 l0.length c0] w fun e w' => e = .returned (.string r) ∧ Below w.heap.size w w' := by
 have hu60 := Tryd.underlying60
 have HR0 := Aside0.mk hr0
 have HC0 := Aside0.mk hc0
 clear hr0 hc0
 have HB := Aside0.mk (Below.refl w.heap.size w)
 have H : (backseatref08_Say.l0 k (⟨#[]⟩ : ByteArray) l0 (l0.length : Int) 0) = some r := h
 clear h
 have H' := Aside0.mk H
 clear H
 go_enter Tryd.func23, Tryd.ntmps23
 go_wp2
 go_loopg [3, 8] k (fun kq v3 v8 w' => ∃ (x3_1 : ByteArray) (x8_1 : Int), v3 = .string x3_1 ∧ v8 = .int .i64 x8_1 ∧ Aside0 (backseatref08_Say.l0 kq x3_1 l0 (l0.length : Int) x8_1 = some r) ∧ Aside0 (kq ≤ k) ∧ Aside0 (Below w.heap.size w w'))
 case atStart => exact ⟨((⟨#[]⟩ : ByteArray)), (0), zf, zf, H', ⟨Nat.le_refl _⟩, ⟨zb⟩⟩
 case round =>
  clear H'
  obtain ⟨x3_1, x8_1, rfl, rfl, HA, HK1, HB⟩ := hrel
  cases gk with
  | zero => exact absurd HA.out (by simp [backseatref08_Say.l0])
  | succ k1 =>
   have H := HA.out
   clear HA
   simp only [backseatref08_Say.l0] at H
   by_cases c2 : x8_1 < (l0.length : Int)
   ·rw [if_pos c2] at H
    have c2b0 : decide (x8_1 < (l0.length : Int)) = true := decide_eq_true c2
    clear c2
    by_cases c3 : 0 ≤ x8_1
    ·rw [if_pos c3] at H
     have c3b0 : decide (0 ≤ x8_1) = true := decide_eq_true c3
     clear c3
     by_cases c4 : x8_1 < (l0.length : Int)
     ·rw [if_pos c4] at H
      have c4b0 : decide (x8_1 < (l0.length : Int)) = true := decide_eq_true c4
      clear c4
      by_cases c5 : ((rd_T60 l0 x8_1).f0).toList = ([] : List UInt8)
      ·rw [if_pos c5] at H
       have c5b0 : (((rd_T60 l0 x8_1).f0).toList == ([] : List UInt8)) = true := beq_iff_eq.mpr c5
       have c5b1 : (((rd_T60 l0 x8_1).f0).toList != ([] : List UInt8)) = false := bne_eq_false_iff_eq.mpr c5
       clear c5
       by_cases c6 : ((rd_T60 l0 x8_1).f1) = 1
       ·rw [if_pos c6] at H
        have c6b0 : (((rd_T60 l0 x8_1).f1) == 1) = true := beq_iff_eq.mpr c6
        have c6b1 : (((rd_T60 l0 x8_1).f1) != 1) = false := bne_eq_false_iff_eq.mpr c6
        clear c6
        by_cases c7 : x3_1.size + 1 ≤ 9223372036854775807
        ·rw [if_pos c7] at H
         have c7b0 := eq_true c7
         have c7b1 : decide (x3_1.size + 1 ≤ 9223372036854775807) = true := decide_eq_true c7
         try have c7b2 : (9223372036854775807 < x3_1.size + 1) = False := eq_false (Nat.not_lt.2 c7)
         by_cases c8 : (x3_1 ++ (⟨#[32]⟩ : ByteArray)).size + ((rd_T60 l0 x8_1).f0).size ≤ 9223372036854775807
         ·rw [if_pos c8] at H
          have c8b0 := eq_true c8
          have c8b1 : decide ((x3_1 ++ (⟨#[32]⟩ : ByteArray)).size + ((rd_T60 l0 x8_1).f0).size ≤ 9223372036854775807) = true := decide_eq_true c8
          try have c8b2 : (9223372036854775807 < (x3_1 ++ (⟨#[32]⟩ : ByteArray)).size + ((rd_T60 l0 x8_1).f0).size) = False := eq_false (Nat.not_lt.2 c8)
          have c8s := c8
          try simp only [ByteArray.size_append, show ((⟨#[32]⟩ : ByteArray)).size = 1 from rfl] at c8s
          have c8s0 := eq_true c8s
          have c8s1 := decide_eq_true c8s
          have c8s2 := eq_false (Nat.not_lt.2 c8s)
          have H' := Aside0.mk H
          clear H
          have p254 : 0 ≤ (x8_1 : Int) := of_decide_eq_true za
          have q254 : x8_1 < (l0.length : Int) := of_decide_eq_true za
          obtain ⟨ad254, e254, hx254_0, hx254_1, hx254_2, hx254_3, hx254_4⟩ := at_T60 HR0.out x8_1 p254 q254
          cases e254
          replace hx254_0 := zc HB hx254_0
          replace hx254_1 := zc HB hx254_1
          replace hx254_2 := zc HB hx254_2
          replace hx254_3 := zc HB hx254_3
          replace hx254_4 := zc HB hx254_4
          replace p254 := eq_true p254
          replace q254 := eq_true q254
          go_wp2_with (first | ((with_reducible refine gate_dst (N := 5) rfl ?_); refine box_event ?hg (N := 5) ?hd (cs := #[.string (⟨#[]⟩ : ByteArray), .int .i64 0, .int .i64 0, .int .i64 0, .int .i64 0]) (t := 60) ?hr ?_; (case hd => rfl); (case hg => rfl); (case hr => exact zo); intro gb255 hg w9 hbox hb; have BK255 := Aside0.mk (hbox); have GW255 := Aside0.mk ((zg hg : w.heap.size ≤ gb255)); have GE255 := Aside0.mk ((zg hg : w.heap.size ≤ gb255)); replace HB := (zs HB hb); clear hb hbox hg; obtain ⟨hcz10_0, hcz10_1, hcz10_2, hcz10_3, hcz10_4, hfz10_0, hfz10_1, hfz10_2, hfz10_3, hfz10_4⟩ := zq5 (w := w9) BK255))
          go_roundg k1
          case measure => have := HK1.out; omega
          case rel => exact ⟨((x3_1 ++ (⟨#[32]⟩ : ByteArray)) ++ ((rd_T60 l0 x8_1).f0)), (wrap64 (x8_1 + 1)), zf, zf, H', ⟨by have := HK1.out; omega⟩, ⟨zb⟩⟩
         ·rw [if_neg c8] at H
          exact absurd H (by simp)
        ·rw [if_neg c7] at H
         exact absurd H (by simp)
       ·rw [if_neg c6] at H
        have c6b0 : (((rd_T60 l0 x8_1).f1) == 1) = false := beq_eq_false_iff_ne.mpr c6
        have c6b1 : (((rd_T60 l0 x8_1).f1) != 1) = true := bne_iff_ne.mpr c6
        by_cases c11 : x3_1.size + ((rd_T60 l0 x8_1).f0).size ≤ 9223372036854775807
        ·rw [if_pos c11] at H
         have c11b0 := eq_true c11
         have c11b1 : decide (x3_1.size + ((rd_T60 l0 x8_1).f0).size ≤ 9223372036854775807) = true := decide_eq_true c11
         try have c11b2 : (9223372036854775807 < x3_1.size + ((rd_T60 l0 x8_1).f0).size) = False := eq_false (Nat.not_lt.2 c11)
         have H' := Aside0.mk H
         clear H
         have p254 : 0 ≤ (x8_1 : Int) := of_decide_eq_true za
         have q254 : x8_1 < (l0.length : Int) := of_decide_eq_true za
         obtain ⟨ad254, e254, hx254_0, hx254_1, hx254_2, hx254_3, hx254_4⟩ := at_T60 HR0.out x8_1 p254 q254
         cases e254
         replace hx254_0 := zc HB hx254_0
         replace hx254_1 := zc HB hx254_1
         replace hx254_2 := zc HB hx254_2
         replace hx254_3 := zc HB hx254_3
         replace hx254_4 := zc HB hx254_4
         replace p254 := eq_true p254
         replace q254 := eq_true q254
         go_wp2_with (first | ((with_reducible refine gate_dst (N := 5) rfl ?_); refine box_event ?hg (N := 5) ?hd (cs := #[.string (⟨#[]⟩ : ByteArray), .int .i64 0, .int .i64 0, .int .i64 0, .int .i64 0]) (t := 60) ?hr ?_; (case hd => rfl); (case hg => rfl); (case hr => exact zo); intro gb255 hg w12 hbox hb; have BK255 := Aside0.mk (hbox); have GW255 := Aside0.mk ((zg hg : w.heap.size ≤ gb255)); have GE255 := Aside0.mk ((zg hg : w.heap.size ≤ gb255)); replace HB := (zs HB hb); clear hb hbox hg; obtain ⟨hcz13_0, hcz13_1, hcz13_2, hcz13_3, hcz13_4, hfz13_0, hfz13_1, hfz13_2, hfz13_3, hfz13_4⟩ := zq5 (w := w12) BK255))
         go_roundg k1
         case measure => have := HK1.out; omega
         case rel => exact ⟨(x3_1 ++ ((rd_T60 l0 x8_1).f0)), (wrap64 (x8_1 + 1)), zf, zf, H', ⟨by have := HK1.out; omega⟩, ⟨zb⟩⟩
        ·rw [if_neg c11] at H
         exact absurd H (by simp)
      ·rw [if_neg c5] at H
       have c5b0 : (((rd_T60 l0 x8_1).f0).toList == ([] : List UInt8)) = false := beq_eq_false_iff_ne.mpr c5
       have c5b1 : (((rd_T60 l0 x8_1).f0).toList != ([] : List UInt8)) = true := bne_iff_ne.mpr c5
       by_cases c14 : x3_1.size + ((rd_T60 l0 x8_1).f0).size ≤ 9223372036854775807
       ·rw [if_pos c14] at H
        have c14b0 := eq_true c14
        have c14b1 : decide (x3_1.size + ((rd_T60 l0 x8_1).f0).size ≤ 9223372036854775807) = true := decide_eq_true c14
        try have c14b2 : (9223372036854775807 < x3_1.size + ((rd_T60 l0 x8_1).f0).size) = False := eq_false (Nat.not_lt.2 c14)
        have H' := Aside0.mk H
        clear H
        have p254 : 0 ≤ (x8_1 : Int) := of_decide_eq_true za
        have q254 : x8_1 < (l0.length : Int) := of_decide_eq_true za
        obtain ⟨ad254, e254, hx254_0, hx254_1, hx254_2, hx254_3, hx254_4⟩ := at_T60 HR0.out x8_1 p254 q254
        cases e254
        replace hx254_0 := zc HB hx254_0
        replace hx254_1 := zc HB hx254_1
        replace hx254_2 := zc HB hx254_2
        replace hx254_3 := zc HB hx254_3
        replace hx254_4 := zc HB hx254_4
        replace p254 := eq_true p254
        replace q254 := eq_true q254
        go_wp2_with (first | ((with_reducible refine gate_dst (N := 5) rfl ?_); refine box_event ?hg (N := 5) ?hd (cs := #[.string (⟨#[]⟩ : ByteArray), .int .i64 0, .int .i64 0, .int .i64 0, .int .i64 0]) (t := 60) ?hr ?_; (case hd => rfl); (case hg => rfl); (case hr => exact zo); intro gb255 hg w15 hbox hb; have BK255 := Aside0.mk (hbox); have GW255 := Aside0.mk ((zg hg : w.heap.size ≤ gb255)); have GE255 := Aside0.mk ((zg hg : w.heap.size ≤ gb255)); replace HB := (zs HB hb); clear hb hbox hg; obtain ⟨hcz16_0, hcz16_1, hcz16_2, hcz16_3, hcz16_4, hfz16_0, hfz16_1, hfz16_2, hfz16_3, hfz16_4⟩ := zq5 (w := w15) BK255))
        go_roundg k1
        case measure => have := HK1.out; omega
        case rel => exact ⟨(x3_1 ++ ((rd_T60 l0 x8_1).f0)), (wrap64 (x8_1 + 1)), zf, zf, H', ⟨by have := HK1.out; omega⟩, ⟨zb⟩⟩
       ·rw [if_neg c14] at H
        exact absurd H (by simp)
     ·rw [if_neg c4] at H
      exact absurd H (by simp)
    ·rw [if_neg c3] at H
     exact absurd H (by simp)
   ·rw [if_neg c2] at H
    have c2b0 : decide (x8_1 < (l0.length : Int)) = false := decide_eq_false c2
    clear c2
    obtain rfl := Option.some.inj H
    go_wp2
    go_ret
    exact ⟨ze, zb⟩
end Go.Proofs.YtckkdaehmccjlaaDoor.P
namespace Go.Proofs.YtckkdaehmccjlaaDoor.P.Fl
open Go.RowKit Go.Proofs.YtckkdaehmccjlaaDoorW.PrintWords Go.Proofs.YtckkdaehmccjlaaDoorW.PrintLast Go.Proofs.YtckkdaehmccjlaaDoorW.PrintMore Go.Lib
set_option linter.unusedVariables false
set_option linter.unusedSimpArgs false
def EvP {α : Type} (f : Nat → Option α) (P : α → Prop) : Prop := ∃ v, P v ∧ Ev f v
section
variable {α β : Type} {f g : Nat → Option α} {P : α → Prop}
theorem EvP.ite {c : Prop} [Decidable c] (hf : c → EvP f P) (hg : ¬ c → EvP g P) : EvP (fun k => if c then f k else g k) P := by
 by_cases h : c
 ·obtain ⟨v, a, b⟩ := hf h; exact ⟨v, a, Ev.pos h b⟩
 ·obtain ⟨v, a, b⟩ := hg h; exact ⟨v, a, Ev.neg h b⟩
theorem EvP.succ (h : EvP (fun k => f (k + 1)) P) : EvP f P := let ⟨v, a, b⟩ := h; ⟨v, a, Ev.succ b⟩
theorem EvP.ret {v : α} (h : P v) : EvP (fun _ => some v) P := ⟨v, h, Ev.ret v⟩
theorem EvP.bind {e : Nat → Option β} {Q : β → Prop} {g : Nat → β → Option α} (h : EvP e Q) (hg : ∀ v, Q v → EvP (fun k => g k v) P) : EvP (fun k => (e k).bind (g k)) P := by
 obtain ⟨v, a, b⟩ := h
 obtain ⟨u, c, d⟩ := hg v a
 exact ⟨u, c, Ev.bind b d⟩
end
theorem rd_cell {l : List CellT} {i : Nat} (h : i < l.length) : rd_T60 l i = l[i] := by unfold rd_T60; simp [List.getD_eq_getElem?_getD, h]
theorem mn_facts (a : Nat) (b : Int) (hb : 0 ≤ b := by decide) : 0 ≤ mn (a : Int) b ∧ mn (a : Int) b ≤ (a : Int) ∧ mn (a : Int) b ≤ b := by
 unfold mn; split <;> omega
def TinyC (l : List CellT) : Prop := ∀ c ∈ l, c.f0.size ≤ 20
def Tiny (l : List LineT) : Prop := ∀ x ∈ l, x.f0.length ≤ 82 ∧ TinyC x.f0
theorem tiny_small {l : List LineT} (h : l.length ≤ 30) (ht : Tiny l) : SmallL l := by
 refine ⟨by omega, fun x hx => ⟨by have := (ht x hx).1; omega, fun c hc => by have := (ht x hx).2 c hc; omega⟩⟩
theorem right_facts {s : ByteArray} {wd x y z : Int} (h : Ev (fun k => backseatref04_Right.f k s wd x y z) true) : 0 ≤ wd ∧ wd ≤ 2 ∧ (s.toList = ([] : List UInt8) → wd < 2) ∧ (¬ s.toList = ([] : List UInt8) → wd ≠ 0) := by
 obtain ⟨K, h⟩ := h
 have h : backseatref04_Right.f (K + 3) s wd x y z = some true := h (K + 3) (by omega)
 have r0 : ∀ k, backseatref04_Right.j0 (k + 1) true s wd x y z = some false := fun k => by simp only [backseatref04_Right.j0]; rw [if_pos trivial]
 have r1 : ∀ k a b c, backseatref04_Right.j1 (k + 1) true s wd x y z a b c = some false := fun k a b c => by simp only [backseatref04_Right.j1]; rw [if_pos trivial]
 unfold backseatref04_Right.f at h
 rw [ref_look_f, Option.bind_some] at h
 split at h
 rotate_left
 ·rw [r0] at h; cases h
 split at h
 ·rw [r0] at h; cases h
 by_cases h2 : wd > 2
 ·rw [decide_eq_true h2, r0] at h; cases h
 rw [decide_eq_false h2] at h
 simp only [backseatref04_Right.j0] at h
 rw [if_neg (by decide)] at h
 refine ⟨by omega, by omega, fun e => ?_, fun e e0 => ?_⟩
 ·rw [if_pos e] at h; exact of_decide_eq_true (Option.some.inj h)
 ·rw [if_neg e] at h
  obtain ⟨b, _, h⟩ := Option.bind_eq_some_iff.1 h
  split at h
  ·(try rw [if_pos e0] at h); rw [r1] at h; cases h
  ·rw [r1] at h; cases h
theorem fits_at (l : List CellT) (b0 : Bool) (n : Int) (hs : SmallC l) : ∀ m i, i + m = l.length → Ev (fun k => backseatref06_Fits.l0 k n l (l.length : Int) (i : Nat) l b0) true →
  ∀ j, i ≤ j → j < l.length → Ev (fun k => backseatref04_Right.f k (rd_T60 l j).f0 (rd_T60 l j).f1 (rd_T60 l j).f2.f0 (rd_T60 l j).f2.f1 (rd_T60 l j).f2.f2) true ∧ backseatref06_half.f l j = some false
 | 0, i, hi, _, j, h1, h2 => by omega
 | m + 1, i, hi, h, j, h1, h2 => by
  have hlt : i < l.length := by omega
  have hw := w64 i (by have := hs.1; omega)
  obtain ⟨b, _, hb2⟩ := fits_loop l b0 n hs m (i + 1) (by omega)
  obtain ⟨c, _, hc2⟩ := right_same (rd_T60 l i).f0 (rd_T60 l i).f1 (rd_T60 l i).f2.f0 (rd_T60 l i).f2.f1 (rd_T60 l i).f2.f2 (hs.2 _ (rd_mem hlt))
  obtain ⟨d, _, hd2⟩ := whole_half l i hlt hs.1
  cases c with
  | false =>
   have : Ev (fun k => backseatref06_Fits.l0 k n l (l.length : Int) (i : Nat) l b0) false := Ev.succ (by
    simp only [backseatref06_Fits.l0]; exact Ev.pos (by omega) (Ev.pos (by omega) (Ev.pos (by omega) (Ev.bind hc2 (Ev.neg (by decide) (Ev.ret _))))))
   exact absurd (Ev.same h this) (by decide)
  | true =>
   cases d with
   | false =>
    have : Ev (fun k => backseatref06_Fits.l0 k n l (l.length : Int) (i : Nat) l b0) false := Ev.succ (by
     simp only [backseatref06_Fits.l0]; exact Ev.pos (by omega) (Ev.pos (by omega) (Ev.pos (by omega) (Ev.bind hc2 (Ev.pos rfl (Ev.bind (Ev.of hd2) (Ev.pos rfl (Ev.ret _))))))))
    exact absurd (Ev.same h this) (by decide)
   | true =>
    have : Ev (fun k => backseatref06_Fits.l0 k n l (l.length : Int) (i : Nat) l b0) b := Ev.succ (by
     simp only [backseatref06_Fits.l0]; refine Ev.pos (by omega) (Ev.pos (by omega) (Ev.pos (by omega) (Ev.bind hc2 (Ev.pos rfl (Ev.bind (Ev.of hd2) (Ev.neg (by decide) ?_)))))); rw [hw]; exact hb2)
    have e := Ev.same h this
    subst e
    by_cases hj : j = i
    ·subst hj; exact ⟨hc2, hd2⟩
    ·exact fits_at l b0 n hs m (i + 1) (by omega) hb2 j (by omega) h2
inductive Pairs : List CellT → Prop
 | nil : Pairs []
 | one {c t} (h1 : c.f1 = 1) : Pairs t → Pairs (c :: t)
 | two {c d t} (h1 : c.f1 = 2) (h2 : ¬ c.f0.toList = ([] : List UInt8)) (h3 : d.f1 = 0) (h4 : d.f0.toList = ([] : List UInt8)) : Pairs t → Pairs (c :: d :: t)
theorem Pairs.append {a b : List CellT} (h : Pairs a) (hb : Pairs b) : Pairs (a ++ b) := by
 induction h with
 | nil => exact hb
 | one h1 _ ih => exact .one h1 ih
 | two h1 h2 h3 h4 _ ih => exact .two h1 h2 h3 h4 ih
theorem Pairs.front {l : List CellT} (h : Pairs l) : ∀ a c, l = a ++ [c] → c.f1 = 1 → Pairs a := by
 induction h with
 | nil => intro a c e; simp at e
 | @one x t h1 ht ih =>
  intro a c e hc
  match a, e with
  | [], _ => exact .nil
  | y :: a', e =>
   injection e with e1 e2
   subst e1
   exact .one h1 (ih a' c e2 hc)
 | @two x y t h1 h2 h3 h4 ht ih =>
  intro a c e hc
  match a, e with
  | [], e => injection e with _ e2; cases e2
  | [z], e => injection e with _ e2; injection e2 with e3 _; subst e3; omega
  | z :: z' :: a', e =>
   injection e with e1 e2
   injection e2 with e3 e4
   subst e1 e3
   exact .two h1 h2 h3 h4 (ih a' c e4 hc)
theorem pairs_from {l : List CellT} (hl : (l.length : Int) ≤ 1000000000000) (H : ∀ j, j < l.length → Ev (fun k => backseatref04_Right.f k (rd_T60 l j).f0 (rd_T60 l j).f1 (rd_T60 l j).f2.f0 (rd_T60 l j).f2.f1 (rd_T60 l j).f2.f2) true ∧ backseatref06_half.f l j = some false) :
  ∀ n i, l.length - i ≤ n → (i = 0 ∨ ∀ h : i - 1 < l.length, l[i - 1].f1 ≠ 2) → Pairs (l.drop i) := by
 intro n
 induction n with
 | zero => intro i hi _; rw [List.drop_eq_nil_of_le (by omega)]; exact .nil
 | succ n ih =>
  intro i hi hp
  by_cases hlt : i < l.length
  rotate_left
  ·rw [List.drop_eq_nil_of_le (by omega)]; exact .nil
  obtain ⟨hr, hh⟩ := H i hlt
  obtain ⟨a1, a2, a3, a4⟩ := right_facts hr
  rw [rd_cell hlt] at a1 a2 a3 a4
  have p0 : (0 : Int) ≤ (i : Int) := by omega
  have p1 : (i : Int) < (l.length : Int) := by omega
  unfold backseatref06_half.f at hh
  rw [w64 i (by omega), if_pos p0, if_pos p1, rd_cell hlt] at hh
  by_cases h2 : l[i].f1 = 2
  ·rw [if_pos h2] at hh
   by_cases h3 : ((i + 1 : Nat) : Int) = (l.length : Int)
   ·rw [if_pos h3] at hh; cases hh
   ·rw [if_neg h3, if_pos (by omega), if_pos (by omega)] at hh
    have hlt2 : i + 1 < l.length := by omega
    rw [rd_cell hlt2] at hh
    have h0 : l[i + 1].f1 = 0 := by simpa using hh
    obtain ⟨b1, b2, b3, b4⟩ := right_facts (H (i + 1) hlt2).1
    rw [rd_cell hlt2] at b1 b2 b3 b4
    rw [List.drop_eq_getElem_cons hlt, List.drop_eq_getElem_cons hlt2]
    exact .two h2 (fun e => by have := a3 e; omega) h0 (Classical.byContradiction fun e => b4 e h0) (ih (i + 2) (by omega) (Or.inr fun h => by simp only [show i + 2 - 1 = i + 1 by omega]; omega))
  ·rw [if_neg h2] at hh
   by_cases h0 : l[i].f1 = 0
   ·rw [if_pos h0] at hh
    by_cases h5 : (i : Int) = 0
    ·rw [if_pos h5] at hh; cases hh
    ·rw [if_neg h5, w64m i (by omega) (by omega), if_pos (by omega), if_pos (by omega)] at hh
     have hlt2 : i - 1 < l.length := by omega
     rw [rd_cell hlt2] at hh
     have h6 : l[i - 1].f1 = 2 := by simpa using hh
     exact absurd h6 ((hp.resolve_left (by omega)) hlt2)
   ·rw [List.drop_eq_getElem_cons hlt]
    exact .one (by omega) (ih (i + 1) (by omega) (Or.inr fun h => by simp only [show i + 1 - 1 = i by omega]; exact h2))
theorem pairs_of {x : LineT} (hs : SmallC x.f0) (ho : oddB x = false) : Pairs x.f0 ∧ 1 ≤ x.f0.length ∧ x.f0.length ≤ 80 := by
 obtain ⟨_, h1, _⟩ := odd_ev x hs
 obtain ⟨c1, c2, hf⟩ := h1 ho
 unfold backseatref06_Fits.f at hf
 have := fits_at _ _ _ hs x.f0.length 0 (by omega) hf
 exact ⟨by simpa using pairs_from (by omega) (fun j h => this j (by omega) h) x.f0.length 0 (by omega) (Or.inl rfl), by omega, by omega⟩
def blankB (c : CellT) : Bool := c.f0.toList == ([] : List UInt8) && (c.f1 == 1 && (c.f2.f0 == 0 && (c.f2.f1 == 0 && c.f2.f2 == 0)))
def trimR (l : List CellT) : List CellT := (l.reverse.dropWhile blankB).reverse
theorem trimR_snoc (a : List CellT) (c : CellT) : trimR (a ++ [c]) = if blankB c = true then trimR a else a ++ [c] := by
 unfold trimR
 rw [List.reverse_append, List.reverse_singleton, List.singleton_append, List.dropWhile_cons]
 split
 ·rfl
 ·simp
theorem trimR_sub (l : List CellT) : ∃ t, l = trimR l ++ t := by
 unfold trimR
 obtain ⟨t, ht⟩ := List.dropWhile_suffix (l := l.reverse) blankB
 refine ⟨t.reverse, ?_⟩
 have := congrArg List.reverse ht
 simp only [List.reverse_append, List.reverse_reverse] at this
 exact this.symm
theorem trim_pairs (n : Nat) : ∀ l : List CellT, l.length = n → Pairs l → Pairs (trimR l) := by
 induction n with
 | zero => intro l h hp; rw [List.length_eq_zero_iff.1 h]; exact .nil
 | succ n ih =>
  intro l h hp
  have e : l = l.take n ++ [l[n]] := by rw [← List.take_succ_eq_append_getElem (by omega), List.take_of_length_le (by omega)]
  rw [e] at hp
  rw [e, trimR_snoc]
  split
  ·rename_i hb
   refine ih _ (by rw [List.length_take]; omega) (hp.front _ _ rfl ?_)
   unfold blankB at hb; simp at hb; exact hb.2.1
  ·exact hp
theorem none_is : flow_none.f = some ((⟨#[]⟩ : ByteArray), 1, 0, 0, 0) := by rfl
theorem blank_is (c : CellT) : backseatref08_Blank.f c.f0 c.f1 c.f2.f0 c.f2.f1 c.f2.f2 = some (blankB c) := by
 unfold backseatref08_Blank.f blankB
 by_cases h1 : c.f0.toList = ([] : List UInt8)
 ·rw [if_pos h1]
  by_cases h2 : c.f1 = 1
  ·rw [if_pos h2]
   by_cases h3 : c.f2.f0 = 0
   ·rw [if_pos h3]
    by_cases h4 : c.f2.f1 = 0
    ·rw [if_pos h4]; simp [h1, h2, h3, h4]
    ·rw [if_neg h4]; simp [h4]
   ·rw [if_neg h3]; simp [h3]
  ·rw [if_neg h2]; simp [h2]
 ·rw [if_neg h1]; simp [h1]
theorem trimmed_is (n : Nat) : ∀ (l : List CellT), l.length = n → (n : Int) ≤ 1000000000000 → Ev (fun k => flow_trimmed.l0 k l) (trimR l) := by
 induction n with
 | zero => exact fun l h _ => Ev.succ (by simp only [flow_trimmed.l0]; rw [List.length_eq_zero_iff.1 h]; exact Ev.neg (by decide) (Ev.ret _))
 | succ n ih0 =>
  intro l h hn
  have hlt : n < l.length := by omega
  have hw := w64m l.length (by omega) (by omega)
  have ih := ih0 (l.take n) (by rw [List.length_take]; omega) (by omega)
  have e : l = l.take n ++ [l[n]] := by rw [← List.take_succ_eq_append_getElem (by omega), List.take_of_length_le (by omega)]
  refine Ev.succ ?_
  simp only [flow_trimmed.l0, hw, none_is, Option.bind_some, show l.length - 1 = n by omega, rd_cell hlt]
  refine Ev.pos (by omega) (Ev.pos (by omega) (Ev.pos (by omega) ?_))
  have eb : ((l[n].f0.toList == (⟨#[]⟩ : ByteArray).toList && (l[n].f1 == 1 && (l[n].f2.f0 == 0 && (l[n].f2.f1 == 0 && l[n].f2.f2 == 0)))) = true) ↔ blankB l[n] = true := by
   unfold blankB; rw [show (⟨#[]⟩ : ByteArray).toList = ([] : List UInt8) by rw [ByteArray.toList_eq]]
  have e2 := trimR_snoc (l.take n) l[n]
  rw [← e] at e2
  rw [e2]
  by_cases hb : blankB l[n] = true
  ·rw [if_pos hb]
   refine Ev.pos (eb.2 hb) (Ev.pos (by omega) ?_)
   rw [Int.toNat_natCast]; exact ih
  ·rw [if_neg hb]
   exact Ev.neg (fun h => hb (eb.1 h)) (Ev.ret _)
def joinF : List LineT → List CellT → List (List CellT)
 | [], _ => []
 | x :: t, cur => if x.f1 = true ∧ t ≠ [] then joinF t (cur ++ x.f0) else trimR (cur ++ x.f0) :: joinF t []
theorem join_is (l : List LineT) (hl : l.length ≤ 1000) (hx : ∀ x ∈ l, x.f0.length ≤ 1000) : ∀ m i (acc : List (List CellT)) (cur : List CellT), i + m = l.length → acc.length ≤ i → cur.length ≤ 1000 * i →
  Ev (fun k => flow_Join.l0 k l acc cur l (l.length : Int) (i : Nat)) (acc ++ joinF (l.drop i) cur, 0)
 | 0, i, acc, cur, hi, ha, hc => Ev.succ (by simp only [flow_Join.l0]; rw [List.drop_eq_nil_of_le (by omega)]; simp only [joinF, List.append_nil]; exact Ev.neg (by omega) (Ev.ret _))
 | m + 1, i, acc, cur, hi, ha, hc => by
  have hlt : i < l.length := by omega
  have hw := w64 i (by omega)
  have hw2 := w64m l.length (by omega) (by omega)
  have hrow := hx _ (List.getElem_mem hlt)
  have htr : Ev (fun k => flow_trimmed.f k (cur ++ l[i].f0)) (trimR (cur ++ l[i].f0)) := by
   unfold flow_trimmed.f
   exact trimmed_is _ _ rfl (by rw [List.length_append]; omega)
  rw [List.drop_eq_getElem_cons hlt]
  refine Ev.succ ?_
  simp only [flow_Join.l0, joinF]
  rw [rd_line hlt, hw, hw2]
  refine Ev.pos (by omega) (Ev.pos (by omega) (Ev.pos (by omega) (Ev.pos (by omega) (Ev.bind (v := cur ++ l[i].f0) (Ev.ret _) ?_))))
  have hput : Ev (fun k => (flow_trimmed.f k (cur ++ l[i].f0)).bind fun t => if acc.length < 5864062014805 then flow_Join.l0 k l (acc ++ [t]) ([] : List CellT) l (l.length : Int) ((i + 1 : Nat) : Int) else none) (acc ++ trimR (cur ++ l[i].f0) :: joinF (l.drop (i + 1)) [], 0) := by
   refine Ev.bind htr (Ev.pos (by omega) ?_)
   have := join_is l hl hx m (i + 1) (acc ++ [trimR (cur ++ l[i].f0)]) [] (by omega) (by rw [List.length_append]; simp; omega) (by simp)
   simpa using this
  by_cases hs : l[i].f1 = true
  ·refine Ev.pos hs ?_
   by_cases hz : i = l.length - 1
   ·rw [if_neg (by rw [List.drop_eq_nil_of_le (by omega)]; simp)]
    exact Ev.pos (by omega) hput
   ·rw [if_pos ⟨hs, by rw [Ne, List.drop_eq_nil_iff]; omega⟩]
    exact Ev.neg (by omega) (join_is l hl hx m (i + 1) acc _ (by omega) (by omega) (by rw [List.length_append]; omega))
  ·rw [if_neg (fun h => hs h.1)]
   exact Ev.neg hs hput
theorem refend_is (l : List LineT) (acc : List (List CellT)) (cur : List CellT) (i : Int) (v : List (List CellT)) (hc : (cur.length : Int) ≤ 1000000000000) (ha : acc.length ≤ 1000) (n : Nat) : n ≤ cur.length →
  Ev (fun k => backseatref08_Join.l0 k l (acc ++ [trimR (cur.take n)]) ([] : List CellT) l (l.length : Int) (wrap64 (i + 1))) v → Ev (fun k => backseatref08_Join.l1 k l acc cur (n : Nat) l (l.length : Int) i) v := by
 induction n with
 | zero =>
  intro _ h
  refine Ev.succ ?_
  simp only [backseatref08_Join.l1]
  exact Ev.neg (by omega) (Ev.pos (by omega) (Ev.pos (by omega) (Ev.pos (by omega) h)))
 | succ n ih =>
  intro hn h
  have hlt : n < cur.length := by omega
  have hw := w64m (n + 1) (by omega) (by omega)
  have e := trimR_snoc (cur.take n) cur[n]
  rw [← List.take_succ_eq_append_getElem hlt] at e
  refine Ev.succ ?_
  simp only [backseatref08_Join.l1, hw, show n + 1 - 1 = n by omega, rd_cell hlt, blank_is, Option.bind_some]
  refine Ev.pos (by omega) (Ev.pos (by omega) (Ev.pos (by omega) ?_))
  by_cases hb : blankB cur[n] = true
  ·rw [e, if_pos hb] at h
   exact Ev.pos hb (ih (by omega) h)
  ·rw [e, if_neg hb] at h
   exact Ev.neg hb (Ev.pos (by omega) (Ev.pos (by omega) (Ev.pos (by omega) h)))
theorem refjoin_is (l : List LineT) (hl : l.length ≤ 1000) (hx : ∀ x ∈ l, x.f0.length ≤ 1000) : ∀ m i (acc : List (List CellT)) (cur : List CellT), i + m = l.length → acc.length ≤ i → cur.length ≤ 1000 * i →
  Ev (fun k => backseatref08_Join.l0 k l acc cur l (l.length : Int) (i : Nat)) (acc ++ joinF (l.drop i) cur)
 | 0, i, acc, cur, hi, ha, hc => Ev.succ (by simp only [backseatref08_Join.l0]; rw [List.drop_eq_nil_of_le (by omega)]; simp only [joinF, List.append_nil]; exact Ev.neg (by omega) (Ev.ret _))
 | m + 1, i, acc, cur, hi, ha, hc => by
  have hlt : i < l.length := by omega
  have hw := w64 i (by omega)
  have hrow := hx _ (List.getElem_mem hlt)
  rw [List.drop_eq_getElem_cons hlt]
  refine Ev.succ ?_
  simp only [backseatref08_Join.l0, joinF]
  rw [rd_line hlt, hw]
  refine Ev.pos (by omega) (Ev.pos (by omega) (Ev.pos (by omega) (Ev.pos (by omega) (Ev.bind (v := cur ++ l[i].f0) (Ev.ret _) ?_))))
  have hput : Ev (fun k => backseatref08_Join.j1 k l acc (cur ++ l[i].f0) l (l.length : Int) (i : Nat) false) (acc ++ trimR (cur ++ l[i].f0) :: joinF (l.drop (i + 1)) []) := by
   refine Ev.succ ?_
   simp only [backseatref08_Join.j1]
   refine Ev.neg (by decide) (refend_is l acc _ _ _ (by rw [List.length_append]; omega) (by omega) _ (Nat.le_refl _) ?_)
   rw [List.take_of_length_le (Nat.le_refl _), hw]
   have := refjoin_is l hl hx m (i + 1) (acc ++ [trimR (cur ++ l[i].f0)]) [] (by omega) (by rw [List.length_append]; simp; omega) (by simp)
   simpa using this
  by_cases hs : l[i].f1 = true
  ·refine Ev.pos hs ?_
   by_cases hz : i = l.length - 1
   ·rw [if_neg (by rw [List.drop_eq_nil_of_le (by omega)]; simp), decide_eq_false (by omega)]
    exact hput
   ·rw [if_pos ⟨hs, by rw [Ne, List.drop_eq_nil_iff]; omega⟩, decide_eq_true (by omega)]
    refine Ev.succ ?_
    simp only [backseatref08_Join.j1]
    refine Ev.pos trivial ?_
    rw [hw]
    exact refjoin_is l hl hx m (i + 1) acc _ (by omega) (by omega) (by rw [List.length_append]; omega)
  ·rw [if_neg (fun h => hs h.1)]
   exact Ev.neg hs hput
end Go.Proofs.YtckkdaehmccjlaaDoor.P.Fl
namespace Go.Proofs.YtckkdaehmccjlaaDoor.P
open Go.RowKit Go.Proofs.YtckkdaehmccjlaaDoorW.PrintWords Go.Proofs.YtckkdaehmccjlaaDoorW.PrintLast Go.Proofs.YtckkdaehmccjlaaDoorW.PrintMore
attribute [local go_sem] max2_int min2_int max_two min_two max_three min_three max_four min_four   -- for this text's walks alone
set_option linter.unusedVariables false
set_option linter.unusedSimpArgs false
def backseatlaw08_same.f (k : Nat) (l0 : List (S60)) (l1 : List (S60)) : Option (Bool) := (backseatref06_SameLine.f k l0 false l1 false).bind fun t503 => (some t503)
set_option maxHeartbeats 8000000 in
set_option maxRecDepth 100000 in
theorem backseatlaw08_same.calls (k : Nat) (A0 : Option Addr) (c0 : Nat) (l0 : List (S60)) (A1 : Option Addr) (c1 : Nat) (l1 : List (S60)) (r : Bool) (w : World) (hr0 : Kd.C k60 w A0 l0.length l0) (hc0 : l0.length ≤ c0) (hr1 : Kd.C k60 w A1 l1.length l1) (hc1 : l1.length ≤ c1) (h : backseatlaw08_same.f k l0 l1 = some r) :
  Calls Tryd.prog 22 #[.slice A0 l0.length c0, .slice A1 l1.length c1] w fun e w' => e = .returned (.bool r) ∧ Below w.heap.size w w' := by
 have hu38 := Tryd.underlying38
 have HR0 := Aside0.mk hr0
 have HC0 := Aside0.mk hc0
 clear hr0 hc0
 have HR1 := Aside0.mk hr1
 have HC1 := Aside0.mk hc1
 clear hr1 hc1
 have HB := Aside0.mk (Below.refl w.heap.size w)
 have H : ((backseatref06_SameLine.f k l0 false l1 false).bind fun t503 => (some t503)) = some r := h
 clear h
 replace H := Option.bind_eq_some_iff.mp H
 obtain ⟨t503, A30, H⟩ := H
 replace H : (some t503) = some r := H
 have A3 := Aside0.mk A30
 clear A30
 obtain rfl := Option.some.inj H
 go_enter Tryd.func22, Tryd.ntmps22
 go_wp2_with (first | ((with_reducible refine gate_callee (f := 50) rfl ?_); refine goesL_ (some 9) rfl rfl Tryd.func50 (by kernel_rfl) rfl #[.agg #[.slice A0 l0.length c0, .bool false], .agg #[.slice A1 l1.length c1, .bool false]] rfl zl ?_; (with_reducible refine (backseatref06_SameLine.calls k _ _ l0 false _ _ l1 false t503 _ ?side1 ?side2 ?side3 ?side4 A3.out).mono ?_); (case side1 => repeat (first | exact HR0.out | (with_reducible refine Kd.C_alloc ?_ _) | (with_reducible refine Kd.C_drewN ?_ _) | (with_reducible refine Kd.C_drew ?_))); (case side2 => exact HC0.out); (case side3 => repeat (first | exact HR1.out | (with_reducible refine Kd.C_alloc ?_ _) | (with_reducible refine Kd.C_drewN ?_ _) | (with_reducible refine Kd.C_drew ?_))); (case side4 => exact HC1.out); rintro e w4 ⟨rfl, hb⟩; refine ⟨_, rfl, ?_⟩; replace HB := (zs HB hb); (try clear hb)))
 go_ret
 exact ⟨ze, zb⟩
end Go.Proofs.YtckkdaehmccjlaaDoor.P
namespace Go.Proofs.YtckkdaehmccjlaaDoor.P.Fl
open Go.RowKit Go.Proofs.YtckkdaehmccjlaaDoorW.PrintWords Go.Proofs.YtckkdaehmccjlaaDoorW.PrintLast Go.Proofs.YtckkdaehmccjlaaDoorW.PrintMore Go.Lib
set_option linter.unusedVariables false
set_option linter.unusedSimpArgs false
def sayV (c : CellT) : List UInt8 := c.f0.data.toList ++ (if c.f0.toList = ([] : List UInt8) then if c.f1 = 1 then [32] else [] else [])
def sayR : List CellT → List UInt8
 | [] => []
 | c :: t => sayV c ++ sayR t
theorem rd_drop {l t : List CellT} {c : CellT} {off : Nat} (h : l.drop off = c :: t) : rd_T60 l (off : Nat) = c := by
 have hlt : off < l.length := by
  apply Classical.byContradiction; intro h'
  rw [List.drop_eq_nil_of_le (by omega)] at h; cases h
 rw [rd_cell hlt]
 rw [List.drop_eq_getElem_cons hlt] at h
 exact (List.cons.inj h).1
theorem drop_more {l t : List CellT} {off n : Nat} (h : l.drop off = t) : l.drop (off + n) = t.drop n := by rw [← h, List.drop_drop]
def RowOK (l : List CellT) : Prop := Pairs l ∧ TinyC l ∧ l.length ≤ 1000000
theorem trim_tiny {l : List CellT} (h : TinyC l) : TinyC (trimR l) ∧ (trimR l).length ≤ l.length := by
 obtain ⟨t, e⟩ := trimR_sub l
 refine ⟨fun c hc => h c (by rw [e]; simp [hc]), ?_⟩
 have := congrArg List.length e; rw [List.length_append] at this; omega
theorem joinF_ok : ∀ (l : List LineT) (cur : List CellT), (∀ x ∈ l, Pairs x.f0 ∧ TinyC x.f0 ∧ x.f0.length ≤ 82) → Pairs cur → TinyC cur → cur.length + 82 * l.length ≤ 1000000 → ∀ r ∈ joinF l cur, RowOK r
 | [], cur, _, _, _, _, r, hr => by cases hr
 | x :: t, cur, hx, hp, ht, hl, r, hr => by
  obtain ⟨a, b, c⟩ := hx x (by simp)
  rw [List.length_cons] at hl
  have hp' := hp.append a
  have ht' : TinyC (cur ++ x.f0) := fun y hy => (List.mem_append.1 hy).elim (ht y) (b y)
  unfold joinF at hr
  split at hr
  ·exact joinF_ok t _ (fun y hy => hx y (by simp [hy])) hp' ht' (by rw [List.length_append]; omega) r hr
  ·rcases List.mem_cons.1 hr with rfl | hr
   ·obtain ⟨d, e⟩ := trim_tiny ht'
    exact ⟨trim_pairs _ _ rfl hp', d, by rw [List.length_append] at e; omega⟩
   ·exact joinF_ok t [] (fun y hy => hx y (by simp [hy])) .nil (fun _ h => by cases h) (by simp; omega) r hr
theorem joinF_short : ∀ (l : List LineT) (cur : List CellT), (∀ x ∈ l, Pairs x.f0 ∧ TinyC x.f0 ∧ x.f0.length ≤ 82) → cur.length + 82 * l.length ≤ 900000 → ∀ r ∈ joinF l cur, r.length ≤ 900000
 | [], cur, _, _, r, hr => by cases hr
 | x :: t, cur, hx, hl, r, hr => by
  obtain ⟨a, b, c⟩ := hx x (by simp)
  rw [List.length_cons] at hl
  unfold joinF at hr
  split at hr
  ·exact joinF_short t _ (fun y hy => hx y (by simp [hy])) (by rw [List.length_append]; omega) r hr
  ·rcases List.mem_cons.1 hr with rfl | hr
   ·obtain ⟨d, e⟩ := trimR_sub (cur ++ x.f0)
    have := congrArg List.length e
    simp only [List.length_append] at this
    omega
   ·exact joinF_short t [] (fun y hy => hx y (by simp [hy])) (by simp; omega) r hr
theorem joinF_len : ∀ (l : List LineT) (cur : List CellT), (joinF l cur).length ≤ l.length
 | [], _ => by simp [joinF]
 | x :: t, cur => by
  unfold joinF
  have h1 := joinF_len t (cur ++ x.f0)
  have h2 := joinF_len t []
  split <;> simp only [List.length_cons] <;> omega
theorem sameline_loop (l : List CellT) (a b : Bool) (hl : l.length ≤ 1000000) : ∀ m i, i + m = l.length → Ev (fun k => backseatref06_SameLine.l0 k (l.length : Int) (i : Nat) l a l b) true
 | 0, i, hi => Ev.succ (by simp only [backseatref06_SameLine.l0]; exact Ev.neg (by omega) (Ev.ret _))
 | m + 1, i, hi => Ev.succ (by
  have hw := w64 i (by omega)
  simp only [backseatref06_SameLine.l0]
  refine Ev.pos (by omega) (Ev.pos (by omega) (Ev.pos (by omega) (Ev.pos (by omega) (Ev.neg (by simp) ?_))))
  rw [hw]; exact sameline_loop l a b hl m (i + 1) (by omega))
theorem sameline_is (l : List CellT) (a : Bool) (hl : l.length ≤ 1000000) : Ev (fun k => backseatref06_SameLine.f k l a l a) true := by
 unfold backseatref06_SameLine.f
 refine Ev.pos rfl (Ev.succ ?_)
 simp only [backseatref06_SameLine.j0, bne_self_eq_false]
 exact Ev.neg (by decide) (sameline_loop l a a hl l.length 0 (by omega))
theorem ext_le (s : ByteArray) (i : Int) (h : i ≤ 20) : (s.extract 0 i.toNat).size ≤ 20 := by
 simp [ByteArray.size_extract]; omega
theorem cells_loop (y : List CellT) (hy : y.length ≤ 1000) (m : Nat) : ∀ (i : Nat) (out : List CellT), i + m = y.length → out.length = i → TinyC out →
  EvP (fun k => backseatlaw08_cells.l0 k out y (y.length : Int) (i : Nat)) (fun r => r.length = y.length ∧ TinyC r) := by
 induction m with
 | zero =>
  intro i out hi ho ht
  refine EvP.succ ?_
  simp only [backseatlaw08_cells.l0]
  exact EvP.ite (fun h' => by omega) (fun _ => EvP.ret ⟨by omega, ht⟩)
 | succ m ih =>
  intro i out hi ho ht
  have hw := w64 i (by omega)
  obtain ⟨m1, m2, m3⟩ := mn_facts (rd_T60 y (i : Nat)).f0.size 20
  refine EvP.succ ?_
  simp only [backseatlaw08_cells.l0, hw]
  refine EvP.ite (fun _ => EvP.ite (fun _ => EvP.ite (fun _ => EvP.ite (fun _ => EvP.ite (fun _ => EvP.ite (fun _ => ?_) (fun h' => by omega)) (fun h' => h' m2 |>.elim)) (fun h' => h' m1 |>.elim)) (fun h' => by omega)) (fun h' => by omega)) (fun h' => by omega)
  refine ih (i + 1) _ (by omega) (by rw [List.length_append]; simp; omega) ?_
  intro c hc
  rcases List.mem_append.1 hc with hc | hc
  ·exact ht c hc
  ·rw [List.mem_singleton.1 hc]; exact ext_le _ _ m3
theorem cells_ev (l : List CellT) (a : Int) (h0 : 0 ≤ a) (ha : a ≤ 1000) : EvP (fun k => backseatlaw08_cells.f k l a) (fun r => r.length ≤ a.toNat ∧ TinyC r) := by
 obtain ⟨m1, m2, m3⟩ := mn_facts l.length a h0
 unfold backseatlaw08_cells.f
 refine EvP.ite (fun _ => EvP.ite (fun _ => ?_) (fun h' => h' m2 |>.elim)) (fun h' => h' m1 |>.elim)
 refine EvP.bind (e := fun _ => some _) (Q := fun v => v = l.take (mn (l.length : Int) a).toNat) ⟨_, rfl, Ev.ret _⟩ (fun v hv => ?_)
 have hvl : v.length ≤ a.toNat := by rw [hv, List.length_take]; omega
 obtain ⟨r, ⟨h1, h2⟩, h3⟩ := cells_loop v (by omega) v.length 0 [] (by omega) rfl (fun c hc => by cases hc)
 exact ⟨r, ⟨by omega, h2⟩, h3⟩
theorem few_loop (y : List LineT) (hy : y.length ≤ 30) (m : Nat) : ∀ (i : Nat) (out : List LineT), i + m = y.length → out.length ≤ i → Tiny out →
  EvP (fun k => backseatlaw08_few.l0 k out y (y.length : Int) (i : Nat)) (fun L => L.length ≤ 30 ∧ Tiny L) := by
 induction m with
 | zero =>
  intro i out hi ho ht
  refine EvP.succ ?_
  simp only [backseatlaw08_few.l0]
  exact EvP.ite (fun h' => by omega) (fun _ => EvP.ret ⟨by omega, ht⟩)
 | succ m ih =>
  intro i out hi ho ht
  have hw := w64 i (by omega)
  refine EvP.succ ?_
  simp only [backseatlaw08_few.l0]
  refine EvP.ite (fun _ => EvP.ite (fun _ => EvP.ite (fun _ => ?_) (fun h' => by omega)) (fun h' => by omega)) (fun h' => by omega)
  refine EvP.bind (cells_ev _ 82 (by decide) (by decide)) (fun v hv => EvP.ite (fun _ => ?_) (fun h' => by omega))
  rw [hw]
  refine ih (i + 1) _ (by omega) (by rw [List.length_append]; simp; omega) ?_
  intro x hx
  rcases List.mem_append.1 hx with hx | hx
  ·exact ht x hx
  ·rw [List.mem_singleton.1 hx]; exact hv
theorem few_ev (l : List LineT) : EvP (fun k => backseatlaw08_few.f k l) (fun L => L.length ≤ 30 ∧ Tiny L) := by
 obtain ⟨m1, m2, m3⟩ := mn_facts l.length 30
 unfold backseatlaw08_few.f
 refine EvP.ite (fun _ => EvP.ite (fun _ => ?_) (fun h' => h' m2 |>.elim)) (fun h' => h' m1 |>.elim)
 refine EvP.bind (e := fun _ => some _) (Q := fun v => v = l.take (mn (l.length : Int) 30).toNat) ⟨_, rfl, Ev.ret _⟩ (fun v hv => ?_)
 exact few_loop v (by rw [hv, List.length_take]; omega) v.length 0 [] (by omega) (by simp) (fun x hx => by cases hx)
theorem line_loop (m : Nat) (hm : m ≤ 1000000) (soft : Bool) : ∀ n (now : List CellT), now.length + n = m → Ev (fun k => backseatref08_Line.l0 k m now soft) (fillL now m, soft)
 | 0, now, h => Ev.succ (by
  simp only [backseatref08_Line.l0]
  refine Ev.neg (by omega) ?_
  have e : fillL now m = now := by unfold fillL; rw [show m - now.length = 0 by omega]; simp
  rw [e]; exact Ev.ret _)
 | n + 1, now, h => Ev.succ (by
  simp only [backseatref08_Line.l0]
  refine Ev.pos (by omega) (Ev.pos (by omega) ?_)
  have e : fillL now m = fillL (now ++ [blankC]) m := by
   unfold fillL
   rw [show m - now.length = (m - (now ++ [blankC]).length) + 1 by simp; omega, List.replicate_succ, List.append_assoc]; rfl
  rw [e]
  exact line_loop m hm soft n (now ++ [blankC]) (by simp; omega))
theorem line_is (m : Nat) (hm : m ≤ 1000000) (soft : Bool) (now : List CellT) (h : now.length ≤ m) : Ev (fun k => backseatref08_Line.f k now m soft) (fillL now m, soft) := by
 unfold backseatref08_Line.f
 exact Ev.pos (by simp; omega) (line_loop m hm soft (m - now.length) _ (by simp; omega))
def LinesOK (m : Nat) (r : List LineT) : Prop := ∀ x ∈ r, x.f0.length = m
theorem LinesOK.snoc {m : Nat} {r : List LineT} (h : LinesOK m r) {now : List CellT} (hn : now.length ≤ m) (s : Bool) : LinesOK m (r ++ [⟨fillL now m, s⟩]) := fun x hx => by
 rcases List.mem_append.1 hx with hx | hx
 ·exact h x hx
 ·rw [List.mem_singleton.1 hx]; exact fillL_length hn
def endS (m : Nat) (s : List LineT × List CellT) : List LineT := s.1 ++ [⟨fillL s.2 m, false⟩]
theorem fold_step (l : List CellT) (hl : l.length ≤ 1000000) (m : Nat) (hm : m ≤ 1000) (off n : Nat) (hn : n = 1 ∨ n = 2) (ho : off + n ≤ l.length) (out : List LineT) (now : List CellT) (hout : out.length ≤ 1000000) (hnow : now.length ≤ m) (v : List LineT)
  (h : Ev (fun k => backseatref08_Fold.l0 k l m (stepS m l (out, now) (off, n)).1 (stepS m l (out, now) (off, n)).2 ((off + n : Nat) : Int)) v) :
  Ev (fun k => backseatref08_Fold.j1 k l m out now (off : Nat) (n : Nat)) v := by
 have hw : wrap64 ((off : Int) + (n : Int)) = ((off + n : Nat) : Int) := by rw [IntWalk.wrap64_in _ (by omega)]; omega
 have hw2 : wrap64 ((now.length : Int) + (n : Int)) = ((now.length + n : Nat) : Int) := by rw [IntWalk.wrap64_in _ (by omega)]; omega
 have hc : (l.take (off + n)).drop off = cellsOf l (off, n) := by unfold cellsOf; rw [List.drop_take]; congr 1; omega
 have hcl : (cellsOf l (off, n)).length = n := cellsOf_length ho
 unfold stepS at h
 refine Ev.succ ?_
 simp only [backseatref08_Fold.j1, hw2]
 by_cases h1 : m < n
 ·rw [if_pos h1] at h
  refine Ev.neg (by omega) (Ev.succ ?_)
  simp only [backseatref08_Fold.j2, hw]
  exact Ev.neg (by decide) (Ev.neg (by omega) h)
 ·rw [if_neg h1] at h
  refine Ev.pos (by omega) (Ev.succ ?_)
  simp only [backseatref08_Fold.j2, hw]
  by_cases h2 : m < now.length + n
  ·rw [if_pos h2] at h
   rw [decide_eq_true (by omega)]
   refine Ev.pos rfl (Ev.bind (line_is m (by omega) true now hnow) (Ev.pos (by omega) (Ev.bind (Ev.ret _) (Ev.bind (Ev.ret _) (Ev.pos (by omega) (Ev.pos (by omega) (Ev.pos (by omega) (Ev.pos (by omega) (Ev.bind (v := cellsOf l (off, n)) ?_ (Ev.pos (by simp; omega) ?_))))))))))
   ·rw [Int.toNat_natCast, Int.toNat_natCast, hc]; exact Ev.ret _
   ·simpa using h
  ·rw [if_neg h2] at h
   rw [decide_eq_false (by omega)]
   refine Ev.neg (by decide) (Ev.pos (by omega) (Ev.pos (by omega) (Ev.pos (by omega) (Ev.pos (by omega) (Ev.bind (v := cellsOf l (off, n)) ?_ (Ev.pos (by omega) ?_))))))
   ·rw [Int.toNat_natCast, Int.toNat_natCast, hc]; exact Ev.ret _
   ·exact h
theorem stepS_ok (l : List CellT) (m off n : Nat) (ho : off + n ≤ l.length) (out : List LineT) (now : List CellT) (hnow : now.length ≤ m) (hL : LinesOK m out) :
  (stepS m l (out, now) (off, n)).2.length ≤ m ∧ (stepS m l (out, now) (off, n)).1.length ≤ out.length + 1 ∧ LinesOK m (stepS m l (out, now) (off, n)).1 := by
 have hcl : (cellsOf l (off, n)).length = n := cellsOf_length ho
 unfold stepS
 split
 ·exact ⟨hnow, by simp, hL⟩
 ·split
  ·exact ⟨by rw [hcl]; omega, by simp, hL.snoc hnow true⟩
  ·exact ⟨by rw [List.length_append, hcl]; simp only at *; omega, by simp, hL⟩
theorem fold_loop (l : List CellT) (hl : l.length ≤ 900000) (m : Nat) (hm : m ≤ 1000) {t : List CellT} (ht : Pairs t) : ∀ (off f : Nat) (out : List LineT) (now : List CellT), l.drop off = t → t.length ≤ f → off + t.length = l.length → out.length ≤ off → now.length ≤ m → LinesOK m out →
  ∃ gs, grpF f off t = some gs ∧ Ev (fun k => backseatref08_Fold.l0 k l m out now (off : Nat)) (endS m (gs.foldl (stepS m l) (out, now))) ∧ LinesOK m (endS m (gs.foldl (stepS m l) (out, now))) ∧ (endS m (gs.foldl (stepS m l) (out, now))).length ≤ out.length + t.length + 1 := by
 have fin : ∀ (off : Nat) (out : List LineT) (now : List CellT), ¬ off < l.length → out.length ≤ 1000000 → now.length ≤ m → Ev (fun k => backseatref08_Fold.l0 k l m out now (off : Nat)) (endS m (out, now)) := fun off out now h ho hn => by
  refine Ev.succ ?_
  simp only [backseatref08_Fold.l0]
  exact Ev.neg (by omega) (Ev.bind (line_is m (by omega) false now hn) (Ev.pos (by omega) (Ev.ret _)))
 induction ht with
 | nil =>
  intro off f out now he hf hol ho hn hL
  have hoff : ¬ off < l.length := fun h => by rw [List.drop_eq_getElem_cons h] at he; cases he
  refine ⟨[], by cases f <;> rfl, ?_, hL.snoc hn false, by simp [endS]⟩
  exact fin off out now hoff (by rw [List.length_nil] at hol; omega) hn
 | @one c t h1 ht ih =>
  intro off f out now he hf hol ho hn hL
  rw [List.length_cons] at hf
  obtain ⟨f, rfl⟩ : ∃ g, f = g + 1 := ⟨f - 1, by omega⟩
  have hlt : off < l.length := by
   apply Classical.byContradiction; intro h'
   rw [List.drop_eq_nil_of_le (by omega)] at he; cases he
  obtain ⟨a, b, d⟩ := stepS_ok l m off 1 (by omega) out now hn hL
  obtain ⟨gs, hg, hE, hL2, hlen⟩ := ih (off + 1) f _ _ (by rw [drop_more he]; rfl) (by omega) (by simp only [List.length_cons] at hol; omega) (by omega) a d
  rw [show ((stepS m l (out, now) (off, 1)).1, (stepS m l (out, now) (off, 1)).2) = stepS m l (out, now) (off, 1) from rfl] at hlen
  refine ⟨(off, 1) :: gs, ?_, ?_, hL2, by rw [List.foldl_cons, List.length_cons]; omega⟩
  ·unfold grpF
   have e : (mx c.f1 1).toNat = 1 := by rw [h1]; rfl
   rw [e, if_pos (by omega), List.drop_one, List.tail_cons, hg]; rfl
  ·refine Ev.succ ?_
   simp only [backseatref08_Fold.l0, rd_drop he]
   exact Ev.pos (by omega) (Ev.pos (by omega) (Ev.neg (by omega) (fold_step l (by omega) m hm off 1 (Or.inl rfl) (by omega) out now (by omega) hn _ hE)))
 | @two c e t h1 h2 h3 h4 ht ih =>
  intro off f out now he hf hol ho hn hL
  simp only [List.length_cons] at hf
  obtain ⟨f, rfl⟩ : ∃ g, f = g + 1 := ⟨f - 1, by omega⟩
  have hlt : off + 1 < l.length := by
   have := congrArg List.length he
   simp only [List.length_drop, List.length_cons] at this
   omega
  obtain ⟨a, b, d⟩ := stepS_ok l m off 2 (by omega) out now hn hL
  obtain ⟨gs, hg, hE, hL2, hlen⟩ := ih (off + 2) f _ _ (by rw [drop_more he]; rfl) (by omega) (by simp only [List.length_cons] at hol; omega) (by omega) a d
  rw [show ((stepS m l (out, now) (off, 2)).1, (stepS m l (out, now) (off, 2)).2) = stepS m l (out, now) (off, 2) from rfl] at hlen
  refine ⟨(off, 2) :: gs, ?_, ?_, hL2, by rw [List.foldl_cons]; simp only [List.length_cons]; omega⟩
  ·unfold grpF
   have e : (mx c.f1 1).toNat = 2 := by rw [h1]; rfl
   rw [e, if_pos (by simp), show (c :: _ :: t).drop 2 = t from rfl, hg]; rfl
  ·refine Ev.succ ?_
   simp only [backseatref08_Fold.l0, rd_drop he]
   exact Ev.pos (by omega) (Ev.pos (by omega) (Ev.pos h1 (fold_step l (by omega) m hm off 2 (Or.inr rfl) (by omega) out now (by omega) hn _ hE)))
theorem fold_is (l : List CellT) (hp : Pairs l) (hl : l.length ≤ 900000) (a : Int) (h1 : 1 ≤ a) (h2 : a ≤ 80) :
  ∃ r, flow_fold.f l a = some r ∧ Ev (fun k => backseatref08_Fold.f k l a) r ∧ LinesOK a.toNat r ∧ r.length ≤ l.length + 1 := by
 obtain ⟨m, rfl⟩ : ∃ m : Nat, a = m := ⟨a.toNat, by omega⟩
 obtain ⟨gs, hg, hE, hL, hlen⟩ := fold_loop l hl m (by omega) hp 0 l.length [] [] rfl (Nat.le_refl _) (by simp) (by simp) (by simp) (fun x hx => by cases hx)
 refine ⟨_, ?_, by unfold backseatref08_Fold.f; exact hE, hL, by simpa using hlen⟩
 unfold flow_fold.f grpO
 rw [if_pos ⟨h1, by omega, by omega⟩, hg]; rfl
theorem same_loop (r : List LineT) (hl : r.length ≤ 1000000000) (hx : ∀ x ∈ r, x.f0.length ≤ 1000000) : ∀ m i, i + m = r.length → Ev (fun k => backseatref06_Same.l0 k r r (r.length : Int) (i : Nat)) true
 | 0, i, hi => Ev.succ (by simp only [backseatref06_Same.l0]; exact Ev.neg (by omega) (Ev.ret _))
 | m + 1, i, hi => Ev.succ (by
  have hlt : i < r.length := by omega
  have hw := w64 i (by omega)
  simp only [backseatref06_Same.l0]
  rw [rd_line hlt]
  refine Ev.pos (by omega) (Ev.pos (by omega) (Ev.pos (by omega) (Ev.pos (by omega) (Ev.bind (sameline_is _ _ (hx _ (List.getElem_mem hlt))) (Ev.pos rfl ?_)))))
  rw [hw]; exact same_loop r hl hx m (i + 1) (by omega))
theorem same_is (r : List LineT) (hl : r.length ≤ 1000000000) (hx : ∀ x ∈ r, x.f0.length ≤ 1000000) : Ev (fun k => backseatref06_Same.f k r r) true := by
 unfold backseatref06_Same.f
 exact Ev.pos rfl (same_loop r hl hx r.length 0 (by omega))
end Go.Proofs.YtckkdaehmccjlaaDoor.P.Fl
namespace Go.Proofs.YtckkdaehmccjlaaDoor.P.Fl
open Go.RowKit Go.Proofs.YtckkdaehmccjlaaDoorW.PrintWords Go.Proofs.YtckkdaehmccjlaaDoorW.PrintLast Go.Proofs.YtckkdaehmccjlaaDoorW.PrintMore
theorem alive_k (k : Nat) : backseatlaw08_alive.f (k + 20) = some true := by kernel_rfl
theorem alive_ev : Ev (fun k => backseatlaw08_alive.f k) true := ⟨20, fun k hk => by
 obtain ⟨j, rfl⟩ : ∃ j, k = j + 20 := ⟨k - 20, by omega⟩
 exact alive_k j⟩
end Go.Proofs.YtckkdaehmccjlaaDoor.P.Fl
namespace Go.Proofs.YtckkdaehmccjlaaDoor.P.Fl
open Go.RowKit Go.Proofs.YtckkdaehmccjlaaDoorW.PrintWords Go.Proofs.YtckkdaehmccjlaaDoorW.PrintLast Go.Proofs.YtckkdaehmccjlaaDoorW.PrintMore
set_option linter.unusedVariables false
set_option linter.unusedSimpArgs false
theorem flow_loop (R : List (List CellT)) (hR : ∀ r ∈ R, Pairs r ∧ r.length ≤ 900000) (hl : R.length ≤ 1000) (a : Int) (h1 : 1 ≤ a) (h2 : a ≤ 80) : ∀ m i (acc : List LineT), i + m = R.length → acc.length ≤ 1000000 * i → LinesOK a.toNat acc →
  ∃ r, Ev (fun k => flow_Flow.l0 k a acc R (R.length : Int) (i : Nat)) (r, 0) ∧ Ev (fun k => backseatref08_Flow.l0 k a acc R (R.length : Int) (i : Nat)) r ∧ r.length ≤ 1000000000 ∧ LinesOK a.toNat r
 | 0, i, acc, hi, ha, hL => ⟨acc, Ev.succ (by simp only [flow_Flow.l0]; exact Ev.neg (by omega) (Ev.ret _)), Ev.succ (by simp only [backseatref08_Flow.l0]; exact Ev.neg (by omega) (Ev.ret _)), by omega, hL⟩
 | m + 1, i, acc, hi, ha, hL => by
  have hlt : i < R.length := by omega
  have hw := w64 i (by omega)
  obtain ⟨hp, hn⟩ := hR _ (List.getElem_mem hlt)
  have e1 : rd_L4 R (i : Nat) = R[i] := by unfold rd_L4; simp [List.getD_eq_getElem?_getD, hlt]
  obtain ⟨t, ht1, ht2, ht3, ht4⟩ := fold_is R[i] hp hn a h1 h2
  obtain ⟨r, hr1, hr2, hr3, hr4⟩ := flow_loop R hR hl a h1 h2 m (i + 1) (acc ++ t) (by omega) (by rw [List.length_append]; omega) (fun x hx => (List.mem_append.1 hx).elim (hL x) (ht3 x))
  refine ⟨r, Ev.succ ?_, Ev.succ ?_, hr3, hr4⟩
  ·simp only [flow_Flow.l0]
   rw [e1, hw, ht1]
   exact Ev.pos (by omega) (Ev.pos (by omega) (Ev.pos (by omega) (Ev.bind (Ev.ret t) (Ev.pos (by omega) hr1))))
  ·simp only [backseatref08_Flow.l0]
   rw [e1, hw]
   exact Ev.pos (by omega) (Ev.pos (by omega) (Ev.pos (by omega) (Ev.bind ht2 (Ev.pos (by omega) hr2))))
theorem foldAll (C : List CellT) (hC : C.length ≤ 200) (ht : TinyC C) (a : Int) (h1 : 1 ≤ a) (h2 : a ≤ 80) :
  (∃ r, Ev (fun k => flow_Fold.f k C a) (r, 0) ∧ Ev (fun k => backseatref06_Fits.f k C false (C.length : Int)) true ∧ Ev (fun k => backseatref08_Fold.f k C a) r ∧ Ev (fun k => backseatref06_Same.f k r r) true) ∨
  (Ev (fun k => flow_Fold.f k C a) ([], 1) ∧ Ev (fun k => backseatref06_Fits.f k C false (C.length : Int)) false) := by
 have hs : SmallC C := ⟨by omega, fun c hc => by have := ht c hc; omega⟩
 obtain ⟨b, hb1, hb2⟩ := fits_same C false (C.length : Int) hs
 cases b with
 | false => exact .inr ⟨by unfold flow_Fold.f; exact Ev.neg (by omega) (Ev.neg (by omega) (Ev.neg (by omega) (Ev.bind hb1 (Ev.neg (by decide) (Ev.ret _))))), hb2⟩
 | true =>
  have hf := hb2
  unfold backseatref06_Fits.f at hf
  have H := fits_at _ _ _ hs C.length 0 (by omega) hf
  have hp : Pairs C := by simpa using pairs_from (by omega) (fun j h => H j (by omega) h) C.length 0 (by omega) (Or.inl rfl)
  obtain ⟨r, r1, r2, r3, r4⟩ := fold_is C hp (by omega) a h1 h2
  refine .inl ⟨r, ?_, hb2, r2, same_is r (by omega) (fun x hx => by have := r3 x hx; omega)⟩
  unfold flow_Fold.f
  exact Ev.neg (by omega) (Ev.neg (by omega) (Ev.neg (by omega) (Ev.bind hb1 (Ev.pos (by first | rfl | trivial) (Ev.bind (Ev.of r1) (Ev.ret _))))))
theorem folds_j3 (L : List LineT) (a : Int) (r : List LineT) (e : Int) (c : Bool) (h : (c = true ∧ r = [] ∧ e = 1) ∨ (c = false ∧ e = 0 ∧ Ev (fun k => backseatref08_Flow.f k L a) r ∧ Ev (fun k => backseatref06_Same.f k r r) true)) :
  Ev (fun k => backseatlaw08_FlowFolds.j3 k L a r e c) true := by
 refine Ev.succ ?_
 simp only [backseatlaw08_FlowFolds.j3]
 rcases h with ⟨rfl, rfl, rfl⟩ | ⟨rfl, rfl, h1, h2⟩
 ·exact Ev.pos (by first | rfl | trivial) (Ev.bind alive_ev (Ev.pos (by first | rfl | trivial) (Ev.pos (by first | rfl | trivial) (Ev.of rfl))))
 ·exact Ev.neg (by decide) (Ev.bind alive_ev (Ev.pos (by first | rfl | trivial) (Ev.pos (by first | rfl | trivial) (Ev.bind h1 (Ev.bind h2 (Ev.ret _))))))
theorem folds_pure (l0 : List S60) (l1 : List S38) (a : Int) : ∃ k, backseatlaw08_FlowFolds.f k l0 l1 a = some true := by
 obtain ⟨C, ⟨hC, hCt⟩, hcells⟩ := cells_ev l0 200 (by decide) (by decide)
 obtain ⟨L, ⟨hL, hT⟩, hfew⟩ := few_ev l1
 refine Ev.ex (f := fun k => backseatlaw08_FlowFolds.f k l0 l1 a) ?_
 unfold backseatlaw08_FlowFolds.f
 refine Ev.bind hcells (Ev.bind hfew ?_)
 have hs := tiny_small hL hT
 have hM := may_ev L hs
 have hR := refmay_ev L hs
 have hx : ∀ x ∈ L, x.f0.length ≤ 1000 := fun x hx => by have := (hT x hx).1; omega
 have hC2 : C.length ≤ 200 := hC
 by_cases hok : 1 ≤ a ∧ a ≤ 80
 ·obtain ⟨h1, h2⟩ := hok
  have hflow : ∃ r e, Ev (fun k => flow_Flow.f k L a) (r, e) ∧ Ev (fun k => backseatlaw08_FlowFolds.j2 k L a r e true) true := by
   cases hb : (!L.any oddB && decide (L.length ≤ 200))
   ·rw [hb] at hM hR
    have hJ : Ev (fun k => flow_Join.f k L) (([] : List (List CellT)), 1) := by unfold flow_Join.f; exact Ev.bind hM (Ev.neg (by decide) (Ev.ret _))
    refine ⟨[], 1, ?_, ?_⟩
    ·unfold flow_Flow.f
     refine Ev.bind hJ (Ev.neg (by decide) (Ev.succ ?_))
     simp only [flow_Flow.j0]
     exact Ev.pos (by first | rfl | trivial) (Ev.ret _)
    ·refine Ev.succ ?_
     simp only [backseatlaw08_FlowFolds.j2]
     exact Ev.pos (by first | rfl | trivial) (Ev.bind hR (folds_j3 _ _ _ _ _ (Or.inl ⟨rfl, rfl, rfl⟩)))
   ·rw [hb] at hM hR
    have hok : ∀ x ∈ L, Pairs x.f0 ∧ TinyC x.f0 ∧ x.f0.length ≤ 82 := fun x hx => by
     have ho : oddB x = false := by
      rw [Bool.and_eq_true, Bool.not_eq_true', List.any_eq_false] at hb
      exact Bool.eq_false_iff.2 (hb.1 x hx)
     exact ⟨(pairs_of (hs.2 x hx) ho).1, (hT x hx).2, (hT x hx).1⟩
    have hrow := joinF_ok L [] hok .nil (fun _ h => by cases h) (by simp; omega)
    have hrl := joinF_short L [] hok (by simp; omega)
    have hlen := joinF_len L []
    have hJ : Ev (fun k => flow_Join.f k L) (joinF L [], 0) := by
     unfold flow_Join.f
     exact Ev.bind hM (Ev.pos (by first | rfl | trivial) (by simpa using join_is L (by omega) hx L.length 0 [] [] (by omega) (by simp) (by simp)))
    have hF : Ev (fun k => backseatref08_Join.f k L) (joinF L []) := by
     unfold backseatref08_Join.f
     simpa using refjoin_is L (by omega) hx L.length 0 [] [] (by omega) (by simp) (by simp)
    obtain ⟨r, r1, r2, r3, r4⟩ := flow_loop (joinF L []) (fun x hx => ⟨(hrow x hx).1, hrl x hx⟩) (by omega) a h1 h2 (joinF L []).length 0 [] (by omega) (by simp) (fun x hx => by cases hx)
    refine ⟨r, 0, ?_, ?_⟩
    ·unfold flow_Flow.f
     refine Ev.bind hJ (Ev.pos (by first | rfl | trivial) (Ev.neg (by omega) (Ev.succ ?_)))
     simp only [flow_Flow.j0]
     exact Ev.neg (by rw [decide_eq_false (by omega)]; decide) r1
    ·refine Ev.succ ?_
     simp only [backseatlaw08_FlowFolds.j2]
     refine Ev.pos (by first | rfl | trivial) (Ev.bind hR (folds_j3 _ _ _ _ _ (Or.inr ⟨rfl, rfl, ?_, same_is r r3 (fun x hx => by have := r4 x hx; omega)⟩)))
     unfold backseatref08_Flow.f
     exact Ev.bind hF r2
  obtain ⟨r, e, hFl, hj2⟩ := hflow
  rcases foldAll C hC2 hCt a h1 h2 with ⟨q, q1, q2, q3, q4⟩ | ⟨q1, q2⟩
  ·refine Ev.bind q1 (Ev.bind hFl (Ev.pos h1 ?_))
   rw [decide_eq_true h2]
   refine Ev.succ ?_
   simp only [backseatlaw08_FlowFolds.j0]
   refine Ev.pos (by first | rfl | trivial) (Ev.bind q2 (Ev.succ ?_))
   simp only [backseatlaw08_FlowFolds.j1]
   exact Ev.pos (by first | rfl | trivial) (Ev.pos (by first | rfl | trivial) (Ev.bind q3 (Ev.bind q4 (Ev.pos (by first | rfl | trivial) hj2))))
  ·refine Ev.bind q1 (Ev.bind hFl (Ev.pos h1 ?_))
   rw [decide_eq_true h2]
   refine Ev.succ ?_
   simp only [backseatlaw08_FlowFolds.j0]
   refine Ev.pos (by first | rfl | trivial) (Ev.bind q2 (Ev.succ ?_))
   simp only [backseatlaw08_FlowFolds.j1]
   exact Ev.neg (by decide) (Ev.pos (by first | rfl | trivial) (Ev.pos (by first | rfl | trivial) hj2))
 ·have hFo : Ev (fun k => flow_Fold.f k C a) ([], 1) := by
   unfold flow_Fold.f
   by_cases h1 : a < 1
   ·exact Ev.pos h1 (Ev.ret _)
   ·exact Ev.neg h1 (Ev.pos (by omega) (Ev.ret _))
  have j0t : ∀ R, Ev (fun k => flow_Flow.j0 k a R true) ([], 1) := fun R => Ev.succ (by simp only [flow_Flow.j0]; exact Ev.pos (by first | rfl | trivial) (Ev.ret _))
  have hFl : Ev (fun k => flow_Flow.f k L a) ([], 1) := by
   have hJ : ∃ v, Ev (fun k => flow_Join.f k L) v := by
    cases hb : (!L.any oddB && decide (L.length ≤ 200))
    ·rw [hb] at hM
     exact ⟨_, by unfold flow_Join.f; exact Ev.bind hM (Ev.neg (by decide) (Ev.ret _))⟩
    ·rw [hb] at hM
     exact ⟨_, by unfold flow_Join.f; exact Ev.bind hM (Ev.pos (by first | rfl | trivial) (join_is L (by omega) hx L.length 0 [] [] (by omega) (by simp) (by simp)))⟩
   obtain ⟨v, hv⟩ := hJ
   unfold flow_Flow.f
   refine Ev.bind hv ?_
   by_cases h0 : v.2 = 0
   ·refine Ev.pos h0 ?_
    by_cases h1 : a < 1
    ·exact Ev.pos h1 (j0t _)
    ·refine Ev.neg h1 ?_
     rw [decide_eq_true (by omega)]; exact j0t _
   ·exact Ev.neg h0 (j0t _)
  have last : ∀ k1, Ev (fun k => backseatlaw08_FlowFolds.j0 (k + k1) C L a [] 1 [] 1 false) true := fun k1 => by
   refine Ev.shift (n := k1) (f := fun k => backseatlaw08_FlowFolds.j0 k C L a [] 1 [] 1 false) (Ev.succ ?_)
   simp only [backseatlaw08_FlowFolds.j0]
   refine Ev.neg (by decide) (Ev.succ ?_)
   simp only [backseatlaw08_FlowFolds.j1]
   refine Ev.neg (by decide) (Ev.pos (by first | rfl | trivial) (Ev.pos (by first | rfl | trivial) (Ev.succ ?_)))
   simp only [backseatlaw08_FlowFolds.j2]
   exact Ev.neg (by decide) (folds_j3 _ _ _ _ _ (Or.inl ⟨rfl, rfl, rfl⟩))
  refine Ev.bind hFo (Ev.bind hFl ?_)
  by_cases h1 : a ≥ 1
  ·refine Ev.pos h1 ?_
   rw [decide_eq_false (by omega)]; exact last 0
  ·exact Ev.neg h1 (last 0)
end Go.Proofs.YtckkdaehmccjlaaDoor.P.Fl
namespace Go.Proofs.YtckkdaehmccjlaaDoor.P
theorem flowFolds_pure (l0 : List S60) (l1 : List S38) (a : Int) (_ : -9223372036854775808 ≤ a ∧ a ≤ 9223372036854775807) (_ : l0.length ≤ 9223372036854775807) (_ : l1.length ≤ 9223372036854775807) : ∃ k, backseatlaw08_FlowFolds.f k l0 l1 a = some true := Fl.folds_pure l0 l1 a
end Go.Proofs.YtckkdaehmccjlaaDoor.P
namespace Go.Proofs.YtckkdaehmccjlaaDoor.flowFolds
open Go.ChangeShapes Go.WideShapes Go.ChangeAt Go.RowKit Go.Shelf Go.Lib
open Go.ChangeMaps (open_string shut_string)
open Go.Proofs.YtckkdaehmccjlaaDoor.P
set_option linter.unusedVariables false
theorem own : ownKnob Tryd.prog.godebug = none := by kernel_rfl
theorem laidOut : laidOutB Tryd.prog = true := by kernel_rfl
theorem tabs_of {w : World} (hL : laidMet Tryd.prog Rows.flowFoldsRow.laid w) : Tabs w :=
 ⟨utf8Tabs_of_reads (ρ := Tryd.lays197_ren) { Tryd.lays197 with } ⟨by kernel_rfl, by kernel_rfl, by kernel_rfl, by kernel_rfl, by kernel_rfl, by kernel_rfl, by kernel_rfl⟩ (Pinned.utf8First_eq ▸ Lib.laidMet.reads hL (.tail _ (.head _))) (Lib.laidMet.reads hL (.head _))⟩
set_option maxRecDepth 100000 in
theorem lifted (os : Os) (started : os.Started) (H : Type) (enc : TypeId × Value → H) :
  ReturnsInHanded {} Tryd.checked os 6 .any (fun w args => (Rows.flowFoldsSpec.pre enc Tryd.prog Tryd.f6 [] false w args ∧ laidMetH Tryd.prog Rows.flowFoldsRow.laid w) ∧ sizedMet enc Tryd.prog Tryd.f6 (OpenSpec.ofChange Rows.flowFoldsSpec) false w args)
   (Rows.flowFoldsSpec.post enc Tryd.prog Tryd.f6 false true false false) := by
 refine returnsInHanded_of_change_and (C := Tryd.checked) (X := fun w _ => laidMetH Tryd.prog Rows.flowFoldsRow.laid w) (fun _ _ _ hh h => h.of_heap hh) own started (by kernel_rfl) Tryd.func6
  (ChangeSpec.witness_shaped (enc := enc) (C := Tryd.checked) (os := os) (X := fun w _ => laidMetH Tryd.prog Rows.flowFoldsRow.laid w) false (World.laidAll Tryd.prog os Rows.flowFoldsRow.laid) #[.slice none 0 0, .slice none 0 0, .int .i64 0] 8 (World.laidAll_os _ _ _)
   (World.shaped_of_ZipB (by kernel_rfl) (by kernel_rfl)) (by kernel_rfl) (by kernel_rfl) (by kernel_rfl)
   (by rw [MakeChecks.laidMetH_plain _ _ _ (by kernel_rfl)]; exact laidMet_laidAll _ (by kernel_rfl) (by kernel_rfl))) ?_
 intro W base args ds gs before hval0 hW _ _ hL _
 have hval : ∀ (j : Nat) t v, Tryd.f6.params[j]? = some t → args[j]? = some v → Value.okWide Tryd.prog W .any base t v := hval0
 have hW' := hW
 obtain ⟨p, q, hA0, hV, rfl, hfz, hnd⟩ := hW
 have hA : DataW.TrodAll enc Tryd.prog W 0 (fun _ => true) true Tryd.f6.params.toList args.toList ds p := hA0
 rw [Tryd.params6] at hA hval
 obtain ⟨v0, vs0, d0, ds0, p0, q0, hargs, rfl, rfl, h0, r0⟩ := trodAll_cons hA
 obtain ⟨v1, vs1, d1, ds1, p1, q1, rfl, rfl, rfl, h1, r1⟩ := trodAll_cons r0
 obtain ⟨v2, vs2, d2, ds2, p2, q2, rfl, rfl, rfl, h2, r2⟩ := trodAll_cons r1
 obtain ⟨rfl, rfl, rfl⟩ := trodAll_nil r2
 obtain rfl : args = #[v0, v1, v2] := by cases args; simp_all
 obtain ⟨rfl, rfl⟩ := trodVars_none hV
 obtain ⟨a0, len0, cap0, rfl⟩ := okWide_slice Tryd.underlying36 (hval 0 36 v0 rfl rfl)
 have k0 := h0
 have lt0 : ∀ x ∈ p0, x.block < W.heap.size := by obtain ⟨m, hm⟩ := k0; exact DataW.trod_lt m _ _ _ hm
 obtain ⟨fuel0, hf0⟩ := h0
 obtain ⟨l0, hlen0, hc0, hC0⟩ := cells_of_trod (c := cap0) hf0
 obtain ⟨a1, len1, cap1, rfl⟩ := okWide_slice Tryd.underlying22 (hval 1 22 v1 rfl rfl)
 have k1 := h1
 have lt1 : ∀ x ∈ p1, x.block < W.heap.size := by obtain ⟨m, hm⟩ := k1; exact DataW.trod_lt m _ _ _ hm
 obtain ⟨fuel1, hf1⟩ := h1
 obtain ⟨l1, hlen1, hc1, hC1⟩ := lines_of_trod (c := cap1) hf1
 obtain ⟨a2, rfl, rfl, rfl, w2⟩ := open_int Tryd.underlying3 (hval 2 3 v2 rfl rfl) h2
 rw [MakeChecks.laidMetH_plain _ _ _ (by kernel_rfl)] at hL
 have hT : Tabs W := tabs_of hL
 have x2 : -9223372036854775808 ≤ a2 ∧ a2 ≤ 9223372036854775807 := by simpa [Lit.wf, IntKind.min, IntKind.max, IntKind.signed, IntKind.bits] using w2
 subst hlen0
 subst hlen1
 obtain ⟨k, hk⟩ := flowFolds_pure l0 l1 a2 x2 (Go.Proofs.YtckkdaehmccjlaaDoorW.PrintWords.Kd.C_max hC0) (Go.Proofs.YtckkdaehmccjlaaDoorW.PrintWords.Kd.C_max hC1)
 clear hA0 hval0 hf0 hf1
 refine (backseatlaw08_FlowFolds.calls k a0 cap0 l0 a1 cap1 l1 a2 true W hC0 hc0 hC1 hc1 hk hT).mono fun e W' ⟨he, bel⟩ => ?_
 subst he
 exact ⟨_, rfl, _, _, _, [], _, [], hW', trodAll_mk1 (shut_bool Tryd.underlying4 _), (trodAll_cons_mk (Below.trod laidOut (by kernel_rfl) (of_decide_eq_true (by kernel_rfl)) k0 bel lt0) (trodAll_cons_mk (Below.trod laidOut (by kernel_rfl) (of_decide_eq_true (by kernel_rfl)) k1 bel lt1) (trodAll_cons_mk (shut_int Tryd.underlying3 w2) trodAll_mk0))), rfl, bel.frame _, fun h => by cases h⟩
theorem row_holds : Rows.FlowFoldsSaid :=
 OpenClaim.holds_of_wide 6 Tryd.f6 rfl rfl rfl rfl rfl rfl rfl ⟨rfl, rfl, rfl, rfl, rfl⟩ rfl rfl rfl rfl rfl (by kernel_rfl) Tryd.func6 (by kernel_rfl)
  (of_decide_eq_true (by kernel_rfl)) (by unfold Func.isWrapper; first | (rw [if_pos (by decide +kernel)]; kernel_rfl) | (rw [if_neg (by decide +kernel)]; exact ⟨rfl, rfl⟩))
  (fun os started H enc _ => lifted os started H enc)
theorem card_holds : Rows.FlowFoldsCardSaid :=
 Claim7.holds_tied_plain_at .later [] [.data, .pinned] true (true, "56f34029b3037d658335f65c104c5fb094e35f5c91688626dc0cdcff1830fce7") false row_holds (fun _ h => by cases h) (by kernel_rfl) (fun _ h => by cases h) flowFolds_row_tie rfl ⟨rfl, rfl⟩ (by kernel_rfl) rfl
  (fun f fn hf hfn => by
   obtain rfl : f = 6 := Option.some.inj ((show Tryd.prog.funcNamed "backseat/backseatlaw08.FlowFolds" = some 6 by kernel_rfl).symm.trans hf) |>.symm
   obtain rfl : fn = Tryd.f6 := (Option.some.inj (Tryd.func6.symm.trans hfn)).symm
   exact ⟨by kernel_rfl, fun j t ht => by
    rw [Tryd.params6] at ht
    have hm : t ∈ [36, 22, 3] := by simpa using Array.mem_of_getElem? ht
    have hall : ([36, 22, 3].all fun u => !Tryd.prog.wantsStandIn u) = true := by kernel_rfl
    exact (show Tryd.prog.wantsStandIn t = false by simpa using List.all_eq_true.1 hall t hm)⟩)
  (by kernel_rfl)
end Go.Proofs.YtckkdaehmccjlaaDoor.flowFolds
