/- Texts of this session put together by a program, part 1: Px63, Rep, Round, Lett, Filled, Box, Build, Say, Letters, Fold, Px67, Px56, Px71. -/
import Derived.Test.YtckkdaehmccjlaaDoorFTm0
import Derived.Laws.CopyOwn
import Derived.StillTailTactics
import Derived.Test.YtckkdaehmccjlaaDoorWLast
import Derived.OrdersIn
import Derived.RangeFuncCalls
import Derived.TacticsIn
import Derived.RangeFuncBox
import Derived.RangeFuncNested
import Derived.Sort.LoopGhostIn
import Derived.RangeFuncWrites
import Derived.Test.YtckkdaehmccjlaaDoorProg
import Derived.Shelf.Strings.BuilderK
import Derived.OwnWalkIn
namespace Go.Proofs.YtckkdaehmccjlaaDoor.P
open Go.RowKit Go.Proofs.YtckkdaehmccjlaaDoorW.PrintWords Go.Proofs.YtckkdaehmccjlaaDoorW.PrintLast Go.Proofs.YtckkdaehmccjlaaDoorW.PrintMore
attribute [local go_sem] max2_int min2_int max_two min_two max_three min_three max_four min_four   -- for this text's walks alone
set_option linter.unusedVariables false
set_option linter.unusedSimpArgs false
def flow_Join.l0 : Nat → List (S38) → List (List (S60)) → List (S60) → List (S38) → Int → Int → Option ((List (List (S60))) × Int)
 | 0, _, _, _, _, _, _ => none
 | k + 1, x0, x4, x5, x11, x12, x13 => if x13 < x12 then (if 0 ≤ x13 then (if x13 < (x11.length : Int) then (if x5.length + ((rd_T38 x11 x13).f0).length < 2932031007402 then ((some (x5 ++ ((rd_T38 x11 x13).f0) : List (S60))).bind fun y175 => (if ((rd_T38 x11 x13).f1 = true) then (if x13 = (wrap64 ((x0.length : Int) - 1)) then ((flow_trimmed.f k y175).bind fun t178 => (if x4.length < 5864062014805 then (flow_Join.l0 k x0 (x4 ++ [t178]) ([] : List (S60)) x11 x12 (wrap64 (x13 + 1))) else (none))) else (flow_Join.l0 k x0 x4 y175 x11 x12 (wrap64 (x13 + 1)))) else ((flow_trimmed.f k y175).bind fun t184 => (if x4.length < 5864062014805 then (flow_Join.l0 k x0 (x4 ++ [t184]) ([] : List (S60)) x11 x12 (wrap64 (x13 + 1))) else (none))))) else (none)) else (none)) else (none)) else (some (x4, 0))
def flow_Join.f (k : Nat) (l0 : List (S38)) : Option ((List (List (S60))) × Int) := (flow_may.f k l0).bind fun t172 => (if t172 = true then (flow_Join.l0 k l0 ([] : List (List (S60))) ([] : List (S60)) l0 (l0.length : Int) 0) else (some (([] : List (List (S60))), 1)))
set_option maxHeartbeats 8000000 in
set_option maxRecDepth 100000 in
theorem flow_Join.calls (k : Nat) (A0 : Option Addr) (c0 : Nat) (l0 : List (S38)) (r1 : List (List (S60))) (r2 : Int) (w : World) (hr0 : Kd.C k38 w A0 l0.length l0) (hc0 : l0.length ≤ c0) (h : flow_Join.f k l0 = some (r1, r2)) (hT : Tabs w := by first | exact Aside0.out (by with_reducible assumption) | exact Tabs.keepA (by with_reducible assumption) (by repeat (first | (with_reducible exact Aside0.out (by with_reducible assumption)) | (with_reducible apply below_alloc) | (with_reducible apply pw_below_drewN) | (with_reducible apply below_drew1) | (with_reducible refine below_set ?_ (Aside0.out (by with_reducible assumption)))))) :
  Calls Tryd.prog 18 #[.slice A0 l0.length c0] w fun e w' => ∃ v0_ : Value, e = .returned (.tuple #[v0_, .int .i64 r2]) ∧ Kd.N (Kd.slice 60 k60) 36 w' w.heap.size (fun k_ => (w.heap.size ≤ k_)) v0_ r1 ∧ Below w.heap.size w w' := by
 have HT := Aside0.mk (show Tabs w from hT)
 clear hT
 have hu38 := Tryd.underlying38
 have HR0 := Aside0.mk hr0
 have HC0 := Aside0.mk hc0
 clear hr0 hc0
 have HB := Aside0.mk (Below.refl w.heap.size w)
 have H : ((flow_may.f k l0).bind fun t172 => (if t172 = true then (flow_Join.l0 k l0 ([] : List (List (S60))) ([] : List (S60)) l0 (l0.length : Int) 0) else (some (([] : List (List (S60))), 1)))) = some (r1, r2) := h
 clear h
 replace H := Option.bind_eq_some_iff.mp H
 obtain ⟨t172, A20, H⟩ := H
 replace H : (if t172 = true then (flow_Join.l0 k l0 ([] : List (List (S60))) ([] : List (S60)) l0 (l0.length : Int) 0) else (some (([] : List (List (S60))), 1))) = some (r1, r2) := H
 have A2 := Aside0.mk A20
 clear A20
 by_cases c3 : t172 = true
 ·subst c3
  have H1 : (flow_Join.l0 k l0 ([] : List (List (S60))) ([] : List (S60)) l0 (l0.length : Int) 0) = some (r1, r2) := by rw [if_pos rfl] at H; exact H
  clear H
  have H := H1
  clear H1
  have H' := Aside0.mk H
  clear H
  go_enter Tryd.func18, Tryd.ntmps18
  go_wp2_with (first | ((with_reducible refine gate_callee (f := 43) rfl ?_); refine goesL_ (some 9) rfl rfl Tryd.func43 (by kernel_rfl) rfl #[.slice A0 l0.length c0] rfl zl ?_; (with_reducible refine (flow_may.calls k _ _ l0 true _ ?side1 ?side2 A2.out).mono ?_); (case side1 => repeat (first | exact HR0.out | (with_reducible refine Kd.C_alloc ?_ _) | (with_reducible refine Kd.C_drewN ?_ _) | (with_reducible refine Kd.C_drew ?_))); (case side2 => exact HC0.out); rintro e w4 ⟨rfl, hb⟩; refine ⟨_, rfl, ?_⟩; replace HB := (zs HB hb); (try clear hb)))
  go_loopg [4, 5, 13] k (fun kq v4 v5 v13 w' => ∃ (x4_1 : List (List (S60))) (x5_1 : List (S60)) (x13_1 : Int), v13 = .int .i64 x13_1 ∧ Aside0 (flow_Join.l0 kq l0 x4_1 x5_1 l0 (l0.length : Int) x13_1 = some (r1, r2)) ∧ Aside0 (kq ≤ k) ∧ Aside0 (Kd.N (Kd.slice 60 k60) 36 w' w.heap.size (fun k_ => (w.heap.size ≤ k_) ∧ some k_ ≠ (v5 : Value).ownBlock) v4 x4_1) ∧ Aside0 (Kd.R k60 60 w' w.heap.size (fun k_ => (w.heap.size ≤ k_)) v5 x5_1) ∧ Aside0 (Below w.heap.size w w'))
  case atStart => exact ⟨(([] : List (List (S60)))), (([] : List (S60))), (0), zf, H', ⟨Nat.le_refl _⟩, ⟨by first | exact Kd.S_nil _ _ _ _ _ | exact Kd.N_nil _ _ _ _ _ | exact Kd.V_nil _ _ _ _ _ | exact Kd.Q_nil _ _ _ _ _ | exact Kd.R_nil _ _ _ _ _⟩, ⟨by first | exact Kd.R_nil _ _ _ _ _ | exact Kd.N_nil _ _ _ _ _ | exact Kd.V_nil _ _ _ _ _ | exact Kd.Q_nil _ _ _ _ _ | exact Kd.S_nil _ _ _ _ _⟩, ⟨zb⟩⟩
  case round =>
   clear H'
   try clear c3
   obtain ⟨x4_1, x5_1, x13_1, rfl, HA, HK1, HO_4, HO_5, HB⟩ := hrel
   cases gk with
   | zero => exact absurd HA.out (by simp [flow_Join.l0])
   | succ k1 =>
    have H := HA.out
    clear HA
    simp only [flow_Join.l0] at H
    by_cases c5 : x13_1 < (l0.length : Int)
    ·rw [if_pos c5] at H
     have c5b0 : decide (x13_1 < (l0.length : Int)) = true := decide_eq_true c5
     clear c5
     by_cases c6 : 0 ≤ x13_1
     ·rw [if_pos c6] at H
      have c6b0 : decide (0 ≤ x13_1) = true := decide_eq_true c6
      clear c6
      by_cases c7 : x13_1 < (l0.length : Int)
      ·rw [if_pos c7] at H
       have c7b0 : decide (x13_1 < (l0.length : Int)) = true := decide_eq_true c7
       clear c7
       by_cases c8 : x5_1.length + ((rd_T38 l0 x13_1).f0).length < 2932031007402
       ·rw [if_pos c8] at H
        have LMc8 := Aside0.mk c8
        clear c8
        obtain ⟨y175, hy175⟩ : ∃ y_ : List (S60), y_ = (x5_1 ++ ((rd_T38 l0 x13_1).f0)) := ⟨_, rfl⟩
        replace H : (if ((rd_T38 l0 x13_1).f1 = true) then (if x13_1 = (wrap64 ((l0.length : Int) - 1)) then ((flow_trimmed.f k1 y175).bind fun t178 => (if x4_1.length < 5864062014805 then (flow_Join.l0 k1 l0 (x4_1 ++ [t178]) ([] : List (S60)) l0 (l0.length : Int) (wrap64 (x13_1 + 1))) else (none))) else (flow_Join.l0 k1 l0 x4_1 y175 l0 (l0.length : Int) (wrap64 (x13_1 + 1)))) else ((flow_trimmed.f k1 y175).bind fun t184 => (if x4_1.length < 5864062014805 then (flow_Join.l0 k1 l0 (x4_1 ++ [t184]) ([] : List (S60)) l0 (l0.length : Int) (wrap64 (x13_1 + 1))) else (none)))) = some (r1, r2) := by first | (rw [hy175]; with_reducible exact H) | (have H2_ := (Option.bind_some _ _).symm.trans H; rw [hy175]; with_reducible exact H2_) | (have H2_ := (Option.bind_some _ _).symm.trans H; with_reducible exact H2_) | with_reducible exact H | (rw [hy175]; exact H) | exact H
        have Ny175 := Aside0.mk hy175
        clear hy175
        obtain ⟨bq9, hbq9⟩ : ∃ b_ : Bool, b_ = ((rd_T38 l0 x13_1).f1) := ⟨_, rfl⟩
        replace H : (if (bq9 = true) then (if x13_1 = (wrap64 ((l0.length : Int) - 1)) then ((flow_trimmed.f k1 y175).bind fun t178 => (if x4_1.length < 5864062014805 then (flow_Join.l0 k1 l0 (x4_1 ++ [t178]) ([] : List (S60)) l0 (l0.length : Int) (wrap64 (x13_1 + 1))) else (none))) else (flow_Join.l0 k1 l0 x4_1 y175 l0 (l0.length : Int) (wrap64 (x13_1 + 1)))) else ((flow_trimmed.f k1 y175).bind fun t184 => (if x4_1.length < 5864062014805 then (flow_Join.l0 k1 l0 (x4_1 ++ [t184]) ([] : List (S60)) l0 (l0.length : Int) (wrap64 (x13_1 + 1))) else (none)))) = some (r1, r2) := by rw [← hbq9] at H; exact H
        have Nbq9 := Aside0.mk hbq9
        clear hbq9
        by_cases c10 : (bq9 = true)
        ·subst c10
         have H1 : (if x13_1 = (wrap64 ((l0.length : Int) - 1)) then ((flow_trimmed.f k1 y175).bind fun t178 => (if x4_1.length < 5864062014805 then (flow_Join.l0 k1 l0 (x4_1 ++ [t178]) ([] : List (S60)) l0 (l0.length : Int) (wrap64 (x13_1 + 1))) else (none))) else (flow_Join.l0 k1 l0 x4_1 y175 l0 (l0.length : Int) (wrap64 (x13_1 + 1)))) = some (r1, r2) := by rw [if_pos rfl] at H; exact H
         clear H
         have H := H1
         clear H1
         by_cases c11 : x13_1 = (wrap64 ((l0.length : Int) - 1))
         ·rw [if_pos c11] at H
          have c11b0 : (x13_1 == (wrap64 ((l0.length : Int) - 1))) = true := beq_iff_eq.mpr c11
          have c11b1 : (x13_1 != (wrap64 ((l0.length : Int) - 1))) = false := bne_eq_false_iff_eq.mpr c11
          clear c11
          replace H := Option.bind_eq_some_iff.mp H
          obtain ⟨t178, A120, H⟩ := H
          replace H : (if x4_1.length < 5864062014805 then (flow_Join.l0 k1 l0 (x4_1 ++ [t178]) ([] : List (S60)) l0 (l0.length : Int) (wrap64 (x13_1 + 1))) else (none)) = some (r1, r2) := H
          have A12 := Aside0.mk A120
          clear A120
          by_cases c13 : x4_1.length < 5864062014805
          ·rw [if_pos c13] at H
           have LMc13 := Aside0.mk c13
           clear c13
           obtain ⟨y181, hy181⟩ : ∃ y_ : List (List (S60)), y_ = (x4_1 ++ [t178]) := ⟨_, rfl⟩
           replace H : (flow_Join.l0 k1 l0 y181 ([] : List (S60)) l0 (l0.length : Int) (wrap64 (x13_1 + 1))) = some (r1, r2) := by first | (rw [hy181]; with_reducible exact H) | (have H2_ := (Option.bind_some _ _).symm.trans H; rw [hy181]; with_reducible exact H2_) | (have H2_ := (Option.bind_some _ _).symm.trans H; with_reducible exact H2_) | with_reducible exact H | (rw [hy181]; exact H) | exact H
           have Ny181 := Aside0.mk hy181
           clear hy181
           have H' := Aside0.mk H
           clear H
           have p173 : 0 ≤ (x13_1 : Int) := of_decide_eq_true za
           have q173 : x13_1 < (l0.length : Int) := of_decide_eq_true za
           obtain ⟨ad173, A173_0, c173_0, e173, hx173_0, hx173_1, hl173_0, hi173_0⟩ := at_T38 HR0.out x13_1 p173 q173
           (try rw [← Nbq9.out] at hx173_1)
           cases e173
           replace hx173_0 := zc HB hx173_0
           replace hx173_1 := zc HB hx173_1
           have HR173_0 := Aside0.mk hi173_0
           have HC173_0 := Aside0.mk hl173_0
           clear hi173_0 hl173_0
           replace p173 := eq_true p173
           replace q173 := eq_true q173
           go_wp2_with (first | ((with_reducible refine gate_dst (N := 7) rfl ?_); (try (refine gate_guard (by rfl) ?_; dsimp only)); refine box_event ?hg (N := 7) ?hd (cs := #[.slice none 0 0, .bool false]) (t := 38) ?hr ?_; (case hd => rfl); (case hg => rfl); (case hr => exact zo); intro gb174 hg w14 hbox hb; replace HO_4 := Aside0.mk (Kd.N_below (Kd.N_elderB (zNa HO_4) gb174 (Nat.le_of_eq hg.symm)) hb); replace HO_5 := (zR HO_5 hb); have BK174 := Aside0.mk (hbox); have GW174 := Aside0.mk ((zg hg : w.heap.size ≤ gb174)); have GE174 := Aside0.mk ((zg hg : w.heap.size ≤ gb174)); replace HB := (zs HB hb); clear hb hbox hg; obtain ⟨hcz15_0, hcz15_1, hfz15_0, hfz15_1⟩ := zq2 (w := w14) BK174) | ((with_reducible refine gate_builtin (b := .append) (xs := #[.tmp 18, .tmp 20]) rfl ?_); (try (refine gate_guard (by rfl) ?_; dsimp only)); at_builtin; refine Kd.R_append_rows k60 (w0 := w) w.heap.size rfl (.tmp 18) (.tmp 20) 36 60 (.agg #[(.string ⟨#[]⟩), (.int .i64 0), (.int .i64 0), (.int .i64 0), (.int .i64 0)]) 48 rfl Tryd.underlying36 info60 rfl (by decide) (by omega) u5 x5_1 ((rd_T38 l0 x13_1).f0) _ _ _ (fun k_ => (w.heap.size ≤ k_)) (fun _ => False) rfl rfl ?aO ?aR (fun _ _ h => h) (fun _ h => h.elim) ?aF ?aB ?aS ?aL ?_; (case aR => exact Kd.C_below HR173_0.out zb); (case aB => exact zb); (case aF => exact (fun k_ hk => (Nat.le_trans (below_size zb) hk))); (case aO => exact (by (with_reducible repeat (first | apply Kd.R_alloc | apply Kd.R_drewN | apply Kd.R_drew)); exact Kd.R_mono (Kd.R_far (p := ⟨gb174, 1, none⟩) (Kd.R_far (p := ⟨gb174, 0, none⟩) (Kd.R_types HO_5.out BK174.out (by decide)) (fun _ hk => hk.2) (.slice A173_0 ((rd_T38 l0 x13_1).f0).length c173_0)) (fun _ hk => hk.2) (.bool true)) (fun _ hk => hk.1))); (case aS => exact (below_size zb)); (case aL => have := LMc8.out; omega); intro v176 w16 ho hb hg hat; rw [← Ny175.out] at ho; have n0_ := Aside0.mk (Kd.N_afterv (ok := (fun k_ => (w.heap.size ≤ k_) ∧ k_ ≠ gb174)) (by (with_reducible repeat (first | apply Kd.N_alloc | apply Kd.N_drewN | apply Kd.N_drew)); exact Kd.N_mono (Kd.N_far (p := ⟨gb174, 1, none⟩) (Kd.N_far (p := ⟨gb174, 0, none⟩) (Kd.N_mono HO_4.out (fun k_ hk => (⟨hk, hk.2⟩ : _ ∧ k_ ≠ gb174))) (fun _ hk => hk.2) (.slice A173_0 ((rd_T38 l0 x13_1).f0).length c173_0)) (fun _ hk => hk.2) (.bool true)) (fun _ hk => ⟨⟨hk.1.1.1, hk.1.2⟩, hk.1.1.2⟩)) hg hat); have n1_ := Aside0.mk (blk_grown (g := gb174) (o := .cells #[.slice A173_0 ((rd_T38 l0 x13_1).f0).length c173_0, .bool true] 38 (0, 0)) (by refine blk_put (cs := #[.slice A173_0 ((rd_T38 l0 x13_1).f0).length c173_0, .bool false]) ?_ 1 _ rfl; refine blk_put (cs := #[.slice none 0 0, .bool false]) ?_ 0 _ rfl; exact BK174.out) hg (Kd.R_ne HO_5.out BK174.out (by decide))); have n2_ := Aside0.mk (hb); have n3_ := Aside0.mk (ho); clear HO_4; clear BK174; clear HB; clear HO_5; have HO_4 := n0_; have BK174 := n1_; have HB := n2_; have HO177 := n3_; clear n0_ n1_ n2_ n3_; clear ho hb hg hat; obtain ⟨hcz17_0, hcz17_1, hfz17_0, hfz17_1⟩ := zq2 (w := w16) BK174; obtain ⟨Ao18, co18, eo18⟩ := Kd.R_slice HO177.out; subst eo18) | ((with_reducible refine gate_callee (f := 44) rfl ?_); refine goesL_ (some 34) rfl rfl Tryd.func44 (by kernel_rfl) rfl #[.slice Ao18 y175.length co18] rfl zl ?_; (with_reducible refine (flow_trimmed.calls k1 (fun k_ => some k_ = (.slice Ao18 y175.length co18 : Value).ownBlock) _ _ y175 t178 _ ?side1 A12.out).mono ?_); (case side1 => exact Kd.R_V (Kd.R_tight rfl (Kd.R_types (Kd.R_apart' (HO177.out) (Kd.N_typed HO_4.out) (by decide)) BK174.out (by decide)))); rintro e w19 ⟨v179, rfl, ho0, hb⟩; refine ⟨_, rfl, ?_⟩; have n0_ := (zN HO_4 hb); have n1_ := (zR HO177 hb); have n2_ := Aside0.mk (Kd.V_lower (Kd.V_mono (ok' := fun k_ => (w.heap.size ≤ k_) ∧ some k_ ≠ (u4 : Value).ownBlock ∧ k_ ≠ gb174) ho0 (fun k_ hk_ => ⟨Or.elim hk_ (fun hs_ => ((Kd.R_types (Kd.R_apart' (HO177.out) (Kd.N_typed HO_4.out) (by decide)) BK174.out (by decide)).1 k_ hs_.symm).1.1) (fun hn_ => (Nat.le_trans (below_size zb) hn_)), Or.elim hk_ (fun hs_ => ((Kd.R_types (Kd.R_apart' (HO177.out) (Kd.N_typed HO_4.out) (by decide)) BK174.out (by decide)).1 k_ hs_.symm).1.2) (fun hn_ => (Kd.fresh' (Kd.N_lt (zNa HO_4)) k_ hn_)), Or.elim hk_ (fun hs_ => ((Kd.R_types (Kd.R_apart' (HO177.out) (Kd.N_typed HO_4.out) (by decide)) BK174.out (by decide)).1 k_ hs_.symm).2) (fun hn_ => (Kd.freshB (g := gb174) (o := .cells #[.slice A173_0 ((rd_T38 l0 x13_1).f0).length c173_0, .bool true] 38 (0, 0)) (by exact BK174.out) k_ hn_))⟩)) (below_size zb)); have n3_ := (zk BK174 hb); have n4_ := (zs HB hb); clear HO_4; clear HO177; clear BK174; clear HB; have HO_4 := n0_; have HO177 := n1_; have HO180 := n2_; have BK174 := n3_; have HB := n4_; clear n0_ n1_ n2_ n3_ n4_; (try clear hb); (try clear hk); (try clear ho0); obtain ⟨Ao21, co21, eo21⟩ := Kd.V_slice HO180.out; subst eo21) | ((with_reducible refine gate_builtin (b := .append) (xs := #[.tmp 32, .tmp 35]) rfl ?_); (try (refine gate_guard (by rfl) ?_; dsimp only)); at_builtin; refine Kd.N_append (Kd.slice 60 k60) (w0 := w) w.heap.size rfl (.tmp 32) (.tmp 35) 39 36 (.slice none 0 0) 24 rfl Tryd.underlying39 info36 rfl (by decide) (by omega) u4 x4_1 t178 [.slice Ao21 t178.length co21] (fun k_ => (w.heap.size ≤ k_) ∧ k_ ≠ gb174) (fun k_ => ((fun k_ => (w.heap.size ≤ k_) ∧ k_ ≠ gb174)) k_ ∧ some k_ ≠ (u4 : Value).ownBlock) rfl rfl ?aP (fun _ hk => hk) ?aF ?aO ?aB ?aS ?aL ?_; (case aP => exact (Kd.FK_slice_mk (Kd.V_reads' (Kd.V_mono (ok' := (fun k_ => ((fun k_ => (w.heap.size ≤ k_) ∧ k_ ≠ gb174)) k_ ∧ some k_ ≠ (u4 : Value).ownBlock)) (HO180.out) (fun k_ hk => ⟨⟨hk.1, hk.2.2⟩, hk.2.1⟩))).2.1 (Kd.V_F (Kd.V_mono (ok' := (fun k_ => ((fun k_ => (w.heap.size ≤ k_) ∧ k_ ≠ gb174)) k_ ∧ some k_ ≠ (u4 : Value).ownBlock)) (HO180.out) (fun k_ hk => ⟨⟨hk.1, hk.2.2⟩, hk.2.1⟩))))); (case aB => exact zb); (case aF => exact (fun k_ hk => ⟨(Nat.le_trans (below_size zb) hk), Kd.freshB (g := gb174) (o := .cells #[.slice A173_0 ((rd_T38 l0 x13_1).f0).length c173_0, .bool true] 38 (0, 0)) (by exact BK174.out) k_ hk⟩)); (case aO => exact (by (with_reducible repeat (first | apply Kd.N_alloc | apply Kd.N_drewN | apply Kd.N_drew)); exact Kd.N_mono HO_4.out (fun _ hk => ⟨hk.1.1, hk.1.2⟩))); (case aS => exact (below_size zb)); (case aL => have := LMc13.out; omega); intro v182 w20 ho hb hg hat; rw [← Ny181.out] at ho; have n0_ := Aside0.mk (blk_grown (g := gb174) (o := .cells #[.slice A173_0 ((rd_T38 l0 x13_1).f0).length c173_0, .bool true] 38 (0, 0)) (by exact BK174.out) hg (Kd.N_ne HO_4.out BK174.out (by decide))); have n1_ := Aside0.mk (Kd.R_over' (zRa HO177) (Kd.N_typed (zNa HO_4)) (by decide) hg); have n2_ := Aside0.mk (Kd.V_afterv (ok := (fun k_ => (w.heap.size ≤ k_) ∧ k_ ≠ gb174)) (by (with_reducible repeat (first | apply Kd.V_alloc | apply Kd.V_drewN | apply Kd.V_drew)); exact Kd.V_mono HO180.out (fun _ hk => ⟨⟨hk.1, hk.2.2⟩, hk.2.1⟩)) hg hat); have n3_ := Aside0.mk (hb); have n4_ := Aside0.mk (ho); clear BK174; clear HO177; clear HO180; clear HB; clear HO_4; have BK174 := n0_; have HO177 := n1_; have HO180 := n2_; have HB := n3_; have HO183 := n4_; clear n0_ n1_ n2_ n3_ n4_; clear ho hb hg hat))
           go_roundg k1
           case measure => have := HK1.out; omega
           case rel => exact ⟨(y181), (([] : List (S60))), (wrap64 (x13_1 + 1)), zf, H', ⟨by have := HK1.out; omega⟩, ⟨by (with_reducible repeat (first | apply Kd.N_alloc | apply Kd.N_drewN | apply Kd.N_drew)); exact Kd.N_mono HO183.out (fun _ hk => ⟨hk.1, (by simp [Value.ownBlock])⟩)⟩, ⟨by first | exact Kd.R_nil _ _ _ _ _ | exact Kd.N_nil _ _ _ _ _ | exact Kd.V_nil _ _ _ _ _ | exact Kd.Q_nil _ _ _ _ _ | exact Kd.S_nil _ _ _ _ _⟩, ⟨zb⟩⟩
          ·rw [if_neg c13] at H
           exact absurd H (by simp)
         ·rw [if_neg c11] at H
          have c11b0 : (x13_1 == (wrap64 ((l0.length : Int) - 1))) = false := beq_eq_false_iff_ne.mpr c11
          have c11b1 : (x13_1 != (wrap64 ((l0.length : Int) - 1))) = true := bne_iff_ne.mpr c11
          have H' := Aside0.mk H
          clear H
          have p173 : 0 ≤ (x13_1 : Int) := of_decide_eq_true za
          have q173 : x13_1 < (l0.length : Int) := of_decide_eq_true za
          obtain ⟨ad173, A173_0, c173_0, e173, hx173_0, hx173_1, hl173_0, hi173_0⟩ := at_T38 HR0.out x13_1 p173 q173
          (try rw [← Nbq9.out] at hx173_1)
          cases e173
          replace hx173_0 := zc HB hx173_0
          replace hx173_1 := zc HB hx173_1
          have HR173_0 := Aside0.mk hi173_0
          have HC173_0 := Aside0.mk hl173_0
          clear hi173_0 hl173_0
          replace p173 := eq_true p173
          replace q173 := eq_true q173
          go_wp2_with (first | ((with_reducible refine gate_dst (N := 7) rfl ?_); (try (refine gate_guard (by rfl) ?_; dsimp only)); refine box_event ?hg (N := 7) ?hd (cs := #[.slice none 0 0, .bool false]) (t := 38) ?hr ?_; (case hd => rfl); (case hg => rfl); (case hr => exact zo); intro gb174 hg w22 hbox hb; replace HO_4 := Aside0.mk (Kd.N_below (Kd.N_elderB (zNa HO_4) gb174 (Nat.le_of_eq hg.symm)) hb); replace HO_5 := (zR HO_5 hb); have BK174 := Aside0.mk (hbox); have GW174 := Aside0.mk ((zg hg : w.heap.size ≤ gb174)); have GE174 := Aside0.mk ((zg hg : w.heap.size ≤ gb174)); replace HB := (zs HB hb); clear hb hbox hg; obtain ⟨hcz23_0, hcz23_1, hfz23_0, hfz23_1⟩ := zq2 (w := w22) BK174) | ((with_reducible refine gate_builtin (b := .append) (xs := #[.tmp 18, .tmp 20]) rfl ?_); (try (refine gate_guard (by rfl) ?_; dsimp only)); at_builtin; refine Kd.R_append_rows k60 (w0 := w) w.heap.size rfl (.tmp 18) (.tmp 20) 36 60 (.agg #[(.string ⟨#[]⟩), (.int .i64 0), (.int .i64 0), (.int .i64 0), (.int .i64 0)]) 48 rfl Tryd.underlying36 info60 rfl (by decide) (by omega) u5 x5_1 ((rd_T38 l0 x13_1).f0) _ _ _ (fun k_ => (w.heap.size ≤ k_)) (fun _ => False) rfl rfl ?aO ?aR (fun _ _ h => h) (fun _ h => h.elim) ?aF ?aB ?aS ?aL ?_; (case aR => exact Kd.C_below HR173_0.out zb); (case aB => exact zb); (case aF => exact (fun k_ hk => (Nat.le_trans (below_size zb) hk))); (case aO => exact (by (with_reducible repeat (first | apply Kd.R_alloc | apply Kd.R_drewN | apply Kd.R_drew)); exact Kd.R_mono (Kd.R_far (p := ⟨gb174, 1, none⟩) (Kd.R_far (p := ⟨gb174, 0, none⟩) (Kd.R_types HO_5.out BK174.out (by decide)) (fun _ hk => hk.2) (.slice A173_0 ((rd_T38 l0 x13_1).f0).length c173_0)) (fun _ hk => hk.2) (.bool true)) (fun _ hk => hk.1))); (case aS => exact (below_size zb)); (case aL => have := LMc8.out; omega); intro v176 w24 ho hb hg hat; rw [← Ny175.out] at ho; have n0_ := Aside0.mk (Kd.N_afterv (ok := (fun k_ => (w.heap.size ≤ k_) ∧ k_ ≠ gb174)) (by (with_reducible repeat (first | apply Kd.N_alloc | apply Kd.N_drewN | apply Kd.N_drew)); exact Kd.N_mono (Kd.N_far (p := ⟨gb174, 1, none⟩) (Kd.N_far (p := ⟨gb174, 0, none⟩) (Kd.N_mono HO_4.out (fun k_ hk => (⟨hk, hk.2⟩ : _ ∧ k_ ≠ gb174))) (fun _ hk => hk.2) (.slice A173_0 ((rd_T38 l0 x13_1).f0).length c173_0)) (fun _ hk => hk.2) (.bool true)) (fun _ hk => ⟨⟨hk.1.1.1, hk.1.2⟩, hk.1.1.2⟩)) hg hat); have n1_ := Aside0.mk (blk_grown (g := gb174) (o := .cells #[.slice A173_0 ((rd_T38 l0 x13_1).f0).length c173_0, .bool true] 38 (0, 0)) (by refine blk_put (cs := #[.slice A173_0 ((rd_T38 l0 x13_1).f0).length c173_0, .bool false]) ?_ 1 _ rfl; refine blk_put (cs := #[.slice none 0 0, .bool false]) ?_ 0 _ rfl; exact BK174.out) hg (Kd.R_ne HO_5.out BK174.out (by decide))); have n2_ := Aside0.mk (hb); have n3_ := Aside0.mk (ho); clear HO_4; clear BK174; clear HB; clear HO_5; have HO_4 := n0_; have BK174 := n1_; have HB := n2_; have HO177 := n3_; clear n0_ n1_ n2_ n3_; clear ho hb hg hat; obtain ⟨hcz25_0, hcz25_1, hfz25_0, hfz25_1⟩ := zq2 (w := w24) BK174))
          go_roundg k1
          case measure => have := HK1.out; omega
          case rel => exact ⟨(x4_1), (y175), (wrap64 (x13_1 + 1)), zf, H', ⟨by have := HK1.out; omega⟩, ⟨by (with_reducible repeat (first | apply Kd.N_alloc | apply Kd.N_drewN | apply Kd.N_drew)); exact Kd.N_mono HO_4.out (fun _ hk => ⟨hk.1.1, hk.2⟩)⟩, ⟨by (with_reducible repeat (first | apply Kd.R_alloc | apply Kd.R_drewN | apply Kd.R_drew)); exact HO177.out⟩, ⟨zb⟩⟩
        ·replace c10 := Bool.eq_false_iff.mpr c10
         subst c10
         have H1 : ((flow_trimmed.f k1 y175).bind fun t184 => (if x4_1.length < 5864062014805 then (flow_Join.l0 k1 l0 (x4_1 ++ [t184]) ([] : List (S60)) l0 (l0.length : Int) (wrap64 (x13_1 + 1))) else (none))) = some (r1, r2) := by rw [if_neg (show ¬ (false = true) by decide)] at H; exact H
         clear H
         have H := H1
         clear H1
         replace H := Option.bind_eq_some_iff.mp H
         obtain ⟨t184, A260, H⟩ := H
         replace H : (if x4_1.length < 5864062014805 then (flow_Join.l0 k1 l0 (x4_1 ++ [t184]) ([] : List (S60)) l0 (l0.length : Int) (wrap64 (x13_1 + 1))) else (none)) = some (r1, r2) := H
         have A26 := Aside0.mk A260
         clear A260
         by_cases c27 : x4_1.length < 5864062014805
         ·rw [if_pos c27] at H
          have LMc27 := Aside0.mk c27
          clear c27
          obtain ⟨y187, hy187⟩ : ∃ y_ : List (List (S60)), y_ = (x4_1 ++ [t184]) := ⟨_, rfl⟩
          replace H : (flow_Join.l0 k1 l0 y187 ([] : List (S60)) l0 (l0.length : Int) (wrap64 (x13_1 + 1))) = some (r1, r2) := by first | (rw [hy187]; with_reducible exact H) | (have H2_ := (Option.bind_some _ _).symm.trans H; rw [hy187]; with_reducible exact H2_) | (have H2_ := (Option.bind_some _ _).symm.trans H; with_reducible exact H2_) | with_reducible exact H | (rw [hy187]; exact H) | exact H
          have Ny187 := Aside0.mk hy187
          clear hy187
          have H' := Aside0.mk H
          clear H
          have p173 : 0 ≤ (x13_1 : Int) := of_decide_eq_true za
          have q173 : x13_1 < (l0.length : Int) := of_decide_eq_true za
          obtain ⟨ad173, A173_0, c173_0, e173, hx173_0, hx173_1, hl173_0, hi173_0⟩ := at_T38 HR0.out x13_1 p173 q173
          (try rw [← Nbq9.out] at hx173_1)
          cases e173
          replace hx173_0 := zc HB hx173_0
          replace hx173_1 := zc HB hx173_1
          have HR173_0 := Aside0.mk hi173_0
          have HC173_0 := Aside0.mk hl173_0
          clear hi173_0 hl173_0
          replace p173 := eq_true p173
          replace q173 := eq_true q173
          go_wp2_with (first | ((with_reducible refine gate_dst (N := 7) rfl ?_); (try (refine gate_guard (by rfl) ?_; dsimp only)); refine box_event ?hg (N := 7) ?hd (cs := #[.slice none 0 0, .bool false]) (t := 38) ?hr ?_; (case hd => rfl); (case hg => rfl); (case hr => exact zo); intro gb174 hg w28 hbox hb; replace HO_4 := Aside0.mk (Kd.N_below (Kd.N_elderB (zNa HO_4) gb174 (Nat.le_of_eq hg.symm)) hb); replace HO_5 := (zR HO_5 hb); have BK174 := Aside0.mk (hbox); have GW174 := Aside0.mk ((zg hg : w.heap.size ≤ gb174)); have GE174 := Aside0.mk ((zg hg : w.heap.size ≤ gb174)); replace HB := (zs HB hb); clear hb hbox hg; obtain ⟨hcz29_0, hcz29_1, hfz29_0, hfz29_1⟩ := zq2 (w := w28) BK174) | ((with_reducible refine gate_builtin (b := .append) (xs := #[.tmp 18, .tmp 20]) rfl ?_); (try (refine gate_guard (by rfl) ?_; dsimp only)); at_builtin; refine Kd.R_append_rows k60 (w0 := w) w.heap.size rfl (.tmp 18) (.tmp 20) 36 60 (.agg #[(.string ⟨#[]⟩), (.int .i64 0), (.int .i64 0), (.int .i64 0), (.int .i64 0)]) 48 rfl Tryd.underlying36 info60 rfl (by decide) (by omega) u5 x5_1 ((rd_T38 l0 x13_1).f0) _ _ _ (fun k_ => (w.heap.size ≤ k_)) (fun _ => False) rfl rfl ?aO ?aR (fun _ _ h => h) (fun _ h => h.elim) ?aF ?aB ?aS ?aL ?_; (case aR => exact Kd.C_below HR173_0.out zb); (case aB => exact zb); (case aF => exact (fun k_ hk => (Nat.le_trans (below_size zb) hk))); (case aO => exact (by (with_reducible repeat (first | apply Kd.R_alloc | apply Kd.R_drewN | apply Kd.R_drew)); exact Kd.R_mono (Kd.R_far (p := ⟨gb174, 1, none⟩) (Kd.R_far (p := ⟨gb174, 0, none⟩) (Kd.R_types HO_5.out BK174.out (by decide)) (fun _ hk => hk.2) (.slice A173_0 ((rd_T38 l0 x13_1).f0).length c173_0)) (fun _ hk => hk.2) (.bool false)) (fun _ hk => hk.1))); (case aS => exact (below_size zb)); (case aL => have := LMc8.out; omega); intro v176 w30 ho hb hg hat; rw [← Ny175.out] at ho; have n0_ := Aside0.mk (Kd.N_afterv (ok := (fun k_ => (w.heap.size ≤ k_) ∧ k_ ≠ gb174)) (by (with_reducible repeat (first | apply Kd.N_alloc | apply Kd.N_drewN | apply Kd.N_drew)); exact Kd.N_mono (Kd.N_far (p := ⟨gb174, 1, none⟩) (Kd.N_far (p := ⟨gb174, 0, none⟩) (Kd.N_mono HO_4.out (fun k_ hk => (⟨hk, hk.2⟩ : _ ∧ k_ ≠ gb174))) (fun _ hk => hk.2) (.slice A173_0 ((rd_T38 l0 x13_1).f0).length c173_0)) (fun _ hk => hk.2) (.bool false)) (fun _ hk => ⟨⟨hk.1.1.1, hk.1.2⟩, hk.1.1.2⟩)) hg hat); have n1_ := Aside0.mk (blk_grown (g := gb174) (o := .cells #[.slice A173_0 ((rd_T38 l0 x13_1).f0).length c173_0, .bool false] 38 (0, 0)) (by refine blk_put (cs := #[.slice A173_0 ((rd_T38 l0 x13_1).f0).length c173_0, .bool false]) ?_ 1 _ rfl; refine blk_put (cs := #[.slice none 0 0, .bool false]) ?_ 0 _ rfl; exact BK174.out) hg (Kd.R_ne HO_5.out BK174.out (by decide))); have n2_ := Aside0.mk (hb); have n3_ := Aside0.mk (ho); clear HO_4; clear BK174; clear HB; clear HO_5; have HO_4 := n0_; have BK174 := n1_; have HB := n2_; have HO177 := n3_; clear n0_ n1_ n2_ n3_; clear ho hb hg hat; obtain ⟨hcz31_0, hcz31_1, hfz31_0, hfz31_1⟩ := zq2 (w := w30) BK174; obtain ⟨Ao32, co32, eo32⟩ := Kd.R_slice HO177.out; subst eo32) | ((with_reducible refine gate_callee (f := 44) rfl ?_); refine goesL_ (some 34) rfl rfl Tryd.func44 (by kernel_rfl) rfl #[.slice Ao32 y175.length co32] rfl zl ?_; (with_reducible refine (flow_trimmed.calls k1 (fun k_ => some k_ = (.slice Ao32 y175.length co32 : Value).ownBlock) _ _ y175 t184 _ ?side1 A26.out).mono ?_); (case side1 => exact Kd.R_V (Kd.R_tight rfl (Kd.R_types (Kd.R_apart' (HO177.out) (Kd.N_typed HO_4.out) (by decide)) BK174.out (by decide)))); rintro e w33 ⟨v185, rfl, ho0, hb⟩; refine ⟨_, rfl, ?_⟩; have n0_ := (zN HO_4 hb); have n1_ := (zR HO177 hb); have n2_ := Aside0.mk (Kd.V_lower (Kd.V_mono (ok' := fun k_ => (w.heap.size ≤ k_) ∧ some k_ ≠ (u4 : Value).ownBlock ∧ k_ ≠ gb174) ho0 (fun k_ hk_ => ⟨Or.elim hk_ (fun hs_ => ((Kd.R_types (Kd.R_apart' (HO177.out) (Kd.N_typed HO_4.out) (by decide)) BK174.out (by decide)).1 k_ hs_.symm).1.1) (fun hn_ => (Nat.le_trans (below_size zb) hn_)), Or.elim hk_ (fun hs_ => ((Kd.R_types (Kd.R_apart' (HO177.out) (Kd.N_typed HO_4.out) (by decide)) BK174.out (by decide)).1 k_ hs_.symm).1.2) (fun hn_ => (Kd.fresh' (Kd.N_lt (zNa HO_4)) k_ hn_)), Or.elim hk_ (fun hs_ => ((Kd.R_types (Kd.R_apart' (HO177.out) (Kd.N_typed HO_4.out) (by decide)) BK174.out (by decide)).1 k_ hs_.symm).2) (fun hn_ => (Kd.freshB (g := gb174) (o := .cells #[.slice A173_0 ((rd_T38 l0 x13_1).f0).length c173_0, .bool false] 38 (0, 0)) (by exact BK174.out) k_ hn_))⟩)) (below_size zb)); have n3_ := (zk BK174 hb); have n4_ := (zs HB hb); clear HO_4; clear HO177; clear BK174; clear HB; have HO_4 := n0_; have HO177 := n1_; have HO186 := n2_; have BK174 := n3_; have HB := n4_; clear n0_ n1_ n2_ n3_ n4_; (try clear hb); (try clear hk); (try clear ho0); obtain ⟨Ao35, co35, eo35⟩ := Kd.V_slice HO186.out; subst eo35) | ((with_reducible refine gate_builtin (b := .append) (xs := #[.tmp 32, .tmp 35]) rfl ?_); (try (refine gate_guard (by rfl) ?_; dsimp only)); at_builtin; refine Kd.N_append (Kd.slice 60 k60) (w0 := w) w.heap.size rfl (.tmp 32) (.tmp 35) 39 36 (.slice none 0 0) 24 rfl Tryd.underlying39 info36 rfl (by decide) (by omega) u4 x4_1 t184 [.slice Ao35 t184.length co35] (fun k_ => (w.heap.size ≤ k_) ∧ k_ ≠ gb174) (fun k_ => ((fun k_ => (w.heap.size ≤ k_) ∧ k_ ≠ gb174)) k_ ∧ some k_ ≠ (u4 : Value).ownBlock) rfl rfl ?aP (fun _ hk => hk) ?aF ?aO ?aB ?aS ?aL ?_; (case aP => exact (Kd.FK_slice_mk (Kd.V_reads' (Kd.V_mono (ok' := (fun k_ => ((fun k_ => (w.heap.size ≤ k_) ∧ k_ ≠ gb174)) k_ ∧ some k_ ≠ (u4 : Value).ownBlock)) (HO186.out) (fun k_ hk => ⟨⟨hk.1, hk.2.2⟩, hk.2.1⟩))).2.1 (Kd.V_F (Kd.V_mono (ok' := (fun k_ => ((fun k_ => (w.heap.size ≤ k_) ∧ k_ ≠ gb174)) k_ ∧ some k_ ≠ (u4 : Value).ownBlock)) (HO186.out) (fun k_ hk => ⟨⟨hk.1, hk.2.2⟩, hk.2.1⟩))))); (case aB => exact zb); (case aF => exact (fun k_ hk => ⟨(Nat.le_trans (below_size zb) hk), Kd.freshB (g := gb174) (o := .cells #[.slice A173_0 ((rd_T38 l0 x13_1).f0).length c173_0, .bool false] 38 (0, 0)) (by exact BK174.out) k_ hk⟩)); (case aO => exact (by (with_reducible repeat (first | apply Kd.N_alloc | apply Kd.N_drewN | apply Kd.N_drew)); exact Kd.N_mono HO_4.out (fun _ hk => ⟨hk.1.1, hk.1.2⟩))); (case aS => exact (below_size zb)); (case aL => have := LMc27.out; omega); intro v188 w34 ho hb hg hat; rw [← Ny187.out] at ho; have n0_ := Aside0.mk (blk_grown (g := gb174) (o := .cells #[.slice A173_0 ((rd_T38 l0 x13_1).f0).length c173_0, .bool false] 38 (0, 0)) (by exact BK174.out) hg (Kd.N_ne HO_4.out BK174.out (by decide))); have n1_ := Aside0.mk (Kd.R_over' (zRa HO177) (Kd.N_typed (zNa HO_4)) (by decide) hg); have n2_ := Aside0.mk (Kd.V_afterv (ok := (fun k_ => (w.heap.size ≤ k_) ∧ k_ ≠ gb174)) (by (with_reducible repeat (first | apply Kd.V_alloc | apply Kd.V_drewN | apply Kd.V_drew)); exact Kd.V_mono HO186.out (fun _ hk => ⟨⟨hk.1, hk.2.2⟩, hk.2.1⟩)) hg hat); have n3_ := Aside0.mk (hb); have n4_ := Aside0.mk (ho); clear BK174; clear HO177; clear HO186; clear HB; clear HO_4; have BK174 := n0_; have HO177 := n1_; have HO186 := n2_; have HB := n3_; have HO189 := n4_; clear n0_ n1_ n2_ n3_ n4_; clear ho hb hg hat))
          go_roundg k1
          case measure => have := HK1.out; omega
          case rel => exact ⟨(y187), (([] : List (S60))), (wrap64 (x13_1 + 1)), zf, H', ⟨by have := HK1.out; omega⟩, ⟨by (with_reducible repeat (first | apply Kd.N_alloc | apply Kd.N_drewN | apply Kd.N_drew)); exact Kd.N_mono HO189.out (fun _ hk => ⟨hk.1, (by simp [Value.ownBlock])⟩)⟩, ⟨by first | exact Kd.R_nil _ _ _ _ _ | exact Kd.N_nil _ _ _ _ _ | exact Kd.V_nil _ _ _ _ _ | exact Kd.Q_nil _ _ _ _ _ | exact Kd.S_nil _ _ _ _ _⟩, ⟨zb⟩⟩
         ·rw [if_neg c27] at H
          exact absurd H (by simp)
       ·rw [if_neg c8] at H
        exact absurd H (by simp)
      ·rw [if_neg c7] at H
       exact absurd H (by simp)
     ·rw [if_neg c6] at H
      exact absurd H (by simp)
    ·rw [if_neg c5] at H
     have c5b0 : decide (x13_1 < (l0.length : Int)) = false := decide_eq_false c5
     clear c5
     simp only [Option.some.injEq, Prod.mk.injEq] at H
     obtain ⟨rfl, rfl⟩ := H
     go_wp2
     go_ret2
     exact ⟨_, ze, by (with_reducible repeat (first | apply Kd.N_alloc | apply Kd.N_drewN | apply Kd.N_drew)); exact Kd.N_mono HO_4.out (fun _ hk => hk.1), zb⟩
 ·replace c3 := Bool.eq_false_iff.mpr c3
  subst c3
  have H1 : (some (([] : List (List (S60))), 1)) = some (r1, r2) := by rw [if_neg (show ¬ (false = true) by decide)] at H; exact H
  clear H
  have H := H1
  clear H1
  simp only [Option.some.injEq, Prod.mk.injEq] at H
  obtain ⟨rfl, rfl⟩ := H
  go_enter Tryd.func18, Tryd.ntmps18
  go_wp2_with (first | ((with_reducible refine gate_callee (f := 43) rfl ?_); refine goesL_ (some 9) rfl rfl Tryd.func43 (by kernel_rfl) rfl #[.slice A0 l0.length c0] rfl zl ?_; (with_reducible refine (flow_may.calls k _ _ l0 false _ ?side1 ?side2 A2.out).mono ?_); (case side1 => repeat (first | exact HR0.out | (with_reducible refine Kd.C_alloc ?_ _) | (with_reducible refine Kd.C_drewN ?_ _) | (with_reducible refine Kd.C_drew ?_))); (case side2 => exact HC0.out); rintro e w36 ⟨rfl, hb⟩; refine ⟨_, rfl, ?_⟩; replace HB := (zs HB hb); (try clear hb)))
  go_ret2
  exact ⟨_, ze, by first | exact Kd.S_nil _ _ _ _ _ | exact Kd.N_nil _ _ _ _ _ | exact Kd.V_nil _ _ _ _ _ | exact Kd.Q_nil _ _ _ _ _ | exact Kd.R_nil _ _ _ _ _, zb⟩
end Go.Proofs.YtckkdaehmccjlaaDoor.P
namespace Go.Proofs.YtckkdaehmccjlaaDoor.P
open Go.RowKit Go.Proofs.YtckkdaehmccjlaaDoorW.PrintWords Go.Proofs.YtckkdaehmccjlaaDoorW.PrintLast Go.Proofs.YtckkdaehmccjlaaDoorW.PrintMore
set_option linter.unusedVariables false
set_option linter.unusedSimpArgs false
theorem run_copy_rows {P : Program} (w : World) (dT sT ty elem : TypeId) (size g o dLen dCap : Nat) (a : Addr) (sLen sCap : Nat) (cur : Array Value) (t : TypeId) (cs : List Value)
  (hu : P.underlying dT = some (.slice elem)) (hs : (P.info? elem).map (·.size) = some size)
  (hg : w.heap[g]? = some (.cells cur t (0, 0))) (hn : cs.length = Nat.min sLen dLen * size)
  (hsrc : ∀ j v, cs[j]? = some v → w.cell? (a.add j) = some v) (hfit : o + cs.length ≤ cur.size) (h1 : ∀ v ∈ cs, v.oneCell' = true) :
  (Builtin.copy_ #[dT, sT] ty #[.slice (some ⟨g, o, none⟩) dLen dCap, .slice (some a) sLen sCap]).run P w =
   .ok (goInt (Nat.min sLen dLen)) (w.setRow g (cur.toList.take o ++ cs ++ cur.toList.drop (o + cs.length)).toArray) := by
 have hl := run_loadCells_list (P := P) w a cs hsrc
 have hst := run_storeCells_at P g o t cs 0 cur w hg (by simpa using hfit) h1
 cases hq : P.info? elem with
 | none => simp [hq] at hs
 | some i =>
  have hi : i.size = size := by simpa [hq] using hs
  simp [Builtin.copy_, run_underlying hu, Builtin.lenOf, Builtin.firstCells, sizeOf, typeInfo, hq, hi, ← hn, hl, hst]
theorem wpList_copy_rows {P : Program} {w : World} {ops : Array Oper} {rest : List Oper} {o : Oper} {a : Act} {Q : Exit → Act → World → Prop} (hgd : o.guard = none) (d s : Operand) (dT sT : TypeId)
  (ho : o.op = .call { callee := .builtin .copy, args := #[d, s], argTypes := #[dT, sT] }) (elem : TypeId) (size : Nat) (hu : P.underlying dT = some (.slice elem)) (hsz : (P.info? elem).map (·.size) = some size)
  (g off dLen dCap : Nat) (ad : Addr) (sLen sCap : Nat) (hd : a.eval d = .slice (some ⟨g, off, none⟩) dLen dCap) (hs : a.eval s = .slice (some ad) sLen sCap)
  (cur : Array Value) (t : TypeId) (hg : w.heap[g]? = some (.cells cur t (0, 0))) (cs : List Value) (hn : cs.length = Nat.min sLen dLen * size)
  (hsrc : ∀ j v, cs[j]? = some v → w.cell? (ad.add j) = some v) (hfit : off + cs.length ≤ cur.size) (h1 : ∀ v ∈ cs, v.oneCell' = true)
  (h : wpList P ops Q rest (a.put o.dst (goInt (Nat.min sLen dLen))) (w.setRow g (cur.toList.take off ++ cs ++ cur.toList.drop (off + cs.length)).toArray)) : wpList P ops Q (o :: rest) a w := by
 refine wpList_plain hgd fun K hK => ?_
 have hrun := run_copy_rows (P := P) w dT sT o.type elem size g off dLen dCap ad sLen sCap cur t cs hu hsz hg hn hsrc hfit h1
 unfold Oper.wp
 simp only [execOp, ho, resolve, invoke, builtin]
 simp [hd, hs, builtin, hrun, Result.andThen]
 rw [List.append_assoc] at h
 exact hK _ _ h
def blankCells : List Value := [.string ⟨#[]⟩, .int .i64 1, .int .i64 0, .int .i64 0, .int .i64 0]
def blanks (n : Nat) : List Value := (List.replicate n blankCells).flatten
theorem blanks_length (n : Nat) : (blanks n).length = 5 * n := by unfold blanks; simp [blankCells]; omega
theorem blanks_add (a b : Nat) : blanks (a + b) = blanks a ++ blanks b := by unfold blanks; rw [← List.replicate_append_replicate, List.flatten_append]
theorem blanks_one (n : Nat) : ∀ v ∈ blanks n, v.oneCell' = true := by
 intro v hv
 unfold blanks at hv
 obtain ⟨l, hl, hv⟩ := List.mem_flatten.1 hv
 rw [List.eq_of_mem_replicate hl] at hv
 unfold blankCells at hv
 simp only [List.mem_cons, List.not_mem_nil, or_false] at hv
 rcases hv with rfl | rfl | rfl | rfl | rfl <;> rfl
theorem Tryd.cellSize : (Tryd.prog.info? 60).map (·.size) = some 5 := by kernel_rfl
theorem clip_calls (A : Option Addr) (n c : Nat) (hc : n ≤ c) (hm : c ≤ 9223372036854775807) (w : World) :
  Calls Tryd.prog 88 #[.slice A n c] w fun e w' => e = .returned (.slice A n n) ∧ w' = w := by
 go_enter Tryd.func88, Tryd.ntmps88
 go_wp2
 go_ret
 exact ⟨rfl, rfl⟩
def zerosC (n : Nat) : List Value := (List.replicate n ([.string ⟨#[]⟩, .int .i64 0, .int .i64 0, .int .i64 0, .int .i64 0] : List Value)).flatten
theorem zerosC_length (n : Nat) : (zerosC n).length = 5 * n := by unfold zerosC; simp; omega
theorem zerosC_drop (a b : Nat) : (zerosC (a + b)).drop (5 * a) = zerosC b := by
 unfold zerosC
 rw [← List.replicate_append_replicate, List.flatten_append]
 exact List.drop_left' (by have := zerosC_length a; unfold zerosC at this; exact this)
def repRow (m n : Nat) : List Value := blanks n ++ zerosC (m - n)
theorem repRow_length {m n : Nat} (h : n ≤ m) : (repRow m n).length = 5 * m := by unfold repRow; rw [List.length_append, blanks_length, zerosC_length]; omega
theorem repRow_step {m n k : Nat} (h : n + k ≤ m) : (repRow m n).take (5 * n) ++ blanks k ++ (repRow m n).drop (5 * n + (blanks k).length) = repRow m (n + k) := by
 unfold repRow
 rw [List.take_left' (blanks_length n), blanks_add, List.drop_append, List.drop_of_length_le (by rw [blanks_length, blanks_length]; omega), List.nil_append, blanks_length, blanks_length]
 rw [show 5 * n + 5 * k - 5 * n = 5 * k by omega, show m - n = k + (m - (n + k)) by omega, zerosC_drop]
theorem made_zeros (m : Nat) : (madeCells (Value.agg #[.string ⟨#[]⟩, .int .i64 0, .int .i64 0, .int .i64 0, .int .i64 0]).cells (m * 5)).toList = zerosC m := by
 have hz : (Value.agg #[.string ⟨#[]⟩, .int .i64 0, .int .i64 0, .int .i64 0, .int .i64 0]).cells = #[.string ⟨#[]⟩, .int .i64 0, .int .i64 0, .int .i64 0, .int .i64 0] := by rfl
 rw [hz]
 unfold madeCells
 rw [Array.toList_map, Array.toList_range]
 induction m with
 | zero => rfl
 | succ m ih =>
  rw [Nat.succ_mul, List.range_add, List.map_append, ih, List.map_map]
  unfold zerosC
  rw [List.replicate_succ', List.flatten_append]
  congr 1
  show (List.range 5).map _ = _
  have e : ∀ i, (m * 5 + i) % 5 = i % 5 := fun i => by rw [Nat.add_comm, Nat.add_mul_mod_self_right]
  simp only [Function.comp_def, List.size_toArray, List.length_cons, List.length_nil, Nat.zero_add, Nat.reduceAdd, e]
  rfl
theorem made_heap {w : World} {base g m : Nat} (h : w.ownsRow base 60 5 (.slice (some ⟨g, 0, none⟩) m m) m (madeCells (Value.agg #[.string ⟨#[]⟩, .int .i64 0, .int .i64 0, .int .i64 0, .int .i64 0]).cells (m * 5)).toList) : w.heap[g]? = some (.cells (repRow m 0).toArray 60 (0, 0)) := by
 rcases h.2 with ⟨h1, _⟩ | ⟨g', cap, cur, h1, _, h2, _, _, h3, h4⟩
 ·cases h1
 ·injection h1 with a1 _ a3
  injection a1 with a1
  injection a1 with a1
  subst a1
  subst a3
  rw [List.take_of_length_le (by rw [Array.length_toList]; omega), made_zeros] at h4
  have e : repRow m 0 = zerosC m := by unfold repRow blanks; simp
  rw [h2, e, ← h4]
theorem rep_set {w0 w : World} {g m n k off : Nat} (hg : w.heap[g]? = some (.cells (repRow m n).toArray 60 (0, 0))) (h : n + k ≤ m) (ho : off = 5 * n) (hb : Below w0.heap.size w0 w) (hg0 : w0.heap.size ≤ g) :
  (w.setRow g ((repRow m n).toArray.toList.take off ++ blanks k ++ (repRow m n).toArray.toList.drop (off + (blanks k).length)).toArray).heap[g]? = some (.cells (repRow m (n + k)).toArray 60 (0, 0)) ∧
  Below w0.heap.size w0 (w.setRow g ((repRow m n).toArray.toList.take off ++ blanks k ++ (repRow m n).toArray.toList.drop (off + (blanks k).length)).toArray) := by
 subst ho
 have e := repRow_step h
 refine ⟨?_, below_setRow hb hg0 _⟩
 rw [show (repRow m n).toArray.toList = repRow m n from rfl, e]
 exact setRow_heap w g _ _ _ _ hg
theorem rep_cells {w : World} {g m n k : Nat} (hg : w.heap[g]? = some (.cells (repRow m n).toArray 60 (0, 0))) (h : k ≤ n) (j : Nat) (v : Value) (hj : (blanks k)[j]? = some v) : w.cell? ((⟨g, 0, none⟩ : Addr).add j) = some v := by
 have hlt := (List.getElem?_eq_some_iff.1 hj).1
 rw [Addr.add_lit, Nat.zero_add, blk_cell hg]
 unfold repRow
 rw [show n = k + (n - k) by omega, blanks_add, List.append_assoc]
 simp only [List.getElem?_toArray]
 rw [List.getElem?_append_left hlt]
 exact hj
theorem one_cells {w : World} {g m : Nat} (hg : w.heap[g]? = some (.cells blankCells.toArray 60 (0, 0))) (j : Nat) (v : Value) (hj : (blanks (Nat.min 1 m))[j]? = some v) : w.cell? ((⟨g, 0, none⟩ : Addr).add j) = some v := by
 rw [Addr.add_lit, Nat.zero_add, blk_cell hg]
 simp only [List.getElem?_toArray]
 rcases Nat.le_one_iff_eq_zero_or_eq_one.1 (Nat.min_le_left 1 m) with h | h
 ·rw [show Nat.min 1 m = 0 from h] at hj; cases hj
 ·rw [show Nat.min 1 m = 1 from h] at hj; unfold blanks at hj; simpa using hj
theorem Tryd.cellInfo : (Tryd.prog.info? 60).map (fun i => (i.zero, i.size, i.bytes)) = some (some (.agg #[.string ⟨#[]⟩, .int .i64 0, .int .i64 0, .int .i64 0, .int .i64 0]), 5, 48) := by kernel_rfl
set_option maxHeartbeats 4000000 in
set_option maxRecDepth 100000 in
theorem repeat_calls (xb m : Nat) (hm : m ≤ 1000000) (w : World) (hx : w.heap[xb]? = some (.cells blankCells.toArray 60 (0, 0))) :
  Calls Tryd.prog 89 #[.slice (some ⟨xb, 0, none⟩) 1 1, .int .i64 m] w fun e w' => ∃ g, e = .returned (.slice (some ⟨g, 0, none⟩) m m) ∧ w.heap.size ≤ g ∧ w'.heap[g]? = some (.cells (blanks m).toArray 60 (0, 0)) ∧ Below w.heap.size w w' := by
 have HX := Aside0.mk hx
 have HM := Aside0.mk hm
 clear hx
 obtain ⟨i0, hi0, hz0, hz1, hz2⟩ := info_parts Tryd.cellInfo
 have HI0 := Aside0.mk hi0
 have HZ0 := Aside0.mk hz0
 have HZ1 := Aside0.mk hz1
 have HZ2 := Aside0.mk hz2
 clear hi0 hz0 hz1 hz2
 have hq : 1 * m / 18446744073709551616 = 0 := Nat.div_eq_of_lt (by omega)
 have hr : 1 * m % 18446744073709551616 = m := by rw [Nat.one_mul]; exact Nat.mod_eq_of_lt (by omega)
 have cM := Tryd.bits_Mul 1 m (by omega) (by omega) w
 rw [hq, hr] at cM
 have CM := Aside0.mk (cM.mono (R' := fun e w' => e = .returned (.tuple #[.int .u64 ((0 : Nat) : Int), .int .u64 ((m : Nat) : Int)]) ∧ w = w') (fun _ _ h => ⟨h.1, h.2.symm⟩))
 clear cM hq hr
 go_enter Tryd.func89, Tryd.ntmps89
 go_wp2_with (first | (go_at_call 108; refine CM.out.mono ?_; rintro e w1 ⟨rfl, rfl⟩) | (at_make; (refine wpList_make_full _ rfl _ _ 36 rfl w.heap.size 60 i0 _ 5 Tryd.underlying36 HI0.out HZ0.out HZ1.out .i64 .i64 _ _ m rfl rfl (by omega) (by omega) (by rw [HZ2.out]; omega) (by unfold maxLen; omega) (Nat.le_refl _) ?_; intro w2 hown hgr; have HG2 := Aside0.mk (made_heap hown); have HB2 : Aside0 (Below w.heap.size w w2) := ⟨(Below.refl _ w).grown hgr (Nat.le_refl _) (fun k e => by cases e)⟩; clear hown hgr)) | ((refine wpList_copy_rows (o := ⟨some 33, _, _, _, _, _⟩) rfl _ _ 36 36 rfl 60 5 Tryd.underlying36 Tryd.cellSize w.heap.size 0 m m ⟨xb, 0, none⟩ 1 1 rfl rfl _ 60 HG2.out (blanks (Nat.min 1 m)) ?c1 ?c2 ?c3 (blanks_one _) ?_; (case c1 => exact (blanks_length _).trans (Nat.mul_comm _ _)); (case c2 => exact one_cells ((HB2.out.block _ (blk_lt HX.out)).trans HX.out)); (case c3 => (rw [blanks_length, List.size_toArray, repRow_length (Nat.zero_le m)]; have hq_ : Nat.min 1 m ≤ m := Nat.min_le_right 1 m; omega)); have hs3 := rep_set (k := Nat.min 1 m) (off := 0) HG2.out (by have hq_ : Nat.min 1 m ≤ m := Nat.min_le_right 1 m; omega) rfl HB2.out (Nat.le_refl _); generalize w2.setRow _ _ = w3 at *; have HG3 := Aside0.mk hs3.1; have HB3 := Aside0.mk hs3.2; clear hs3)))
 go_loopw [8] (fun v wr => ∃ q : Nat, q ≤ m ∧ (0 < m → 0 < q) ∧ v = .int .i64 q ∧ Aside0 (wr.heap[w.heap.size]? = some (.cells (repRow m q).toArray 60 (0, 0))) ∧ Aside0 (Below w.heap.size w wr)) (fun v _ => m - (intOf v).toNat)
 case atStart => exact ⟨Nat.min 1 m, (Nat.min_le_right 1 m : Nat.min 1 m ≤ m), fun h => (Nat.lt_min.2 ⟨Nat.one_pos, h⟩ : 0 < min 1 m), rfl, ⟨by have := HG3.out; rwa [Nat.zero_add] at this⟩, HB3⟩
 case round =>
  obtain ⟨q, hqm, hq0, rfl, HG, HB⟩ := hrel
  by_cases hlt : q < m
  ·have hq1 : 0 < q := hq0 (by omega)
   clear hq0
   have hmq : (m = q) = False := eq_false (by omega)
   have hmin : Nat.min q (m - q) ≤ m - q := Nat.min_le_right _ _
   have hmin2 : Nat.min q (m - q) ≤ q := Nat.min_le_left _ _
   have hmin3 : 0 < Nat.min q (m - q) := Nat.lt_min.2 ⟨hq1, by omega⟩
   go_wp2
   refine start_ (n := 10) (S := fun _ => True) (ds := []) #[false, false, false, false, false, false, false, false, false, false] (by kernel_rfl) rfl rfl trivial (fun _ => ?_)
   refine pure_ (i := 0) (N := some 38) (v := ?_) (a' := ?_) #[true, false, false, false, false, false, false, false, false, false] rfl rfl (by kernel_rfl) (fun _ _ _ h => h) (Or.inl ⟨by rfl, ?_⟩) ?_ ?_
   rotate_left
   ·intro w'
    go_simp
    with_reducible rfl
   rotate_left
   ·exact zr
   refine pure_ (i := 1) (N := some 39) (v := ?_) (a' := ?_) #[true, true, false, false, false, false, false, false, false, false] rfl rfl (by kernel_rfl) (fun _ _ _ h => h) (Or.inl ⟨by rfl, ?_⟩) ?_ ?_
   rotate_left
   ·intro w'
    go_simp
    with_reducible rfl
   rotate_left
   ·exact zr
   refine pure_ (i := 2) (N := some 40) (v := ?_) (a' := ?_) #[true, true, true, false, false, false, false, false, false, false] rfl rfl (by kernel_rfl) (fun _ _ _ h => h) (Or.inl ⟨by rfl, ?_⟩) ?_ ?_
   rotate_left
   ·intro w'
    go_simp
    with_reducible rfl
   rotate_left
   ·exact zr
   refine pure_ (i := 3) (N := some 41) (v := ?_) (a' := ?_) #[true, true, true, true, false, false, false, false, false, false] rfl rfl (by kernel_rfl) (fun _ _ _ h => h) (Or.inl ⟨by rfl, ?_⟩) ?_ ?_
   rotate_left
   ·intro w'
    go_simp
    with_reducible rfl
   rotate_left
   ·exact zr
   refine pure_ (i := 4) (N := some 42) (v := ?_) (a' := ?_) #[true, true, true, true, true, false, false, false, false, false] rfl rfl (by kernel_rfl) (fun _ _ _ h => h) (Or.inl ⟨by rfl, ?_⟩) ?_ ?_
   rotate_left
   ·intro w'
    go_simp
    with_reducible rfl
   rotate_left
   ·exact zr
   refine pure_ (i := 5) (N := some 43) (v := ?_) (a' := ?_) #[true, true, true, true, true, true, false, false, false, false] rfl rfl (by kernel_rfl) (fun _ _ _ h => h) (Or.inl ⟨by rfl, ?_⟩) ?_ ?_
   rotate_left
   ·intro w'
    go_simp
    with_reducible rfl
   rotate_left
   ·exact zr
   refine pure_ (i := 6) (N := some 44) (v := ?_) (a' := ?_) #[true, true, true, true, true, true, true, false, false, false] rfl rfl (by kernel_rfl) (fun _ _ _ h => h) (Or.inl ⟨by rfl, ?_⟩) ?_ ?_
   rotate_left
   ·intro w'
    go_simp
    with_reducible rfl
   rotate_left
   ·exact zr
   have hgr := HG.out
   have hrun := run_copy_rows (P := Tryd.prog) wr.drew 36 36 3 60 5 w.heap.size (q * 5) (m - q) (m - q) ⟨w.heap.size, 0, none⟩ q m (repRow m q).toArray 60 (blanks (Nat.min q (m - q))) Tryd.underlying36 Tryd.cellSize hgr ((blanks_length _).trans (Nat.mul_comm _ _)) (rep_cells hgr hmin2) (by rw [blanks_length, List.size_toArray, repRow_length (by omega)]; omega) (blanks_one _)
   have hs3 := rep_set (w := wr.drew) (k := Nat.min q (m - q)) (off := q * 5) hgr (by omega) (Nat.mul_comm _ _) HB.out.drew (Nat.le_refl _)
   generalize wr.drew.setRow _ _ = w4 at *
   generalize Nat.min q (m - q) = kq at *
   have hsum : IntKind.i64.wrap ((q : Int) + (kq : Int)) = ((q + kq : Nat) : Int) := by rw [IntKind.wrap_i64]; omega
   refine one_ (i := 7) (N := some 45) #[true, true, true, true, true, true, true, true, false, false] rfl rfl (by kernel_rfl) (by decide) (fun K hK => ?_)
   refine value_ (w1 := w4) (v := .int .i64 (kq : Nat)) (by rfl) rfl ?_ ?_
   ·go_simp
   refine hK.out _ _ trivial (fun _ => ?_)
   clear hK K
   refine norm_ (a' := ?_) ?_ ?_
   rotate_left
   ·show Act.put _ (some 45) _ = _
    exact zr
   refine pure_ (i := 8) (N := some 46) (v := .int .i64 ((q + kq : Nat) : Int)) (a' := ?_) #[true, true, true, true, true, true, true, true, true, false] rfl rfl (by kernel_rfl) (fun _ _ _ h => h) (Or.inl ⟨by rfl, ?y8⟩) ?ha8 ?_
   case y8 =>
    intro w'
    go_simp
   case ha8 => exact zr
   refine pure_ (i := 9) (N := some 8) (v := .int .i64 ((q + kq : Nat) : Int)) (a' := ?_) #[true, true, true, true, true, true, true, true, true, true] rfl rfl (by kernel_rfl) (fun _ _ _ h => h) (Or.inl ⟨by rfl, ?y9⟩) ?ha9 ?_
   case y9 =>
    intro w'
    go_simp
   case ha9 => exact zr
   refine done_ (by kernel_rfl) ?_
   go_roundw
   case rel => (repeat apply Exists.intro); exact ⟨⟨q + kq, by omega, fun _ => by omega, rfl, ⟨hs3.1⟩, ⟨hs3.2⟩⟩, rfl⟩
   case measure => simp [intOf]; omega
  ·obtain rfl : q = m := by omega
   go_wp2
   go_ret
   refine ⟨_, rfl, Nat.le_refl _, ?_, HB.out⟩
   have hh := HG.out
   unfold repRow at hh
   rw [Nat.sub_self] at hh
   have e : zerosC 0 = [] := rfl
   rw [e, List.append_nil] at hh
   exact hh
end Go.Proofs.YtckkdaehmccjlaaDoor.P
namespace Go.Proofs.YtckkdaehmccjlaaDoor.P
open Go.RowKit Go.Proofs.YtckkdaehmccjlaaDoorW.PrintLast
variable {P : Program} {ops : Array Oper} {Q : Exit → Act → World → Prop} {md : Region.Mode} {S : World → Prop} {ds : List Nat}
theorem rowsIn_wideX {n : Nat} {row : String} {args : Array Value} {w : World} {R : Value → World → Prop} (l : Nat) (h : Rows P row args w R) : RowsIn (Fence.wide.inRound l) n P row args w R :=
 fun c cs _ => let ⟨v, w', r, s⟩ := h c cs; ⟨v, w', r, stepsIn_wide.2 s⟩
theorem wpOp_inRound {l n : Nat} (hd : ∀ (i : Nat) (o : Oper), ops[i]? = some o → ∀ c, o.op ≠ Op.defer c) (hno : ¬ LetsOut Q) {i : Nat} {K K' : Act → World → Prop} (hK : ∀ a w, K a w → K' a w) {a : Act} {w : World}
  (h : wpOp P ops Q i K a w) : wpOpIn (Fence.wide.inRound l) n P ops Q i K' a w := by
 unfold wpOp at h
 unfold wpOpIn
 split
 ·rename_i ho; simp only [ho] at h; exact hK _ _ h
 ·rename_i o ho
  simp only [ho] at h
  split
  ·rename_i hw
   simp only [hw, if_true] at h
   rcases h with h | ⟨_, h⟩
   rotate_left
   ·exact absurd h hno
   refine ⟨fun _ _ => trivial, ?_⟩
   show Oper.uponIn _ _ _ _ _ _ _ ((Oper.semAt (some l) a.eval o).run P w)
   rw [Oper.semAt_some l _ _ (hd _ _ ho)]
   unfold Oper.wp at h
   generalize (execOp a.eval o).run P w = r at *
   cases r with
   | ok x w' =>
    cases x <;> simp only [Oper.upon, Oper.uponIn] at h ⊢
    case value v => exact hK _ _ h
    case skip => exact hK _ _ h
    case defer d => exact hK _ _ h
    case enter f args => exact ⟨fun e => (by cases e), CallsIn.inRound l (callsIn_wide.2 (h.mono fun e w'' he => by cases e <;> first | exact hK _ _ he | exact he))⟩
    case row row args => exact ⟨fun e => (by cases e), rowsIn_wideX l (Rows.mono h fun v w'' he => hK _ _ he)⟩
   | halt x w' => cases x <;> simp only [Oper.upon, Oper.uponIn] at h ⊢; exact h
  ·rename_i hw
   simp only [hw] at h
   exact ⟨fun _ _ => trivial, hK _ _ h⟩
theorem oper_inRound {l n : Nat} {o : Oper} (hd : ∀ c, o.op ≠ Op.defer c) {K K' : Act → World → Prop} (hK : ∀ a w, K a w → K' a w) {a : Act} {w : World} (h : o.wp P a w K Q) : o.wpIn (Fence.wide.inRound l) n P a w K' Q := by
 refine ⟨fun _ _ => trivial, ?_⟩
 show Oper.uponIn _ _ _ _ _ _ _ ((Oper.semAt (some l) a.eval o).run P w)
 rw [Oper.semAt_some l _ _ hd]
 unfold Oper.wp at h
 generalize (execOp a.eval o).run P w = r at *
 cases r with
 | ok x w' =>
  cases x <;> simp only [Oper.upon, Oper.uponIn] at h ⊢
  case value v => exact hK _ _ h
  case skip => exact hK _ _ h
  case defer d => exact hK _ _ h
  case enter f args => exact ⟨fun e => (by cases e), CallsIn.inRound l (callsIn_wide.2 (h.mono fun e w'' he => by cases e <;> first | exact hK _ _ he | exact he))⟩
  case row row args => exact ⟨fun e => (by cases e), rowsIn_wideX l (Rows.mono h fun v w'' he => hK _ _ he)⟩
 | halt x w' => cases x <;> simp only [Oper.upon, Oper.uponIn] at h ⊢; exact h
theorem wpListIn_inRound {l n : Nat} (hno : ¬ LetsOut Q) : ∀ (os : List Oper), (os.all fun o => match o.op with | .defer _ => false | _ => true) = true → ∀ (a : Act) (w : World), wpList P ops Q os a w → wpListIn (Fence.wide.inRound l) n P ops Q os a w
 | [], _, _, _, h => h
 | o :: os, hd, a, w, h => by
  rw [List.all_cons, Bool.and_eq_true] at hd
  unfold wpList at h
  unfold wpListIn
  split
  ·rename_i hw
   simp only [hw, if_true] at h
   rcases h with h | ⟨_, h⟩
   ·exact oper_inRound (fun c e => by have := hd.1; rw [e] at this; cases this) (fun a w h' => wpListIn_inRound hno os hd.2 a w h') h
   ·exact absurd h hno
  ·rename_i hw
   simp only [hw] at h
   exact ⟨fun _ _ => trivial, wpListIn_inRound hno os hd.2 _ _ h⟩
theorem wpAny_inRound {l n : Nat} (hd : ∀ (i : Nat) (o : Oper), ops[i]? = some o → ∀ c, o.op ≠ Op.defer c) (hno : ¬ LetsOut Q) : ∀ (fuel : Nat) (listed : Array Bool) (a : Act) (w : World), wpAny P md ops Q fuel listed a w → wpAnyIn (Fence.wide.inRound l) n P md ops Q fuel listed a w
 | 0, _, _, _, h => h
 | fuel + 1, _, _, _, h => ⟨h.1, fun i hi => wpOp_inRound hd hno (fun a w h' => wpAny_inRound hd hno fuel _ a w h') (h.2 i hi)⟩
theorem startR_ {l m id n : Nat} {a : Act} {w : World} (ls : Array Bool) (hd : (ops.all fun o => match o.op with | .defer _ => false | _ => true) = true) (hno : ¬ LetsOut Q) (hm : P.follows .mixedOrders = true) (hn : ops.size = n) (hl : Array.replicate n false = ls) (hS : S w.drew)
  (h : S w.drew → wpAnyLast P .any ops Q S ds n ls a w.drew) : (Code.region id ops true).wpIn (Fence.wide.inRound l) m P Q a w := by
 subst hn
 subst hl
 refine wpIn_region_any hm (wpAny_inRound (fun i o ho c e => ?_) hno _ _ _ _ ?_)
 ·rw [Array.all_eq_true] at hd
  obtain ⟨hi, he⟩ := Array.getElem?_eq_some_iff.1 ho
  have := hd i hi
  rw [he, e] at this
  cases this
 ·exact wpAny_of_last _ _ _ _ (h hS)
end Go.Proofs.YtckkdaehmccjlaaDoor.P
namespace Go.Proofs.YtckkdaehmccjlaaDoor.P
open Go.RowKit Go.Proofs.YtckkdaehmccjlaaDoorW.PrintWords Go.Proofs.YtckkdaehmccjlaaDoorW.PrintLast Go.Proofs.YtckkdaehmccjlaaDoorW.PrintMore
attribute [local go_sem] Oper.semAt_some max2_int
set_option linter.unusedVariables false
set_option linter.unusedSimpArgs false
def grpF : Nat → Nat → List S60 → Option (List (Nat × Nat))
 | _, _, [] => some []
 | 0, _, _ :: _ => none
 | f + 1, off, c :: t => if (mx c.f1 1).toNat ≤ t.length + 1 then (grpF f (off + (mx c.f1 1).toNat) ((c :: t).drop (mx c.f1 1).toNat)).map ((off, (mx c.f1 1).toNat) :: ·) else none
def grpO (l : List S60) : Option (List (Nat × Nat)) := grpF l.length 0 l
theorem letters_calls (A : Option Addr) (n c : Nat) (w : World) :
  Calls Tryd.prog 45 #[.slice A n c] w fun e w' => e = .returned (.func (.func 68) #[] #[.pointer (some ⟨w.heap.size, 0, none⟩)]) ∧ w' = w.alloc (.cells #[.slice A n c] 36) := by
 go_enter Tryd.func45, Tryd.ntmps45
 go_wp2
 go_ret
 exact ⟨rfl, rfl⟩
set_option maxRecDepth 100000 in
set_option maxHeartbeats 4000000 in
theorem letters_iter (n : Nat) (hn : 1 ≤ n) (lp Bl c0 : Nat) (A : Option Addr) (l : List S60) (gs : List (Nat × Nat)) (w0 : World) (hgs : grpO l = some gs) (hcap : l.length ≤ c0) (hC : Kd.C k60 w0 A l.length l) (hlo : w0.heap.size ≤ Bl)
  (J : List (Nat × Nat) → World → Prop) (hJ : ∀ s W v, J s W → J s (W.setCell ⟨Bl, 0, none⟩ v))
  (hY : ∀ pre (x : Nat × Nat) rest W, J pre W → gs = pre ++ x :: rest → YieldAt Fence.wide (n - 1) Tryd.prog lp #[.slice (A.map (·.add (x.1 * 5))) x.2 (c0 - x.1)] W fun e W' =>
   e = .returned (.bool true) ∧ J (pre ++ [x]) W' ∧ Below w0.heap.size W W' ∧ W'.heap[Bl]? = W.heap[Bl]?)
  (W : World) (hB0 : Below w0.heap.size w0 W) (hBl : W.heap[Bl]? = some (.cells #[.slice A l.length c0] 36 (0, 0))) (h0 : J [] W) :
  CallsIn Fence.wide n Tryd.prog 68 #[.func (.yield lp) #[] #[], .pointer (some ⟨Bl, 0, none⟩)] W fun e W' => (∃ v, e = .returned v) ∧ J gs W' := by
 have hm : l.length ≤ 9223372036854775807 := Kd.C_max hC
 have HC := Aside0.mk hC
 have HB0 := Aside0.mk hB0
 have HBl := Aside0.mk hBl
 have HG := Aside0.mk hgs
 clear hC hB0 hBl hgs
 refine callsIn_of_wp Tryd.func68 rfl trivial ?_ rfl
 simp only [Tryd.ntmps68, List.size_toArray, List.length_cons, List.length_nil, Nat.reduceAdd, Nat.reduceSub, Array.replicate_succ, Array.replicate_zero, List.push_toArray, List.append_toArray, List.nil_append, List.cons_append]
 gi_wp2
 gi_loopg [] l.length (fun m wr => ∃ (off f : Nat) (A' : Option Addr) (pre post : List (Nat × Nat)), off + m = l.length ∧ Aside0 (gs = pre ++ post) ∧ Aside0 (grpF f off (l.drop off) = some post) ∧
   Aside0 (wr.heap[Bl]? = some (.cells #[.slice A' (l.length - off) (c0 - off)] 36 (0, 0))) ∧ Aside0 (off < l.length → A' = A.map (·.add (off * 5))) ∧ Aside0 (J pre wr) ∧ Aside0 (Below w0.heap.size w0 wr))
 case atStart => exact ⟨0, l.length, A, [], gs, by omega, ⟨rfl⟩, ⟨HG.out⟩, HBl, ⟨fun _ => by cases A <;> simp [Addr.add_zero']⟩, ⟨h0⟩, HB0⟩
 case round =>
  obtain ⟨off, f, A', pre, post, hoff, HP, HF, HX, HA, HJ, HB⟩ := hrel
  have hx := (blk_cell HX.out 0).trans rfl
  have hfz := blk_frozen HX.out 0
  by_cases hlt : off < l.length
  ·have hd : l.drop off = l[off] :: l.drop (off + 1) := List.drop_eq_getElem_cons hlt
   have hF := HF.out
   rw [hd] at hF
   cases f with
   | zero => cases hF
   | succ f =>
    unfold grpF at hF
    have hlen : (l.drop (off + 1)).length = l.length - (off + 1) := List.length_drop
    rw [hlen, ← hd, List.drop_drop] at hF
    obtain ⟨ad, e0, _, hx1, _⟩ := at_T60 (Kd.C_below HC.out HB.out) (off : Nat) (by omega) (by omega)
    subst e0
    simp only [Int.toNat_natCast] at hx1
    have hrd : rd_T60 l (off : Nat) = l[off] := by unfold rd_T60; simp [List.getD_eq_getElem?_getD, hlt]
    rw [hrd] at hx1
    have hA := HA.out hlt
    have hA2 : A' = some (ad.add (off * 5)) := hA
    subst hA2
    clear hA hrd
    generalize hw : l[off].f1 = wide at *
    have h1 : (1 : Int) ≤ mx wide 1 := by unfold mx; omega
    have hN : ((mx wide 1).toNat : Int) = mx wide 1 := Int.toNat_of_nonneg (by omega)
    generalize hn0 : (mx wide 1).toNat = N at *
    by_cases hle : N ≤ l.length - (off + 1) + 1
    ·rw [if_pos hle] at hF
     obtain ⟨post', hp', hpost⟩ := Option.map_eq_some_iff.1 hF
     subst hpost
     have hL0 : 0 < l.length - off := by omega
     have hNle : N ≤ l.length - off := by omega
     have hNcap : N ≤ c0 - off := by omega
     have hN1 : 1 ≤ N := by omega
     have HP2 := Aside0.mk hp'
     obtain ⟨fn, tmps, assign, body, hy, hR⟩ := hY pre (off, N) post' wr HJ.out HP.out
     simp only [Option.map_some] at hy
     have HY := Aside0.mk hy
     have HR := Aside0.mk hR
     clear hF hp' hd hlen hy hR hle
     have next : ∀ (W3 : World) (A3 : Option Addr), J (pre ++ [(off, N)]) W3 → Below w0.heap.size wr W3 → W3.heap[Bl]? = wr.heap[Bl]? → (off + N < l.length → A3 = some (ad.add ((off + N) * 5))) → ∀ (C : Nat) (Wn : World), C = c0 - off - N → Wn = W3.setCell ⟨Bl, 0, none⟩ (.slice A3 (l.length - off - N) C) →
       (∃ (off f : Nat) (A' : Option Addr) (pre post : List (Nat × Nat)), off + (gk - N) = l.length ∧ Aside0 (gs = pre ++ post) ∧ Aside0 (grpF f off (l.drop off) = some post) ∧
        Aside0 (Wn.heap[Bl]? = some (.cells #[.slice A' (l.length - off) (c0 - off)] 36 (0, 0))) ∧ Aside0 (off < l.length → A' = (some ad).map (·.add (off * 5))) ∧ Aside0 (J pre Wn) ∧ Aside0 (Below w0.heap.size w0 Wn)) := fun W3 A3 hJ3 hb3 hB3 hA3 C Wn hC hWn => by
      subst hWn
      subst hC
      refine ⟨off + N, f, A3, pre ++ [(off, N)], post', by omega, ⟨by rw [HP.out]; simp⟩, HP2, ⟨?_⟩, ⟨hA3⟩, ⟨hJ _ _ _ hJ3⟩, ⟨(HB.out.trans hb3).setCell (p := ⟨Bl, 0, none⟩) hlo _⟩⟩
      rw [← Nat.sub_sub, ← Nat.sub_sub]
      exact blk_put (cs := #[.slice (some (ad.add (off * 5))) (l.length - off) (c0 - off)]) (hB3.trans HX.out) 0 _ rfl
     have hgk : gk - N < gk := by omega
     generalize gk - N = q at next hgk
     have NX := Aside0.mk next
     clear next hoff
     generalize hcc : c0 - off = cc at *
     have hA3 : ∀ A3 : Option Addr, (A3 = some ((ad.add (off * 5)).add (N * 5)) ∨ N = cc) → off + N < l.length → A3 = some (ad.add ((off + N) * 5)) := fun A3 h hlt => by
      rcases h with rfl | h
      ·rw [Addr.add_add, ← Nat.add_mul]
      ·omega
     have HA3 := Aside0.mk hA3
     clear hA3 hcc
     have hwN : (1 ≤ wide ∧ wide = (N : Int)) ∨ (wide < 1 ∧ N = 1) := by unfold mx at hN; omega
     clear hN hn0 h1 hw
     by_cases hcN : N = cc <;> (first | subst hcN | skip) <;> rcases hwN with ⟨hw1, rfl⟩ | ⟨hw1, rfl⟩
     all_goals
      gi_wp2
      (first | simp only [show max (N : Int) 1 = N from by omega, Int.toNat_natCast] | simp only [show max wide 1 = 1 from by omega, Int.toNat_one] | skip)
      rw [HY.out]
      refine ⟨fun _ => hn, HR.out.mono ?_⟩
      rintro e W3 ⟨rfl, hJ3, hb3, hB3⟩
      have hx3 := (blk_cell (hB3.trans HX.out) 0).trans rfl
      have hfz3 := blk_frozen (hB3.trans HX.out) 0
      have HJ3 := Aside0.mk hJ3
      have HK3 := Aside0.mk hb3
      have HB3 := Aside0.mk hB3
      clear hJ3 hb3 hB3
      gi_wp2
      gi_roundg q
      case rel => exact NX.out W3 _ HJ3.out HK3.out HB3.out (HA3.out _ (by first | exact Or.inr rfl | exact Or.inr trivial | exact Or.inr (by assumption) | exact Or.inl rfl)) _ _ (by first | rfl | simp) rfl
      case measure => exact hgk
    ·rw [if_neg hle] at hF; cases hF
  ·have : post = [] := by
    have hF := HF.out
    rw [List.drop_of_length_le (by omega)] at hF
    cases f <;> exact (Option.some.inj hF).symm
   subst this
   have hz : l.length - off = 0 := by omega
   rw [hz] at hx
   gi_wp2
   go_end0
   have hP := HP.out
   rw [List.append_nil] at hP
   exact ⟨⟨_, rfl⟩, hP ▸ HJ.out⟩
end Go.Proofs.YtckkdaehmccjlaaDoor.P
namespace Go.Proofs.YtckkdaehmccjlaaDoor.P
open Go.RowKit Go.Proofs.YtckkdaehmccjlaaDoorW.PrintWords Go.Proofs.YtckkdaehmccjlaaDoorW.PrintLast Go.Proofs.YtckkdaehmccjlaaDoorW.PrintMore
set_option linter.unusedVariables false
set_option linter.unusedSimpArgs false
def blankC : S60 := ⟨⟨#[]⟩, 1, ⟨0, 0, 0⟩⟩
theorem none_f : flow_none.f = some (⟨#[]⟩, 1, 0, 0, 0) := by rfl
def fillL (now : List S60) (m : Nat) : List S60 := now ++ List.replicate (m - now.length) blankC
theorem reps_blanks (base : Nat) (w : World) (ok : Nat → Prop) : ∀ n, Reps (k60.M w base ok) 5 (List.replicate n blankC) (blanks n)
 | 0 => Reps.none _ _
 | n + 1 => by
  have h := Reps.snoc (reps_blanks base w ok n) (k60_mkM w base ok blankC) rfl
  rw [List.replicate_succ']
  rw [blanks_add]
  exact h
theorem cells_any {W W' : World} {base base' : Nat} {ok ok' : Nat → Prop} {xs : List S60} {cs : List Value} (h : Reps (k60.M W base ok) 5 xs cs) : Reps (k60.M W' base' ok') 5 xs cs :=
 h.imp_ (fun x c hp => by rw [k60_openM hp]; exact k60_mkM _ _ _ x)
theorem fillL_length {now : List S60} {m : Nat} (h : now.length ≤ m) : (fillL now m).length = m := by unfold fillL; rw [List.length_append, List.length_replicate]; omega
theorem filled_R {W W' : World} {base base' m : Nat} {ok : Nat → Prop} {now : List S60} {inner : List Value} {v : Value} (hr : Reps (k60.M W base ok) 5 now inner) (h : now.length ≤ m)
  (ho : W'.ownsRow base' 60 5 v (now.length + (m - now.length)) (inner ++ blanks (m - now.length))) : Kd.R k60 60 W' base' (fun _ => True) v (fillL now m) :=
 ⟨fun _ _ => trivial, inner ++ blanks (m - now.length), by rw [fillL_length h]; rw [show now.length + (m - now.length) = m by omega] at ho; exact ho, Kd.reps_append (cells_any hr) (reps_blanks _ _ _ _)⟩
set_option maxHeartbeats 4000000 in
set_option maxRecDepth 100000 in
theorem filled_calls (base m : Nat) (ok : Nat → Prop) (vn : Value) (now : List S60) (soft : Bool) (W : World) (hR : Kd.R k60 60 W base ok vn now) (hlen : now.length ≤ m) (hm1 : 1 ≤ m) (hm : m ≤ 1000000) :
  Calls Tryd.prog 72 #[vn, .int .i64 m, .bool soft] W fun e w' => ∃ (A' : Option Addr) (c' : Nat), e = .returned (.agg #[.slice A' m c', .bool soft]) ∧ m ≤ c' ∧ Kd.F k60 w' (fun k => some k = vn.ownBlock ∨ W.heap.size ≤ k) A' m (fillL now m) ∧ Below W.heap.size W w' := by
 obtain ⟨A, c, rfl⟩ := Kd.R_slice hR
 obtain ⟨_, hc, _⟩ := Kd.R_reads' hR
 have hmx : now.length ≤ 1000000 := Nat.le_trans hlen hm
 have hR2 := hR
 obtain ⟨h0, inner, ho, hr⟩ := hR
 have hinl : inner.length = now.length * 5 := ho.1
 have hcm : c ≤ 9223372036854775807 ∧ (A = none → now.length = 0 ∧ now.length = 0) ∧ (0 < now.length → ∃ b, A = some ⟨b, 0, none⟩) ∧ ∀ w', Below W.heap.size W w' → ∀ b, A = some b → ∀ j u, inner[j]? = some u → w'.cell? (b.add j) = some u := by
  rcases ho.2 with ⟨h1, h2⟩ | ⟨g, cap, cur, h1, hb, hg, h3, h4, h5, h6⟩
  ·injection h1 with a1 a2 a3
   subst a1
   exact ⟨by omega, fun _ => ⟨h2, h2⟩, fun h => by omega, fun _ _ b e => by cases e⟩
  ·injection h1 with a1 a2 a3
   subst a1
   subst a3
   refine ⟨by unfold maxLen at h4; exact h4, fun e => (by cases e), fun _ => ⟨g, rfl⟩, fun w' hw b e j u hj => ?_⟩
   cases e
   have hq := ho.cells (g := g) rfl j u hj
   exact (hw.cell (World.block_lt_of_cell? W _ hq)).trans hq
 obtain ⟨hcap, hnone, hsome, holds⟩ := hcm
 have HR := Aside0.mk hR2
 have HRR := Aside0.mk hr
 have HIN := Aside0.mk hinl
 have HNO := Aside0.mk hnone
 have HSO := Aside0.mk hsome
 have HHO := Aside0.mk holds
 have HLEN := Aside0.mk hlen
 have HM1 := Aside0.mk hm1
 have hmn : (m : Int) - (now.length : Int) = ((m - now.length : Nat) : Int) := by omega
 have HMN := Aside0.mk hmn
 obtain ⟨i0, hi0, hz0, hz1, hz2⟩ := info_parts Tryd.cellInfo
 have HI0 := Aside0.mk hi0
 have HZ0 := Aside0.mk hz0
 have HZ1 := Aside0.mk hz1
 have HZ2 := Aside0.mk hz2
 clear hR2 h0 ho hr hinl hnone hsome holds hmn hi0 hz0 hz1 hz2
 have hb1 : Below W.heap.size W (W.alloc (.cells #[.slice none 0 0, .bool false] 38)) := below_alloc (Below.refl _ _) _
 have hk1 := blk_new W (.cells #[.slice none 0 0, .bool false] 38)
 have HB1 := Aside0.mk hb1
 have HK1 := Aside0.mk hk1
 clear hb1 hk1
 by_cases hk : 0 < m - now.length
 ·go_enter Tryd.func72, Tryd.ntmps72
  go_wp2_with (first | (go_at_call 88; refine (clip_calls _ _ _ hc hcap _).mono ?_; rintro e w1 ⟨rfl, rfl⟩) | (go_at_call 67; refine (flow_none.calls _ _ _ _ _ _ none_f).mono ?_; rintro e w2 ⟨rfl, hb2⟩; have HB2 := Aside0.mk (below_step HB1.out hb2); have HK2 := Aside0.mk ((hb2.block _ (blk_lt HK1.out)).trans HK1.out); clear hb2) | (go_at_call 89; rw [HMN.out]; refine (repeat_calls w2.heap.size (m - now.length) (by omega) _ (blk_new w2 _)).mono ?_; rintro e w3 ⟨g, rfl, hg, hg3, hb3⟩; have HK3 := Aside0.mk ((hb3.block _ (blk_lt (blk_alloc HK2.out _))).trans (blk_alloc HK2.out _)); have HB3 := Aside0.mk (below_step (below_alloc HB2.out _) hb3); have HG3 := Aside0.mk hg3; clear hg3 hb3 hg) | (at_builtin; refine wpList_append_grows _ rfl (.tmp 8) (.tmp 15) 36 rfl 60 i0 _ 5 48 Tryd.underlying36 HI0.out HZ0.out HZ1.out HZ2.out rfl (by decide) A now.length now.length inner rfl HNO.out HIN.out (HHO.out _ HB3.out) ⟨g, 0, none⟩ (m - now.length) (m - now.length) (blanks (m - now.length)) rfl ((blanks_length _).trans (Nat.mul_comm _ _)) ?c1 (blanks_one _) (by omega) (by unfold maxLen; omega) (by omega) ?_; (case c1 => (intro j y hj; rw [Addr.add_lit, Nat.zero_add, blk_cell HG3.out]; simpa using hj)); intro v4 w4 hown hgr; have HR4 := Aside0.mk (filled_R HRR.out HLEN.out hown); obtain ⟨A4, c4, rfl⟩ := Kd.R_slice HR4.out; rw [fillL_length HLEN.out]; have HGR := Aside0.mk hgr; have hk4 := (hgr.block _ (blk_lt HK3.out) (fun e => by cases e)).trans HK3.out; have HK4 := Aside0.mk hk4; obtain ⟨hq0, hq1, hf0, hf1⟩ := zq2 (w := w4) HK4; clear hown hgr hk4))
  refine bodyPost_ret (v := .agg #[.slice A4 m c4, .bool soft]) (by simp [results, Tryd.results72, go_sem, hq0, hq1]) rfl ⟨A4, c4, rfl, ?_, ?_, ?_⟩
  ·have h := (Kd.R_reads' HR4.out).2.1
   rwa [fillL_length HLEN.out] at h
  ·have hb4 := Kd.R_base HR4.out
   have hlt3 := blk_lt HK3.out
   have hok : ∀ k, some k = (Value.slice A4 (fillL now m).length c4).ownBlock → k ≠ W.heap.size := fun k hk => by have := hb4 k hk.symm; omega
   have h5 := Kd.F_mono (ok' := fun k => some k = (Value.slice A now.length c).ownBlock ∨ W.heap.size ≤ k) (Kd.R_F (Kd.R_far (p := ⟨W.heap.size, 1, none⟩) (Kd.R_far (p := ⟨W.heap.size, 0, none⟩) (Kd.R_tight rfl HR4.out) hok (.slice A4 m c4)) hok (.bool soft))) (fun k hk => Or.inr (by have := hb4 k hk.symm; omega))
   rw [fillL_length HLEN.out] at h5
   exact h5
  ·exact ((HB3.out.grown HGR.out HB3.out.size (fun k e => by cases e)).setCell (p := ⟨W.heap.size, 0, none⟩) (Nat.le_refl _) _).setCell (p := ⟨W.heap.size, 1, none⟩) (Nat.le_refl _) _
 ·have hk0 : m = now.length := by omega
  obtain ⟨b, hb⟩ := HSO.out (by omega)
  subst hb
  subst hk0
  go_enter Tryd.func72, Tryd.ntmps72
  go_wp2_with (first | (go_at_call 88; refine (clip_calls _ _ _ hc hcap _).mono ?_; rintro e w1 ⟨rfl, rfl⟩) | (go_at_call 67; refine (flow_none.calls _ _ _ _ _ _ none_f).mono ?_; rintro e w2 ⟨rfl, hb2⟩; have HB2 := Aside0.mk (below_step HB1.out hb2); have HK2 := Aside0.mk ((hb2.block _ (blk_lt HK1.out)).trans HK1.out); clear hb2) | (go_at_call 89; refine (repeat_calls w2.heap.size 0 (by omega) _ (blk_new w2 _)).mono ?_; rintro e w3 ⟨g, rfl, hg, hg3, hb3⟩; have HK3 := Aside0.mk ((hb3.block _ (blk_lt (blk_alloc HK2.out _))).trans (blk_alloc HK2.out _)); have HB3 := Aside0.mk (below_step (below_alloc HB2.out _) hb3); have HG3 := Aside0.mk hg3; obtain ⟨hq0, hq1, hf0, hf1⟩ := zq2 (w := w3) HK3; clear hg3 hb3 hg) | (at_builtin; refine wpList_append_arg _ rfl (.tmp 8) (.tmp 15) 36 rfl 60 i0 _ 5 48 Tryd.underlying36 HI0.out HZ0.out HZ1.out HZ2.out rfl (by decide) b 0 now.length now.length inner rfl HIN.out ?c1 ⟨g, 0, none⟩ 0 0 [] rfl rfl (fun j y h => by cases h) (fun y h => by cases h) (fun _ j h => by cases h) (by unfold maxLen; omega) (by omega) (fun _ => ?_) (fun h => by omega); (case c1 => (intro j y hj; have hq := HHO.out _ HB3.out _ rfl j y hj; rwa [Addr.add_lit] at hq)); change wpList _ _ _ _ (Act.put _ _ _) w3))
  refine bodyPost_ret (v := .agg #[.slice (some ⟨b, 0, none⟩) now.length now.length, .bool soft]) (by simp [results, Tryd.results72, go_sem, hq0, hq1]) rfl ⟨some ⟨b, 0, none⟩, now.length, rfl, Nat.le_refl _, ?_, ?_⟩
  ·have hlt := Kd.R_lt HR.out
   have hok : ∀ k, some k = (Value.slice (some ⟨b, 0, none⟩) now.length c).ownBlock → k ≠ W.heap.size := fun k hk => by have := hlt k hk.symm; omega
   have hR3 := Kd.R_below (Kd.R_tight rfl HR.out) HB3.out
   have h5 := Kd.F_mono (ok' := fun k => some k = (Value.slice (some ⟨b, 0, none⟩) now.length c).ownBlock ∨ W.heap.size ≤ k) (Kd.R_F (Kd.R_far (p := ⟨W.heap.size, 1, none⟩) (Kd.R_far (p := ⟨W.heap.size, 0, none⟩) hR3 hok (.slice (some ⟨b, 0, none⟩) now.length now.length)) hok (.bool soft))) (fun k hk => Or.inl hk)
   have e : fillL now now.length = now := by unfold fillL; rw [Nat.sub_self]; simp
   rw [e]
   exact h5
  ·exact (HB3.out.setCell (p := ⟨W.heap.size, 0, none⟩) (Nat.le_refl _) _).setCell (p := ⟨W.heap.size, 1, none⟩) (Nat.le_refl _) _
end Go.Proofs.YtckkdaehmccjlaaDoor.P
namespace Go.Proofs.YtckkdaehmccjlaaDoor.P
open Go.RowKit
variable {F : Fence} {n : Nat} {P : Program} {w : World} {α : Type}
def goesOn (Kp : World → World → Prop) (R : World → Prop) (W : World) : Exit → Act → World → Prop
 | .normal, _, W' => KeepsOthers W W' ∧ Kp W W' ∧ R W'
 | _, _, _ => False
theorem below_alloc_two (w : World) (o o1 : Obj) : Below w.heap.size w ((w.alloc o).alloc o1) := ((Below.refl _ w).alloc (Nat.le_refl _) _).alloc (by simp) _
theorem ends_record {W : World} {l D : Nat} {rec : LoopState → Option Code → Loop} (hl : W.heap[l]? = some (.loop (rec .busy none))) (hk : W.heap[D]? = some (.deferred (some []))) (hne : D ≠ l) (hr : ∀ s p, { rec s p with state := .ready, pending := none } = rec .ready none) :
  (Instr.endRound l none).run P W = .ok (.bool true) (W.putObj l (.loop (rec .ready none))) ∧ (W.putObj l (.loop (rec .ready none))).heap[l]? = some (.loop (rec .ready none)) ∧ (W.putObj l (.loop (rec .ready none))).heap[D]? = some (.deferred (some [])) := by
 refine ⟨?_, World.putObj_heap_same (Array.getElem?_eq_some_iff.1 hl).1, (World.putObj_heap_other hne).trans hk⟩
 have h := run_endRound (P := P) none hl
 simpa [hr] using h
def Own2 (B : Nat) (I : List α → World → Prop) : Prop :=
 ∀ s W W' row, I s W → W.grownBy W' row → (∀ r, row = some r → (r = B ∨ r = B + 1) ∧ ∃ o : Obj, W.heap[r]? = some o ∧ o.isCells = false) → I s W'
theorem wpIn_rangeFunc_box {g : Operand} {ps : Array Tmp} {assign body : Code} {Q : Exit → Act → World → Prop} {a : Act}
  (hro : F.round = none) (h1 : 1 ≤ n) {gf : Nat} {lb : Array Value} (hg : a.eval g = .func (.func gf) #[] lb) (hFg : F.fn gf) (eg : ∀ args w, (callFunc gf args).run P w = .ok (.enter gf args) w)
  {encs : α → Array Value} {Kp : World → World → Prop} {Bl : Nat} {xs : List α}
  (hseq : ∀ (l : Nat) (J : List α → World → Prop) (W : World), Below w.heap.size w W → (∀ s W v, J s W → J s (W.setCell ⟨Bl, 0, none⟩ v)) →
   (∀ pre x rest W1, J pre W1 → xs = pre ++ x :: rest → YieldAt F (n - 1 - 1) P l (encs x) W1 fun e W' => e = .returned (.bool true) ∧ J (pre ++ [x]) W' ∧ Kp W1 W') → J [] W →
   CallsIn F (n - 1) P gf (#[.func (.yield l) #[] #[]] ++ lb) W fun e W' => (∃ v, e = .returned v) ∧ J xs W')
  (hKt : ∀ {A B C : World}, Kp A B → Kp B C → Kp A C) (hKb : ∀ (W : World) (l : Nat) (o o' : Obj), w.heap.size ≤ l → W.heap[l]? = some o → o.isCells = false → Kp W (W.putObj l o')) (hBl : Bl < w.heap.size) (hps : ∀ x, (encs x).size = ps.size)
  (I : List α → World → Prop) (hI : Own2 w.heap.size I) (hIs : ∀ s W v, I s W → I s (W.setCell ⟨Bl, 0, none⟩ v)) (h0 : I [] w) (a₁ : α → Act)
  (hassign : ∀ (l : Nat) (x : α) (W : World) (K : Act → World → Prop), K (a₁ x) W →
   assign.wpIn (F.inRound l) (n - 1 - 1) P (Exit.then K (fun _ _ _ => False)) { tmps := (ps.zip (encs x)).foldl (fun t (p, v) => t.setIfInBounds p v) a.tmps, defers := [] } W)
  (hbody : ∀ (l : Nat) (pre : List α) (x : α) (rest : List α) (W : World), xs = pre ++ x :: rest → w.heap.size + 2 ≤ W.heap.size → I pre W → body.wpIn (F.inRound l) (n - 1 - 1) P (goesOn Kp (I (pre ++ [x])) W) (a₁ x) W)
  (hdone : ∀ (D : Nat) (W : World), D = w.heap.size → w.heap.size + 2 ≤ W.heap.size → I xs W → W.heap[D]? = some (.deferred (some [])) → Q .normal { a with defers := { target := .collected D, args := #[] } :: a.defers } W) :
  (Code.rangeFunc g ps assign body).wpIn F n P Q a w := by
 refine wpIn_rangeFunc ?_
 intro fn hfn
 rw [hro]
 obtain ⟨rec, hrec⟩ : ∃ rec : LoopState → Option Code → Loop, rec = fun st pe => { state := st, pending := pe, fn, tmps := a.tmps, params := ps, assign, body, defers := w.heap.size } := ⟨_, rfl⟩
 have hset : ∀ s p, { rec s p with state := .ready, pending := none } = rec .ready none := by subst hrec; intro s p; rfl
 obtain ⟨W1, hW1⟩ : ∃ W1, (w.alloc (.deferred (some []))).alloc (.loop (rec .ready none)) = W1 := ⟨_, rfl⟩
 have hL1 : W1.heap[w.heap.size + 1]? = some (.loop (rec .ready none)) := by
  have := World.alloc_heap_new (w.alloc (.deferred (some []))) (.loop (rec .ready none)); rw [World.size_alloc] at this; rw [← hW1]; exact this
 have hK1 : W1.heap[w.heap.size]? = some (.deferred (some [])) := by
  rw [← hW1]; exact (Below.heap_alloc _ _ _ (by simp)).trans (World.alloc_heap_new w _)
 refine ⟨w.heap.size + 1, [{ target := .collected w.heap.size, args := #[] }], W1, { target := .fn (.func gf) lb, args := #[.func (.yield (w.heap.size + 1)) #[] #[]] }, W1, gf,
  #[.func (.yield (w.heap.size + 1)) #[] #[]] ++ lb, W1, by rw [← hW1, hrec]; exact run_enterLoop_outer _ _ _ _ _, by simp only [resolve, hg]; simp [go_sem], fun f' hf' => by simp [Target.leads] at hf'; subst hf'; exact hFg, by simp [invoke, go_sem, eg], fun _ => h1, ?_⟩
 refine (hseq (w.heap.size + 1) (fun pre W => I pre W ∧ W.heap[w.heap.size + 1]? = some (.loop (rec .ready none)) ∧ W.heap[w.heap.size]? = some (.deferred (some []))) W1
  (by rw [← hW1]; exact below_alloc_two w _ _)
  (fun s W v h => ⟨hIs s W v h.1, (Below.heap_setCell _ _ _ _ (by show w.heap.size + 1 ≠ Bl; omega)).trans h.2.1, (Below.heap_setCell _ _ _ _ (by show w.heap.size ≠ Bl; omega)).trans h.2.2⟩)
  ?_ ⟨by rw [← hW1]; exact hI _ _ _ none (hI _ _ _ none h0 (World.grownBy_alloc _ _ none) (fun r e => by cases e)) (World.grownBy_alloc _ _ none) (fun r e => by cases e), hL1, hK1⟩).mono ?_
 ·rintro pre x rest W ⟨hi, hl, hk⟩ hx
  have hlt : w.heap.size + 1 < W.heap.size := (Array.getElem?_eq_some_iff.1 hl).1
  have hy := run_yield (P := P) (args := encs x) hl (by rw [hrec]; exact hps x)
  have hb := run_beginRound (P := P) hl (by rw [hrec])
  rw [hrec] at hy
  refine ⟨fn, _, assign, body, hy, roundIn_of_wpIn hfn (hassign _ x W _ ⟨_, hb, ?_⟩)⟩
  have hl2 : (W.putObj (w.heap.size + 1) (.loop { rec .ready none with state := .busy })).heap[w.heap.size + 1]? = some (.loop { rec .ready none with state := .busy }) := World.putObj_heap_same hlt
  have hk2 : (W.putObj (w.heap.size + 1) (.loop { rec .ready none with state := .busy })).heap[w.heap.size]? = some (.deferred (some [])) := (World.putObj_heap_other (by omega)).trans hk
  have hw2 : Kp W (W.putObj (w.heap.size + 1) (.loop { rec .ready none with state := .busy })) := hKb _ _ _ _ (by omega) hl rfl
  refine wpIn_mono (hbody _ pre x rest _ hx (by show _ ≤ (W.heap.setIfInBounds _ _).size; rw [Array.size_setIfInBounds]; omega) (hI _ _ _ _ hi (grownBy_putObj' _ _ _) (fun r e => by cases e; exact ⟨Or.inr rfl, _, hl, rfl⟩))) ?_
  rintro e a3 W3 hp
  cases e with
  | normal =>
   obtain ⟨hk3, hkp3, hi3⟩ := hp
   have hl3 := hk3.same _ _ hl2 rfl
   have hd3 := hk3.same _ _ hk2 rfl
   obtain ⟨hr, hl4, hk4⟩ := ends_record (P := P) (rec := rec) (l := w.heap.size + 1) (D := w.heap.size) (W := W3) (by subst hrec; exact hl3) hd3 (by omega) hset
   exact ⟨_, _, hr, rfl, ⟨hI _ _ _ _ hi3 (grownBy_putObj' _ _ _) (fun r e => by cases e; exact ⟨Or.inr rfl, _, hl3, rfl⟩), hl4, hk4⟩, hKt (hKt hw2 hkp3) (hKb _ _ _ _ (by omega) hl3 rfl)⟩
  | _ => exact hp.elim
 ·rintro e W2 ⟨⟨v, rfl⟩, hi, hl, hk⟩
  exact ⟨none, _, by have := run_endLoop (P := P) hl (by rw [hrec]; simp); rw [hrec] at this; exact this, hdone _ _ rfl (by show _ ≤ (W2.heap.setIfInBounds _ _).size; rw [Array.size_setIfInBounds]; have := (Array.getElem?_eq_some_iff.1 hl).1; omega) (hI _ _ _ _ hi (grownBy_putObj' _ _ _) (fun r e => by cases e; exact ⟨Or.inr rfl, _, hl, rfl⟩)) ((World.putObj_heap_other (by omega)).trans hk)⟩
end Go.Proofs.YtckkdaehmccjlaaDoor.P
namespace Go.Proofs
open Go.Shelf
def Tryd.laysB_ren : Go.Shelf.Ren := ⟨fun | 166 => 46 | 167 => 47 | 240 => 69 | 276 => 82 | n => n, fun | 0 => 0 | 3 => 3 | 4 => 4 | 5 => 5 | 9 => 9 | 20 => 20 | 37 => 75 | 72 => 77 | 70 => 74 | 75 => 82 | 76 => 83 | 164 => 114 | 80 => 86 | n => n, fun | n => n⟩
theorem Tryd.laysB166 : Go.Proofs.Lays.n166 Tryd.prog Tryd.laysB_ren := {
 mixed := by kernel_rfl
 f166 := Tryd.func46.trans (congrArg some (by kernel_rfl))
 f240 := Tryd.func69.trans (congrArg some (by kernel_rfl))
 f276 := Tryd.func82.trans (congrArg some (by kernel_rfl))
 t0 := Tryd.underlying0
 a0 := Tryd.isAgg0
 z0 := Tryd.sizeOf0
 v0 := Tryd.zeroValue0
 t3 := Tryd.underlying3
 a3 := Tryd.isAgg3
 z3 := Tryd.sizeOf3
 v3 := Tryd.zeroValue3
 t4 := Tryd.underlying4
 a4 := Tryd.isAgg4
 z4 := Tryd.sizeOf4
 v4 := Tryd.zeroValue4
 t9 := Tryd.underlying9
 a9 := Tryd.isAgg9
 z9 := Tryd.sizeOf9
 v9 := Tryd.zeroValue9
 t20 := Tryd.underlying20
 a20 := Tryd.isAgg20
 z20 := Tryd.sizeOf20
 v20 := Tryd.zeroValue20
 t37 := Tryd.underlying75
 a37 := Tryd.isAgg75
 z37 := Tryd.sizeOf75
 v37 := Tryd.zeroValue75
 t70 := Tryd.underlying74
 a70 := Tryd.isAgg74
 z70 := Tryd.sizeOf74
 v70 := Tryd.zeroValue74
 t72 := Tryd.underlying77
 a72 := Tryd.isAgg77
 z72 := Tryd.sizeOf77
 v72 := Tryd.zeroValue77
 t75 := Tryd.underlying82
 a75 := Tryd.isAgg82
 z75 := Tryd.sizeOf82
 v75 := Tryd.zeroValue82
 t164 := Tryd.underlying114
 a164 := Tryd.isAgg114
 z164 := Tryd.sizeOf114
 v164 := Tryd.zeroValue114 }
theorem Tryd.laysB167 : Go.Proofs.Lays.n167 Tryd.prog Tryd.laysB_ren := {
 mixed := by kernel_rfl
 f167 := Tryd.func47.trans (congrArg some (by kernel_rfl))
 f240 := Tryd.func69.trans (congrArg some (by kernel_rfl))
 f276 := Tryd.func82.trans (congrArg some (by kernel_rfl))
 t0 := Tryd.underlying0
 a0 := Tryd.isAgg0
 z0 := Tryd.sizeOf0
 v0 := Tryd.zeroValue0
 t4 := Tryd.underlying4
 a4 := Tryd.isAgg4
 z4 := Tryd.sizeOf4
 v4 := Tryd.zeroValue4
 t5 := Tryd.underlying5
 a5 := Tryd.isAgg5
 z5 := Tryd.sizeOf5
 v5 := Tryd.zeroValue5
 t9 := Tryd.underlying9
 a9 := Tryd.isAgg9
 z9 := Tryd.sizeOf9
 v9 := Tryd.zeroValue9
 t20 := Tryd.underlying20
 a20 := Tryd.isAgg20
 z20 := Tryd.sizeOf20
 v20 := Tryd.zeroValue20
 t37 := Tryd.underlying75
 a37 := Tryd.isAgg75
 z37 := Tryd.sizeOf75
 v37 := Tryd.zeroValue75
 t70 := Tryd.underlying74
 a70 := Tryd.isAgg74
 z70 := Tryd.sizeOf74
 v70 := Tryd.zeroValue74
 t72 := Tryd.underlying77
 a72 := Tryd.isAgg77
 z72 := Tryd.sizeOf77
 v72 := Tryd.zeroValue77
 t75 := Tryd.underlying82
 a75 := Tryd.isAgg82
 z75 := Tryd.sizeOf82
 v75 := Tryd.zeroValue82
 t164 := Tryd.underlying114
 a164 := Tryd.isAgg114
 z164 := Tryd.sizeOf114
 v164 := Tryd.zeroValue114 }
theorem Tryd.Builder_ExtraB : Builder.Extra Tryd.prog Tryd.laysB_ren := {
 sizeBuilder := by kernel_rfl
 liesBuilder := by kernel_rfl
 t5 := Tryd.underlying5
 a5 := Tryd.isAgg5
 z5 := Tryd.sizeOf5
 v5 := Tryd.zeroValue5
 infoByte := by kernel_rfl
 cellsByte := by kernel_rfl
 sizeByte := by kernel_rfl
 neB5 := by decide }
open Go.RowKit in
theorem Tryd.bWriteString (B b : Nat) (bs : List Value) (s : ByteArray) (w : World) (h : Lib.IsBuilderF 77 5 B b bs w) (hlen : bs.length + s.size ≤ 140737488355328) (hBw : B ≤ w.heap.size) :
  Calls Tryd.prog 46 #[.pointer (some ⟨b, 0, none⟩), .string s] w fun e w' => e = .returned (.tuple #[.int .i64 s.size, .nilIface]) ∧ (Lib.BuilderAtF 77 5 B b (.pointer (some ⟨b, 0, none⟩)) (bs ++ Lib.strCells s) w' ∧ Below B w w' ∧ Lib.OthersKept 5 (some b) w w') := Any.Builder_WriteString_k Tryd.laysB166 Tryd.Builder_ExtraB B b bs s w h hlen hBw
open Go.RowKit in
theorem Tryd.bWriteByte (B b : Nat) (bs : List Value) (c : Int) (w : World) (h : Lib.IsBuilderF 77 5 B b bs w) (hlen : bs.length + 1 ≤ 140737488355328) (hBw : B ≤ w.heap.size) :
  Calls Tryd.prog 47 #[.pointer (some ⟨b, 0, none⟩), .int .u8 c] w fun e w' => e = .returned .nilIface ∧ (Lib.BuilderAtF 77 5 B b (.pointer (some ⟨b, 0, none⟩)) (bs ++ [.int .u8 c]) w' ∧ Below B w w' ∧ Lib.OthersKept 5 (some b) w w') := Any.Builder_WriteByte_k Tryd.laysB167 Tryd.Builder_ExtraB B b bs c w h hlen hBw
end Go.Proofs
namespace Go.Lib
open Go.RowKit
theorem BuilderAtF.belowX {T e : TypeId} {B b : Nat} {p : Value} {bs : List Value} {W W' : World} (h : BuilderAtF T e B b p bs W) (hb : Below W.heap.size W W') : BuilderAtF T e B b p bs W' := by
 have hlt := h.lt
 obtain ⟨hB, v, hv, hown, hne⟩ := h
 exact ⟨hB, v, (hb.block b hlt).trans hv, hown.kept (row := none) ⟨hb.os, hb.tape, hb.output, hb.size, fun k hk _ => hb.block k hk⟩ (Classical.em _), hne⟩
theorem IsBuilderF.belowX {T e : TypeId} {B b : Nat} {bs : List Value} {W W' : World} (h : IsBuilderF T e B b bs W) (hb : Below W.heap.size W W') : IsBuilderF T e B b bs W' :=
 h.elim (fun x => .inl (x.belowX hb)) (fun x => .inr (x.belowX hb))
theorem IsBuilderF.usedX {T e : TypeId} {B b : Nat} {bs : List Value} {W : World} (h : BuilderAtF T e B b (.pointer (some ⟨b, 0, none⟩)) bs W) : IsBuilderF T e B b bs W := Or.inr h
theorem IsBuilderF.ltX {T e : TypeId} {B b : Nat} {bs : List Value} {W : World} (h : IsBuilderF T e B b bs W) : b < W.heap.size := h.elim (fun x => x.lt) (fun x => x.lt)
end Go.Lib
namespace Go.Proofs.YtckkdaehmccjlaaDoor.P
open Go.RowKit Go.Proofs.YtckkdaehmccjlaaDoorW.PrintWords Go.Proofs.YtckkdaehmccjlaaDoorW.PrintLast Go.Proofs.YtckkdaehmccjlaaDoorW.PrintMore
set_option linter.unusedVariables false
set_option linter.unusedSimpArgs false
def sayC (c : S60) : List UInt8 := c.f0.data.toList ++ (if c.f0.toList = ([] : List UInt8) then if c.f1 = 1 then [32] else [] else [])
def sayL : List S60 → List UInt8
 | [] => []
 | c :: t => sayC c ++ sayL t
theorem sayL_append : ∀ a b, sayL (a ++ b) = sayL a ++ sayL b
 | [], b => rfl
 | c :: t, b => by simp [sayL, sayL_append t b]
def find_say.f (l0 : List S60) : Option ByteArray := if (sayL l0).length ≤ 140737488355328 then some ⟨(sayL l0).toArray⟩ else none
set_option maxHeartbeats 4000000 in
set_option maxRecDepth 100000 in
theorem find_say.calls (A0 : Option Addr) (c0 : Nat) (l0 : List S60) (r : ByteArray) (w : World) (hr0 : Kd.C k60 w A0 l0.length l0) (hc0 : l0.length ≤ c0) (h : find_say.f l0 = some r) :
  Calls Tryd.prog 42 #[.slice A0 l0.length c0] w fun e w' => e = .returned (.string r) ∧ Below w.heap.size w w' := by
 unfold find_say.f at h
 by_cases hlen : (sayL l0).length ≤ 140737488355328
 rotate_left
 ·rw [if_neg hlen] at h; cases h
 rw [if_pos hlen] at h
 obtain rfl := Option.some.inj h
 clear h
 have HR0 := Aside0.mk hr0
 have HC0 := Aside0.mk hc0
 have HL0 := Aside0.mk hlen
 have hm : l0.length ≤ 9223372036854775807 := Kd.C_max hr0
 clear hr0 hc0 hlen
 go_enter Tryd.func42, Tryd.ntmps42
 go_wp2
 go_loopw [8] (fun i wr => ∃ j : Nat, j ≤ l0.length ∧ i = .int .i64 j ∧ Aside0 (Lib.IsBuilderF 77 5 w.heap.size w.heap.size (Lib.byteCells (sayL (l0.take j))) wr) ∧ Aside0 (Below w.heap.size w wr)) (fun i _ => l0.length - (intOf i).toNat)
 case atStart => exact ⟨0, Nat.zero_le _, rfl, ⟨Lib.IsBuilderF.of (Lib.fresh_isBuilder _ _ w)⟩, ⟨below_alloc (Below.refl _ _) _⟩⟩
 case round =>
  obtain ⟨j, hj, rfl, HI, HB⟩ := hrel
  by_cases hlt : j < l0.length
  ·obtain ⟨ad, e0, hx0, hx1, hx2, hx3, hx4⟩ := at_T60 HR0.out j (by omega) (by omega)
   cases e0
   replace hx0 := zc HB hx0
   replace hx1 := zc HB hx1
   replace hx2 := zc HB hx2
   replace hx3 := zc HB hx3
   replace hx4 := zc HB hx4
   simp only [Int.toNat_natCast] at hx0 hx1 hx2 hx3 hx4
   have HT : Aside0 (l0.take (j + 1) = l0.take j ++ [rd_T60 l0 j]) := ⟨by
    have e : rd_T60 l0 j = l0[j] := by unfold rd_T60; simp [List.getD_eq_getElem?_getD, hlt]
    rw [e, List.take_succ_eq_append_getElem hlt]⟩
   have HS : Aside0 ((sayL (l0.take j)).length + (sayC (rd_T60 l0 j)).length ≤ 140737488355328) := ⟨by
    have e := congrArg (fun x => (sayL x).length) (List.take_append_drop (j + 1) l0)
    simp only [HT.out, sayL_append, List.length_append, sayL, List.append_nil] at e
    have := HL0.out
    omega⟩
   have HSx : Aside0 ((sayL (l0.take j)).length + (rd_T60 l0 j).f0.size ≤ 140737488355328) := ⟨by
    have e : (rd_T60 l0 j).f0.data.toList.length ≤ (sayC (rd_T60 l0 j)).length := by unfold sayC; rw [List.length_append]; omega
    have := HS.out
    have : (rd_T60 l0 j).f0.size = (rd_T60 l0 j).f0.data.toList.length := rfl
    omega⟩
   have hsz := HB.out.size
   have hlb : w.heap.size < wr.heap.size := Lib.IsBuilderF.ltX HI.out
   have cW : ∀ W : World, Below wr.heap.size wr W → Calls Tryd.prog 46 #[.pointer (some ⟨w.heap.size, 0, none⟩), .string (rd_T60 l0 j).f0] W fun e w' => e = .returned (.tuple #[.int .i64 (rd_T60 l0 j).f0.size, .nilIface]) ∧ (Lib.BuilderAtF 77 5 w.heap.size w.heap.size (.pointer (some ⟨w.heap.size, 0, none⟩)) (Lib.byteCells (sayL (l0.take j)) ++ Lib.strCells (rd_T60 l0 j).f0) w' ∧ Below w.heap.size W w' ∧ Lib.OthersKept 5 (some w.heap.size) W w') := fun W hW =>
    Tryd.bWriteString _ _ _ _ _ (Lib.IsBuilderF.belowX HI.out hW) (by rw [Lib.byteCells_length]; exact HSx.out) (Nat.le_trans hsz hW.size)
   have CW := Aside0.mk cW
   clear cW
   by_cases hE : (rd_T60 l0 j).f0.toList = ([] : List UInt8)
   ·have e1 : ((rd_T60 l0 j).f0.toList == ([] : List UInt8)) = true := beq_iff_eq.mpr hE
    by_cases hO : (rd_T60 l0 j).f1 = 1
    ·have e2 : ((rd_T60 l0 j).f1 == 1) = true := beq_iff_eq.mpr hO
     have hsy : sayC (rd_T60 l0 j) = (rd_T60 l0 j).f0.data.toList ++ [32] := by unfold sayC; rw [if_pos hE, if_pos hO]
     have HSY := Aside0.mk hsy
     have HS2 : Aside0 ((sayL (l0.take j)).length + (rd_T60 l0 j).f0.size + 1 ≤ 140737488355328) := ⟨by
      have := HS.out
      rw [hsy, List.length_append] at this
      have : (rd_T60 l0 j).f0.size = (rd_T60 l0 j).f0.data.toList.length := rfl
      simp only [List.length_cons, List.length_nil] at *
      omega⟩
     clear hE hO hsy
     go_wp2_with (first | (go_at_call 46; (with_reducible refine (CW.out _ (below_alloc (Below.refl _ _) _)).mono ?_); rintro e w1 ⟨rfl, hat, hb1, hk1⟩; have hcb := (hk1 wr.heap.size _ (blk_new wr _) (by intro e; have := Option.some.inj e; omega) (by intro c fz e; cases e)); have hc0 := (blk_cell hcb 0).trans rfl; have hc1 := (blk_cell hcb 1).trans rfl; have HAT := Aside0.mk hat; have HB1 := Aside0.mk hb1; have HCB := Aside0.mk hcb; clear hat hb1 hk1 hcb) | (go_at_call 47; (with_reducible refine (Tryd.bWriteByte _ _ _ 32 _ (Lib.IsBuilderF.usedX HAT.out) ?b1 ?b2).mono ?_); (case b1 => rw [List.length_append, Lib.byteCells_length, Lib.strCells_length]; exact HS2.out); (case b2 => exact Nat.le_trans (by rw [World.size_alloc]; omega) HB1.out.size); rintro e w2 ⟨rfl, hat2, hb2, -⟩; have HAT2 := Aside0.mk hat2; have HB2 := Aside0.mk hb2; clear hat2 hb2))
     go_roundw
     case rel => exact ⟨j + 1, by omega, by go_num, ⟨by rw [HT.out, sayL_append]; simp only [sayL, List.append_nil, HSY.out]; rw [Lib.byteCells_append, Lib.byteCells_append, ← List.append_assoc]; exact Or.inr HAT2.out⟩, ⟨(below_alloc HB.out _).trans (HB1.out.trans HB2.out)⟩⟩
     case measure => simp [intOf]; omega
    ·have e2 : ((rd_T60 l0 j).f1 == 1) = false := beq_eq_false_iff_ne.mpr hO
     have HSY : Aside0 (sayC (rd_T60 l0 j) = (rd_T60 l0 j).f0.data.toList) := ⟨by unfold sayC; rw [if_pos hE, if_neg hO, List.append_nil]⟩
     clear hE hO
     go_wp2_with (go_at_call 46; (with_reducible refine (CW.out _ (below_alloc (Below.refl _ _) _)).mono ?_); rintro e w1 ⟨rfl, hat, hb1, hk1⟩; have hcb := (hk1 wr.heap.size _ (blk_new wr _) (by intro e; have := Option.some.inj e; omega) (by intro c fz e; cases e)); have hc0 := (blk_cell hcb 0).trans rfl; have hc1 := (blk_cell hcb 1).trans rfl; have HAT := Aside0.mk hat; have HB1 := Aside0.mk hb1; have HCB := Aside0.mk hcb; clear hat hb1 hk1 hcb)
     go_roundw
     case rel => exact ⟨j + 1, by omega, by go_num, ⟨by rw [HT.out, sayL_append]; simp only [sayL, List.append_nil, HSY.out]; rw [Lib.byteCells_append]; exact Or.inr HAT.out⟩, ⟨(below_alloc HB.out _).trans HB1.out⟩⟩
     case measure => simp [intOf]; omega
   ·have e1 : ((rd_T60 l0 j).f0.toList == ([] : List UInt8)) = false := beq_eq_false_iff_ne.mpr hE
    have HSY : Aside0 (sayC (rd_T60 l0 j) = (rd_T60 l0 j).f0.data.toList) := ⟨by unfold sayC; rw [if_neg hE, List.append_nil]⟩
    clear hE
    go_wp2_with (go_at_call 46; (with_reducible refine (CW.out _ (below_alloc (Below.refl _ _) _)).mono ?_); rintro e w1 ⟨rfl, hat, hb1, hk1⟩; have hcb := (hk1 wr.heap.size _ (blk_new wr _) (by intro e; have := Option.some.inj e; omega) (by intro c fz e; cases e)); have hc0 := (blk_cell hcb 0).trans rfl; have hc1 := (blk_cell hcb 1).trans rfl; have HAT := Aside0.mk hat; have HB1 := Aside0.mk hb1; have HCB := Aside0.mk hcb; clear hat hb1 hk1 hcb)
    go_roundw
    case rel => exact ⟨j + 1, by omega, by go_num, ⟨by rw [HT.out, sayL_append]; simp only [sayL, List.append_nil, HSY.out]; rw [Lib.byteCells_append]; exact Or.inr HAT.out⟩, ⟨(below_alloc HB.out _).trans HB1.out⟩⟩
    case measure => simp [intOf]; omega
  ·rw [List.take_of_length_le (by omega)] at HI
   go_wp2_with (go_at_call 48; refine (Tryd.Builder_String_any_k _ _ _ _ HI.out HB.out.size).mono ?_; rintro e w1 ⟨rfl, -, hb, -⟩)
   go_ret
   exact ⟨rfl, HB.out.trans hb⟩
end Go.Proofs.YtckkdaehmccjlaaDoor.P
namespace Go.Proofs.YtckkdaehmccjlaaDoor.P
open Go.RowKit Go.Proofs.YtckkdaehmccjlaaDoorW.PrintWords Go.Proofs.YtckkdaehmccjlaaDoorW.PrintLast Go.Proofs.YtckkdaehmccjlaaDoorW.PrintMore
attribute [local go_sem] Oper.semAt_some
set_option linter.unusedVariables false
set_option linter.unusedSimpArgs false
def letT (s : ByteArray) : List UInt8 := s.data.toList ++ (if s.toList = ([] : List UInt8) then [32] else [])
def letC (c : S60) : List UInt8 := letT c.f0
def letG (l : List S60) (gs : List (Nat × Nat)) : List UInt8 := gs.flatMap fun g => letC (rd_T60 l (g.1 : Nat))
def rowO (l : List S60) : Option ByteArray := (grpO l).bind fun gs => if (letG l gs).length ≤ 140737488355328 then some ⟨(letG l gs).toArray⟩ else none
def rowsO : List (List S60) → Option (List ByteArray)
 | [] => some []
 | r :: t => (rowO r).bind fun s => (rowsO t).bind fun u => some (s :: u)
def flow_Letters.f (k : Nat) (l0 : List S38) : Option (List ByteArray × Int) :=
 (flow_Join.f k l0).bind fun b => if b.2 = 0 then if b.1.length ≤ 1000000000000 then (rowsO b.1).bind fun u => some (u, 0) else none else some ([], b.2)
theorem rowsO_at : ∀ {rs : List (List S60)} {u}, rowsO rs = some u → u.length = rs.length ∧ ∀ (i : Nat) (h : i < rs.length), ∃ s, rowO rs[i] = some s ∧ u.take (i + 1) = u.take i ++ [s]
 | [], u, h => by cases h; exact ⟨rfl, fun i h => by cases h⟩
 | r :: t, u, h => by
  unfold rowsO at h
  obtain ⟨s, hs, h⟩ := Option.bind_eq_some_iff.1 h
  obtain ⟨v, hv, h⟩ := Option.bind_eq_some_iff.1 h
  cases h
  obtain ⟨h1, h2⟩ := rowsO_at hv
  refine ⟨by simp [h1], fun i hi => ?_⟩
  cases i with
  | zero => exact ⟨s, hs, by simp⟩
  | succ i =>
   obtain ⟨s', hs', ht⟩ := h2 i (by simpa using hi)
   exact ⟨s', hs', by simp [List.take_succ_cons, ht]⟩
def Marks (B : Nat) : List Deferred → World → Prop
 | [], _ => True
 | d :: ds, w => (∃ D, B ≤ D ∧ d = { target := .collected D, args := #[] } ∧ w.heap[D]? = some (.deferred (some [])) ∧ ∀ d' ∈ ds, ∃ D', d' = { target := .collected D', args := #[] } ∧ D' < D) ∧ Marks B ds w
theorem Marks.keep {B : Nat} {w w' : World} (hk : ∀ D, B ≤ D → w.heap[D]? = some (.deferred (some [])) → w'.heap[D]? = some (.deferred (some []))) : ∀ {ds : List Deferred}, Marks B ds w → Marks B ds w'
 | [], _ => trivial
 | _ :: _, ⟨⟨D, h1, h2, h3, h4⟩, h5⟩ => ⟨⟨D, h1, h2, hk D h1 h3, h4⟩, Marks.keep hk h5⟩
theorem Marks.below {B : Nat} {w w' : World} {ds : List Deferred} (h : Marks B ds w) (hb : Below w.heap.size w w') : Marks B ds w' := h.keep fun D _ hD => (hb.block D (Array.getElem?_eq_some_iff.1 hD).1).trans hD
theorem Marks.lt {B : Nat} {w : World} : ∀ {ds : List Deferred}, Marks B ds w → ∀ d ∈ ds, ∃ D, d = { target := .collected D, args := #[] } ∧ D < w.heap.size
 | [], _, _, hd => by cases hd
 | _ :: _, ⟨⟨D, h1, h2, h3, h4⟩, h5⟩, d, hd => by
  rcases List.mem_cons.1 hd with rfl | hd
  ·exact ⟨D, h2, (Array.getElem?_eq_some_iff.1 h3).1⟩
  ·exact Marks.lt h5 d hd
theorem leaves_marks {F : Fence} {n : Nat} {P : Program} {fn : Func} {tmps : Array Value} {R : Ending → World → Prop} {B : Nat} {P0 : World → Prop}
  (hput : ∀ W D, B ≤ D → W.heap[D]? = some (.deferred (some [])) → P0 W → P0 (W.putObj D (.deferred none)))
  (hend : ∀ W, P0 W → LeavesInM F n P fn tmps R [] .returning W) : ∀ (ds : List Deferred) (W : World), Marks B ds W → P0 W → LeavesInM F n P fn tmps R ds .returning W
 | [], W, _, h => hend W h
 | d :: ds, W, ⟨⟨D, h1, h2, h3, h4⟩, h5⟩, h => by
  subst h2
  refine ⟨by simp, .inl ⟨D, _, rfl, run_takeDeferred h3, leaves_marks hput hend ds _ ?_ (hput W D h1 h3 h)⟩⟩
  have key : ∀ {es : List Deferred}, (∀ d' ∈ es, ∃ D', d' = { target := .collected D', args := #[] } ∧ D' < D) → Marks B es W → Marks B es (W.putObj D (.deferred none)) := by
   intro es
   induction es with
   | nil => exact fun _ _ => trivial
   | cons e es ih =>
    rintro hlt ⟨⟨D', g1, g2, g3, g4⟩, g5⟩
    obtain ⟨D2, e2, hD2⟩ := hlt e (by simp)
    rw [g2] at e2
    cases e2
    exact ⟨⟨D', g1, g2, (World.putObj_heap_other (by omega)).trans g3, g4⟩, ih (fun d' hd' => hlt d' (by simp [hd'])) g5⟩
  exact key h4 h5
theorem builderAt_grown {T e : TypeId} {B b : Nat} {q : Value} {bs : List Value} {W W' : World} {row : Option Nat} (h : Lib.BuilderAtF T e B b q bs W) (hg : W.grownBy W' row) (hb : row ≠ some b) (hr : ∀ r, row = some r → ∀ c fz, W.heap[r]? ≠ some (.cells c e fz)) : Lib.BuilderAtF T e B b q bs W' := by
 have hlt := h.lt
 obtain ⟨hB, v, hv, hown, hne⟩ := h
 refine ⟨hB, v, (hg.block b hlt (fun e => hb e.symm)).trans hv, hown.kept hg ?_, hne⟩
 rcases hown.2 with ⟨rfl, _⟩ | ⟨g, cap, cur, fz, rfl, _, hh, _⟩
 ·exact .inl rfl
 ·exact .inr (fun e => hr g e.symm cur fz hh)
theorem builder_grown {T e : TypeId} {B b : Nat} {bs : List Value} {W W' : World} {row : Option Nat} (h : Lib.IsBuilderF T e B b bs W) (hg : W.grownBy W' row) (hb : row ≠ some b) (hr : ∀ r, row = some r → ∀ c fz, W.heap[r]? ≠ some (.cells c e fz)) : Lib.IsBuilderF T e B b bs W' :=
 h.elim (fun x => .inl (builderAt_grown x hg hb hr)) (fun x => .inr (builderAt_grown x hg hb hr))
theorem builder_block {T e : TypeId} {B b : Nat} {bs : List Value} {W : World} (h : Lib.IsBuilderF T e B b bs W) : ∃ c, W.heap[b]? = some (.cells c T (0, 0)) := by
 rcases h with ⟨_, v, hv, _⟩ | ⟨_, v, hv, _⟩ <;> exact ⟨_, hv⟩
theorem keeps_of_others {e : TypeId} {b : Nat} {c : Array Value} {T : TypeId} {fz : Nat × Nat} {W W' : World} (h : Lib.OthersKept e (some b) W W') (hs : W.heap.size ≤ W'.heap.size) (hb : W.heap[b]? = some (.cells c T fz)) : KeepsOthers W W' :=
 ⟨hs, fun k o hk ho => h k o hk (fun he => by cases he; rw [hb] at hk; cases hk; cases ho) (fun c fz he => by subst he; cases ho)⟩
theorem grpF_in : ∀ {f off : Nat} {l : List S60} {gs}, grpF f off l = some gs → ∀ x ∈ gs, off ≤ x.1 ∧ 1 ≤ x.2 ∧ x.1 + x.2 ≤ off + l.length
 | 0, off, [], gs, h, x, hx => by cases h; cases hx
 | f + 1, off, [], gs, h, x, hx => by cases h; cases hx
 | 0, off, _ :: _, gs, h, x, hx => by cases h
 | f + 1, off, c :: t, gs, h, x, hx => by
  unfold grpF at h
  split at h
  ·rename_i hle
   obtain ⟨ys, hy, rfl⟩ := Option.map_eq_some_iff.1 h
   have h1 : 1 ≤ (mx c.f1 1).toNat := by unfold mx; omega
   rcases List.mem_cons.1 hx with rfl | hx
   ·exact ⟨Nat.le_refl _, h1, by simp only [List.length_cons]; omega⟩
   ·have := grpF_in hy x hx
    simp only [List.length_drop, List.length_cons] at this ⊢
    omega
  ·cases h
theorem Tryd.str9 : (Tryd.prog.info? 9).map (fun i => (i.zero, i.size, i.bytes)) = some (some (.string ⟨#[]⟩), 1, 16) := by kernel_rfl
set_option maxHeartbeats 4000000 in
set_option maxRecDepth 100000 in
theorem flow_Letters.calls (k : Nat) (A0 : Option Addr) (c0 : Nat) (l0 : List S38) (r1 : List ByteArray) (r2 : Int) (w : World) (hr0 : Kd.C k38 w A0 l0.length l0) (hc0 : l0.length ≤ c0) (h : flow_Letters.f k l0 = some (r1, r2)) (hT : Tabs w := by first | exact Aside0.out (by with_reducible assumption) | exact Tabs.keepA (by with_reducible assumption) (by repeat (first | (with_reducible exact Aside0.out (by with_reducible assumption)) | (with_reducible apply below_alloc) | (with_reducible apply pw_below_drewN) | (with_reducible apply below_drew1) | (with_reducible refine below_set ?_ (Aside0.out (by with_reducible assumption)))))) :
  Calls Tryd.prog 19 #[.slice A0 l0.length c0] w fun e w' => ∃ v0_ : Value, e = .returned (.tuple #[v0_, .int .i64 r2]) ∧ Kd.R Kd.string 9 w' w.heap.size (fun _ => True) v0_ r1 ∧ Below w.heap.size w w' := by
 unfold flow_Letters.f at h
 obtain ⟨b, hb, h⟩ := Option.bind_eq_some_iff.1 h
 obtain ⟨rows, e2⟩ := b
 have cJ := flow_Join.calls k A0 c0 l0 rows e2 w hr0 hc0 hb hT
 have CJ := Aside0.mk cJ
 clear cJ hr0 hc0 hb hT
 refine (callsIn_wide (n := 6)).1 ?_
 refine callsIn_of_wp_marks Tryd.func19 rfl trivial ?_ rfl
 simp only [Tryd.ntmps19, List.size_toArray, List.length_cons, List.length_nil, Nat.reduceAdd, Nat.reduceSub, Array.replicate_succ, Array.replicate_zero, List.push_toArray, List.append_toArray, List.nil_append, List.cons_append]
 by_cases he : e2 = 0
 ·subst he
  rw [if_pos rfl] at h
  gi_wp2_with (refine ⟨trivial, ?_⟩; gi_at_call 18; refine (callsIn_wide.2 CJ.out).mono ?_; rintro e w1 ⟨v, rfl, hN, hb⟩; obtain ⟨Av, cv, rfl, hlv, hCv⟩ := Kd.N_reads hN; have HV := Aside0.mk hCv; have HL := Aside0.mk hlv; have HB := Aside0.mk hb; have hmv := Kd.C_max hCv; clear hN hCv hlv hb)
  by_cases hrl : rows.length ≤ 1000000000000
  rotate_left
  ·rw [if_neg hrl] at h; cases h
  rw [if_pos hrl] at h
  obtain ⟨u, hu, h⟩ := Option.bind_eq_some_iff.1 h
  cases h
  obtain ⟨hul, hua⟩ := rowsO_at hu
  have HUA := Aside0.mk hua
  have HUL := Aside0.mk hul
  obtain ⟨i0, hi0, hz0, hz1, hz2⟩ := info_parts Tryd.str9
  have HI0 := Aside0.mk hi0
  have HZ0 := Aside0.mk hz0
  have HZ1 := Aside0.mk hz1
  have HZ2 := Aside0.mk hz2
  clear hu hua hul hi0 hz0 hz1 hz2
  refine wpIn_loop (fun a W => ∃ (i : Nat) (v u8 u9 u22 u23 u24 u25 u26 u39 u40 u41 u42 u43 : Value) (ds : List Deferred), i ≤ rows.length ∧ a = { tmps := #[.slice A0 l0.length c0, undef, .slice none 0 0, .int .i64 0, .slice Av rows.length cv, .int .i64 0, v, undef, u8, u9, undef, .tuple #[.slice Av rows.length cv, .int .i64 0], .slice A0 l0.length c0, .tuple #[.slice Av rows.length cv, .int .i64 0], .slice Av rows.length cv, .int .i64 0, .int .i64 0, .bool false, undef, .slice Av rows.length cv, .int .i64 rows.length, .int .i64 i, u22, u23, u24, u25, u26, undef, undef, undef, undef, undef, undef, undef, undef, undef, undef, undef, undef, u39, u40, u41, u42, u43, undef], defers := ds } ∧
    Aside0 (W.ownsRow w1.heap.size 9 1 v i (encs Value.string (r1.take i))) ∧ Aside0 (Marks w1.heap.size ds W) ∧ Aside0 (Below w1.heap.size w1 W)) (fun a _ => rows.length - (intOf (a.tmps.getD 21 undef)).toNat) ⟨0, _, _, _, _, _, _, _, _, _, _, _, _, _, [], Nat.zero_le _, rfl, ⟨World.ownsRow_nil _ _ _ _⟩, ⟨trivial⟩, ⟨Below.refl _ _⟩⟩ ?_
  rintro a wr ⟨i, v, u8, u9, u22, u23, u24, u25, u26, u39, u40, u41, u42, u43, ds, hi, rfl, HO, HM, HB1⟩
  by_cases hlt : i < rows.length
  ·obtain ⟨ad, Ar, cr, e0, hx0, hlr, hCr⟩ := at_L4 (Kd.C_below HV.out HB1.out) (i : Nat) (by omega) (by omega)
   subst e0
   simp only [Int.toNat_natCast] at hx0
   have hrd : rd_L4 rows (i : Nat) = rows[i] := by unfold rd_L4; simp [List.getD_eq_getElem?_getD, hlt]
   rw [hrd] at hx0 hlr hCr
   obtain ⟨s, hs, htk⟩ := HUA.out i hlt
   have HTK := Aside0.mk htk
   obtain ⟨gs, hgs, hs⟩ := Option.bind_eq_some_iff.1 hs
   by_cases hlen : (letG rows[i] gs).length ≤ 140737488355328
   rotate_left
   ·rw [if_neg hlen] at hs; cases hs
   rw [if_pos hlen] at hs
   obtain rfl := Option.some.inj hs
   clear hs htk hrd
   have HG := Aside0.mk hgs
   have HLEN := Aside0.mk hlen
   have HCR := Aside0.mk hCr
   have HLR := Aside0.mk hlr
   clear hgs hlen hCr hlr
   generalize hrow : rows[i] = row at *
   gi_wp2_with (refine ⟨trivial, ?_⟩; gi_at_call 45; refine (callsIn_wide.2 (letters_calls _ _ _ _)).mono ?_; rintro e w2 ⟨rfl, rfl⟩)
   have hbi : Lib.IsBuilderF 77 5 wr.heap.size wr.heap.size (Lib.byteCells (letG row [])) ((wr.alloc (.cells #[.pointer none, .slice none 0 0] 77)).alloc (.cells #[.slice Ar row.length cr] 36)) := Lib.IsBuilderF.belowX (Lib.IsBuilderF.of (Lib.fresh_isBuilder _ _ wr)) (below_alloc (Below.refl _ _) _)
   have hbl : ((wr.alloc (.cells #[.pointer none, .slice none 0 0] 77)).alloc (.cells #[.slice Ar row.length cr] 36)).heap[wr.heap.size + 1]? = some (.cells #[.slice Ar row.length cr] 36 (0, 0)) := by
    have := blk_new (wr.alloc (.cells #[.pointer none, .slice none 0 0] 77)) (.cells #[.slice Ar row.length cr] 36)
    rwa [World.size_alloc] at this
   have hbs : Below wr.heap.size wr ((wr.alloc (.cells #[.pointer none, .slice none 0 0] 77)).alloc (.cells #[.slice Ar row.length cr] 36)) := below_alloc (below_alloc (Below.refl _ _) _) _
   have hsz : ((wr.alloc (.cells #[.pointer none, .slice none 0 0] 77)).alloc (.cells #[.slice Ar row.length cr] 36)).heap.size = wr.heap.size + 2 := by simp only [World.size_alloc]
   generalize ((wr.alloc (.cells #[.pointer none, .slice none 0 0] 77)).alloc (.cells #[.slice Ar row.length cr] 36)) = ws at *
   have HBS := Aside0.mk hbs
   have HBL := Aside0.mk hbl
   clear hbs hx0
   refine wpIn_rangeFunc_box rfl (by decide) (gf := 68) (lb := #[.pointer (some ⟨wr.heap.size + 1, 0, none⟩)]) rfl trivial (enters_of Tryd.func68 (by kernel_rfl) rfl)
    (encs := fun x : Nat × Nat => #[.slice (Ar.map (·.add (x.1 * 5))) x.2 (cr - x.1)]) (Kp := fun A B => Below wr.heap.size A B ∧ B.heap[wr.heap.size + 1]? = A.heap[wr.heap.size + 1]?) (Bl := wr.heap.size + 1) (xs := gs)
    (fun l J W hW hJ hY h0 => letters_iter 5 (by decide) l (wr.heap.size + 1) cr Ar row gs wr HG.out HLR.out HCR.out (Nat.le_succ _) J hJ hY W (HBS.out.trans (hW.mono (by omega))) ((hW.block _ (by omega)).trans HBL.out) h0)
    (fun h k => ⟨h.1.trans k.1, k.2.trans h.2⟩) ?hKb (by omega) (fun _ => rfl)
    (fun pre W => (∃ u, W.heap[wr.heap.size + 1]? = some (.cells #[u] 36 (0, 0))) ∧ Lib.IsBuilderF 77 5 wr.heap.size wr.heap.size (Lib.byteCells (letG row pre)) W ∧ Below wr.heap.size wr W)
    ?hI ?hIs ⟨⟨_, hbl⟩, hbi, HBS.out⟩ ?a1 ?assign ?body ?done
   case assign =>
    intro l x W K hK
    gi_wp2
    exact hK
   case hKb =>
    intro W l o o' hl hW ho
    exact ⟨(Below.refl wr.heap.size W).grown (grownBy_putObj' W l o') (by have := (Array.getElem?_eq_some_iff.1 hW).1; omega) (fun k e => by cases e; omega), World.putObj_heap_other (by omega)⟩
   case hI =>
    refine fun pre W W' row' hs hg hr => ⟨?_, ?_, ?_⟩
    ·obtain ⟨u, hu⟩ := hs.1
     exact ⟨u, (hg.block _ (blk_lt hu) (fun e => by have := (hr _ e.symm).1; omega)).trans hu⟩
    ·refine builder_grown hs.2.1 hg (fun e => by have := (hr _ e).1; omega) (fun r e c fz hc => ?_)
     obtain ⟨_, o, ho, hc'⟩ := hr r e
     rw [hc] at ho
     cases ho
     cases hc'
    ·exact hs.2.2.grown hg hs.2.2.size (fun r e => by have := (hr r e).1; omega)
   case hIs =>
    rintro pre W v' ⟨⟨u, hu⟩, hI, hB⟩
    refine ⟨⟨v', blk_put (cs := #[u]) hu 0 _ rfl⟩, ?_, hB.setCell (p := ⟨wr.heap.size + 1, 0, none⟩) (Nat.le_succ _) _⟩
    refine builder_grown hI (grownBy_setCell' W (wr.heap.size + 1) v') (fun e => by have := Option.some.inj e; omega) (fun r e c fz hc => ?_)
    cases e
    rw [hu] at hc
    cases hc
   case body =>
    rintro l pre x rest W hx _ ⟨⟨u, hu⟩, hI, hB⟩
    have hin := grpF_in HG.out x (by rw [hx]; simp)
    obtain ⟨_, hx2, hx12⟩ := hin
    obtain ⟨adr, e0, hc00, _⟩ := at_T60 HCR.out (x.1 : Nat) (by omega) (by omega)
    subst e0
    simp only [Int.toNat_natCast] at hc00
    have HC00 := Aside0.mk hc00
    have hbd : (letG row pre).length + (letC (rd_T60 row (x.1 : Nat))).length ≤ 140737488355328 := by
     have := HLEN.out
     rw [hx] at this
     unfold letG at this ⊢
     simp only [List.flatMap_append, List.flatMap_cons, List.length_append] at this
     omega
    have HBD := Aside0.mk hbd
    have HI := Aside0.mk hI
    have HU := Aside0.mk hu
    have HB := Aside0.mk hB
    have HTX : Aside0 (letG row (pre ++ [x]) = letG row pre ++ letC (rd_T60 row (x.1 : Nat))) := ⟨by unfold letG; simp⟩
    have hlb := hB.size
    have hc0 := zc HB hc00
    have hx0 : 0 < x.2 := hx2
    clear hx hu hI hB hbd hc00 hx2 hx12
    unfold letC at HBD HTX
    generalize (rd_T60 row (x.1 : Nat)).f0 = ts at *
    have hts : ts.size = ts.data.toList.length := rfl
    have cW := Tryd.bWriteString wr.heap.size wr.heap.size _ ts W HI.out (by rw [Lib.byteCells_length]; have := HBD.out; unfold letT at this; rw [List.length_append] at this; omega) hlb
    have CW := Aside0.mk cW
    clear cW hts
    by_cases hE : ts.toList = ([] : List UInt8)
    ·have e1 : (ts.toList == ([] : List UInt8)) = true := beq_iff_eq.mpr hE
     have HE := Aside0.mk hE
     clear hE
     gi_wp2_with (refine ⟨trivial, ?_⟩; first | (gi_at_call 46; refine (CallsIn.inRound l (callsIn_wide.2 CW.out)).mono ?_; rintro e w3 ⟨rfl, hat, hb3, hk3⟩; have HAT := Aside0.mk hat; have HB3 := Aside0.mk hb3; have HK3 := Aside0.mk hk3; have HB4 : Aside0 (wr.heap.size ≤ _) := ⟨Nat.le_trans hlb hb3.size⟩; have hc3 := zc ⟨HB.out.trans hb3⟩ HC00.out; clear hat hb3 hk3) | (gi_at_call 47; refine (CallsIn.inRound l (callsIn_wide.2 (Tryd.bWriteByte wr.heap.size wr.heap.size _ 32 _ (Lib.IsBuilderF.usedX HAT.out) (by rw [List.length_append, Lib.byteCells_length, Lib.strCells_length]; have := HBD.out; unfold letT at this; rw [if_pos HE.out, List.length_append] at this; have hts : ts.size = ts.data.toList.length := rfl; simp only [List.length_cons, List.length_nil] at this; omega) HB4.out))).mono ?_; rintro e w4 ⟨rfl, hat4, hb4, hk4⟩))
     obtain ⟨c0_, hc0_⟩ := builder_block HI.out
     obtain ⟨c1_, hc1_⟩ := builder_block (Lib.IsBuilderF.usedX HAT.out)
     have hu3 := HK3.out _ _ HU.out (fun e => by have := Option.some.inj e; omega) (fun c fz e => by cases e)
     have hu4 := hk4 _ _ hu3 (fun e => by have := Option.some.inj e; omega) (fun c fz e => by cases e)
     refine ⟨(keeps_of_others HK3.out HB3.out.size hc0_).trans (keeps_of_others hk4 hb4.size hc1_), ⟨HB3.out.trans hb4, hu4.trans HU.out.symm⟩, ⟨_, hu4⟩, ?_, HB.out.trans (HB3.out.trans hb4)⟩
     rw [HTX.out]
     unfold letT
     rw [if_pos HE.out, Lib.byteCells_append, Lib.byteCells_append, ← List.append_assoc]
     exact Or.inr hat4
    ·have e1 : (ts.toList == ([] : List UInt8)) = false := beq_eq_false_iff_ne.mpr hE
     have HE := Aside0.mk hE
     clear hE
     gi_wp2_with (refine ⟨trivial, ?_⟩; gi_at_call 46; refine (CallsIn.inRound l (callsIn_wide.2 CW.out)).mono ?_; rintro e w3 ⟨rfl, hat, hb3, hk3⟩; have HAT := Aside0.mk hat; have HB3 := Aside0.mk hb3; have HK3 := Aside0.mk hk3; have hc3 := zc ⟨HB.out.trans hb3⟩ HC00.out; clear hat hb3 hk3)
     obtain ⟨c0_, hc0_⟩ := builder_block HI.out
     have hu3 := HK3.out _ _ HU.out (fun e => by have := Option.some.inj e; omega) (fun c fz e => by cases e)
     refine ⟨keeps_of_others HK3.out HB3.out.size hc0_, ⟨HB3.out, hu3.trans HU.out.symm⟩, ⟨_, hu3⟩, ?_, HB.out.trans HB3.out⟩
     rw [HTX.out]
     unfold letT
     rw [if_neg HE.out, List.append_nil, Lib.byteCells_append]
     exact Or.inr HAT.out
   case done =>
    rintro D W hD0 _ ⟨_, hI, hB⟩ hK
    have hD : ws.heap.size ≤ D := by omega
    clear hD0
    have HI := Aside0.mk hI
    have HB := Aside0.mk hB
    have HK := Aside0.mk hK
    clear hI hB hK
    have cS := Tryd.Builder_String_any_k wr.heap.size wr.heap.size _ W HI.out HB.out.size
    have CS := Aside0.mk cS
    clear cS
    gi_wp2_with (first | (gi_at_builtin; refine wpListIn_append_own _ rfl _ _ 42 rfl w1.heap.size 9 i0 (.string ⟨#[]⟩) 1 16 Tryd.underlying42 HI0.out HZ0.out HZ1.out HZ2.out rfl (by decide) v i _ rfl (HO5.out _) ⟨w5.heap.size, 0, none⟩ 1 1 [.string ⟨(letG row gs).toArray⟩] rfl rfl ?c1 ?c2 ?c3 ?c4 ?c5 ?_; (case c1 => (intro j y hj; cases j with | zero => (cases hj; rw [Addr.add_zero']; exact (blk_cell (blk_new w5 _) 0).trans rfl) | succ j => cases hj)); (case c2 => (intro y hy; rw [List.mem_singleton.1 hy]; rfl)); (case c3 => (unfold maxLen; omega)); (case c4 => omega); (case c5 => (rw [World.size_alloc]; exact Nat.le_succ_of_le HS5.out)); intro v' w6 hown hgr _; have HOWN := Aside0.mk hown; have HGR := Aside0.mk hgr; clear hown hgr) | (refine ⟨trivial, ?_⟩; gi_at_call 48; refine (callsIn_wide.2 CS.out).mono ?_; rintro e w5 ⟨rfl, hi5, hb5, hk5⟩; have HB5 := Aside0.mk hb5; have HK5 := Aside0.mk hk5; clear hi5 hb5 hk5; have HO5 : Aside0 (∀ o : Obj, (w5.alloc o).ownsRow w1.heap.size 9 1 v i (encs Value.string (r1.take i))) := ⟨fun o => by have bt := (HB.out.trans HB5.out).alloc (Nat.le_trans HB.out.size HB5.out.size) o; exact HO.out.kept (row := none) ⟨bt.os, bt.tape, bt.output, bt.size, fun k hk _ => bt.block k hk⟩ (Classical.em _)⟩; have HS5 : Aside0 (w1.heap.size ≤ w5.heap.size) := ⟨Nat.le_trans HB1.out.size (Nat.le_trans HB.out.size HB5.out.size)⟩))
    have kp : ∀ D' : Nat, W.heap[D']? = some (Obj.deferred (some [])) → w6.heap[D']? = some (Obj.deferred (some [])) := fun D' hD' => by
     obtain ⟨c_, hc_⟩ := builder_block HI.out
     have h5 := HK5.out _ _ hD' (fun e => by cases e; rw [hc_] at hD'; cases hD') (fun c fz e => by cases e)
     have ha := (Below.heap_alloc w5 (.cells #[.string ⟨(letG row gs).toArray⟩] 9 (0, 0)) _ (Array.getElem?_eq_some_iff.1 h5).1).trans h5
     refine (HGR.out.block _ (Array.getElem?_eq_some_iff.1 ha).1 (fun e => ?_)).trans ha
     obtain ⟨c2, hc2⟩ := own_typed (HO5.out _) D' e.symm
     rw [ha] at hc2
     cases hc2
    refine ⟨⟨i + 1, v', _, _, _, _, _, _, _, _, _, _, _, _, _, by omega, rfl, ⟨by rw [HTK.out]; unfold encs at *; rw [List.map_append]; exact HOWN.out⟩, ⟨⟨D, by have := HB1.out.size; omega, rfl, kp D HK.out, fun d' hd' => ?_⟩, (HM.out.below HB.out).keep fun D' _ h' => kp D' h'⟩, ⟨?_⟩⟩, ?_⟩
    ·obtain ⟨D', e, hlt'⟩ := HM.out.lt d' hd'
     exact ⟨D', e, by omega⟩
    ·refine (HB1.out.trans (((HB.out.trans HB5.out).alloc (Nat.le_trans HB.out.size HB5.out.size) _).mono HB1.out.size)).grown HGR.out (by rw [World.size_alloc]; exact Nat.le_succ_of_le HS5.out) (fun r e => ?_)
     rcases (HO5.out (.cells #[.string ⟨(letG row gs).toArray⟩] 9 (0, 0))).2 with ⟨h1, _⟩ | ⟨g, cap, cur, h1, hg, _⟩
     ·rw [h1] at e; cases e
     ·rw [h1] at e; cases e; exact hg
    ·simp [intOf]; omega
  ·obtain rfl : i = rows.length := by omega
   have hou := HO.out
   rw [List.take_of_length_le (by rw [HUL.out]; exact Nat.le_refl _), ← HUL.out] at hou
   have HOU := Aside0.mk hou
   clear hou
   gi_wp2
   refine leaves_marks (B := w1.heap.size) (P0 := fun W => W.ownsRow w1.heap.size 9 1 v r1.length (encs Value.string r1) ∧ Below w1.heap.size w1 W) ?_ ?_ ds wr HM.out ⟨HOU.out, HB1.out⟩
   ·rintro W D hD hk ⟨ho, hb⟩
    refine ⟨ho.kept (grownBy_putObj' W D _) (.inr (fun e => ?_)), hb.grown (grownBy_putObj' W D _) hb.size (fun r e => by cases e; exact hD)⟩
    obtain ⟨c, hc⟩ := own_typed ho D e
    rw [hk] at hc
    cases hc
   ·rintro W ⟨ho, hb⟩
    exact ⟨.tuple #[v, .int .i64 0], by simp [results, Tryd.results19, go_sem], v, rfl, Kd.R_lower (Kd.R_of_own ho (fun _ _ => trivial)) HB.out.size, HB.out.trans (hb.mono HB.out.size)⟩
 ·rw [if_neg he] at h
  cases h
  gi_wp2_with (refine ⟨trivial, ?_⟩; gi_at_call 18; refine (callsIn_wide.2 CJ.out).mono ?_; rintro e w1 ⟨v, rfl, hN, hb⟩; obtain ⟨Av, cv, rfl, hlv, hCv⟩ := Kd.N_reads hN; have HV := Aside0.mk hCv; have HL := Aside0.mk hlv; have HB := Aside0.mk hb; have hmv := Kd.C_max hCv; clear hN hCv hlv hb)
  exact ⟨.tuple #[.slice none 0 0, .int .i64 e2], by simp [results, Tryd.results19, go_sem], _, rfl, Kd.R_of_own (World.ownsRow_nil _ _ _ _) (fun _ _ => trivial), HB.out⟩
def cellsOf (l : List S60) (x : Nat × Nat) : List S60 := (l.drop x.1).take x.2
def stepS (m : Nat) (l : List S60) (s : List S38 × List S60) (x : Nat × Nat) : List S38 × List S60 :=
 if m < x.2 then s else if m < s.2.length + x.2 then (s.1 ++ [⟨fillL s.2 m, true⟩], cellsOf l x) else (s.1, s.2 ++ cellsOf l x)
def foldS (m : Nat) (l : List S60) (gs : List (Nat × Nat)) : List S38 × List S60 := gs.foldl (stepS m l) ([], [])
def flow_fold.f (l0 : List S60) (a1 : Int) : Option (List S38) :=
 if 1 ≤ a1 ∧ a1 ≤ 1000000 ∧ l0.length ≤ 1000000000 then (grpO l0).bind fun gs => some ((foldS a1.toNat l0 gs).1 ++ [⟨fillL (foldS a1.toNat l0 gs).2 a1.toNat, false⟩]) else none
theorem foldS_snoc (m : Nat) (l : List S60) (pre : List (Nat × Nat)) (x : Nat × Nat) : foldS m l (pre ++ [x]) = stepS m l (foldS m l pre) x := by unfold foldS; rw [List.foldl_append]; rfl
theorem cellsOf_length {l : List S60} {x : Nat × Nat} (h : x.1 + x.2 ≤ l.length) : (cellsOf l x).length = x.2 := by unfold cellsOf; rw [List.length_take, List.length_drop]; omega
theorem foldl_S (m : Nat) (l : List S60) : ∀ (gs : List (Nat × Nat)) (s : List S38 × List S60), (∀ x ∈ gs, x.1 + x.2 ≤ l.length) → s.2.length ≤ m → ((gs.foldl (stepS m l) s).2.length ≤ m ∧ (gs.foldl (stepS m l) s).1.length ≤ s.1.length + gs.length)
 | [], s, _, h => ⟨h, Nat.le_refl _⟩
 | x :: gs, s, hx, h => by
  have h1 := cellsOf_length (hx x (by simp))
  have h2 : (stepS m l s x).2.length ≤ m ∧ (stepS m l s x).1.length ≤ s.1.length + 1 := by
   unfold stepS
   split
   ·exact ⟨h, by omega⟩
   ·split
    ·exact ⟨by rw [h1]; omega, by simp⟩
    ·exact ⟨by rw [List.length_append, h1]; omega, by show s.1.length ≤ _; omega⟩
  obtain ⟨a, b⟩ := foldl_S m l gs (stepS m l s x) (fun y hy => hx y (by simp [hy])) h2.1
  exact ⟨a, by rw [List.foldl_cons, List.length_cons]; omega⟩
theorem grpF_length : ∀ {f off : Nat} {l : List S60} {gs}, grpF f off l = some gs → gs.length ≤ l.length
 | 0, off, [], gs, h => by cases h; exact Nat.le_refl _
 | f + 1, off, [], gs, h => by cases h; exact Nat.le_refl _
 | 0, off, _ :: _, gs, h => by cases h
 | f + 1, off, c :: t, gs, h => by
  unfold grpF at h
  split at h
  ·obtain ⟨ys, hy, rfl⟩ := Option.map_eq_some_iff.1 h
   have h1 : 1 ≤ (mx c.f1 1).toNat := by unfold mx; omega
   have := grpF_length hy
   simp only [List.length_drop, List.length_cons] at this ⊢
   omega
  ·cases h
theorem inR_ {P : Program} {l n : Nat} {ops : Array Oper} {Q : Exit → Act → World → Prop} {o : Oper} {rest : List Oper} {a : Act} {w : World} (N : Option Tmp) (hN : o.dst = N) (hno : ¬ LetsOut Q) (hd : ((o :: rest).all fun o => match o.op with | .defer _ => false | _ => true) = true)
  (h : wpList P ops Q (o :: rest) a w) : wpListIn (Fence.wide.inRound l) n P ops Q (o :: rest) a w := wpListIn_inRound hno _ hd a w h
theorem Tryd.lineInfo : (Tryd.prog.info? 38).map (fun i => (i.zero, i.size, i.bytes)) = some (some (.agg #[.slice none 0 0, .bool false]), k38.sz, 32) := by kernel_rfl
def ends (Q : Exit → Act → World → Prop) : Exit → Act → World → Prop
 | .normal, a, w => Q .normal a w
 | _, _, _ => False
theorem ends_normal {Q : Exit → Act → World → Prop} {a : Act} {w : World} (h : Q .normal a w) : ends Q .normal a w := h
theorem ends_imp {Q : Exit → Act → World → Prop} : ∀ e a w, ends Q e a w → Q e a w
 | .normal, _, _, h => h
 | .ret, _, _, h => h.elim
 | .exit _, _, _, h => h.elim
 | .goto _, _, _, h => h.elim
 | .panic _, _, _, h => h.elim
 | .outgrown, _, _, h => h.elim
structure FoldI (w : World) (B m : Nat) (out : List S38) (now : List S60) (vo vn : Value) (W : World) : Prop where
 b3 : W.heap[w.heap.size]? = some (.cells #[.int .i64 m] 3 (0, 0))
 b5 : W.heap[w.heap.size + 1]? = some (.cells #[vo] 22 (0, 0))
 b6 : W.heap[w.heap.size + 1 + 1]? = some (.cells #[vn] 36 (0, 0))
 bl : ∃ u, W.heap[w.heap.size + 1 + 1 + 1]? = some (.cells #[u] 36 (0, 0))
 out_ : Kd.N k38 38 W B (fun k => B ≤ k ∧ some k ≠ vn.ownBlock) vo out
 now_ : Kd.R k60 60 W B (fun k => B ≤ k) vn now
 below : Below w.heap.size w W
theorem FoldI.own2 {w : World} {B m : Nat} {out : List S38} {now : List S60} {vo vn : Value} {W W' : World} (h : FoldI w B m out now vo vn W) {row : Option Nat} (hg : W.grownBy W' row) (hr : ∀ r, row = some r → w.heap.size + 1 + 1 + 1 < r ∧ r < B) : FoldI w B m out now vo vn W' :=
 ⟨(hg.block _ (blk_lt h.b3) (fun e => by have := hr _ e.symm; omega)).trans h.b3, (hg.block _ (blk_lt h.b5) (fun e => by have := hr _ e.symm; omega)).trans h.b5, (hg.block _ (blk_lt h.b6) (fun e => by have := hr _ e.symm; omega)).trans h.b6,
  h.bl.elim fun u hu => ⟨u, (hg.block _ (blk_lt hu) (fun e => by have := hr _ e.symm; omega)).trans hu⟩,
  Kd.N_grown h.out_ hg (fun k hk e => by have := hr _ e.symm; omega), Kd.R_grown h.now_ hg (fun k hk e => by have := hr _ e.symm; omega), h.below.grown hg h.below.size (fun r e => by have := hr _ e; omega)⟩
theorem FoldI.place {w : World} {B m : Nat} {out : List S38} {now : List S60} {vo vn : Value} {W : World} (h : FoldI w B m out now vo vn W) (hB : w.heap.size + 1 + 1 + 1 < B) (v : Value) : FoldI w B m out now vo vn (W.setCell ⟨w.heap.size + 1 + 1 + 1, 0, none⟩ v) :=
 ⟨(Below.heap_setCell _ _ _ _ (by show w.heap.size ≠ w.heap.size + 1 + 1 + 1; omega)).trans h.b3, (Below.heap_setCell _ _ _ _ (by show w.heap.size + 1 ≠ w.heap.size + 1 + 1 + 1; omega)).trans h.b5, (Below.heap_setCell _ _ _ _ (by show w.heap.size + 1 + 1 ≠ w.heap.size + 1 + 1 + 1; omega)).trans h.b6,
  h.bl.elim fun u hu => ⟨v, blk_put (cs := #[u]) hu 0 _ rfl⟩,
  Kd.N_far h.out_ (fun k hk => by show k ≠ w.heap.size + 1 + 1 + 1; omega) v, Kd.R_far h.now_ (fun k hk => by show k ≠ w.heap.size + 1 + 1 + 1; omega) v, h.below.setCell (p := ⟨w.heap.size + 1 + 1 + 1, 0, none⟩) (by show w.heap.size ≤ w.heap.size + 1 + 1 + 1; omega) v⟩
theorem FoldI.put {w : World} {B m : Nat} {out : List S38} {now now1 : List S60} {vo vn v1 : Value} {W w1 : World} (h : FoldI w B m out now vo vn W) (hB : w.heap.size + 1 + 1 + 1 < B) (hr1 : Kd.R k60 60 w1 B (fun k => B ≤ k) v1 now1) (hg : W.grownBy w1 vn.ownBlock)
  (hat : v1.ownBlock = vn.ownBlock ∨ ∃ b, v1.ownBlock = some b ∧ W.heap.size ≤ b) : FoldI w B m out now1 vo v1 (w1.setCell ⟨w.heap.size + 1 + 1, 0, none⟩ v1) := by
 have hvb := Kd.R_base h.now_
 have hg' : ∀ (k : Nat) (o : Obj), W.heap[k]? = some o → k < B → w1.heap[k]? = some o := fun k o hk hlt => (hg.block _ (Array.getElem?_eq_some_iff.1 hk).1 (fun e => by have := hvb _ e.symm; omega)).trans hk
 obtain ⟨u, hu⟩ := h.bl
 refine ⟨(Below.heap_setCell _ _ _ _ (by show w.heap.size ≠ w.heap.size + 1 + 1; omega)).trans (hg' _ _ h.b3 (by omega)), (Below.heap_setCell _ _ _ _ (by show w.heap.size + 1 ≠ w.heap.size + 1 + 1; omega)).trans (hg' _ _ h.b5 (by omega)), blk_put (cs := #[vn]) (hg' _ _ h.b6 (by omega)) 0 _ rfl,
  ⟨u, (Below.heap_setCell _ _ _ _ (by show w.heap.size + 1 + 1 + 1 ≠ w.heap.size + 1 + 1; omega)).trans (hg' _ _ hu hB)⟩, ?_, Kd.R_far hr1 (fun k hk => by show k ≠ w.heap.size + 1 + 1; omega) v1, (h.below.grown hg h.below.size (fun r e => by have := hvb r e; omega)).setCell (p := ⟨w.heap.size + 1 + 1, 0, none⟩) (by show w.heap.size ≤ w.heap.size + 1 + 1; omega) v1⟩
 have h1 := Kd.N_grown (Kd.N_bound h.out_) hg (fun k hk => hk.1.2)
 refine Kd.N_far (Kd.N_mono h1 (fun k hk => ⟨hk.1.1, ?_⟩)) (fun k hk => by show k ≠ w.heap.size + 1 + 1; omega) v1
 rcases hat with e | ⟨b, e, hb⟩
 ·rw [e]; exact hk.1.2
 ·rw [e]; intro e'; have := Option.some.inj e'; omega
theorem FoldI.keeps {w : World} {B m : Nat} {out : List S38} {now : List S60} {vo vn : Value} {W w1 : World} (h : FoldI w B m out now vo vn W) (hg : W.grownBy w1 vn.ownBlock) : KeepsOthers W w1 :=
 KeepsOthers.of_grownBy hg (fun j o e ho => by obtain ⟨c, hc⟩ := Kd.R_typed h.now_ j e; rw [hc] at ho; cases ho; rfl)
theorem FoldI.flush {w : World} {B m : Nat} {out out1 : List S38} {now : List S60} {vo vn v1 : Value} {W w3 w5 : World} (h : FoldI w B m out now vo vn W) (hB : w.heap.size + 1 + 1 + 1 < B) (hb3 : Below W.heap.size W w3) (hg : w3.grownBy w5 vo.ownBlock) (hN : Kd.N k38 38 w5 B (fun k => B ≤ k) v1 out1) :
  (∀ (k : Nat) (o : Obj), W.heap[k]? = some o → k < B → w5.heap[k]? = some o) ∧ Below w.heap.size W w5 ∧ KeepsOthers W w5 ∧
  FoldI w B m out1 [] v1 (.slice none 0 0) ((w5.setCell ⟨w.heap.size + 1, 0, none⟩ v1).setCell ⟨w.heap.size + 1 + 1, 0, none⟩ (.slice none 0 0)) := by
 have hvb := Kd.N_base h.out_
 have hg' : ∀ (k : Nat) (o : Obj), W.heap[k]? = some o → k < B → w5.heap[k]? = some o := fun k o hk hlt => by
  have h3 := (hb3.block _ (Array.getElem?_eq_some_iff.1 hk).1).trans hk
  exact (hg.block _ (Array.getElem?_eq_some_iff.1 h3).1 (fun e => by have := hvb _ e.symm; omega)).trans h3
 have hbw : Below w.heap.size W w5 := (hb3.mono h.below.size).grown hg (Nat.le_trans h.below.size hb3.size) (fun r e => by have := hvb r e; omega)
 obtain ⟨u, hu⟩ := h.bl
 refine ⟨hg', hbw, (KeepsOthers.of_grownBy (grown_of_below hb3 none) (fun j o e => by cases e)).trans (KeepsOthers.of_grownBy hg (fun j o e ho => ?_)), ?_⟩
 ·obtain ⟨c, hc⟩ := Kd.N_typed (Kd.N_below h.out_ hb3) j e
  rw [hc] at ho; cases ho; rfl
 refine ⟨(Below.heap_setCell _ _ _ _ (by show w.heap.size ≠ w.heap.size + 1 + 1; omega)).trans ((Below.heap_setCell _ _ _ _ (by show w.heap.size ≠ w.heap.size + 1; omega)).trans (hg' _ _ h.b3 (by omega))),
  (Below.heap_setCell _ _ _ _ (by show w.heap.size + 1 ≠ w.heap.size + 1 + 1; omega)).trans (blk_put (cs := #[vo]) (hg' _ _ h.b5 (by omega)) 0 _ rfl),
  blk_put (cs := #[vn]) ((Below.heap_setCell _ _ _ _ (by show w.heap.size + 1 + 1 ≠ w.heap.size + 1; omega)).trans (hg' _ _ h.b6 (by omega))) 0 _ rfl,
  ⟨u, (Below.heap_setCell _ _ _ _ (by show w.heap.size + 1 + 1 + 1 ≠ w.heap.size + 1 + 1; omega)).trans ((Below.heap_setCell _ _ _ _ (by show w.heap.size + 1 + 1 + 1 ≠ w.heap.size + 1; omega)).trans (hg' _ _ hu hB))⟩, ?_, Kd.R_nil _ _ _ _ _,
  ((h.below.trans hbw).setCell (p := ⟨w.heap.size + 1, 0, none⟩) (by show w.heap.size ≤ w.heap.size + 1; omega) _).setCell (p := ⟨w.heap.size + 1 + 1, 0, none⟩) (by show w.heap.size ≤ w.heap.size + 1 + 1; omega) _⟩
 exact Kd.N_mono (Kd.N_far (p := ⟨w.heap.size + 1 + 1, 0, none⟩) (Kd.N_far (p := ⟨w.heap.size + 1, 0, none⟩) hN (fun k hk => by show k ≠ w.heap.size + 1; omega) _) (fun k hk => by show k ≠ w.heap.size + 1 + 1; omega) _) (fun k hk => ⟨hk, by simp [Value.ownBlock]⟩)
theorem FoldI.line {w : World} {B m : Nat} {out : List S38} {now : List S60} {vo vn : Value} {W w3 : World} {A3 : Option Addr} {c3 : Nat} (soft : Bool) (h : FoldI w B m out now vo vn W) (hBW : B ≤ W.heap.size) (hb3 : Below W.heap.size W w3) (hn : now.length ≤ m)
  (hc : m ≤ c3) (hF : Kd.F k60 w3 (fun k => some k = vn.ownBlock ∨ W.heap.size ≤ k) A3 m (fillL now m)) :
  Kd.FK k38 w3 (fun k => some k = vn.ownBlock ∨ W.heap.size ≤ k) ⟨fillL now m, soft⟩ [.slice A3 m c3, .bool soft] ∧ (∀ k, (some k = vn.ownBlock ∨ W.heap.size ≤ k) → B ≤ k ∧ some k ≠ vo.ownBlock) ∧ Kd.N k38 38 w3 B (fun k => B ≤ k) vo out := by
 have hl := fillL_length hn
 refine ⟨?_, fun k hk => ?_, Kd.N_mono (Kd.N_below h.out_ hb3) (fun k hk => hk.1)⟩
 ·have h1 := k38_mkF w3 (fun k => some k = vn.ownBlock ∨ W.heap.size ≤ k) ⟨fillL now m, soft⟩ (A0 := A3) (c0 := c3) (by show (fillL now m).length ≤ c3; omega) (by show Kd.F _ _ _ _ (fillL now m).length _; rw [hl]; exact hF)
  rw [show (⟨fillL now m, soft⟩ : S38).f0.length = m from hl] at h1
  exact h1
 ·rcases hk with hk | hk
  ·refine ⟨Kd.R_base h.now_ k hk.symm, fun e => ?_⟩
   obtain ⟨c1, h1⟩ := Kd.R_typed h.now_ k hk.symm
   obtain ⟨c2, h2⟩ := Kd.N_typed h.out_ k e.symm
   rw [h1] at h2; cases h2
  ·exact ⟨Nat.le_trans hBW hk, fun e => by have := Kd.N_lt h.out_ k e.symm; omega⟩
set_option maxHeartbeats 4000000 in
set_option maxRecDepth 100000 in
theorem flow_fold.calls (A0 : Option Addr) (c0 : Nat) (l0 : List S60) (a1 : Int) (r : List S38) (w : World) (hr0 : Kd.C k60 w A0 l0.length l0) (hc0 : l0.length ≤ c0) (h : flow_fold.f l0 a1 = some r) :
  Calls Tryd.prog 52 #[.slice A0 l0.length c0, .int .i64 a1] w fun e w' => ∃ v0_ : Value, e = .returned v0_ ∧ Kd.N k38 38 w' w.heap.size (fun k_ => w.heap.size ≤ k_) v0_ r ∧ Below w.heap.size w w' := by
 unfold flow_fold.f at h
 split at h
 rotate_left
 ·cases h
 rename_i hb
 obtain ⟨hb1, hb2, hb3⟩ := hb
 obtain ⟨m, rfl⟩ : ∃ m : Nat, a1 = m := ⟨a1.toNat, by omega⟩
 obtain ⟨gs, hgs, h⟩ := Option.bind_eq_some_iff.1 h
 simp only [Int.toNat_natCast] at h
 have hr := (Option.some.inj h).symm
 have hgin := grpF_in hgs
 have hglen := grpF_length hgs
 have HR := Aside0.mk hr
 have HG := Aside0.mk hgs
 have HGI := Aside0.mk hgin
 have HGL := Aside0.mk hglen
 have HC := Aside0.mk hr0
 clear hr0 h hgs hgin hglen
 clear hr
 refine (callsIn_wide (n := 6)).1 ?_
 refine callsIn_of_wp_marks Tryd.func52 rfl trivial ?_ rfl
 simp only [Tryd.ntmps52, List.size_toArray, List.length_cons, List.length_nil, Nat.reduceAdd, Nat.reduceSub, Array.replicate_succ, Array.replicate_zero, List.push_toArray, List.append_toArray, List.nil_append, List.cons_append]
 gi_wp2_with (refine ⟨trivial, ?_⟩; gi_at_call 45; refine (callsIn_wide.2 (letters_calls _ _ _ _)).mono ?_; rintro e w2 ⟨rfl, rfl⟩)
 have hsz : ((((w.alloc (.cells #[.int .i64 m] 3)).alloc (.cells #[.slice none 0 0] 22)).alloc (.cells #[.slice none 0 0] 36)).alloc (.cells #[.slice A0 l0.length c0] 36)).heap.size = w.heap.size + 1 + 1 + 1 + 1 := by simp only [World.size_alloc]
 have hI0 : FoldI w (w.heap.size + 1 + 1 + 1 + 1 + 2) m [] [] (.slice none 0 0) (.slice none 0 0) ((((w.alloc (.cells #[.int .i64 m] 3)).alloc (.cells #[.slice none 0 0] 22)).alloc (.cells #[.slice none 0 0] 36)).alloc (.cells #[.slice A0 l0.length c0] 36)) := by
  have g1 := blk_new w (.cells #[.int .i64 m] 3)
  have g2 := blk_new (w.alloc (.cells #[.int .i64 m] 3)) (.cells #[.slice none 0 0] 22)
  have g3 := blk_new ((w.alloc (.cells #[.int .i64 m] 3)).alloc (.cells #[.slice none 0 0] 22)) (.cells #[.slice none 0 0] 36)
  have g4 := blk_new (((w.alloc (.cells #[.int .i64 m] 3)).alloc (.cells #[.slice none 0 0] 22)).alloc (.cells #[.slice none 0 0] 36)) (.cells #[.slice A0 l0.length c0] 36)
  simp only [World.size_alloc] at g2 g3 g4
  exact ⟨blk_alloc (blk_alloc (blk_alloc g1 _) _) _, blk_alloc (blk_alloc g2 _) _, blk_alloc g3 _, ⟨_, g4⟩, Kd.N_nil _ _ _ _ _, Kd.R_nil _ _ _ _ _, below_alloc (below_alloc (below_alloc (below_alloc (Below.refl _ _) _) _) _) _⟩
 have hbl : ((((w.alloc (.cells #[.int .i64 m] 3)).alloc (.cells #[.slice none 0 0] 22)).alloc (.cells #[.slice none 0 0] 36)).alloc (.cells #[.slice A0 l0.length c0] 36)).heap[w.heap.size + 1 + 1 + 1]? = some (.cells #[.slice A0 l0.length c0] 36 (0, 0)) := by
  have g4 := blk_new (((w.alloc (.cells #[.int .i64 m] 3)).alloc (.cells #[.slice none 0 0] 22)).alloc (.cells #[.slice none 0 0] 36)) (.cells #[.slice A0 l0.length c0] 36)
  simp only [World.size_alloc] at g4
  exact g4
 generalize ((((w.alloc (.cells #[.int .i64 m] 3)).alloc (.cells #[.slice none 0 0] 22)).alloc (.cells #[.slice none 0 0] 36)).alloc (.cells #[.slice A0 l0.length c0] 36)) = ws at *
 obtain ⟨B, hB⟩ : ∃ B, w.heap.size + 1 + 1 + 1 + 1 + 2 = B := ⟨_, rfl⟩
 rw [hB] at hI0
 have hb0 := hI0.below
 have HBL := Aside0.mk hbl
 refine wpIn_rangeFunc_box rfl (by decide) (gf := 68) (lb := #[.pointer (some ⟨w.heap.size + 1 + 1 + 1, 0, none⟩)]) rfl trivial (enters_of Tryd.func68 (by kernel_rfl) rfl)
  (encs := fun x : Nat × Nat => #[.slice (A0.map (·.add (x.1 * 5))) x.2 (c0 - x.1)]) (Kp := fun A B => Below w.heap.size A B ∧ B.heap[w.heap.size + 1 + 1 + 1]? = A.heap[w.heap.size + 1 + 1 + 1]?) (Bl := w.heap.size + 1 + 1 + 1) (xs := gs)
  (fun l J W hW hJ hY h0 => letters_iter 5 (by decide) l (w.heap.size + 1 + 1 + 1) c0 A0 l0 gs w HG.out hc0 HC.out (by omega) J hJ hY W (hb0.trans (hW.mono (by omega))) ((hW.block _ (by omega)).trans HBL.out) h0)
  (fun h k => ⟨h.1.trans k.1, k.2.trans h.2⟩) ?hKb (by omega) (fun _ => rfl)
  (fun pre W => ∃ vo vn, FoldI w B m (foldS m l0 pre).1 (foldS m l0 pre).2 vo vn W) ?hI ?hIs ⟨_, _, hI0⟩ ?a1 ?assign ?body ?done
 case assign =>
  intro l x W K hK
  gi_wp2
  exact hK
 case hKb =>
  intro W l o o' hl hW ho
  exact ⟨(Below.refl w.heap.size W).grown (grownBy_putObj' W l o') (by have := (Array.getElem?_eq_some_iff.1 hW).1; omega) (fun k e => by cases e; omega), World.putObj_heap_other (by omega)⟩
 case hI =>
  rintro pre W W' row ⟨vo, vn, h⟩ hg hr
  exact ⟨vo, vn, h.own2 hg (fun r e => by have := (hr r e).1; omega)⟩
 case hIs =>
  rintro pre W v ⟨vo, vn, h⟩
  exact ⟨vo, vn, h.place (by omega) v⟩
 case body =>
  rintro l pre x rest W hx hsz2 ⟨vo, vn, hI⟩
  have hin := HGI.out x (by rw [hx]; simp)
  have hS := foldl_S m l0 pre ([], []) (fun y hy => by have := HGI.out y (by rw [hx]; simp [hy]); omega) (Nat.zero_le _)
  have hsn := foldS_snoc m l0 pre x
  have hpl : pre.length ≤ l0.length := by have := HGL.out; rw [hx, List.length_append] at this; omega
  rw [show pre.foldl (stepS m l0) ([], []) = foldS m l0 pre from rfl] at hS
  generalize foldS m l0 pre = s at *
  obtain ⟨out, now⟩ := s
  obtain ⟨hS1, hS2⟩ := hS
  simp only [List.length_nil, Nat.zero_add] at hS1 hS2
  rw [hsn]
  have HI := Aside0.mk hI
  have c3 := (blk_cell hI.b3 0).trans rfl
  have c6 := (blk_cell hI.b6 0).trans rfl
  have f6 := blk_frozen hI.b6 0
  obtain ⟨u, hu⟩ := hI.bl
  obtain ⟨An, cn, hvn⟩ := Kd.R_slice hI.now_
  subst hvn
  have hmx := Kd.C_max HC.out
  have HSRCA : Aside0 (∀ W', Below w.heap.size w W' → k60.C W' (A0.map (·.add (x.1 * 5))) x.2 (cellsOf l0 x)) := ⟨fun W' hW' => by
   have h1 := Kd.C_drop (m := x.1) (Kd.C_below HC.out hW') (by omega) hc0
   rw [if_neg (by omega), show k60.sz = 5 from rfl] at h1
   have h2 := Kd.C_take (m := x.2) h1 (by rw [List.length_drop]; omega)
   have e := cellsOf_length (l := l0) (x := x) (by omega)
   unfold cellsOf at e ⊢
   rw [e] at h2
   exact h2⟩
  have HSRC := Aside0.mk (HSRCA.out W hI.below)
  have HU := Aside0.mk hu
  have hBw : w.heap.size + 1 + 1 + 1 < B := by omega
  have hBW : B ≤ W.heap.size := by omega
  clear hsn hI hx hu
  by_cases h1 : m < x.2
  ·have e : stepS m l0 (out, now) x = (out, now) := by unfold stepS; rw [if_pos h1]
   rw [e]
   clear e
   gi_wp2
   exact ⟨KeepsOthers.refl _, ⟨Below.refl _ _, rfl⟩, _, _, HI.out⟩
  ·by_cases h2 : m < now.length + x.2
   ·have e : stepS m l0 (out, now) x = (out ++ [⟨fillL now m, true⟩], cellsOf l0 x) := by unfold stepS; rw [if_neg h1, if_pos h2]
    rw [e]
    clear e
    have c5 := (blk_cell HI.out.b5 0).trans rfl
    have f5 := blk_frozen HI.out.b5 0
    gi_wp2
    refine startR_ (n := 8) (S := fun w' => w'.cell? ⟨w.heap.size + 1, 0, none⟩ = some vo ∧ w'.cell? ⟨w.heap.size + 1 + 1, 0, none⟩ = some (.slice An now.length cn) ∧ w'.cell? ⟨w.heap.size, 0, none⟩ = some (.int .i64 m)) (ds := [6, 7]) #[false, false, false, false, false, false, false, false] (by kernel_rfl) (by rintro ⟨a, w, h⟩; exact h) (by kernel_rfl) rfl rfl ⟨c5, c6, c3⟩ (fun hHeld => ?_)
    refine take_ (i := 0) (N := some 22) (v := ?_) (a' := ?_) #[true, false, false, false, false, false, false, false] rfl rfl (by kernel_rfl) (fun _ _ _ h => h) (Or.inl ⟨by rfl, ?_⟩) hHeld ?_ ?_
    rotate_left
    ·rintro w' ⟨s0, s1, s2⟩
     go_simp
     with_reducible rfl
    rotate_left
    ·exact zr
    refine take_ (i := 1) (N := some 23) (v := ?_) (a' := ?_) #[true, true, false, false, false, false, false, false] rfl rfl (by kernel_rfl) (fun _ _ _ h => h) (Or.inl ⟨by rfl, ?_⟩) hHeld ?_ ?_
    rotate_left
    ·rintro w' ⟨s0, s1, s2⟩
     go_simp
     with_reducible rfl
    rotate_left
    ·exact zr
    refine take_ (i := 2) (N := some 24) (v := ?_) (a' := ?_) #[true, true, true, false, false, false, false, false] rfl rfl (by kernel_rfl) (fun _ _ _ h => h) (Or.inl ⟨by rfl, ?_⟩) hHeld ?_ ?_
    rotate_left
    ·rintro w' ⟨s0, s1, s2⟩
     go_simp
     with_reducible rfl
    rotate_left
    ·exact zr
    refine one_ (i := 3) (N := some 25) #[true, true, true, true, false, false, false, false] rfl rfl (by kernel_rfl) (by decide) (fun K hK => ?_)
    refine goes_ Tryd.func72 (by kernel_rfl) rfl #[.slice An now.length cn, .int .i64 m, .bool true] (by rfl) rfl rfl zm ?_
    refine (filled_calls B m _ (.slice An now.length cn) now true W.drew (Kd.R_drew HI.out.now_) hS1 (by omega) (by omega)).mono ?_
    rintro e w3 ⟨A3, c3', rfl, hc3, hF3, hb3⟩
    refine ⟨_, rfl, ?_⟩
    have HB3 : Aside0 (Below W.heap.size W w3) := ⟨(Below.refl W.heap.size W).drew.trans hb3⟩
    obtain ⟨hp3, hok3, hN3⟩ := HI.out.line true hBW HB3.out hS1 hc3 hF3
    have HP3 := Aside0.mk hp3
    have HO3 := Aside0.mk hok3
    have HN3 := Aside0.mk hN3
    have d5 := zc (w := W.drew) ⟨hb3⟩ c5
    have d6 := zc (w := W.drew) ⟨hb3⟩ c6
    have d3 := zc (w := W.drew) ⟨hb3⟩ c3
    have hs3 : W.heap.size ≤ w3.heap.size := hb3.size
    clear hb3 hp3 hok3 hN3 hF3
    refine hK.out _ _ ⟨d5, d6, d3⟩ (fun hHeld => ?_)
    clear hK K
    refine norm_ (a' := ?_) ?_ ?_
    rotate_left
    ·show Act.put _ (some 25) _ = _
     exact zr
    refine one_ (i := 4) (N := some 26) #[true, true, true, true, true, false, false, false] rfl rfl (by kernel_rfl) (by decide) (fun K hK => ?_)
    refine value_ (w1 := w3.alloc (.cells #[.slice A3 m c3', .bool true] 38)) (v := .slice (some ⟨w3.heap.size, 0, none⟩) 1 1) (by rfl) rfl ?_ ?_
    ·go_simp
    refine hK.out _ _ ⟨zc ⟨below_alloc (Below.refl _ _) _⟩ d5, zc ⟨below_alloc (Below.refl _ _) _⟩ d6, zc ⟨below_alloc (Below.refl _ _) _⟩ d3⟩ (fun hHeld => ?_)
    clear hK K
    refine norm_ (a' := ?_) ?_ ?_
    rotate_left
    ·show Act.put _ (some 26) _ = _
     exact zr
    refine one_ (i := 5) (N := some 27) #[true, true, true, true, true, true, false, false] rfl rfl (by kernel_rfl) (by decide) (fun K hK => ?_)
    refine Kd.N_append_step k38 (w0 := w3) B (by rfl) (.tmp 22) (.tmp 26) 22 38 (.agg #[.slice none 0 0, .bool false]) 32 rfl Tryd.underlying22 Tryd.lineInfo rfl (by decide) (by omega) vo out ⟨fillL now m, true⟩ [.slice A3 m c3', .bool true] (fun k => B ≤ k) _ rfl rfl HP3.out HO3.out (fun k hk => by omega) HN3.out (Below.refl _ _) (by omega) (by omega) ?_
    intro v1 w5 hN5 hb5 hg5 hat5
    obtain ⟨Av, cv, rfl, _, _⟩ := Kd.N_reads hN5
    obtain ⟨hk5, hbw5, hko5, hI5⟩ := HI.out.flush hBw HB3.out hg5 hN5
    have e5 := (blk_cell (hk5 _ _ HI.out.b5 (by omega)) 0).trans rfl
    have e6 := (blk_cell (hk5 _ _ HI.out.b6 (by omega)) 0).trans rfl
    have e3 := (blk_cell (hk5 _ _ HI.out.b3 (by omega)) 0).trans rfl
    have g5 := blk_frozen (hk5 _ _ HI.out.b5 (by omega)) 0
    have g6 := blk_frozen (hk5 _ _ HI.out.b6 (by omega)) 0
    refine hK.out _ _ ⟨e5, e6, e3⟩ (fun hHeld => ?_)
    clear hK K
    refine norm_ (a' := ?_) ?_ ?_
    rotate_left
    ·show Act.put _ (some 27) _ = _
     exact zr
    generalize (out ++ [(⟨fillL now m, true⟩ : S38)]).length = ol at *
    refine last_ (i := 6) (N := none) #[true, true, true, true, true, true, true, false] rfl rfl (by kernel_rfl) (by decide) (fun K hK => ?_)
    refine skip_ (w1 := w5.setCell ⟨w.heap.size + 1, 0, none⟩ (.slice Av ol cv)) (by rfl) rfl ?_ ?_
    ·go_simp
    refine hK.out _ _ ?_
    clear hK K
    have e6' : (w5.setCell ⟨w.heap.size + 1, 0, none⟩ (.slice Av ol cv)).cell? ⟨w.heap.size + 1 + 1, 0, none⟩ = some (.slice An now.length cn) := by go_simp
    have g6' : (w5.setCell ⟨w.heap.size + 1, 0, none⟩ (.slice Av ol cv)).frozen? ⟨w.heap.size + 1 + 1, 0, none⟩ = false := by go_simp
    refine last_ (i := 7) (N := none) #[true, true, true, true, true, true, true, true] rfl rfl (by kernel_rfl) (by decide) (fun K hK => ?_)
    refine skip_ (w1 := (w5.setCell ⟨w.heap.size + 1, 0, none⟩ (.slice Av ol cv)).setCell ⟨w.heap.size + 1 + 1, 0, none⟩ (.slice none 0 0)) (by rfl) rfl ?_ ?_
    ·go_simp
    refine hK.out _ _ ?_
    clear hK K
    refine done_ (by kernel_rfl) ?_
    have hkw : KeepsOthers W ((w5.setCell ⟨w.heap.size + 1, 0, none⟩ (.slice Av ol cv)).setCell ⟨w.heap.size + 1 + 1, 0, none⟩ (.slice none 0 0)) := (hko5.trans (KeepsOthers.setCell _ _ _)).trans (KeepsOthers.setCell _ _ _)
    have hbw6 : Below w.heap.size W ((w5.setCell ⟨w.heap.size + 1, 0, none⟩ (.slice Av ol cv)).setCell ⟨w.heap.size + 1 + 1, 0, none⟩ (.slice none 0 0)) := (hbw5.setCell (p := ⟨w.heap.size + 1, 0, none⟩) (by show w.heap.size ≤ w.heap.size + 1; omega) _).setCell (p := ⟨w.heap.size + 1 + 1, 0, none⟩) (by show w.heap.size ≤ w.heap.size + 1 + 1; omega) _
    have hbl6 : ((w5.setCell ⟨w.heap.size + 1, 0, none⟩ (.slice Av ol cv)).setCell ⟨w.heap.size + 1 + 1, 0, none⟩ (.slice none 0 0)).heap[w.heap.size + 1 + 1 + 1]? = W.heap[w.heap.size + 1 + 1 + 1]? :=
     ((Below.heap_setCell _ _ _ _ (by show w.heap.size + 1 + 1 + 1 ≠ w.heap.size + 1 + 1; omega)).trans ((Below.heap_setCell _ _ _ _ (by show w.heap.size + 1 + 1 + 1 ≠ w.heap.size + 1; omega)).trans (hk5 _ _ HU.out hBw))).trans HU.out.symm
    have HI6 := Aside0.mk hI5
    have HKW := Aside0.mk hkw
    have HBW6 := Aside0.mk hbw6
    have HBL6 := Aside0.mk hbl6
    have hBW6 : B ≤ ((w5.setCell ⟨w.heap.size + 1, 0, none⟩ (.slice Av ol cv)).setCell ⟨w.heap.size + 1 + 1, 0, none⟩ (.slice none 0 0)).heap.size := Nat.le_trans hBW hkw.size
    clear e5 e6 e3 g5 g6 e6' g6' hHeld hI5 hkw hbw6 hbl6 hko5 hbw5 hk5 hg5 hat5 hb5 hN5 c6 f6 c5 f5 c3 d3 d5 d6
    generalize ((w5.setCell ⟨w.heap.size + 1, 0, none⟩ (.slice Av ol cv)).setCell ⟨w.heap.size + 1 + 1, 0, none⟩ (.slice none 0 0)) = w6 at *
    have c6 := (blk_cell HI6.out.b6 0).trans rfl
    have f6 := blk_frozen HI6.out.b6 0
    have HSRC6 := Aside0.mk (HSRCA.out w6 HI6.out.below)
    gi_wp2_with ((with_reducible refine inR_ (some 28) rfl ?hno2 ?hd2 ?_))
    case hno2 => (rintro ⟨a, w, h⟩; exact h)
    case hd2 => rfl
    go_wp2_with (at_builtin; (refine Kd.R_append_rows k60 (w0 := w6) B rfl (.tmp 28) (.tmp 29) 36 60 (.agg #[.string ⟨#[]⟩, .int .i64 0, .int .i64 0, .int .i64 0, .int .i64 0]) 48 rfl Tryd.underlying36 Tryd.cellInfo rfl (by decide) (by omega) (.slice none 0 0) [] (cellsOf l0 x) _ _ _ (fun k_ => B ≤ k_) (fun _ => False) rfl rfl HI6.out.now_ HSRC6.out (fun _ _ h => h) (fun _ h => h.elim) (fun k hk => Nat.le_trans hBW6 hk) (Below.refl _ _) hBW6 (by show (0 + x.2) * 48 ≤ _; omega) ?_; intro v1 w1 hr1 hb1 hg1 hat; obtain ⟨A1, cc1, rfl⟩ := Kd.R_slice hr1; have HR1 := Aside0.mk hr1; have HB1 := Aside0.mk hb1; have HG1 := Aside0.mk hg1; have HAT := Aside0.mk hat; have c6' := (hb1.cell (p := ⟨w.heap.size + 1 + 1, 0, none⟩) (show w.heap.size + 1 + 1 < B by omega)).trans c6; have f6' := (hb1.frozen (p := ⟨w.heap.size + 1 + 1, 0, none⟩) (show w.heap.size + 1 + 1 < B by omega)).trans f6; clear hr1 hb1 hg1 hat))
    have hput := HI6.out.put hBw HR1.out HG1.out HAT.out
    simp only [List.nil_append] at hput
    refine ⟨(HKW.out.trans (HI6.out.keeps HG1.out)).trans (KeepsOthers.setCell _ _ _), ⟨(HBW6.out.trans (HB1.out.mono (by omega))).setCell (p := ⟨w.heap.size + 1 + 1, 0, none⟩) (by show w.heap.size ≤ w.heap.size + 1 + 1; omega) _, ?_⟩, _, _, hput⟩
    exact (Below.heap_setCell _ _ _ _ (by show w.heap.size + 1 + 1 + 1 ≠ w.heap.size + 1 + 1; omega)).trans ((HB1.out.block _ hBw).trans HBL6.out)
   ·have e : stepS m l0 (out, now) x = (out, now ++ cellsOf l0 x) := by unfold stepS; rw [if_neg h1, if_neg h2]
    rw [e]
    clear e
    gi_wp2_with ((with_reducible refine inR_ (some 28) rfl ?hno ?hd ?_))
    case hno => (rintro ⟨a, w, h⟩; exact h)
    go_wp2_with (at_builtin; (refine Kd.R_append_rows k60 (w0 := W) B rfl (.tmp 28) (.tmp 29) 36 60 (.agg #[.string ⟨#[]⟩, .int .i64 0, .int .i64 0, .int .i64 0, .int .i64 0]) 48 rfl Tryd.underlying36 Tryd.cellInfo rfl (by decide) (by omega) (.slice An now.length cn) now (cellsOf l0 x) _ _ _ (fun k_ => B ≤ k_) (fun _ => False) rfl rfl HI.out.now_ HSRC.out (fun _ _ h => h) (fun _ h => h.elim) (fun k hk => Nat.le_trans hBW hk) (Below.refl _ _) hBW (by omega) ?_; intro v1 w1 hr1 hb1 hg1 hat; obtain ⟨A1, cc1, rfl⟩ := Kd.R_slice hr1; have HR1 := Aside0.mk hr1; have HB1 := Aside0.mk hb1; have HG1 := Aside0.mk hg1; have HAT := Aside0.mk hat; have c6' := (hb1.cell (p := ⟨w.heap.size + 1 + 1, 0, none⟩) (show w.heap.size + 1 + 1 < B by omega)).trans c6; have f6' := (hb1.frozen (p := ⟨w.heap.size + 1 + 1, 0, none⟩) (show w.heap.size + 1 + 1 < B by omega)).trans f6; clear hr1 hb1 hg1 hat))
    have hput := HI.out.put hBw HR1.out HG1.out HAT.out
    simp only [List.length_append] at hput
    refine ⟨(HI.out.keeps HG1.out).trans (KeepsOthers.setCell _ _ _), ⟨(HB1.out.mono (by omega)).setCell (p := ⟨w.heap.size + 1 + 1, 0, none⟩) (by show w.heap.size ≤ w.heap.size + 1 + 1; omega) _, ?_⟩, _, _, hput⟩
    exact (Below.heap_setCell _ _ _ _ (by show w.heap.size + 1 + 1 + 1 ≠ w.heap.size + 1 + 1; omega)).trans (HB1.out.block _ hBw)
 case done =>
  rintro D W hD0 hsz2 ⟨vo, vn, hI⟩ hK
  have hD : ws.heap.size ≤ D := by omega
  have hDB : D < B := by omega
  clear hD0
  have hS := foldl_S m l0 gs ([], []) (fun y hy => by have := HGI.out y hy; omega) (Nat.zero_le _)
  have hrr := HR.out
  rw [show gs.foldl (stepS m l0) ([], []) = foldS m l0 gs from rfl] at hS
  generalize foldS m l0 gs = s at *
  obtain ⟨out, now⟩ := s
  obtain ⟨hS1, hS2⟩ := hS
  simp only [List.length_nil, Nat.zero_add] at hS1 hS2 hrr
  have HRR := Aside0.mk hrr
  have hgl := HGL.out
  have HI := Aside0.mk hI
  have HK := Aside0.mk hK
  have c3 := (blk_cell hI.b3 0).trans rfl
  have c5 := (blk_cell hI.b5 0).trans rfl
  have c6 := (blk_cell hI.b6 0).trans rfl
  obtain ⟨u, hu⟩ := hI.bl
  obtain ⟨An, cn, hvn⟩ := Kd.R_slice hI.now_
  subst hvn
  have hBw : w.heap.size + 1 + 1 + 1 < B := by omega
  have hBW : B ≤ W.heap.size := by omega
  clear hI hu hK hrr HR
  gi_wp2
  rw [wpIn_wide]
  refine wp_mono ?_ ends_imp
  refine start_ (n := 7) (S := fun w' => w'.cell? ⟨w.heap.size + 1, 0, none⟩ = some vo ∧ w'.cell? ⟨w.heap.size + 1 + 1, 0, none⟩ = some (.slice An now.length cn) ∧ w'.cell? ⟨w.heap.size, 0, none⟩ = some (.int .i64 m)) (ds := []) #[false, false, false, false, false, false, false] (by kernel_rfl) rfl rfl ⟨c5, c6, c3⟩ (fun hHeld => ?_)
  refine take_ (i := 0) (N := some 31) (v := ?_) (a' := ?_) #[true, false, false, false, false, false, false] rfl rfl (by kernel_rfl) (fun _ _ _ h => h) (Or.inl ⟨by rfl, ?_⟩) hHeld ?_ ?_
  rotate_left
  ·rintro w' ⟨s0, s1, s2⟩
   go_simp
   with_reducible rfl
  rotate_left
  ·exact zr
  refine take_ (i := 1) (N := some 32) (v := ?_) (a' := ?_) #[true, true, false, false, false, false, false] rfl rfl (by kernel_rfl) (fun _ _ _ h => h) (Or.inl ⟨by rfl, ?_⟩) hHeld ?_ ?_
  rotate_left
  ·rintro w' ⟨s0, s1, s2⟩
   go_simp
   with_reducible rfl
  rotate_left
  ·exact zr
  refine take_ (i := 2) (N := some 33) (v := ?_) (a' := ?_) #[true, true, true, false, false, false, false] rfl rfl (by kernel_rfl) (fun _ _ _ h => h) (Or.inl ⟨by rfl, ?_⟩) hHeld ?_ ?_
  rotate_left
  ·rintro w' ⟨s0, s1, s2⟩
   go_simp
   with_reducible rfl
  rotate_left
  ·exact zr
  refine one_ (i := 3) (N := some 34) #[true, true, true, true, false, false, false] rfl rfl (by kernel_rfl) (by decide) (fun K hK => ?_)
  refine goes_ Tryd.func72 (by kernel_rfl) rfl #[.slice An now.length cn, .int .i64 m, .bool false] (by rfl) rfl rfl zm ?_
  refine (filled_calls B m _ (.slice An now.length cn) now false W.drew (Kd.R_drew HI.out.now_) hS1 (by omega) (by omega)).mono ?_
  rintro e w3 ⟨A3, c3', rfl, hc3, hF3, hb3⟩
  refine ⟨_, rfl, ?_⟩
  have HB3 : Aside0 (Below W.heap.size W w3) := ⟨(Below.refl W.heap.size W).drew.trans hb3⟩
  obtain ⟨hp3, hok3, hN3⟩ := HI.out.line false hBW HB3.out hS1 hc3 hF3
  have HP3 := Aside0.mk hp3
  have HO3 := Aside0.mk hok3
  have HN3 := Aside0.mk hN3
  have d5 := zc (w := W.drew) ⟨hb3⟩ c5
  have d6 := zc (w := W.drew) ⟨hb3⟩ c6
  have d3 := zc (w := W.drew) ⟨hb3⟩ c3
  have hs3 : W.heap.size ≤ w3.heap.size := hb3.size
  have hk3 := (hb3.block D (Array.getElem?_eq_some_iff.1 HK.out).1).trans HK.out
  have HK3 := Aside0.mk hk3
  clear hb3 hp3 hok3 hN3 hF3 hk3
  refine hK.out _ _ ⟨d5, d6, d3⟩ (fun hHeld => ?_)
  clear hK K
  refine norm_ (a' := ?_) ?_ ?_
  rotate_left
  ·show Act.put _ (some 34) _ = _
   exact zr
  refine one_ (i := 4) (N := some 35) #[true, true, true, true, true, false, false] rfl rfl (by kernel_rfl) (by decide) (fun K hK => ?_)
  refine value_ (w1 := w3.alloc (.cells #[.slice A3 m c3', .bool false] 38)) (v := .slice (some ⟨w3.heap.size, 0, none⟩) 1 1) (by rfl) rfl ?_ ?_
  ·go_simp
  refine hK.out _ _ ⟨zc ⟨below_alloc (Below.refl _ _) _⟩ d5, zc ⟨below_alloc (Below.refl _ _) _⟩ d6, zc ⟨below_alloc (Below.refl _ _) _⟩ d3⟩ (fun hHeld => ?_)
  clear hK K
  refine norm_ (a' := ?_) ?_ ?_
  rotate_left
  ·show Act.put _ (some 35) _ = _
   exact zr
  refine one_ (i := 5) (N := some 36) #[true, true, true, true, true, true, false] rfl rfl (by kernel_rfl) (by decide) (fun K hK => ?_)
  refine Kd.N_append_step k38 (w0 := w3) B (by rfl) (.tmp 31) (.tmp 35) 22 38 (.agg #[.slice none 0 0, .bool false]) 32 rfl Tryd.underlying22 Tryd.lineInfo rfl (by decide) (by omega) vo out ⟨fillL now m, false⟩ [.slice A3 m c3', .bool false] (fun k => B ≤ k) _ rfl rfl HP3.out HO3.out (fun k hk => by omega) HN3.out (Below.refl _ _) (by omega) (by omega) ?_
  intro v1 w5 hN5 hb5 hg5 hat5
  have hvb := Kd.N_typed HN3.out
  have hk5 := (hg5.block D (Array.getElem?_eq_some_iff.1 HK3.out).1 (fun e => by obtain ⟨c, hc⟩ := hvb D e.symm; rw [HK3.out] at hc; cases hc)).trans HK3.out
  obtain ⟨hkk5, hbw5, hko5, _⟩ := HI.out.flush hBw HB3.out hg5 hN5
  have e5 := (blk_cell (hkk5 _ _ HI.out.b5 (by omega)) 0).trans rfl
  have e6 := (blk_cell (hkk5 _ _ HI.out.b6 (by omega)) 0).trans rfl
  have e3 := (blk_cell (hkk5 _ _ HI.out.b3 (by omega)) 0).trans rfl
  refine hK.out _ _ ⟨e5, e6, e3⟩ (fun hHeld => ?_)
  clear hK K
  refine norm_ (a' := ?_) ?_ ?_
  rotate_left
  ·show Act.put _ (some 36) _ = _
   exact zr
  refine pure_ (i := 6) (N := some 4) (v := ?_) (a' := ?_) #[true, true, true, true, true, true, true] rfl rfl (by kernel_rfl) (fun _ _ _ h => h) (Or.inl ⟨by rfl, ?_⟩) ?_ ?_
  rotate_left
  ·intro w'
   go_simp
   with_reducible rfl
  rotate_left
  ·exact zr
  refine done_ (by kernel_rfl) ?_
  have HN5 := Aside0.mk hN5
  have HB5 := Aside0.mk (HI.out.below.trans hbw5)
  have HK5 := Aside0.mk hk5
  clear hN5 hb5 hg5 hat5 hk5 hvb hkk5 hbw5 hko5 e5 e6 e3 hHeld c3 c5 c6 d3 d5 d6
  refine ends_normal ?_
  gi_wp2
  refine ⟨by simp, .inl ⟨_, _, rfl, run_takeDeferred HK5.out, ?_⟩⟩
  have hg := grownBy_putObj' w5 D (.deferred none)
  refine ⟨v1, by simp [results, Tryd.results52, go_sem], v1, rfl, ?_, HB5.out.grown hg HB5.out.size (fun k e => by cases e; omega)⟩
  rw [HRR.out]
  exact Kd.N_lower (Kd.N_mono (Kd.N_grown HN5.out hg (fun k hk e => by cases e; omega)) (fun k hk => by omega)) (by omega)
end Go.Proofs.YtckkdaehmccjlaaDoor.P
namespace Go.Proofs.YtckkdaehmccjlaaDoor.P
open Go.RowKit Go.Proofs.YtckkdaehmccjlaaDoorW.PrintWords Go.Proofs.YtckkdaehmccjlaaDoorW.PrintLast Go.Proofs.YtckkdaehmccjlaaDoorW.PrintMore
attribute [local go_sem] max2_int min2_int max_two min_two max_three min_three max_four min_four   -- for this text's walks alone
set_option linter.unusedVariables false
set_option linter.unusedSimpArgs false
mutual
def flow_Flow.j0 : Nat → Int → List (List (S60)) → Bool → Option ((List (S38)) × Int)
 | 0, _, _, _ => none
 | k + 1, x1, x6, x25 => if x25 = true then (some (([] : List (S38)), 1)) else (flow_Flow.l0 k x1 ([] : List (S38)) x6 (x6.length : Int) 0)
def flow_Flow.l0 : Nat → Int → List (S38) → List (List (S60)) → Int → Int → Option ((List (S38)) × Int)
 | 0, _, _, _, _, _ => none
 | k + 1, x1, x8, x26, x27, x28 => if x28 < x27 then (if 0 ≤ x28 then (if x28 < (x26.length : Int) then ((flow_fold.f (rd_L4 x26 x28) x1).bind fun t531 => (if x8.length + t531.length < 4398046511104 then (flow_Flow.l0 k x1 (x8 ++ t531) x26 x27 (wrap64 (x28 + 1))) else (none))) else (none)) else (none)) else (some (x8, 0))
end
def flow_Flow.f (k : Nat) (l0 : List (S38)) (a1 : Int) : Option ((List (S38)) × Int) := (flow_Join.f k l0).bind fun bt526 => (if bt526.2 = 0 then (if a1 < 1 then (flow_Flow.j0 k a1 bt526.1 true) else (flow_Flow.j0 k a1 bt526.1 (decide (a1 > 80)))) else (flow_Flow.j0 k a1 bt526.1 true))
set_option maxHeartbeats 8000000 in
set_option maxRecDepth 100000 in
theorem flow_Flow.calls (k : Nat) (A0 : Option Addr) (c0 : Nat) (l0 : List (S38)) (a1 : Int) (r1 : List (S38)) (r2 : Int) (w : World) (hr0 : Kd.C k38 w A0 l0.length l0) (hc0 : l0.length ≤ c0) (h : flow_Flow.f k l0 a1 = some (r1, r2)) (hT : Tabs w := by first | exact Aside0.out (by with_reducible assumption) | exact Tabs.keepA (by with_reducible assumption) (by repeat (first | (with_reducible exact Aside0.out (by with_reducible assumption)) | (with_reducible apply below_alloc) | (with_reducible apply pw_below_drewN) | (with_reducible apply below_drew1) | (with_reducible refine below_set ?_ (Aside0.out (by with_reducible assumption)))))) :
  Calls Tryd.prog 26 #[.slice A0 l0.length c0, .int .i64 a1] w fun e w' => ∃ v0_ : Value, e = .returned (.tuple #[v0_, .int .i64 r2]) ∧ Kd.N k38 38 w' w.heap.size (fun k_ => (w.heap.size ≤ k_)) v0_ r1 ∧ Below w.heap.size w w' := by
 have HT := Aside0.mk (show Tabs w from hT)
 clear hT
 have HR0 := Aside0.mk hr0
 have HC0 := Aside0.mk hc0
 clear hr0 hc0
 have HB := Aside0.mk (Below.refl w.heap.size w)
 have H : ((flow_Join.f k l0).bind fun bt526 => (if bt526.2 = 0 then (if a1 < 1 then (flow_Flow.j0 k a1 bt526.1 true) else (flow_Flow.j0 k a1 bt526.1 (decide (a1 > 80)))) else (flow_Flow.j0 k a1 bt526.1 true))) = some (r1, r2) := h
 clear h
 replace H := Option.bind_eq_some_iff.mp H
 obtain ⟨⟨t526, t529⟩, A30, H⟩ := H
 replace H : (if t529 = 0 then (if a1 < 1 then (flow_Flow.j0 k a1 t526 true) else (flow_Flow.j0 k a1 t526 (decide (a1 > 80)))) else (flow_Flow.j0 k a1 t526 true)) = some (r1, r2) := H
 have A3 := Aside0.mk A30
 clear A30
 have HC4 := Aside0.mk H
 clear H
 go_enter Tryd.func26, Tryd.ntmps26
 go_upto_region 2 with (first | ((with_reducible refine gate_callee (f := 18) rfl ?_); refine goesL_ (some 13) rfl rfl Tryd.func18 (by kernel_rfl) rfl #[.slice A0 l0.length c0] rfl zl ?_; (with_reducible refine (flow_Join.calls k _ _ l0 t526 t529 _ ?side1 ?side2 A3.out).mono ?_); (case side1 => repeat (first | exact HR0.out | (with_reducible refine Kd.C_alloc ?_ _) | (with_reducible refine Kd.C_drewN ?_ _) | (with_reducible refine Kd.C_drew ?_))); (case side2 => exact HC0.out); rintro e w5 ⟨v527, rfl, ho0, hb⟩; refine ⟨_, rfl, ?_⟩; have HO528 := Aside0.mk (Kd.N_lower (Kd.N_mono (ok' := fun k_ => (w.heap.size ≤ k_)) ho0 (fun k_ hk_ => (Nat.le_trans (below_size zb) hk_))) (below_size zb)); replace HB := (zs HB hb); (try clear hb); (try clear ho0)))
 (try simp only [Act.put, List.setIfInBounds_toArray, List.set_cons_zero, List.set_cons_succ])
 go_cut [25] (fun v25 wc => ∃ (kq : Nat) (x25_3 : Bool), v25 = .bool x25_3 ∧ Aside0 (flow_Flow.j0 kq a1 t526 x25_3 = some (r1, r2)) ∧ Aside0 (kq ≤ k) ∧ Aside0 (Kd.N (Kd.slice 60 k60) 36 wc w.heap.size (fun k_ => (w.heap.size ≤ k_)) v527 t526) ∧ Aside0 (Below w.heap.size w wc))
 case first =>
  have H := HC4.out
  clear HC4
  by_cases c6 : t529 = 0
  ·rw [if_pos c6] at H
   have c6b0 : (t529 == 0) = true := beq_iff_eq.mpr c6
   have c6b1 : (t529 != 0) = false := bne_eq_false_iff_eq.mpr c6
   clear c6
   (first | rw [c6b0] | (simp only [i64_w, i32_w]; rw [c6b0]) | skip)
   by_cases c7 : a1 < 1
   ·rw [if_pos c7] at H
    have c7b0 : decide (a1 < 1) = true := decide_eq_true c7
    clear c7
    have H' := Aside0.mk H
    clear H
    go_wp2
    go_meet
    case rel => exact ⟨_, (true), zf, H', ⟨by first | omega | exact Nat.le_refl _⟩, ⟨by (with_reducible repeat (first | apply Kd.N_alloc | apply Kd.N_drewN | apply Kd.N_drew)); exact HO528.out⟩, ⟨zb⟩⟩
   ·rw [if_neg c7] at H
    have c7b0 : decide (a1 < 1) = false := decide_eq_false c7
    clear c7
    have H' := Aside0.mk H
    clear H
    go_wp2
    go_meet
    case rel => exact ⟨_, (decide (a1 > 80)), zf, H', ⟨by first | omega | exact Nat.le_refl _⟩, ⟨by (with_reducible repeat (first | apply Kd.N_alloc | apply Kd.N_drewN | apply Kd.N_drew)); exact HO528.out⟩, ⟨zb⟩⟩
  ·rw [if_neg c6] at H
   have c6b0 : (t529 == 0) = false := beq_eq_false_iff_ne.mpr c6
   have c6b1 : (t529 != 0) = true := bne_iff_ne.mpr c6
   (first | rw [c6b0] | (simp only [i64_w, i32_w]; rw [c6b0]) | skip)
   have H' := Aside0.mk H
   clear H
   go_wp2
   go_meet
   case rel => exact ⟨_, (true), zf, H', ⟨by first | omega | exact Nat.le_refl _⟩, ⟨by (with_reducible repeat (first | apply Kd.N_alloc | apply Kd.N_drewN | apply Kd.N_drew)); exact HO528.out⟩, ⟨zb⟩⟩
 case rest =>
  clear HC4
  obtain ⟨kq, x25_3, rfl, HA, HJ3, HO_6, HB⟩ := hcut
  cases kq with
  | zero => exact absurd HA.out (by simp [flow_Flow.j0])
  | succ kj3 =>
   have H := HA.out
   clear HA
   simp only [flow_Flow.j0] at H
   by_cases c8 : x25_3 = true
   ·subst c8
    have H1 : (some (([] : List (S38)), 1)) = some (r1, r2) := by rw [if_pos rfl] at H; exact H
    clear H
    have H := H1
    clear H1
    simp only [Option.some.injEq, Prod.mk.injEq] at H
    obtain ⟨rfl, rfl⟩ := H
    go_wp2
    go_ret2
    exact ⟨_, ze, by first | exact Kd.S_nil _ _ _ _ _ | exact Kd.N_nil _ _ _ _ _ | exact Kd.V_nil _ _ _ _ _ | exact Kd.Q_nil _ _ _ _ _ | exact Kd.R_nil _ _ _ _ _, zb⟩
   ·replace c8 := Bool.eq_false_iff.mpr c8
    subst c8
    have H1 : (flow_Flow.l0 kj3 a1 ([] : List (S38)) t526 (t526.length : Int) 0) = some (r1, r2) := by rw [if_neg (show ¬ (false = true) by decide)] at H; exact H
    clear H
    have H := H1
    clear H1
    have H' := Aside0.mk H
    clear H
    obtain ⟨Ao9, co9, eo9⟩ := Kd.N_slice HO_6.out
    subst eo9
    go_wp2
    go_loopg [8, 28] kj3 (fun kq v8 v28 w' => ∃ (x8_2 : List (S38)) (x28_2 : Int), v28 = .int .i64 x28_2 ∧ Aside0 (flow_Flow.l0 kq a1 x8_2 t526 (t526.length : Int) x28_2 = some (r1, r2)) ∧ Aside0 (kq ≤ kj3) ∧ Aside0 (Kd.N k38 38 w' w.heap.size (fun k_ => (w.heap.size ≤ k_) ∧ some k_ ≠ ((.slice Ao9 t526.length co9) : Value).ownBlock) v8 x8_2) ∧ Aside0 (Kd.N (Kd.slice 60 k60) 36 w' w.heap.size (fun k_ => (w.heap.size ≤ k_) ∧ some k_ ≠ (v8 : Value).ownBlock) (.slice Ao9 t526.length co9) t526) ∧ Aside0 (Below w.heap.size w w'))
    case atStart => exact ⟨(([] : List (S38))), (0), zf, H', ⟨Nat.le_refl _⟩, ⟨by first | exact Kd.S_nil _ _ _ _ _ | exact Kd.N_nil _ _ _ _ _ | exact Kd.V_nil _ _ _ _ _ | exact Kd.Q_nil _ _ _ _ _ | exact Kd.R_nil _ _ _ _ _⟩, ⟨by (with_reducible repeat (first | apply Kd.N_alloc | apply Kd.N_drewN | apply Kd.N_drew)); exact Kd.N_mono HO_6.out (fun _ hk => ⟨hk, (by simp [Value.ownBlock])⟩)⟩, ⟨zb⟩⟩
    case round =>
     clear H'
     try clear c8
     obtain ⟨x8_2, x28_2, rfl, HA, HK2, HO_8, HO_26, HB⟩ := hrel
     cases gk with
     | zero => exact absurd HA.out (by simp [flow_Flow.l0])
     | succ k2 =>
      have H := HA.out
      clear HA
      simp only [flow_Flow.l0] at H
      by_cases c10 : x28_2 < (t526.length : Int)
      ·rw [if_pos c10] at H
       have c10b0 : decide (x28_2 < (t526.length : Int)) = true := decide_eq_true c10
       clear c10
       by_cases c11 : 0 ≤ x28_2
       ·rw [if_pos c11] at H
        have c11b0 : decide (0 ≤ x28_2) = true := decide_eq_true c11
        clear c11
        by_cases c12 : x28_2 < (t526.length : Int)
        ·rw [if_pos c12] at H
         have c12b0 : decide (x28_2 < (t526.length : Int)) = true := decide_eq_true c12
         clear c12
         replace H := Option.bind_eq_some_iff.mp H
         obtain ⟨t531, A130, H⟩ := H
         replace H : (if x8_2.length + t531.length < 4398046511104 then (flow_Flow.l0 k2 a1 (x8_2 ++ t531) t526 (t526.length : Int) (wrap64 (x28_2 + 1))) else (none)) = some (r1, r2) := H
         have A13 := Aside0.mk A130
         clear A130
         by_cases c14 : x8_2.length + t531.length < 4398046511104
         ·rw [if_pos c14] at H
          have LMc14 := Aside0.mk c14
          clear c14
          obtain ⟨y534, hy534⟩ : ∃ y_ : List (S38), y_ = (x8_2 ++ t531) := ⟨_, rfl⟩
          replace H : (flow_Flow.l0 k2 a1 y534 t526 (t526.length : Int) (wrap64 (x28_2 + 1))) = some (r1, r2) := by first | (rw [hy534]; with_reducible exact H) | (have H2_ := (Option.bind_some _ _).symm.trans H; rw [hy534]; with_reducible exact H2_) | (have H2_ := (Option.bind_some _ _).symm.trans H; with_reducible exact H2_) | with_reducible exact H | (rw [hy534]; exact H) | exact H
          have Ny534 := Aside0.mk hy534
          clear hy534
          have H' := Aside0.mk H
          clear H
          have p530 : 0 ≤ (x28_2 : Int) := of_decide_eq_true za
          have q530 : x28_2 < (t526.length : Int) := of_decide_eq_true za
          obtain ⟨ad530, A530_0, c530_0, e530, hx530_0, hl530_0, hi530_0⟩ := at_L4 (Kd.N_reads' HO_26.out).2.2 x28_2 p530 q530
          cases e530
          obtain ⟨ce530, hce530, hMe530, hcc530⟩ := Kd.N_get HO_26.out [] x28_2 p530 (by first | exact q530 | exact of_decide_eq_true za | (have e_ := (Kd.N_reads' HO_26.out).1; omega))
          obtain ⟨ua530_0, uc530_0, rfl, ul530_0, ge530_0⟩ := Kd.FK_slice_open hMe530
          have hv530_0 := hcc530 0 _ rfl
          rw [Nat.add_zero, show ((Kd.slice 60 k60)).sz = 1 from rfl, Nat.mul_one] at hv530_0
          replace hv530_0 := Option.some.inj (hv530_0.symm.trans hx530_0)
          injection hv530_0 with hva_ hvn_ hvc_
          rw [hva_] at ge530_0
          rw [hvc_] at ul530_0
          have HL530_0 := Aside0.mk (show Kd.V k60 60 _ w.heap.size _ _ (rd_L4 t526 x28_2) from Kd.V_mk ul530_0 ge530_0)
          clear hva_ hvn_ hvc_ ge530_0 ul530_0
          clear hcc530 hce530
          have HR530_0 := Aside0.mk hi530_0
          have HC530_0 := Aside0.mk hl530_0
          clear hi530_0 hl530_0
          replace p530 := eq_true p530
          replace q530 := eq_true q530
          go_wp2_with (first | ((with_reducible refine gate_callee (f := 52) rfl ?_); refine goesL_ (some 35) rfl rfl Tryd.func52 (by kernel_rfl) rfl #[.slice A530_0 (rd_L4 t526 x28_2).length c530_0, .int .i64 a1] rfl zl ?_; (with_reducible refine (flow_fold.calls _ _ (rd_L4 t526 x28_2) a1 t531 _ ?side1 ?side2 A13.out).mono ?_); (case side1 => repeat (first | exact (by repeat (first | (with_reducible exact HR530_0.out) | (with_reducible refine Kd.C_alloc ?_ _) | (with_reducible refine Kd.C_drewN ?_ _) | (with_reducible refine Kd.C_drew ?_) | exact HR530_0.out)) | (with_reducible refine Kd.C_alloc ?_ _) | (with_reducible refine Kd.C_drewN ?_ _) | (with_reducible refine Kd.C_drew ?_))); (case side2 => exact HC530_0.out); rintro e w15 ⟨v532, rfl, ho0, hb⟩; refine ⟨_, rfl, ?_⟩; have n0_ := Aside0.mk (Kd.N_elder' (zNa HO_8) (by first | exact Kd.N_base ho0 | exact Kd.S_base ho0) hb); have n1_ := Aside0.mk (Kd.N_elder' (zNa HO_26) (by first | exact Kd.N_base ho0 | exact Kd.S_base ho0) hb); have n2_ := Aside0.mk (Kd.V_elder' (by (with_reducible repeat (first | apply Kd.V_alloc | apply Kd.V_drewN | apply Kd.V_drew)); exact HL530_0.out) (by first | exact Kd.N_base ho0 | exact Kd.S_base ho0) hb); have n3_ := Aside0.mk (Kd.N_lower (Kd.N_mono (ok' := fun k_ => (w.heap.size ≤ k_) ∧ some k_ ≠ (u8 : Value).ownBlock ∧ some k_ ≠ (.slice (some ad530) t526.length co9 : Value).ownBlock) ho0 (fun k_ hk_ => ⟨(Nat.le_trans (below_size zb) hk_), (Kd.fresh' (Kd.N_lt (zNa HO_8)) k_ hk_), (Kd.fresh' (Kd.N_lt (zNa HO_26)) k_ hk_)⟩)) (below_size zb)); have n4_ := Aside0.mk (Kd.C_below (by repeat (first | (with_reducible exact HR530_0.out) | (with_reducible refine Kd.C_alloc ?_ _) | (with_reducible refine Kd.C_drewN ?_ _) | (with_reducible refine Kd.C_drew ?_) | exact HR530_0.out)) hb); have n5_ := (zs HB hb); clear HO_8; clear HO_26; clear HL530_0; clear HR530_0; clear HB; have HO_8 := n0_; have HO_26 := n1_; have HL530_0 := n2_; have HO533 := n3_; have HR530_0 := n4_; have HB := n5_; clear n0_ n1_ n2_ n3_ n4_ n5_; (try clear hb); (try clear hk); (try clear ho0); obtain ⟨Ao17, co17, eo17⟩ := Kd.N_slice HO533.out; subst eo17) | ((with_reducible refine gate_builtin (b := .append) (xs := #[.tmp 32, .tmp 35]) rfl ?_); at_builtin; refine Kd.N_append_rows k38 (w0 := w) w.heap.size rfl (.tmp 32) (.tmp 35) 22 38 (.agg #[(.slice none 0 0), (.bool false)]) 32 rfl Tryd.underlying22 info38 rfl (by decide) (by omega) u8 x8_2 t531 _ _ _ (fun k_ => (w.heap.size ≤ k_) ∧ some k_ ≠ (.slice (some ad530) t526.length co9 : Value).ownBlock) (fun k_ => ((fun k_ => (w.heap.size ≤ k_) ∧ some k_ ≠ (.slice (some ad530) t526.length co9 : Value).ownBlock)) k_ ∧ some k_ ≠ (u8 : Value).ownBlock) rfl rfl ?aO ?aR (fun _ hk => hk) ?aF ?aB ?aS ?aL ?_; (case aR => exact (by skip; exact Kd.N_F (Kd.N_mono (ok' := (fun k_ => ((fun k_ => (w.heap.size ≤ k_) ∧ some k_ ≠ (.slice (some ad530) t526.length co9 : Value).ownBlock)) k_ ∧ some k_ ≠ (u8 : Value).ownBlock)) (HO533.out) (fun k_ hk => ⟨⟨hk.1, hk.2.2⟩, hk.2.1⟩)))); (case aB => exact zb); (case aF => exact (fun k_ hk => ⟨(Nat.le_trans (below_size zb) hk), Kd.fresh' (Kd.N_lt (zNa HO_26)) k_ hk⟩)); (case aO => exact (by (with_reducible repeat (first | apply Kd.N_alloc | apply Kd.N_drewN | apply Kd.N_drew)); exact Kd.N_mono HO_8.out (fun _ hk => ⟨hk.1.1, hk.1.2⟩))); (case aS => exact (below_size zb)); (case aL => have := LMc14.out; omega); intro v535 w16 ho hb hg hat; rw [← Ny534.out] at ho; have n0_ := Aside0.mk (Kd.N_afterv (ok := (fun k_ => (w.heap.size ≤ k_) ∧ some k_ ≠ (.slice Ao17 t531.length co17 : Value).ownBlock)) (by (with_reducible repeat (first | apply Kd.N_alloc | apply Kd.N_drewN | apply Kd.N_drew)); exact Kd.N_mono HO_26.out (fun _ hk => ⟨⟨hk.1.1, hk.2⟩, hk.1.2⟩)) hg hat); have n1_ := Aside0.mk (Kd.V_afterv (ok := (fun k_ => (w.heap.size ≤ k_) ∧ some k_ ≠ (.slice (some ad530) t526.length co9 : Value).ownBlock ∧ some k_ ≠ (.slice Ao17 t531.length co17 : Value).ownBlock)) (by (with_reducible repeat (first | apply Kd.V_alloc | apply Kd.V_drewN | apply Kd.V_drew)); exact Kd.V_mono HL530_0.out (fun _ hk => ⟨⟨hk.1.1.1, ⟨hk.1.2, hk.2⟩⟩, hk.1.1.2⟩)) hg hat); have n2_ := Aside0.mk (Kd.N_afterv (ok := (fun k_ => (w.heap.size ≤ k_) ∧ some k_ ≠ (.slice (some ad530) t526.length co9 : Value).ownBlock)) (by (with_reducible repeat (first | apply Kd.N_alloc | apply Kd.N_drewN | apply Kd.N_drew)); exact Kd.N_mono HO533.out (fun _ hk => ⟨⟨hk.1, hk.2.2⟩, hk.2.1⟩)) hg hat); have n3_ := Aside0.mk (hb); have n4_ := Aside0.mk (ho); clear HO_26; clear HL530_0; clear HO533; clear HB; clear HO_8; have HO_26 := n0_; have HL530_0 := n1_; have HO533 := n2_; have HB := n3_; have HO536 := n4_; clear n0_ n1_ n2_ n3_ n4_; clear ho hb hg hat))
          go_roundg k2
          case measure => have := HJ3.out; have := HK2.out; omega
          case rel => exact ⟨(y534), (wrap64 (x28_2 + 1)), zf, H', ⟨by have := HJ3.out; have := HK2.out; omega⟩, ⟨by (with_reducible repeat (first | apply Kd.N_alloc | apply Kd.N_drewN | apply Kd.N_drew)); exact HO536.out⟩, ⟨by (with_reducible repeat (first | apply Kd.N_alloc | apply Kd.N_drewN | apply Kd.N_drew)); exact Kd.N_mono HO_26.out (fun _ hk => ⟨hk.1.1, hk.2⟩)⟩, ⟨zb⟩⟩
         ·rw [if_neg c14] at H
          exact absurd H (by simp)
        ·rw [if_neg c12] at H
         exact absurd H (by simp)
       ·rw [if_neg c11] at H
        exact absurd H (by simp)
      ·rw [if_neg c10] at H
       have c10b0 : decide (x28_2 < (t526.length : Int)) = false := decide_eq_false c10
       clear c10
       simp only [Option.some.injEq, Prod.mk.injEq] at H
       obtain ⟨rfl, rfl⟩ := H
       go_wp2
       go_ret2
       exact ⟨_, ze, by (with_reducible repeat (first | apply Kd.N_alloc | apply Kd.N_drewN | apply Kd.N_drew)); exact Kd.N_mono HO_8.out (fun _ hk => hk.1), zb⟩
def flow_Fold.f (k : Nat) (l0 : List (S60)) (a1 : Int) : Option ((List (S38)) × Int) := if a1 < 1 then (some (([] : List (S38)), 1)) else (if a1 > 80 then (some (([] : List (S38)), 1)) else (if (l0.length : Int) > 16000 then (some (([] : List (S38)), 1)) else ((grid_Fits.f k l0 false (l0.length : Int)).bind fun t445 => (if t445 = true then ((flow_fold.f l0 a1).bind fun t446 => (some (t446, 0))) else (some (([] : List (S38)), 1))))))
set_option maxHeartbeats 8000000 in
set_option maxRecDepth 100000 in
theorem flow_Fold.calls (k : Nat) (A0 : Option Addr) (c0 : Nat) (l0 : List (S60)) (a1 : Int) (r1 : List (S38)) (r2 : Int) (w : World) (hr0 : Kd.C k60 w A0 l0.length l0) (hc0 : l0.length ≤ c0) (h : flow_Fold.f k l0 a1 = some (r1, r2)) (hT : Tabs w := by first | exact Aside0.out (by with_reducible assumption) | exact Tabs.keepA (by with_reducible assumption) (by repeat (first | (with_reducible exact Aside0.out (by with_reducible assumption)) | (with_reducible apply below_alloc) | (with_reducible apply pw_below_drewN) | (with_reducible apply below_drew1) | (with_reducible refine below_set ?_ (Aside0.out (by with_reducible assumption)))))) :
  Calls Tryd.prog 25 #[.slice A0 l0.length c0, .int .i64 a1] w fun e w' => ∃ v0_ : Value, e = .returned (.tuple #[v0_, .int .i64 r2]) ∧ Kd.N k38 38 w' w.heap.size (fun k_ => (w.heap.size ≤ k_)) v0_ r1 ∧ Below w.heap.size w w' := by
 have HT := Aside0.mk (show Tabs w from hT)
 clear hT
 have hu38 := Tryd.underlying38
 have HR0 := Aside0.mk hr0
 have HC0 := Aside0.mk hc0
 clear hr0 hc0
 have HB := Aside0.mk (Below.refl w.heap.size w)
 have H : (if a1 < 1 then (some (([] : List (S38)), 1)) else (if a1 > 80 then (some (([] : List (S38)), 1)) else (if (l0.length : Int) > 16000 then (some (([] : List (S38)), 1)) else ((grid_Fits.f k l0 false (l0.length : Int)).bind fun t445 => (if t445 = true then ((flow_fold.f l0 a1).bind fun t446 => (some (t446, 0))) else (some (([] : List (S38)), 1))))))) = some (r1, r2) := h
 clear h
 by_cases c3 : a1 < 1
 ·rw [if_pos c3] at H
  have c3b0 : decide (a1 < 1) = true := decide_eq_true c3
  clear c3
  simp only [Option.some.injEq, Prod.mk.injEq] at H
  obtain ⟨rfl, rfl⟩ := H
  go_enter Tryd.func25, Tryd.ntmps25
  go_wp2
  go_ret2
  exact ⟨_, ze, by first | exact Kd.S_nil _ _ _ _ _ | exact Kd.N_nil _ _ _ _ _ | exact Kd.V_nil _ _ _ _ _ | exact Kd.Q_nil _ _ _ _ _ | exact Kd.R_nil _ _ _ _ _, zb⟩
 ·rw [if_neg c3] at H
  have c3b0 : decide (a1 < 1) = false := decide_eq_false c3
  clear c3
  by_cases c4 : a1 > 80
  ·rw [if_pos c4] at H
   have c4b0 : decide (80 < a1) = true := decide_eq_true c4
   clear c4
   simp only [Option.some.injEq, Prod.mk.injEq] at H
   obtain ⟨rfl, rfl⟩ := H
   go_enter Tryd.func25, Tryd.ntmps25
   go_wp2
   go_ret2
   exact ⟨_, ze, by first | exact Kd.S_nil _ _ _ _ _ | exact Kd.N_nil _ _ _ _ _ | exact Kd.V_nil _ _ _ _ _ | exact Kd.Q_nil _ _ _ _ _ | exact Kd.R_nil _ _ _ _ _, zb⟩
  ·rw [if_neg c4] at H
   have c4b0 : decide (80 < a1) = false := decide_eq_false c4
   clear c4
   by_cases c5 : (l0.length : Int) > 16000
   ·rw [if_pos c5] at H
    have c5b0 : decide (16000 < (l0.length : Int)) = true := decide_eq_true c5
    have c5b1 : decide (16000 < l0.length) = true := decide_eq_true (by omega)
    clear c5
    simp only [Option.some.injEq, Prod.mk.injEq] at H
    obtain ⟨rfl, rfl⟩ := H
    go_enter Tryd.func25, Tryd.ntmps25
    go_wp2
    go_ret2
    exact ⟨_, ze, by first | exact Kd.S_nil _ _ _ _ _ | exact Kd.N_nil _ _ _ _ _ | exact Kd.V_nil _ _ _ _ _ | exact Kd.Q_nil _ _ _ _ _ | exact Kd.R_nil _ _ _ _ _, zb⟩
   ·rw [if_neg c5] at H
    have c5b0 : decide (16000 < (l0.length : Int)) = false := decide_eq_false c5
    have c5b1 : decide (16000 < l0.length) = false := decide_eq_false (by omega)
    clear c5
    replace H := Option.bind_eq_some_iff.mp H
    obtain ⟨t445, A60, H⟩ := H
    replace H : (if t445 = true then ((flow_fold.f l0 a1).bind fun t446 => (some (t446, 0))) else (some (([] : List (S38)), 1))) = some (r1, r2) := H
    have A6 := Aside0.mk A60
    clear A60
    by_cases c7 : t445 = true
    ·subst c7
     have H1 : ((flow_fold.f l0 a1).bind fun t446 => (some (t446, 0))) = some (r1, r2) := by rw [if_pos rfl] at H; exact H
     clear H
     have H := H1
     clear H1
     replace H := Option.bind_eq_some_iff.mp H
     obtain ⟨t446, A80, H⟩ := H
     replace H : (some (t446, 0)) = some (r1, r2) := H
     have A8 := Aside0.mk A80
     clear A80
     simp only [Option.some.injEq, Prod.mk.injEq] at H
     obtain ⟨rfl, rfl⟩ := H
     go_enter Tryd.func25, Tryd.ntmps25
     go_wp2_with (first | (go_at_call 51; (with_reducible refine (grid_Fits.calls k _ _ l0 false (l0.length : Int) true _ ?side1 ?side2 A6.out).mono ?_); (case side1 => repeat (first | exact HR0.out | (with_reducible refine Kd.C_alloc ?_ _) | (with_reducible refine Kd.C_drewN ?_ _) | (with_reducible refine Kd.C_drew ?_))); (case side2 => exact HC0.out); rintro e w9 ⟨rfl, hb⟩; replace HB := (zs HB hb); (try clear hb)) | ((with_reducible refine gate_callee (f := 52) rfl ?_); refine goesL_ (some 27) rfl rfl Tryd.func52 (by kernel_rfl) rfl #[.slice A0 l0.length c0, .int .i64 a1] rfl zl ?_; (with_reducible refine (flow_fold.calls _ _ l0 a1 t446 _ ?side1 ?side2 A8.out).mono ?_); (case side1 => repeat (first | exact (Kd.C_below HR0.out HB.out) | (with_reducible refine Kd.C_alloc ?_ _) | (with_reducible refine Kd.C_drewN ?_ _) | (with_reducible refine Kd.C_drew ?_))); (case side2 => exact HC0.out); rintro e w10 ⟨v447, rfl, ho0, hb⟩; refine ⟨_, rfl, ?_⟩; have HO448 := Aside0.mk (Kd.N_lower (Kd.N_mono (ok' := fun k_ => (w.heap.size ≤ k_)) ho0 (fun k_ hk_ => (Nat.le_trans (below_size zb) hk_))) (below_size zb)); replace HB := (zs HB hb); (try clear hb); (try clear ho0)))
     go_ret2
     exact ⟨_, ze, by (with_reducible repeat (first | apply Kd.N_alloc | apply Kd.N_drewN | apply Kd.N_drew)); exact HO448.out, zb⟩
    ·replace c7 := Bool.eq_false_iff.mpr c7
     subst c7
     have H1 : (some (([] : List (S38)), 1)) = some (r1, r2) := by rw [if_neg (show ¬ (false = true) by decide)] at H; exact H
     clear H
     have H := H1
     clear H1
     simp only [Option.some.injEq, Prod.mk.injEq] at H
     obtain ⟨rfl, rfl⟩ := H
     go_enter Tryd.func25, Tryd.ntmps25
     go_wp2_with (first | (go_at_call 51; (with_reducible refine (grid_Fits.calls k _ _ l0 false (l0.length : Int) false _ ?side1 ?side2 A6.out).mono ?_); (case side1 => repeat (first | exact HR0.out | (with_reducible refine Kd.C_alloc ?_ _) | (with_reducible refine Kd.C_drewN ?_ _) | (with_reducible refine Kd.C_drew ?_))); (case side2 => exact HC0.out); rintro e w11 ⟨rfl, hb⟩; replace HB := (zs HB hb); (try clear hb)))
     go_ret2
     exact ⟨_, ze, by first | exact Kd.S_nil _ _ _ _ _ | exact Kd.N_nil _ _ _ _ _ | exact Kd.V_nil _ _ _ _ _ | exact Kd.Q_nil _ _ _ _ _ | exact Kd.R_nil _ _ _ _ _, zb⟩
def backseatlaw08_alive.f (k : Nat)  : Option (Bool) := (flow_Fold.f k (([(⟨(⟨#[97]⟩ : ByteArray), 1, (⟨0, 0, 0⟩ : S58)⟩ : S60), (⟨(⟨#[98]⟩ : ByteArray), 1, (⟨0, 0, 0⟩ : S58)⟩ : S60), (⟨(⟨#[99]⟩ : ByteArray), 1, (⟨0, 0, 0⟩ : S58)⟩ : S60)] : List (S60))) 2).bind fun bt452 => ((flow_Letters.f k bt452.1).bind fun bt456 => (if bt452.2 = 0 then (if bt456.2 = 0 then (if (bt452.1.length : Int) = 2 then (if 0 < (bt452.1.length : Int) then (if (rd_T38 bt452.1 0).f1 = true then (if 1 < (bt452.1.length : Int) then (if ((rd_T38 bt452.1 1).f1 = true) then (some false) else (if (bt456.1.length : Int) = 1 then (if 0 < (bt456.1.length : Int) then (some ((rdOf ByteArray.empty bt456.1 0).toList == ([97, 98, 99] : List UInt8))) else (none)) else (some false))) else (none)) else (some false)) else (none)) else (some false)) else (some false)) else (some false)))
set_option maxHeartbeats 8000000 in
set_option maxRecDepth 100000 in
theorem backseatlaw08_alive.calls (k : Nat)  (r : Bool) (w : World) (h : backseatlaw08_alive.f k  = some r) (hT : Tabs w := by first | exact Aside0.out (by with_reducible assumption) | exact Tabs.keepA (by with_reducible assumption) (by repeat (first | (with_reducible exact Aside0.out (by with_reducible assumption)) | (with_reducible apply below_alloc) | (with_reducible apply pw_below_drewN) | (with_reducible apply below_drew1) | (with_reducible refine below_set ?_ (Aside0.out (by with_reducible assumption)))))) :
  Calls Tryd.prog 20 #[] w fun e w' => e = .returned (.bool r) ∧ Below w.heap.size w w' := by
 have HT := Aside0.mk (show Tabs w from hT)
 clear hT
 have hu60 := Tryd.underlying60
 have HB := Aside0.mk (Below.refl w.heap.size w)
 have H : ((flow_Fold.f k (([(⟨(⟨#[97]⟩ : ByteArray), 1, (⟨0, 0, 0⟩ : S58)⟩ : S60), (⟨(⟨#[98]⟩ : ByteArray), 1, (⟨0, 0, 0⟩ : S58)⟩ : S60), (⟨(⟨#[99]⟩ : ByteArray), 1, (⟨0, 0, 0⟩ : S58)⟩ : S60)] : List (S60))) 2).bind fun bt452 => ((flow_Letters.f k bt452.1).bind fun bt456 => (if bt452.2 = 0 then (if bt456.2 = 0 then (if (bt452.1.length : Int) = 2 then (if 0 < (bt452.1.length : Int) then (if (rd_T38 bt452.1 0).f1 = true then (if 1 < (bt452.1.length : Int) then (if ((rd_T38 bt452.1 1).f1 = true) then (some false) else (if (bt456.1.length : Int) = 1 then (if 0 < (bt456.1.length : Int) then (some ((rdOf ByteArray.empty bt456.1 0).toList == ([97, 98, 99] : List UInt8))) else (none)) else (some false))) else (none)) else (some false)) else (none)) else (some false)) else (some false)) else (some false)))) = some r := h
 clear h
 obtain ⟨y449, hy449⟩ : ∃ y_ : List (S60), y_ = (([(⟨(⟨#[97]⟩ : ByteArray), 1, (⟨0, 0, 0⟩ : S58)⟩ : S60), (⟨(⟨#[98]⟩ : ByteArray), 1, (⟨0, 0, 0⟩ : S58)⟩ : S60), (⟨(⟨#[99]⟩ : ByteArray), 1, (⟨0, 0, 0⟩ : S58)⟩ : S60)] : List (S60))) := ⟨_, rfl⟩
 replace H : ((flow_Fold.f k y449 2).bind fun bt452 => ((flow_Letters.f k bt452.1).bind fun bt456 => (if bt452.2 = 0 then (if bt456.2 = 0 then (if (bt452.1.length : Int) = 2 then (if 0 < (bt452.1.length : Int) then (if (rd_T38 bt452.1 0).f1 = true then (if 1 < (bt452.1.length : Int) then (if ((rd_T38 bt452.1 1).f1 = true) then (some false) else (if (bt456.1.length : Int) = 1 then (if 0 < (bt456.1.length : Int) then (some ((rdOf ByteArray.empty bt456.1 0).toList == ([97, 98, 99] : List UInt8))) else (none)) else (some false))) else (none)) else (some false)) else (none)) else (some false)) else (some false)) else (some false)))) = some r := by first | (rw [hy449]; with_reducible exact H) | (have H2_ := (Option.bind_some _ _).symm.trans H; rw [hy449]; with_reducible exact H2_) | (have H2_ := (Option.bind_some _ _).symm.trans H; with_reducible exact H2_) | with_reducible exact H | (rw [hy449]; exact H) | exact H
 have Ny449 := Aside0.mk hy449
 clear hy449
 replace H := Option.bind_eq_some_iff.mp H
 obtain ⟨⟨t452, t455⟩, A10, H⟩ := H
 replace H : ((flow_Letters.f k t452).bind fun bt456 => (if t455 = 0 then (if bt456.2 = 0 then (if (t452.length : Int) = 2 then (if 0 < (t452.length : Int) then (if (rd_T38 t452 0).f1 = true then (if 1 < (t452.length : Int) then (if ((rd_T38 t452 1).f1 = true) then (some false) else (if (bt456.1.length : Int) = 1 then (if 0 < (bt456.1.length : Int) then (some ((rdOf ByteArray.empty bt456.1 0).toList == ([97, 98, 99] : List UInt8))) else (none)) else (some false))) else (none)) else (some false)) else (none)) else (some false)) else (some false)) else (some false))) = some r := H
 have A1 := Aside0.mk A10
 clear A10
 replace H := Option.bind_eq_some_iff.mp H
 obtain ⟨⟨t456, t457⟩, A20, H⟩ := H
 replace H : (if t455 = 0 then (if t457 = 0 then (if (t452.length : Int) = 2 then (if 0 < (t452.length : Int) then (if (rd_T38 t452 0).f1 = true then (if 1 < (t452.length : Int) then (if ((rd_T38 t452 1).f1 = true) then (some false) else (if (t456.length : Int) = 1 then (if 0 < (t456.length : Int) then (some ((rdOf ByteArray.empty t456 0).toList == ([97, 98, 99] : List UInt8))) else (none)) else (some false))) else (none)) else (some false)) else (none)) else (some false)) else (some false)) else (some false)) = some r := H
 have A2 := Aside0.mk A20
 clear A20
 by_cases c3 : t455 = 0
 ·rw [if_pos c3] at H
  have c3b0 : (t455 == 0) = true := beq_iff_eq.mpr c3
  have c3b1 : (t455 != 0) = false := bne_eq_false_iff_eq.mpr c3
  clear c3
  by_cases c4 : t457 = 0
  ·rw [if_pos c4] at H
   have c4b0 : (t457 == 0) = true := beq_iff_eq.mpr c4
   have c4b1 : (t457 != 0) = false := bne_eq_false_iff_eq.mpr c4
   clear c4
   by_cases c5 : (t452.length : Int) = 2
   ·rw [if_pos c5] at H
    have c5b0 : ((t452.length : Int) == 2) = true := beq_iff_eq.mpr c5
    have c5b1 : ((t452.length : Int) != 2) = false := bne_eq_false_iff_eq.mpr c5
    clear c5
    by_cases c6 : 0 < (t452.length : Int)
    ·rw [if_pos c6] at H
     have c6b0 : decide (0 < (t452.length : Int)) = true := decide_eq_true c6
     have c6b1 : decide (0 < t452.length) = true := decide_eq_true (by omega)
     clear c6
     obtain ⟨bq7, hbq7⟩ : ∃ b_ : Bool, b_ = ((rd_T38 t452 0).f1) := ⟨_, rfl⟩
     replace H : (if bq7 = true then (if 1 < (t452.length : Int) then (if ((rd_T38 t452 1).f1 = true) then (some false) else (if (t456.length : Int) = 1 then (if 0 < (t456.length : Int) then (some ((rdOf ByteArray.empty t456 0).toList == ([97, 98, 99] : List UInt8))) else (none)) else (some false))) else (none)) else (some false)) = some r := by rw [← hbq7] at H; exact H
     have Nbq7 := Aside0.mk hbq7
     clear hbq7
     by_cases c8 : bq7 = true
     ·subst c8
      have H1 : (if 1 < (t452.length : Int) then (if ((rd_T38 t452 1).f1 = true) then (some false) else (if (t456.length : Int) = 1 then (if 0 < (t456.length : Int) then (some ((rdOf ByteArray.empty t456 0).toList == ([97, 98, 99] : List UInt8))) else (none)) else (some false))) else (none)) = some r := by rw [if_pos rfl] at H; exact H
      clear H
      have H := H1
      clear H1
      by_cases c9 : 1 < (t452.length : Int)
      ·rw [if_pos c9] at H
       have c9b0 : decide (1 < (t452.length : Int)) = true := decide_eq_true c9
       have c9b1 : decide (1 < t452.length) = true := decide_eq_true (by omega)
       clear c9
       obtain ⟨bq10, hbq10⟩ : ∃ b_ : Bool, b_ = ((rd_T38 t452 1).f1) := ⟨_, rfl⟩
       replace H : (if (bq10 = true) then (some false) else (if (t456.length : Int) = 1 then (if 0 < (t456.length : Int) then (some ((rdOf ByteArray.empty t456 0).toList == ([97, 98, 99] : List UInt8))) else (none)) else (some false))) = some r := by rw [← hbq10] at H; exact H
       have Nbq10 := Aside0.mk hbq10
       clear hbq10
       by_cases c11 : (bq10 = true)
       ·subst c11
        have H1 : (some false) = some r := by rw [if_pos rfl] at H; exact H
        clear H
        have H := H1
        clear H1
        obtain rfl := Option.some.inj H
        go_enter Tryd.func20, Tryd.ntmps20
        go_wp2_with (first | ((with_reducible refine gate_dst (N := 9) rfl ?_); (try (refine gate_guard (by rfl) ?_; dsimp only)); refine Kd.R_lit k60 _ 60 ?hg (N := 9) ?hd (xs := ([(⟨(⟨#[97]⟩ : ByteArray), 1, (⟨0, 0, 0⟩ : S58)⟩ : S60), (⟨(⟨#[98]⟩ : ByteArray), 1, (⟨0, 0, 0⟩ : S58)⟩ : S60), (⟨(⟨#[99]⟩ : ByteArray), 1, (⟨0, 0, 0⟩ : S58)⟩ : S60)] : List (S60))) (inner := [.string (⟨#[97]⟩ : ByteArray), .int .i64 1, .int .i64 0, .int .i64 0, .int .i64 0, .string (⟨#[98]⟩ : ByteArray), .int .i64 1, .int .i64 0, .int .i64 0, .int .i64 0, .string (⟨#[99]⟩ : ByteArray), .int .i64 1, .int .i64 0, .int .i64 0, .int .i64 0]) (ok := fun _ => True) (okp := fun _ => True) ?hr ?hp (fun _ hk => hk) trivial (Below.refl _ _) (Nat.le_refl _) (by simp) ?_; (case hd => rfl); (case hg => rfl); (case hr => exact zo); (case hp => exact (Reps.c5 (show Kd.M k60 _ _ _ (⟨(⟨#[97]⟩ : ByteArray), 1, (⟨0, 0, 0⟩ : S58)⟩ : S60) [.string (⟨#[97]⟩ : ByteArray), .int .i64 1, .int .i64 0, .int .i64 0, .int .i64 0] from (k60_mkM _ _ _ (⟨(⟨#[97]⟩ : ByteArray), 1, (⟨0, 0, 0⟩ : S58)⟩ : S60) )) (Reps.c5 (show Kd.M k60 _ _ _ (⟨(⟨#[98]⟩ : ByteArray), 1, (⟨0, 0, 0⟩ : S58)⟩ : S60) [.string (⟨#[98]⟩ : ByteArray), .int .i64 1, .int .i64 0, .int .i64 0, .int .i64 0] from (k60_mkM _ _ _ (⟨(⟨#[98]⟩ : ByteArray), 1, (⟨0, 0, 0⟩ : S58)⟩ : S60) )) (Reps.c5 (show Kd.M k60 _ _ _ (⟨(⟨#[99]⟩ : ByteArray), 1, (⟨0, 0, 0⟩ : S58)⟩ : S60) [.string (⟨#[99]⟩ : ByteArray), .int .i64 1, .int .i64 0, .int .i64 0, .int .i64 0] from (k60_mkM _ _ _ (⟨(⟨#[99]⟩ : ByteArray), 1, (⟨0, 0, 0⟩ : S58)⟩ : S60) )) (Reps.none _ _))))); intro v450 w12 ho13 hb hg_ hnew_; clear hg_ hnew_; (first | rw [← Ny449.out] at ho13 | (simp only [Int.reduceToNat] at ho13; rw [← Ny449.out] at ho13)); have HO451 := Aside0.mk (Kd.R_lower ho13 (below_size zb)); replace HB := (zs HB hb); clear hb ho13; obtain ⟨Ao14, co14, eo14⟩ := Kd.R_slice HO451.out; subst eo14) | ((with_reducible refine gate_callee (f := 25) rfl ?_); refine goesL_ (some 12) rfl rfl Tryd.func25 (by kernel_rfl) rfl #[.slice Ao14 y449.length co14, .int .i64 2] rfl zl ?_; (with_reducible refine (flow_Fold.calls k _ _ y449 2 t452 t455 _ ?side1 ?side2 A1.out).mono ?_); (case side1 => repeat (first | exact (Kd.R_reads' HO451.out).2.2 | (with_reducible refine Kd.C_alloc ?_ _) | (with_reducible refine Kd.C_drewN ?_ _) | (with_reducible refine Kd.C_drew ?_))); (case side2 => exact (Kd.R_reads' HO451.out).2.1); rintro e w15 ⟨v453, rfl, ho0, hb⟩; refine ⟨_, rfl, ?_⟩; have n0_ := (zR HO451 hb); have n1_ := Aside0.mk (Kd.N_lower (Kd.N_mono (ok' := fun k_ => some k_ ≠ (.slice Ao14 y449.length co14 : Value).ownBlock) ho0 (fun k_ hk_ => (Kd.fresh' (Kd.R_lt (zRa HO451)) k_ hk_))) (below_size zb)); have n2_ := (zs HB hb); clear HO451; clear HB; have HO451 := n0_; have HO454 := n1_; have HB := n2_; clear n0_ n1_ n2_; (try clear hb); (try clear hk); (try clear ho0); obtain ⟨Ao16, co16, eo16⟩ := Kd.N_slice HO454.out; subst eo16) | ((with_reducible refine gate_callee (f := 19) rfl ?_); refine goesL_ (some 17) rfl rfl Tryd.func19 (by kernel_rfl) rfl #[.slice Ao16 t452.length co16] rfl zl ?_; (with_reducible refine (flow_Letters.calls k _ _ t452 t456 t457 _ ?side1 ?side2 A2.out).mono ?_); (case side1 => repeat (first | exact (Kd.N_reads' HO454.out).2.2 | (with_reducible refine Kd.C_alloc ?_ _) | (with_reducible refine Kd.C_drewN ?_ _) | (with_reducible refine Kd.C_drew ?_))); (case side2 => exact (Kd.N_reads' HO454.out).2.1); rintro e w17 ⟨v458, rfl, ho0, hb⟩; refine ⟨_, rfl, ?_⟩; replace HO451 := (zR HO451 hb); replace HO454 := Aside0.mk (Kd.N_elder' (zNa HO454) (Kd.R_base ho0) hb); have HO459 := Aside0.mk (Kd.R_lower ho0 (below_size zb)); replace HB := (zs HB hb); (try clear hb); (try clear hk); (try clear ho0); have p460 : 0 ≤ (0 : Int) := (by omega); have q460 : 0 < (t452.length : Int) := of_decide_eq_true za; obtain ⟨ad460, A460_0, c460_0, e460, hx460_0, hx460_1, hl460_0, hi460_0⟩ := at_T38 (Kd.N_reads' HO454.out).2.2 0 p460 q460; (try rw [← Nbq7.out] at hx460_1); (try rw [← Nbq10.out] at hx460_1); cases e460; obtain ⟨ce460, hce460, hMe460, hcc460⟩ := Kd.N_get HO454.out z38 0 p460 (by first | exact q460 | exact of_decide_eq_true za | (have e_ := (Kd.N_reads' HO454.out).1; omega)); obtain ⟨ua460_0, uc460_0, rfl, ul460_0, ge460_0⟩ := k38_openF hMe460; have hv460_0 := hcc460 0 _ rfl; rw [Nat.add_zero] at hv460_0; replace hv460_0 := Option.some.inj (hv460_0.symm.trans hx460_0); injection hv460_0 with hva_ hvn_ hvc_; rw [hva_] at ge460_0; rw [hvc_] at ul460_0; have HL460_0 := Aside0.mk (show Kd.V k60 60 _ w.heap.size _ _ ((rd_T38 t452 0).f0) from Kd.V_mk ul460_0 ge460_0); clear hva_ hvn_ hvc_ ge460_0 ul460_0; clear hcc460 hce460; have qi460 : (0 < t452.length) = True := eq_true (by omega); (try rw [show ((0 : Int)).toNat = 0 from rfl] at hx460_0); (try rw [show 0 * 2 = 0 from rfl] at hx460_0); (try rw [Addr.add_zero'] at hx460_0); (try rw [show ((0 : Int)).toNat = 0 from rfl] at hx460_1); (try rw [show 0 * 2 = 0 from rfl] at hx460_1); (try rw [Addr.add_zero'] at hx460_1); have HR460_0 := Aside0.mk hi460_0; have HC460_0 := Aside0.mk hl460_0; clear hi460_0 hl460_0; replace p460 := eq_true p460; replace q460 := eq_true q460; have p461 : 0 ≤ (1 : Int) := (by omega); have q461 : 1 < (t452.length : Int) := of_decide_eq_true za; obtain ⟨ad461, A461_0, c461_0, e461, hx461_0, hx461_1, hl461_0, hi461_0⟩ := at_T38 (Kd.N_reads' HO454.out).2.2 1 p461 q461; (try rw [← Nbq7.out] at hx461_1); (try rw [← Nbq10.out] at hx461_1); obtain rfl : ad460 = ad461 := (by injection e461); obtain ⟨ce461, hce461, hMe461, hcc461⟩ := Kd.N_get HO454.out z38 1 p461 (by first | exact q461 | exact of_decide_eq_true za | (have e_ := (Kd.N_reads' HO454.out).1; omega)); obtain ⟨ua461_0, uc461_0, rfl, ul461_0, ge461_0⟩ := k38_openF hMe461; have hv461_0 := hcc461 0 _ rfl; rw [Nat.add_zero] at hv461_0; replace hv461_0 := Option.some.inj (hv461_0.symm.trans hx461_0); injection hv461_0 with hva_ hvn_ hvc_; rw [hva_] at ge461_0; rw [hvc_] at ul461_0; have HL461_0 := Aside0.mk (show Kd.V k60 60 _ w.heap.size _ _ ((rd_T38 t452 1).f0) from Kd.V_mk ul461_0 ge461_0); clear hva_ hvn_ hvc_ ge461_0 ul461_0; clear hcc461 hce461; (try simp only [show (1 : Int).toNat = 1 from rfl, Nat.reduceMul, Nat.reduceEqDiff, Go.Addr.add, ↓reduceIte] at hx461_0); (try simp only [show (1 : Int).toNat = 1 from rfl, Nat.reduceMul, Nat.reduceEqDiff, Go.Addr.add, ↓reduceIte] at hx461_1); have qi461 : (1 < t452.length) = True := eq_true (by omega); (try rw [show ((1 : Int)).toNat = 1 from rfl] at hx461_0); (try rw [show 1 * 2 = 2 from rfl] at hx461_0); (try rw [show ((1 : Int)).toNat = 1 from rfl] at hx461_1); (try rw [show 1 * 2 = 2 from rfl] at hx461_1); have HR461_0 := Aside0.mk hi461_0; have HC461_0 := Aside0.mk hl461_0; clear hi461_0 hl461_0; replace p461 := eq_true p461; replace q461 := eq_true q461))
        go_ret
        exact ⟨ze, zb⟩
       ·replace c11 := Bool.eq_false_iff.mpr c11
        subst c11
        have H1 : (if (t456.length : Int) = 1 then (if 0 < (t456.length : Int) then (some ((rdOf ByteArray.empty t456 0).toList == ([97, 98, 99] : List UInt8))) else (none)) else (some false)) = some r := by rw [if_neg (show ¬ (false = true) by decide)] at H; exact H
        clear H
        have H := H1
        clear H1
        by_cases c18 : (t456.length : Int) = 1
        ·rw [if_pos c18] at H
         have c18b0 : ((t456.length : Int) == 1) = true := beq_iff_eq.mpr c18
         have c18b1 : ((t456.length : Int) != 1) = false := bne_eq_false_iff_eq.mpr c18
         clear c18
         by_cases c19 : 0 < (t456.length : Int)
         ·rw [if_pos c19] at H
          have c19b0 : decide (0 < (t456.length : Int)) = true := decide_eq_true c19
          have c19b1 : decide (0 < t456.length) = true := decide_eq_true (by omega)
          clear c19
          obtain rfl := Option.some.inj H
          go_enter Tryd.func20, Tryd.ntmps20
          go_wp2_with (first | ((with_reducible refine gate_dst (N := 9) rfl ?_); (try (refine gate_guard (by rfl) ?_; dsimp only)); refine Kd.R_lit k60 _ 60 ?hg (N := 9) ?hd (xs := ([(⟨(⟨#[97]⟩ : ByteArray), 1, (⟨0, 0, 0⟩ : S58)⟩ : S60), (⟨(⟨#[98]⟩ : ByteArray), 1, (⟨0, 0, 0⟩ : S58)⟩ : S60), (⟨(⟨#[99]⟩ : ByteArray), 1, (⟨0, 0, 0⟩ : S58)⟩ : S60)] : List (S60))) (inner := [.string (⟨#[97]⟩ : ByteArray), .int .i64 1, .int .i64 0, .int .i64 0, .int .i64 0, .string (⟨#[98]⟩ : ByteArray), .int .i64 1, .int .i64 0, .int .i64 0, .int .i64 0, .string (⟨#[99]⟩ : ByteArray), .int .i64 1, .int .i64 0, .int .i64 0, .int .i64 0]) (ok := fun _ => True) (okp := fun _ => True) ?hr ?hp (fun _ hk => hk) trivial (Below.refl _ _) (Nat.le_refl _) (by simp) ?_; (case hd => rfl); (case hg => rfl); (case hr => exact zo); (case hp => exact (Reps.c5 (show Kd.M k60 _ _ _ (⟨(⟨#[97]⟩ : ByteArray), 1, (⟨0, 0, 0⟩ : S58)⟩ : S60) [.string (⟨#[97]⟩ : ByteArray), .int .i64 1, .int .i64 0, .int .i64 0, .int .i64 0] from (k60_mkM _ _ _ (⟨(⟨#[97]⟩ : ByteArray), 1, (⟨0, 0, 0⟩ : S58)⟩ : S60) )) (Reps.c5 (show Kd.M k60 _ _ _ (⟨(⟨#[98]⟩ : ByteArray), 1, (⟨0, 0, 0⟩ : S58)⟩ : S60) [.string (⟨#[98]⟩ : ByteArray), .int .i64 1, .int .i64 0, .int .i64 0, .int .i64 0] from (k60_mkM _ _ _ (⟨(⟨#[98]⟩ : ByteArray), 1, (⟨0, 0, 0⟩ : S58)⟩ : S60) )) (Reps.c5 (show Kd.M k60 _ _ _ (⟨(⟨#[99]⟩ : ByteArray), 1, (⟨0, 0, 0⟩ : S58)⟩ : S60) [.string (⟨#[99]⟩ : ByteArray), .int .i64 1, .int .i64 0, .int .i64 0, .int .i64 0] from (k60_mkM _ _ _ (⟨(⟨#[99]⟩ : ByteArray), 1, (⟨0, 0, 0⟩ : S58)⟩ : S60) )) (Reps.none _ _))))); intro v450 w20 ho21 hb hg_ hnew_; clear hg_ hnew_; (first | rw [← Ny449.out] at ho21 | (simp only [Int.reduceToNat] at ho21; rw [← Ny449.out] at ho21)); have HO451 := Aside0.mk (Kd.R_lower ho21 (below_size zb)); replace HB := (zs HB hb); clear hb ho21; obtain ⟨Ao22, co22, eo22⟩ := Kd.R_slice HO451.out; subst eo22) | ((with_reducible refine gate_callee (f := 25) rfl ?_); refine goesL_ (some 12) rfl rfl Tryd.func25 (by kernel_rfl) rfl #[.slice Ao22 y449.length co22, .int .i64 2] rfl zl ?_; (with_reducible refine (flow_Fold.calls k _ _ y449 2 t452 t455 _ ?side1 ?side2 A1.out).mono ?_); (case side1 => repeat (first | exact (Kd.R_reads' HO451.out).2.2 | (with_reducible refine Kd.C_alloc ?_ _) | (with_reducible refine Kd.C_drewN ?_ _) | (with_reducible refine Kd.C_drew ?_))); (case side2 => exact (Kd.R_reads' HO451.out).2.1); rintro e w23 ⟨v453, rfl, ho0, hb⟩; refine ⟨_, rfl, ?_⟩; have n0_ := (zR HO451 hb); have n1_ := Aside0.mk (Kd.N_lower (Kd.N_mono (ok' := fun k_ => some k_ ≠ (.slice Ao22 y449.length co22 : Value).ownBlock) ho0 (fun k_ hk_ => (Kd.fresh' (Kd.R_lt (zRa HO451)) k_ hk_))) (below_size zb)); have n2_ := (zs HB hb); clear HO451; clear HB; have HO451 := n0_; have HO454 := n1_; have HB := n2_; clear n0_ n1_ n2_; (try clear hb); (try clear hk); (try clear ho0); obtain ⟨Ao24, co24, eo24⟩ := Kd.N_slice HO454.out; subst eo24) | ((with_reducible refine gate_callee (f := 19) rfl ?_); refine goesL_ (some 17) rfl rfl Tryd.func19 (by kernel_rfl) rfl #[.slice Ao24 t452.length co24] rfl zl ?_; (with_reducible refine (flow_Letters.calls k _ _ t452 t456 t457 _ ?side1 ?side2 A2.out).mono ?_); (case side1 => repeat (first | exact (Kd.N_reads' HO454.out).2.2 | (with_reducible refine Kd.C_alloc ?_ _) | (with_reducible refine Kd.C_drewN ?_ _) | (with_reducible refine Kd.C_drew ?_))); (case side2 => exact (Kd.N_reads' HO454.out).2.1); rintro e w25 ⟨v458, rfl, ho0, hb⟩; refine ⟨_, rfl, ?_⟩; replace HO451 := (zR HO451 hb); replace HO454 := Aside0.mk (Kd.N_elder' (zNa HO454) (Kd.R_base ho0) hb); have HO459 := Aside0.mk (Kd.R_lower ho0 (below_size zb)); replace HB := (zs HB hb); (try clear hb); (try clear hk); (try clear ho0); have p460 : 0 ≤ (0 : Int) := (by omega); have q460 : 0 < (t452.length : Int) := of_decide_eq_true za; obtain ⟨ad460, A460_0, c460_0, e460, hx460_0, hx460_1, hl460_0, hi460_0⟩ := at_T38 (Kd.N_reads' HO454.out).2.2 0 p460 q460; (try rw [← Nbq7.out] at hx460_1); (try rw [← Nbq10.out] at hx460_1); cases e460; obtain ⟨ce460, hce460, hMe460, hcc460⟩ := Kd.N_get HO454.out z38 0 p460 (by first | exact q460 | exact of_decide_eq_true za | (have e_ := (Kd.N_reads' HO454.out).1; omega)); obtain ⟨ua460_0, uc460_0, rfl, ul460_0, ge460_0⟩ := k38_openF hMe460; have hv460_0 := hcc460 0 _ rfl; rw [Nat.add_zero] at hv460_0; replace hv460_0 := Option.some.inj (hv460_0.symm.trans hx460_0); injection hv460_0 with hva_ hvn_ hvc_; rw [hva_] at ge460_0; rw [hvc_] at ul460_0; have HL460_0 := Aside0.mk (show Kd.V k60 60 _ w.heap.size _ _ ((rd_T38 t452 0).f0) from Kd.V_mk ul460_0 ge460_0); clear hva_ hvn_ hvc_ ge460_0 ul460_0; clear hcc460 hce460; have qi460 : (0 < t452.length) = True := eq_true (by omega); (try rw [show ((0 : Int)).toNat = 0 from rfl] at hx460_0); (try rw [show 0 * 2 = 0 from rfl] at hx460_0); (try rw [Addr.add_zero'] at hx460_0); (try rw [show ((0 : Int)).toNat = 0 from rfl] at hx460_1); (try rw [show 0 * 2 = 0 from rfl] at hx460_1); (try rw [Addr.add_zero'] at hx460_1); have HR460_0 := Aside0.mk hi460_0; have HC460_0 := Aside0.mk hl460_0; clear hi460_0 hl460_0; replace p460 := eq_true p460; replace q460 := eq_true q460; have p461 : 0 ≤ (1 : Int) := (by omega); have q461 : 1 < (t452.length : Int) := of_decide_eq_true za; obtain ⟨ad461, A461_0, c461_0, e461, hx461_0, hx461_1, hl461_0, hi461_0⟩ := at_T38 (Kd.N_reads' HO454.out).2.2 1 p461 q461; (try rw [← Nbq7.out] at hx461_1); (try rw [← Nbq10.out] at hx461_1); obtain rfl : ad460 = ad461 := (by injection e461); obtain ⟨ce461, hce461, hMe461, hcc461⟩ := Kd.N_get HO454.out z38 1 p461 (by first | exact q461 | exact of_decide_eq_true za | (have e_ := (Kd.N_reads' HO454.out).1; omega)); obtain ⟨ua461_0, uc461_0, rfl, ul461_0, ge461_0⟩ := k38_openF hMe461; have hv461_0 := hcc461 0 _ rfl; rw [Nat.add_zero] at hv461_0; replace hv461_0 := Option.some.inj (hv461_0.symm.trans hx461_0); injection hv461_0 with hva_ hvn_ hvc_; rw [hva_] at ge461_0; rw [hvc_] at ul461_0; have HL461_0 := Aside0.mk (show Kd.V k60 60 _ w.heap.size _ _ ((rd_T38 t452 1).f0) from Kd.V_mk ul461_0 ge461_0); clear hva_ hvn_ hvc_ ge461_0 ul461_0; clear hcc461 hce461; (try simp only [show (1 : Int).toNat = 1 from rfl, Nat.reduceMul, Nat.reduceEqDiff, Go.Addr.add, ↓reduceIte] at hx461_0); (try simp only [show (1 : Int).toNat = 1 from rfl, Nat.reduceMul, Nat.reduceEqDiff, Go.Addr.add, ↓reduceIte] at hx461_1); have qi461 : (1 < t452.length) = True := eq_true (by omega); (try rw [show ((1 : Int)).toNat = 1 from rfl] at hx461_0); (try rw [show 1 * 2 = 2 from rfl] at hx461_0); (try rw [show ((1 : Int)).toNat = 1 from rfl] at hx461_1); (try rw [show 1 * 2 = 2 from rfl] at hx461_1); have HR461_0 := Aside0.mk hi461_0; have HC461_0 := Aside0.mk hl461_0; clear hi461_0 hl461_0; replace p461 := eq_true p461; replace q461 := eq_true q461; obtain ⟨Ao26, co26, eo26⟩ := Kd.R_slice HO459.out; subst eo26; have p462 : 0 ≤ (0 : Int) := (by omega); have q462 : 0 < (t456.length : Int) := of_decide_eq_true za; obtain ⟨ad462, e462, hx462_0⟩ := Kd.at_string (Kd.R_reads' HO459.out).2.2 0 p462 q462; cases e462; have qi462 : (0 < t456.length) = True := eq_true (by omega); (try rw [show ((0 : Int)).toNat = 0 from rfl] at hx462_0); (try rw [Addr.add_zero'] at hx462_0); replace p462 := eq_true p462; replace q462 := eq_true q462))
          go_ret
          exact ⟨ze, zb⟩
         ·rw [if_neg c19] at H
          exact absurd H (by simp)
        ·rw [if_neg c18] at H
         have c18b0 : ((t456.length : Int) == 1) = false := beq_eq_false_iff_ne.mpr c18
         have c18b1 : ((t456.length : Int) != 1) = true := bne_iff_ne.mpr c18
         obtain rfl := Option.some.inj H
         go_enter Tryd.func20, Tryd.ntmps20
         go_wp2_with (first | ((with_reducible refine gate_dst (N := 9) rfl ?_); (try (refine gate_guard (by rfl) ?_; dsimp only)); refine Kd.R_lit k60 _ 60 ?hg (N := 9) ?hd (xs := ([(⟨(⟨#[97]⟩ : ByteArray), 1, (⟨0, 0, 0⟩ : S58)⟩ : S60), (⟨(⟨#[98]⟩ : ByteArray), 1, (⟨0, 0, 0⟩ : S58)⟩ : S60), (⟨(⟨#[99]⟩ : ByteArray), 1, (⟨0, 0, 0⟩ : S58)⟩ : S60)] : List (S60))) (inner := [.string (⟨#[97]⟩ : ByteArray), .int .i64 1, .int .i64 0, .int .i64 0, .int .i64 0, .string (⟨#[98]⟩ : ByteArray), .int .i64 1, .int .i64 0, .int .i64 0, .int .i64 0, .string (⟨#[99]⟩ : ByteArray), .int .i64 1, .int .i64 0, .int .i64 0, .int .i64 0]) (ok := fun _ => True) (okp := fun _ => True) ?hr ?hp (fun _ hk => hk) trivial (Below.refl _ _) (Nat.le_refl _) (by simp) ?_; (case hd => rfl); (case hg => rfl); (case hr => exact zo); (case hp => exact (Reps.c5 (show Kd.M k60 _ _ _ (⟨(⟨#[97]⟩ : ByteArray), 1, (⟨0, 0, 0⟩ : S58)⟩ : S60) [.string (⟨#[97]⟩ : ByteArray), .int .i64 1, .int .i64 0, .int .i64 0, .int .i64 0] from (k60_mkM _ _ _ (⟨(⟨#[97]⟩ : ByteArray), 1, (⟨0, 0, 0⟩ : S58)⟩ : S60) )) (Reps.c5 (show Kd.M k60 _ _ _ (⟨(⟨#[98]⟩ : ByteArray), 1, (⟨0, 0, 0⟩ : S58)⟩ : S60) [.string (⟨#[98]⟩ : ByteArray), .int .i64 1, .int .i64 0, .int .i64 0, .int .i64 0] from (k60_mkM _ _ _ (⟨(⟨#[98]⟩ : ByteArray), 1, (⟨0, 0, 0⟩ : S58)⟩ : S60) )) (Reps.c5 (show Kd.M k60 _ _ _ (⟨(⟨#[99]⟩ : ByteArray), 1, (⟨0, 0, 0⟩ : S58)⟩ : S60) [.string (⟨#[99]⟩ : ByteArray), .int .i64 1, .int .i64 0, .int .i64 0, .int .i64 0] from (k60_mkM _ _ _ (⟨(⟨#[99]⟩ : ByteArray), 1, (⟨0, 0, 0⟩ : S58)⟩ : S60) )) (Reps.none _ _))))); intro v450 w27 ho28 hb hg_ hnew_; clear hg_ hnew_; (first | rw [← Ny449.out] at ho28 | (simp only [Int.reduceToNat] at ho28; rw [← Ny449.out] at ho28)); have HO451 := Aside0.mk (Kd.R_lower ho28 (below_size zb)); replace HB := (zs HB hb); clear hb ho28; obtain ⟨Ao29, co29, eo29⟩ := Kd.R_slice HO451.out; subst eo29) | ((with_reducible refine gate_callee (f := 25) rfl ?_); refine goesL_ (some 12) rfl rfl Tryd.func25 (by kernel_rfl) rfl #[.slice Ao29 y449.length co29, .int .i64 2] rfl zl ?_; (with_reducible refine (flow_Fold.calls k _ _ y449 2 t452 t455 _ ?side1 ?side2 A1.out).mono ?_); (case side1 => repeat (first | exact (Kd.R_reads' HO451.out).2.2 | (with_reducible refine Kd.C_alloc ?_ _) | (with_reducible refine Kd.C_drewN ?_ _) | (with_reducible refine Kd.C_drew ?_))); (case side2 => exact (Kd.R_reads' HO451.out).2.1); rintro e w30 ⟨v453, rfl, ho0, hb⟩; refine ⟨_, rfl, ?_⟩; have n0_ := (zR HO451 hb); have n1_ := Aside0.mk (Kd.N_lower (Kd.N_mono (ok' := fun k_ => some k_ ≠ (.slice Ao29 y449.length co29 : Value).ownBlock) ho0 (fun k_ hk_ => (Kd.fresh' (Kd.R_lt (zRa HO451)) k_ hk_))) (below_size zb)); have n2_ := (zs HB hb); clear HO451; clear HB; have HO451 := n0_; have HO454 := n1_; have HB := n2_; clear n0_ n1_ n2_; (try clear hb); (try clear hk); (try clear ho0); obtain ⟨Ao31, co31, eo31⟩ := Kd.N_slice HO454.out; subst eo31) | ((with_reducible refine gate_callee (f := 19) rfl ?_); refine goesL_ (some 17) rfl rfl Tryd.func19 (by kernel_rfl) rfl #[.slice Ao31 t452.length co31] rfl zl ?_; (with_reducible refine (flow_Letters.calls k _ _ t452 t456 t457 _ ?side1 ?side2 A2.out).mono ?_); (case side1 => repeat (first | exact (Kd.N_reads' HO454.out).2.2 | (with_reducible refine Kd.C_alloc ?_ _) | (with_reducible refine Kd.C_drewN ?_ _) | (with_reducible refine Kd.C_drew ?_))); (case side2 => exact (Kd.N_reads' HO454.out).2.1); rintro e w32 ⟨v458, rfl, ho0, hb⟩; refine ⟨_, rfl, ?_⟩; replace HO451 := (zR HO451 hb); replace HO454 := Aside0.mk (Kd.N_elder' (zNa HO454) (Kd.R_base ho0) hb); have HO459 := Aside0.mk (Kd.R_lower ho0 (below_size zb)); replace HB := (zs HB hb); (try clear hb); (try clear hk); (try clear ho0); have p460 : 0 ≤ (0 : Int) := (by omega); have q460 : 0 < (t452.length : Int) := of_decide_eq_true za; obtain ⟨ad460, A460_0, c460_0, e460, hx460_0, hx460_1, hl460_0, hi460_0⟩ := at_T38 (Kd.N_reads' HO454.out).2.2 0 p460 q460; (try rw [← Nbq7.out] at hx460_1); (try rw [← Nbq10.out] at hx460_1); cases e460; obtain ⟨ce460, hce460, hMe460, hcc460⟩ := Kd.N_get HO454.out z38 0 p460 (by first | exact q460 | exact of_decide_eq_true za | (have e_ := (Kd.N_reads' HO454.out).1; omega)); obtain ⟨ua460_0, uc460_0, rfl, ul460_0, ge460_0⟩ := k38_openF hMe460; have hv460_0 := hcc460 0 _ rfl; rw [Nat.add_zero] at hv460_0; replace hv460_0 := Option.some.inj (hv460_0.symm.trans hx460_0); injection hv460_0 with hva_ hvn_ hvc_; rw [hva_] at ge460_0; rw [hvc_] at ul460_0; have HL460_0 := Aside0.mk (show Kd.V k60 60 _ w.heap.size _ _ ((rd_T38 t452 0).f0) from Kd.V_mk ul460_0 ge460_0); clear hva_ hvn_ hvc_ ge460_0 ul460_0; clear hcc460 hce460; have qi460 : (0 < t452.length) = True := eq_true (by omega); (try rw [show ((0 : Int)).toNat = 0 from rfl] at hx460_0); (try rw [show 0 * 2 = 0 from rfl] at hx460_0); (try rw [Addr.add_zero'] at hx460_0); (try rw [show ((0 : Int)).toNat = 0 from rfl] at hx460_1); (try rw [show 0 * 2 = 0 from rfl] at hx460_1); (try rw [Addr.add_zero'] at hx460_1); have HR460_0 := Aside0.mk hi460_0; have HC460_0 := Aside0.mk hl460_0; clear hi460_0 hl460_0; replace p460 := eq_true p460; replace q460 := eq_true q460; have p461 : 0 ≤ (1 : Int) := (by omega); have q461 : 1 < (t452.length : Int) := of_decide_eq_true za; obtain ⟨ad461, A461_0, c461_0, e461, hx461_0, hx461_1, hl461_0, hi461_0⟩ := at_T38 (Kd.N_reads' HO454.out).2.2 1 p461 q461; (try rw [← Nbq7.out] at hx461_1); (try rw [← Nbq10.out] at hx461_1); obtain rfl : ad460 = ad461 := (by injection e461); obtain ⟨ce461, hce461, hMe461, hcc461⟩ := Kd.N_get HO454.out z38 1 p461 (by first | exact q461 | exact of_decide_eq_true za | (have e_ := (Kd.N_reads' HO454.out).1; omega)); obtain ⟨ua461_0, uc461_0, rfl, ul461_0, ge461_0⟩ := k38_openF hMe461; have hv461_0 := hcc461 0 _ rfl; rw [Nat.add_zero] at hv461_0; replace hv461_0 := Option.some.inj (hv461_0.symm.trans hx461_0); injection hv461_0 with hva_ hvn_ hvc_; rw [hva_] at ge461_0; rw [hvc_] at ul461_0; have HL461_0 := Aside0.mk (show Kd.V k60 60 _ w.heap.size _ _ ((rd_T38 t452 1).f0) from Kd.V_mk ul461_0 ge461_0); clear hva_ hvn_ hvc_ ge461_0 ul461_0; clear hcc461 hce461; (try simp only [show (1 : Int).toNat = 1 from rfl, Nat.reduceMul, Nat.reduceEqDiff, Go.Addr.add, ↓reduceIte] at hx461_0); (try simp only [show (1 : Int).toNat = 1 from rfl, Nat.reduceMul, Nat.reduceEqDiff, Go.Addr.add, ↓reduceIte] at hx461_1); have qi461 : (1 < t452.length) = True := eq_true (by omega); (try rw [show ((1 : Int)).toNat = 1 from rfl] at hx461_0); (try rw [show 1 * 2 = 2 from rfl] at hx461_0); (try rw [show ((1 : Int)).toNat = 1 from rfl] at hx461_1); (try rw [show 1 * 2 = 2 from rfl] at hx461_1); have HR461_0 := Aside0.mk hi461_0; have HC461_0 := Aside0.mk hl461_0; clear hi461_0 hl461_0; replace p461 := eq_true p461; replace q461 := eq_true q461; obtain ⟨Ao33, co33, eo33⟩ := Kd.R_slice HO459.out; subst eo33))
         go_ret
         exact ⟨ze, zb⟩
      ·rw [if_neg c9] at H
       exact absurd H (by simp)
     ·replace c8 := Bool.eq_false_iff.mpr c8
      subst c8
      have H1 : (some false) = some r := by rw [if_neg (show ¬ (false = true) by decide)] at H; exact H
      clear H
      have H := H1
      clear H1
      obtain rfl := Option.some.inj H
      go_enter Tryd.func20, Tryd.ntmps20
      go_wp2_with (first | ((with_reducible refine gate_dst (N := 9) rfl ?_); (try (refine gate_guard (by rfl) ?_; dsimp only)); refine Kd.R_lit k60 _ 60 ?hg (N := 9) ?hd (xs := ([(⟨(⟨#[97]⟩ : ByteArray), 1, (⟨0, 0, 0⟩ : S58)⟩ : S60), (⟨(⟨#[98]⟩ : ByteArray), 1, (⟨0, 0, 0⟩ : S58)⟩ : S60), (⟨(⟨#[99]⟩ : ByteArray), 1, (⟨0, 0, 0⟩ : S58)⟩ : S60)] : List (S60))) (inner := [.string (⟨#[97]⟩ : ByteArray), .int .i64 1, .int .i64 0, .int .i64 0, .int .i64 0, .string (⟨#[98]⟩ : ByteArray), .int .i64 1, .int .i64 0, .int .i64 0, .int .i64 0, .string (⟨#[99]⟩ : ByteArray), .int .i64 1, .int .i64 0, .int .i64 0, .int .i64 0]) (ok := fun _ => True) (okp := fun _ => True) ?hr ?hp (fun _ hk => hk) trivial (Below.refl _ _) (Nat.le_refl _) (by simp) ?_; (case hd => rfl); (case hg => rfl); (case hr => exact zo); (case hp => exact (Reps.c5 (show Kd.M k60 _ _ _ (⟨(⟨#[97]⟩ : ByteArray), 1, (⟨0, 0, 0⟩ : S58)⟩ : S60) [.string (⟨#[97]⟩ : ByteArray), .int .i64 1, .int .i64 0, .int .i64 0, .int .i64 0] from (k60_mkM _ _ _ (⟨(⟨#[97]⟩ : ByteArray), 1, (⟨0, 0, 0⟩ : S58)⟩ : S60) )) (Reps.c5 (show Kd.M k60 _ _ _ (⟨(⟨#[98]⟩ : ByteArray), 1, (⟨0, 0, 0⟩ : S58)⟩ : S60) [.string (⟨#[98]⟩ : ByteArray), .int .i64 1, .int .i64 0, .int .i64 0, .int .i64 0] from (k60_mkM _ _ _ (⟨(⟨#[98]⟩ : ByteArray), 1, (⟨0, 0, 0⟩ : S58)⟩ : S60) )) (Reps.c5 (show Kd.M k60 _ _ _ (⟨(⟨#[99]⟩ : ByteArray), 1, (⟨0, 0, 0⟩ : S58)⟩ : S60) [.string (⟨#[99]⟩ : ByteArray), .int .i64 1, .int .i64 0, .int .i64 0, .int .i64 0] from (k60_mkM _ _ _ (⟨(⟨#[99]⟩ : ByteArray), 1, (⟨0, 0, 0⟩ : S58)⟩ : S60) )) (Reps.none _ _))))); intro v450 w34 ho35 hb hg_ hnew_; clear hg_ hnew_; (first | rw [← Ny449.out] at ho35 | (simp only [Int.reduceToNat] at ho35; rw [← Ny449.out] at ho35)); have HO451 := Aside0.mk (Kd.R_lower ho35 (below_size zb)); replace HB := (zs HB hb); clear hb ho35; obtain ⟨Ao36, co36, eo36⟩ := Kd.R_slice HO451.out; subst eo36) | ((with_reducible refine gate_callee (f := 25) rfl ?_); refine goesL_ (some 12) rfl rfl Tryd.func25 (by kernel_rfl) rfl #[.slice Ao36 y449.length co36, .int .i64 2] rfl zl ?_; (with_reducible refine (flow_Fold.calls k _ _ y449 2 t452 t455 _ ?side1 ?side2 A1.out).mono ?_); (case side1 => repeat (first | exact (Kd.R_reads' HO451.out).2.2 | (with_reducible refine Kd.C_alloc ?_ _) | (with_reducible refine Kd.C_drewN ?_ _) | (with_reducible refine Kd.C_drew ?_))); (case side2 => exact (Kd.R_reads' HO451.out).2.1); rintro e w37 ⟨v453, rfl, ho0, hb⟩; refine ⟨_, rfl, ?_⟩; have n0_ := (zR HO451 hb); have n1_ := Aside0.mk (Kd.N_lower (Kd.N_mono (ok' := fun k_ => some k_ ≠ (.slice Ao36 y449.length co36 : Value).ownBlock) ho0 (fun k_ hk_ => (Kd.fresh' (Kd.R_lt (zRa HO451)) k_ hk_))) (below_size zb)); have n2_ := (zs HB hb); clear HO451; clear HB; have HO451 := n0_; have HO454 := n1_; have HB := n2_; clear n0_ n1_ n2_; (try clear hb); (try clear hk); (try clear ho0); obtain ⟨Ao38, co38, eo38⟩ := Kd.N_slice HO454.out; subst eo38) | ((with_reducible refine gate_callee (f := 19) rfl ?_); refine goesL_ (some 17) rfl rfl Tryd.func19 (by kernel_rfl) rfl #[.slice Ao38 t452.length co38] rfl zl ?_; (with_reducible refine (flow_Letters.calls k _ _ t452 t456 t457 _ ?side1 ?side2 A2.out).mono ?_); (case side1 => repeat (first | exact (Kd.N_reads' HO454.out).2.2 | (with_reducible refine Kd.C_alloc ?_ _) | (with_reducible refine Kd.C_drewN ?_ _) | (with_reducible refine Kd.C_drew ?_))); (case side2 => exact (Kd.N_reads' HO454.out).2.1); rintro e w39 ⟨v458, rfl, ho0, hb⟩; refine ⟨_, rfl, ?_⟩; replace HO451 := (zR HO451 hb); replace HO454 := Aside0.mk (Kd.N_elder' (zNa HO454) (Kd.R_base ho0) hb); have HO459 := Aside0.mk (Kd.R_lower ho0 (below_size zb)); replace HB := (zs HB hb); (try clear hb); (try clear hk); (try clear ho0); have p460 : 0 ≤ (0 : Int) := (by omega); have q460 : 0 < (t452.length : Int) := of_decide_eq_true za; obtain ⟨ad460, A460_0, c460_0, e460, hx460_0, hx460_1, hl460_0, hi460_0⟩ := at_T38 (Kd.N_reads' HO454.out).2.2 0 p460 q460; (try rw [← Nbq7.out] at hx460_1); cases e460; obtain ⟨ce460, hce460, hMe460, hcc460⟩ := Kd.N_get HO454.out z38 0 p460 (by first | exact q460 | exact of_decide_eq_true za | (have e_ := (Kd.N_reads' HO454.out).1; omega)); obtain ⟨ua460_0, uc460_0, rfl, ul460_0, ge460_0⟩ := k38_openF hMe460; have hv460_0 := hcc460 0 _ rfl; rw [Nat.add_zero] at hv460_0; replace hv460_0 := Option.some.inj (hv460_0.symm.trans hx460_0); injection hv460_0 with hva_ hvn_ hvc_; rw [hva_] at ge460_0; rw [hvc_] at ul460_0; have HL460_0 := Aside0.mk (show Kd.V k60 60 _ w.heap.size _ _ ((rd_T38 t452 0).f0) from Kd.V_mk ul460_0 ge460_0); clear hva_ hvn_ hvc_ ge460_0 ul460_0; clear hcc460 hce460; have qi460 : (0 < t452.length) = True := eq_true (by omega); (try rw [show ((0 : Int)).toNat = 0 from rfl] at hx460_0); (try rw [show 0 * 2 = 0 from rfl] at hx460_0); (try rw [Addr.add_zero'] at hx460_0); (try rw [show ((0 : Int)).toNat = 0 from rfl] at hx460_1); (try rw [show 0 * 2 = 0 from rfl] at hx460_1); (try rw [Addr.add_zero'] at hx460_1); have HR460_0 := Aside0.mk hi460_0; have HC460_0 := Aside0.mk hl460_0; clear hi460_0 hl460_0; replace p460 := eq_true p460; replace q460 := eq_true q460))
      go_ret
      exact ⟨ze, zb⟩
    ·rw [if_neg c6] at H
     exact absurd H (by simp)
   ·rw [if_neg c5] at H
    have c5b0 : ((t452.length : Int) == 2) = false := beq_eq_false_iff_ne.mpr c5
    have c5b1 : ((t452.length : Int) != 2) = true := bne_iff_ne.mpr c5
    obtain rfl := Option.some.inj H
    go_enter Tryd.func20, Tryd.ntmps20
    go_wp2_with (first | ((with_reducible refine gate_dst (N := 9) rfl ?_); (try (refine gate_guard (by rfl) ?_; dsimp only)); refine Kd.R_lit k60 _ 60 ?hg (N := 9) ?hd (xs := ([(⟨(⟨#[97]⟩ : ByteArray), 1, (⟨0, 0, 0⟩ : S58)⟩ : S60), (⟨(⟨#[98]⟩ : ByteArray), 1, (⟨0, 0, 0⟩ : S58)⟩ : S60), (⟨(⟨#[99]⟩ : ByteArray), 1, (⟨0, 0, 0⟩ : S58)⟩ : S60)] : List (S60))) (inner := [.string (⟨#[97]⟩ : ByteArray), .int .i64 1, .int .i64 0, .int .i64 0, .int .i64 0, .string (⟨#[98]⟩ : ByteArray), .int .i64 1, .int .i64 0, .int .i64 0, .int .i64 0, .string (⟨#[99]⟩ : ByteArray), .int .i64 1, .int .i64 0, .int .i64 0, .int .i64 0]) (ok := fun _ => True) (okp := fun _ => True) ?hr ?hp (fun _ hk => hk) trivial (Below.refl _ _) (Nat.le_refl _) (by simp) ?_; (case hd => rfl); (case hg => rfl); (case hr => exact zo); (case hp => exact (Reps.c5 (show Kd.M k60 _ _ _ (⟨(⟨#[97]⟩ : ByteArray), 1, (⟨0, 0, 0⟩ : S58)⟩ : S60) [.string (⟨#[97]⟩ : ByteArray), .int .i64 1, .int .i64 0, .int .i64 0, .int .i64 0] from (k60_mkM _ _ _ (⟨(⟨#[97]⟩ : ByteArray), 1, (⟨0, 0, 0⟩ : S58)⟩ : S60) )) (Reps.c5 (show Kd.M k60 _ _ _ (⟨(⟨#[98]⟩ : ByteArray), 1, (⟨0, 0, 0⟩ : S58)⟩ : S60) [.string (⟨#[98]⟩ : ByteArray), .int .i64 1, .int .i64 0, .int .i64 0, .int .i64 0] from (k60_mkM _ _ _ (⟨(⟨#[98]⟩ : ByteArray), 1, (⟨0, 0, 0⟩ : S58)⟩ : S60) )) (Reps.c5 (show Kd.M k60 _ _ _ (⟨(⟨#[99]⟩ : ByteArray), 1, (⟨0, 0, 0⟩ : S58)⟩ : S60) [.string (⟨#[99]⟩ : ByteArray), .int .i64 1, .int .i64 0, .int .i64 0, .int .i64 0] from (k60_mkM _ _ _ (⟨(⟨#[99]⟩ : ByteArray), 1, (⟨0, 0, 0⟩ : S58)⟩ : S60) )) (Reps.none _ _))))); intro v450 w40 ho41 hb hg_ hnew_; clear hg_ hnew_; (first | rw [← Ny449.out] at ho41 | (simp only [Int.reduceToNat] at ho41; rw [← Ny449.out] at ho41)); have HO451 := Aside0.mk (Kd.R_lower ho41 (below_size zb)); replace HB := (zs HB hb); clear hb ho41; obtain ⟨Ao42, co42, eo42⟩ := Kd.R_slice HO451.out; subst eo42) | ((with_reducible refine gate_callee (f := 25) rfl ?_); refine goesL_ (some 12) rfl rfl Tryd.func25 (by kernel_rfl) rfl #[.slice Ao42 y449.length co42, .int .i64 2] rfl zl ?_; (with_reducible refine (flow_Fold.calls k _ _ y449 2 t452 t455 _ ?side1 ?side2 A1.out).mono ?_); (case side1 => repeat (first | exact (Kd.R_reads' HO451.out).2.2 | (with_reducible refine Kd.C_alloc ?_ _) | (with_reducible refine Kd.C_drewN ?_ _) | (with_reducible refine Kd.C_drew ?_))); (case side2 => exact (Kd.R_reads' HO451.out).2.1); rintro e w43 ⟨v453, rfl, ho0, hb⟩; refine ⟨_, rfl, ?_⟩; have n0_ := (zR HO451 hb); have n1_ := Aside0.mk (Kd.N_lower (Kd.N_mono (ok' := fun k_ => some k_ ≠ (.slice Ao42 y449.length co42 : Value).ownBlock) ho0 (fun k_ hk_ => (Kd.fresh' (Kd.R_lt (zRa HO451)) k_ hk_))) (below_size zb)); have n2_ := (zs HB hb); clear HO451; clear HB; have HO451 := n0_; have HO454 := n1_; have HB := n2_; clear n0_ n1_ n2_; (try clear hb); (try clear hk); (try clear ho0); obtain ⟨Ao44, co44, eo44⟩ := Kd.N_slice HO454.out; subst eo44) | ((with_reducible refine gate_callee (f := 19) rfl ?_); refine goesL_ (some 17) rfl rfl Tryd.func19 (by kernel_rfl) rfl #[.slice Ao44 t452.length co44] rfl zl ?_; (with_reducible refine (flow_Letters.calls k _ _ t452 t456 t457 _ ?side1 ?side2 A2.out).mono ?_); (case side1 => repeat (first | exact (Kd.N_reads' HO454.out).2.2 | (with_reducible refine Kd.C_alloc ?_ _) | (with_reducible refine Kd.C_drewN ?_ _) | (with_reducible refine Kd.C_drew ?_))); (case side2 => exact (Kd.N_reads' HO454.out).2.1); rintro e w45 ⟨v458, rfl, ho0, hb⟩; refine ⟨_, rfl, ?_⟩; replace HO451 := (zR HO451 hb); replace HO454 := Aside0.mk (Kd.N_elder' (zNa HO454) (Kd.R_base ho0) hb); have HO459 := Aside0.mk (Kd.R_lower ho0 (below_size zb)); replace HB := (zs HB hb); (try clear hb); (try clear hk); (try clear ho0)))
    go_ret
    exact ⟨ze, zb⟩
  ·rw [if_neg c4] at H
   have c4b0 : (t457 == 0) = false := beq_eq_false_iff_ne.mpr c4
   have c4b1 : (t457 != 0) = true := bne_iff_ne.mpr c4
   obtain rfl := Option.some.inj H
   go_enter Tryd.func20, Tryd.ntmps20
   go_wp2_with (first | ((with_reducible refine gate_dst (N := 9) rfl ?_); (try (refine gate_guard (by rfl) ?_; dsimp only)); refine Kd.R_lit k60 _ 60 ?hg (N := 9) ?hd (xs := ([(⟨(⟨#[97]⟩ : ByteArray), 1, (⟨0, 0, 0⟩ : S58)⟩ : S60), (⟨(⟨#[98]⟩ : ByteArray), 1, (⟨0, 0, 0⟩ : S58)⟩ : S60), (⟨(⟨#[99]⟩ : ByteArray), 1, (⟨0, 0, 0⟩ : S58)⟩ : S60)] : List (S60))) (inner := [.string (⟨#[97]⟩ : ByteArray), .int .i64 1, .int .i64 0, .int .i64 0, .int .i64 0, .string (⟨#[98]⟩ : ByteArray), .int .i64 1, .int .i64 0, .int .i64 0, .int .i64 0, .string (⟨#[99]⟩ : ByteArray), .int .i64 1, .int .i64 0, .int .i64 0, .int .i64 0]) (ok := fun _ => True) (okp := fun _ => True) ?hr ?hp (fun _ hk => hk) trivial (Below.refl _ _) (Nat.le_refl _) (by simp) ?_; (case hd => rfl); (case hg => rfl); (case hr => exact zo); (case hp => exact (Reps.c5 (show Kd.M k60 _ _ _ (⟨(⟨#[97]⟩ : ByteArray), 1, (⟨0, 0, 0⟩ : S58)⟩ : S60) [.string (⟨#[97]⟩ : ByteArray), .int .i64 1, .int .i64 0, .int .i64 0, .int .i64 0] from (k60_mkM _ _ _ (⟨(⟨#[97]⟩ : ByteArray), 1, (⟨0, 0, 0⟩ : S58)⟩ : S60) )) (Reps.c5 (show Kd.M k60 _ _ _ (⟨(⟨#[98]⟩ : ByteArray), 1, (⟨0, 0, 0⟩ : S58)⟩ : S60) [.string (⟨#[98]⟩ : ByteArray), .int .i64 1, .int .i64 0, .int .i64 0, .int .i64 0] from (k60_mkM _ _ _ (⟨(⟨#[98]⟩ : ByteArray), 1, (⟨0, 0, 0⟩ : S58)⟩ : S60) )) (Reps.c5 (show Kd.M k60 _ _ _ (⟨(⟨#[99]⟩ : ByteArray), 1, (⟨0, 0, 0⟩ : S58)⟩ : S60) [.string (⟨#[99]⟩ : ByteArray), .int .i64 1, .int .i64 0, .int .i64 0, .int .i64 0] from (k60_mkM _ _ _ (⟨(⟨#[99]⟩ : ByteArray), 1, (⟨0, 0, 0⟩ : S58)⟩ : S60) )) (Reps.none _ _))))); intro v450 w46 ho47 hb hg_ hnew_; clear hg_ hnew_; (first | rw [← Ny449.out] at ho47 | (simp only [Int.reduceToNat] at ho47; rw [← Ny449.out] at ho47)); have HO451 := Aside0.mk (Kd.R_lower ho47 (below_size zb)); replace HB := (zs HB hb); clear hb ho47; obtain ⟨Ao48, co48, eo48⟩ := Kd.R_slice HO451.out; subst eo48) | ((with_reducible refine gate_callee (f := 25) rfl ?_); refine goesL_ (some 12) rfl rfl Tryd.func25 (by kernel_rfl) rfl #[.slice Ao48 y449.length co48, .int .i64 2] rfl zl ?_; (with_reducible refine (flow_Fold.calls k _ _ y449 2 t452 t455 _ ?side1 ?side2 A1.out).mono ?_); (case side1 => repeat (first | exact (Kd.R_reads' HO451.out).2.2 | (with_reducible refine Kd.C_alloc ?_ _) | (with_reducible refine Kd.C_drewN ?_ _) | (with_reducible refine Kd.C_drew ?_))); (case side2 => exact (Kd.R_reads' HO451.out).2.1); rintro e w49 ⟨v453, rfl, ho0, hb⟩; refine ⟨_, rfl, ?_⟩; have n0_ := (zR HO451 hb); have n1_ := Aside0.mk (Kd.N_lower (Kd.N_mono (ok' := fun k_ => some k_ ≠ (.slice Ao48 y449.length co48 : Value).ownBlock) ho0 (fun k_ hk_ => (Kd.fresh' (Kd.R_lt (zRa HO451)) k_ hk_))) (below_size zb)); have n2_ := (zs HB hb); clear HO451; clear HB; have HO451 := n0_; have HO454 := n1_; have HB := n2_; clear n0_ n1_ n2_; (try clear hb); (try clear hk); (try clear ho0); obtain ⟨Ao50, co50, eo50⟩ := Kd.N_slice HO454.out; subst eo50) | ((with_reducible refine gate_callee (f := 19) rfl ?_); refine goesL_ (some 17) rfl rfl Tryd.func19 (by kernel_rfl) rfl #[.slice Ao50 t452.length co50] rfl zl ?_; (with_reducible refine (flow_Letters.calls k _ _ t452 t456 t457 _ ?side1 ?side2 A2.out).mono ?_); (case side1 => repeat (first | exact (Kd.N_reads' HO454.out).2.2 | (with_reducible refine Kd.C_alloc ?_ _) | (with_reducible refine Kd.C_drewN ?_ _) | (with_reducible refine Kd.C_drew ?_))); (case side2 => exact (Kd.N_reads' HO454.out).2.1); rintro e w51 ⟨v458, rfl, ho0, hb⟩; refine ⟨_, rfl, ?_⟩; replace HO451 := (zR HO451 hb); replace HO454 := Aside0.mk (Kd.N_elder' (zNa HO454) (Kd.R_base ho0) hb); have HO459 := Aside0.mk (Kd.R_lower ho0 (below_size zb)); replace HB := (zs HB hb); (try clear hb); (try clear hk); (try clear ho0)))
   go_ret
   exact ⟨ze, zb⟩
 ·rw [if_neg c3] at H
  have c3b0 : (t455 == 0) = false := beq_eq_false_iff_ne.mpr c3
  have c3b1 : (t455 != 0) = true := bne_iff_ne.mpr c3
  obtain rfl := Option.some.inj H
  go_enter Tryd.func20, Tryd.ntmps20
  go_wp2_with (first | ((with_reducible refine gate_dst (N := 9) rfl ?_); (try (refine gate_guard (by rfl) ?_; dsimp only)); refine Kd.R_lit k60 _ 60 ?hg (N := 9) ?hd (xs := ([(⟨(⟨#[97]⟩ : ByteArray), 1, (⟨0, 0, 0⟩ : S58)⟩ : S60), (⟨(⟨#[98]⟩ : ByteArray), 1, (⟨0, 0, 0⟩ : S58)⟩ : S60), (⟨(⟨#[99]⟩ : ByteArray), 1, (⟨0, 0, 0⟩ : S58)⟩ : S60)] : List (S60))) (inner := [.string (⟨#[97]⟩ : ByteArray), .int .i64 1, .int .i64 0, .int .i64 0, .int .i64 0, .string (⟨#[98]⟩ : ByteArray), .int .i64 1, .int .i64 0, .int .i64 0, .int .i64 0, .string (⟨#[99]⟩ : ByteArray), .int .i64 1, .int .i64 0, .int .i64 0, .int .i64 0]) (ok := fun _ => True) (okp := fun _ => True) ?hr ?hp (fun _ hk => hk) trivial (Below.refl _ _) (Nat.le_refl _) (by simp) ?_; (case hd => rfl); (case hg => rfl); (case hr => exact zo); (case hp => exact (Reps.c5 (show Kd.M k60 _ _ _ (⟨(⟨#[97]⟩ : ByteArray), 1, (⟨0, 0, 0⟩ : S58)⟩ : S60) [.string (⟨#[97]⟩ : ByteArray), .int .i64 1, .int .i64 0, .int .i64 0, .int .i64 0] from (k60_mkM _ _ _ (⟨(⟨#[97]⟩ : ByteArray), 1, (⟨0, 0, 0⟩ : S58)⟩ : S60) )) (Reps.c5 (show Kd.M k60 _ _ _ (⟨(⟨#[98]⟩ : ByteArray), 1, (⟨0, 0, 0⟩ : S58)⟩ : S60) [.string (⟨#[98]⟩ : ByteArray), .int .i64 1, .int .i64 0, .int .i64 0, .int .i64 0] from (k60_mkM _ _ _ (⟨(⟨#[98]⟩ : ByteArray), 1, (⟨0, 0, 0⟩ : S58)⟩ : S60) )) (Reps.c5 (show Kd.M k60 _ _ _ (⟨(⟨#[99]⟩ : ByteArray), 1, (⟨0, 0, 0⟩ : S58)⟩ : S60) [.string (⟨#[99]⟩ : ByteArray), .int .i64 1, .int .i64 0, .int .i64 0, .int .i64 0] from (k60_mkM _ _ _ (⟨(⟨#[99]⟩ : ByteArray), 1, (⟨0, 0, 0⟩ : S58)⟩ : S60) )) (Reps.none _ _))))); intro v450 w52 ho53 hb hg_ hnew_; clear hg_ hnew_; (first | rw [← Ny449.out] at ho53 | (simp only [Int.reduceToNat] at ho53; rw [← Ny449.out] at ho53)); have HO451 := Aside0.mk (Kd.R_lower ho53 (below_size zb)); replace HB := (zs HB hb); clear hb ho53; obtain ⟨Ao54, co54, eo54⟩ := Kd.R_slice HO451.out; subst eo54) | ((with_reducible refine gate_callee (f := 25) rfl ?_); refine goesL_ (some 12) rfl rfl Tryd.func25 (by kernel_rfl) rfl #[.slice Ao54 y449.length co54, .int .i64 2] rfl zl ?_; (with_reducible refine (flow_Fold.calls k _ _ y449 2 t452 t455 _ ?side1 ?side2 A1.out).mono ?_); (case side1 => repeat (first | exact (Kd.R_reads' HO451.out).2.2 | (with_reducible refine Kd.C_alloc ?_ _) | (with_reducible refine Kd.C_drewN ?_ _) | (with_reducible refine Kd.C_drew ?_))); (case side2 => exact (Kd.R_reads' HO451.out).2.1); rintro e w55 ⟨v453, rfl, ho0, hb⟩; refine ⟨_, rfl, ?_⟩; have n0_ := (zR HO451 hb); have n1_ := Aside0.mk (Kd.N_lower (Kd.N_mono (ok' := fun k_ => some k_ ≠ (.slice Ao54 y449.length co54 : Value).ownBlock) ho0 (fun k_ hk_ => (Kd.fresh' (Kd.R_lt (zRa HO451)) k_ hk_))) (below_size zb)); have n2_ := (zs HB hb); clear HO451; clear HB; have HO451 := n0_; have HO454 := n1_; have HB := n2_; clear n0_ n1_ n2_; (try clear hb); (try clear hk); (try clear ho0); obtain ⟨Ao56, co56, eo56⟩ := Kd.N_slice HO454.out; subst eo56) | ((with_reducible refine gate_callee (f := 19) rfl ?_); refine goesL_ (some 17) rfl rfl Tryd.func19 (by kernel_rfl) rfl #[.slice Ao56 t452.length co56] rfl zl ?_; (with_reducible refine (flow_Letters.calls k _ _ t452 t456 t457 _ ?side1 ?side2 A2.out).mono ?_); (case side1 => repeat (first | exact (Kd.N_reads' HO454.out).2.2 | (with_reducible refine Kd.C_alloc ?_ _) | (with_reducible refine Kd.C_drewN ?_ _) | (with_reducible refine Kd.C_drew ?_))); (case side2 => exact (Kd.N_reads' HO454.out).2.1); rintro e w57 ⟨v458, rfl, ho0, hb⟩; refine ⟨_, rfl, ?_⟩; replace HO451 := (zR HO451 hb); replace HO454 := Aside0.mk (Kd.N_elder' (zNa HO454) (Kd.R_base ho0) hb); have HO459 := Aside0.mk (Kd.R_lower ho0 (below_size zb)); replace HB := (zs HB hb); (try clear hb); (try clear hk); (try clear ho0)))
  go_ret
  exact ⟨ze, zb⟩
end Go.Proofs.YtckkdaehmccjlaaDoor.P
